/- Structs that are compared. Nothing here speaks of one program. -/
import Derived.Laws.StructEq
import Derived.ChangeKeysEq
import Derived.Test.YtcfpnghkkkphhaaGreatGkRel
namespace Gk
open Go
set_option linter.unusedVariables false

def kindsOf (P : Program) : Nat → List Field → Option (List Nat)
  | _, [] => some []
  | i, f :: fs => if f.name != "_" && f.offset == i then
      (match P.underlying f.type with
      | some .bool => (kindsOf P (i + 1) fs).map (0 :: ·)
      | some (.int _) => (kindsOf P (i + 1) fs).map (1 :: ·)
      | some .string => (kindsOf P (i + 1) fs).map (2 :: ·)
      | _ => none) else none

/-- A struct of cells that are compared one by one. -/
class TEq (P : Program) (T : TypeId) (ks : outParam (List Nat)) : Prop where
  ks : kindsOf P 0 (P.fieldsOf T).toList = some ks
  str : (match P.underlying T with | some (.struct _) => true | _ => false) = true
  held : P.stoodInHeld T = false
  guard : P.eqGuardType P.depth T = false

def eqCells : List Nat → List Value → List Value → Option Bool
  | [], [], [] => some true
  | 0 :: ks, .bool a :: xs, .bool b :: ys => (eqCells ks xs ys).map ((a == b) && ·)
  | 1 :: ks, .int k a :: xs, .int k' b :: ys => bif kindEq k k' then (eqCells ks xs ys).map (decide (a = b) && ·) else none
  | 2 :: ks, .string a :: xs, .string b :: ys => (eqCells ks xs ys).map (decide (a = b) && ·)
  | _, _, _ => none

section
variable {P : Program} {w : World} {ρ : Env}

theorem run_part1 {e : TypeId} {xs : Array Value} {off : Nat} {v : Value} (he : P.plainKey e = true) (hx : xs[off]? = some v) : (Go.part e xs off).run P w = .ok v w := run_part_plain w he hx

theorem run_eqFields_cells (d : Nat) (xs ys : List Value) : ∀ (fs : List Field) (i : Nat) (ks : List Nat) (r : Bool), kindsOf P i fs = some ks → eqCells ks (xs.drop i) (ys.drop i) = some r → (Op.eqFields (d + 1) xs.toArray ys.toArray fs).run P w = .ok r w
  | [], i, ks, r, hk, he => by
    simp only [kindsOf, Option.some.injEq] at hk
    subst hk
    have : r = true := by
      revert he
      generalize xs.drop i = a
      generalize ys.drop i = b
      intro he
      cases a <;> cases b <;> simp [eqCells] at he
      exact he
    subst this
    simp [Op.eqFields]
  | f :: fs, i, ks, r, hk, he => by
    unfold kindsOf at hk
    split at hk
    · rename_i hf
      simp only [Bool.and_eq_true, bne_iff_ne, ne_eq, beq_iff_eq] at hf
      obtain ⟨hn, ho⟩ := hf
      have go : ∀ (a b : Value) (s : Bool), P.plainKey f.type = true → xs[i]? = some a → ys[i]? = some b → (Op.equalIn (d + 1) f.type a b).run P w = .ok s w → ∀ (ks' : List Nat) (r' : Bool), kindsOf P (i + 1) fs = some ks' → eqCells ks' (xs.drop (i + 1)) (ys.drop (i + 1)) = some r' → (Op.eqFields (d + 1) xs.toArray ys.toArray (f :: fs)).run P w = .ok (s && r') w := by
        intro a b s hp ha hb hs ks' r' h1 h2
        have ih := run_eqFields_cells d xs ys fs (i + 1) ks' r' h1 h2
        simp only [Op.eqFields, hn, ne_eq, not_false_eq_true, if_true, Sem.run_bind, ho, run_part1 hp (show xs.toArray[i]? = some a by simpa using ha), run_part1 hp (show ys.toArray[i]? = some b by simpa using hb), hs, Result.andThen_ok]
        cases s
        · simp
        · simpa using ih
      have cut : ∀ (l : List Value) (a : Value) (t : List Value), l.drop i = a :: t → l[i]? = some a ∧ l.drop (i + 1) = t := by
        intro l a t h
        have h0 : (l.drop i)[0]? = some a := by rw [h]; rfl
        rw [List.getElem?_drop] at h0
        refine ⟨by simpa using h0, ?_⟩
        rw [← List.drop_drop, h]; rfl
      split at hk
      · rename_i hu
        obtain ⟨ks', h1, rfl⟩ := Option.map_eq_some_iff.1 hk
        cases hx : xs.drop i with
        | nil => rw [hx] at he; simp [eqCells] at he
        | cons a xs' =>
          cases hy : ys.drop i with
          | nil => rw [hx, hy] at he; simp [eqCells] at he
          | cons b ys' =>
            rw [hx, hy] at he
            obtain ⟨ha, hxs⟩ := cut xs a xs' hx
            obtain ⟨hb, hys⟩ := cut ys b ys' hy
            cases a <;> cases b <;> simp only [eqCells] at he <;> first | (cases he; done) | skip
            obtain ⟨r', h2, rfl⟩ := Option.map_eq_some_iff.1 he
            exact go _ _ _ (by simp [Program.plainKey, hu]) ha hb (run_equalIn_bool' w d f.type _ _ hu) ks' r' h1 (by rw [hxs, hys]; exact h2)
      · rename_i q hu
        obtain ⟨ks', h1, rfl⟩ := Option.map_eq_some_iff.1 hk
        cases hx : xs.drop i with
        | nil => rw [hx] at he; simp [eqCells] at he
        | cons a xs' =>
          cases hy : ys.drop i with
          | nil => rw [hx, hy] at he; simp [eqCells] at he
          | cons b ys' =>
            rw [hx, hy] at he
            obtain ⟨ha, hxs⟩ := cut xs a xs' hx
            obtain ⟨hb, hys⟩ := cut ys b ys' hy
            cases a <;> cases b <;> simp only [eqCells] at he <;> first | (cases he; done) | skip
            rename_i k a k' b
            cases hkk : kindEq k k' <;> rw [hkk] at he <;> simp only [cond_false, cond_true] at he
            · cases he
            have := kindEq_eq hkk
            subst this
            obtain ⟨r', h2, rfl⟩ := Option.map_eq_some_iff.1 he
            exact go _ _ _ (by simp [Program.plainKey, hu]) ha hb (by rw [run_equalIn_int w d f.type k q a b hu]; congr 1) ks' r' h1 (by rw [hxs, hys]; exact h2)
      · rename_i hu
        obtain ⟨ks', h1, rfl⟩ := Option.map_eq_some_iff.1 hk
        cases hx : xs.drop i with
        | nil => rw [hx] at he; simp [eqCells] at he
        | cons a xs' =>
          cases hy : ys.drop i with
          | nil => rw [hx, hy] at he; simp [eqCells] at he
          | cons b ys' =>
            rw [hx, hy] at he
            obtain ⟨ha, hxs⟩ := cut xs a xs' hx
            obtain ⟨hb, hys⟩ := cut ys b ys' hy
            cases a <;> cases b <;> simp only [eqCells] at he <;> first | (cases he; done) | skip
            obtain ⟨r', h2, rfl⟩ := Option.map_eq_some_iff.1 he
            exact go _ _ _ (by simp [Program.plainKey, hu]) ha hb (by rw [run_equalIn_string w d f.type _ _ hu, bytes_beq]) ks' r' h1 (by rw [hxs, hys]; exact h2)
      · cases hk
    · cases hk

theorem run_aggEq {T : TypeId} {ks : List Nat} [h : TEq P T ks] {xs ys : List Value} {r : Bool} (he : eqCells ks xs ys = some r) : (Op.equal T (.agg xs.toArray) (.agg ys.toArray)).run P w = .ok r w := by
  have ht : P.underlying T = some (.struct (P.fieldsOf T)) := by
    have := h.str
    unfold Program.fieldsOf
    split at this
    · rename_i fs hu; rw [hu]
    · cases this
  rw [show (Op.equal T (.agg xs.toArray) (.agg ys.toArray)).run P w = _ from run_equalIn_struct w 9999 T xs.toArray ys.toArray ht h.held]
  exact run_eqFields_cells 9998 xs ys _ 0 ks r h.ks (by simpa using he)

theorem y_agg_eq {T yT : TypeId} {ks : List Nat} [h : TEq P T ks] {x y : Operand} {xs ys : List Value} {r : Bool} (hx : evo ρ x = some (.agg xs.toArray)) (hy : evo ρ y = some (.agg ys.toArray)) (he : eqCells ks xs ys = some r) :
    Y P ρ w (.binOp .eql T x y yT) (.bool r) := by
  intro c h2 d ty pos af
  have e1 : (binOp .eql T (.agg xs.toArray) (.agg ys.toArray)).run P w = .ok (.bool r) w := by
    simp only [binOp, Sem.run_bind, run_aggEq (T := T) he]; rfl
  have e2 := run_eqGuard_agg (P := P) w .eql T x y xs.toArray ys.toArray h.guard
  simp [execOp, eval_of h2 hx, eval_of h2 hy, e1, e2]
theorem y_agg_ne {T yT : TypeId} {ks : List Nat} [h : TEq P T ks] {x y : Operand} {xs ys : List Value} {r : Bool} (hx : evo ρ x = some (.agg xs.toArray)) (hy : evo ρ y = some (.agg ys.toArray)) (he : eqCells ks xs ys = some r) :
    Y P ρ w (.binOp .neq T x y yT) (.bool (!r)) := by
  intro c h2 d ty pos af
  have e1 : (binOp .neq T (.agg xs.toArray) (.agg ys.toArray)).run P w = .ok (.bool (!r)) w := by
    simp only [binOp, Sem.run_bind, run_aggEq (T := T) he]; rfl
  have e2 := run_eqGuard_agg (P := P) w .neq T x y xs.toArray ys.toArray h.guard
  simp [execOp, eval_of h2 hx, eval_of h2 hy, e1, e2]
end

/-- An array type. -/
class TArr (P : Program) (T : TypeId) (n e : outParam Nat) : Prop where
  at_ : P.underlying T = some (.array n e)

theorem y_index_arr {P : Program} {w : World} {ρ : Env} {T n e : Nat} [h : TArr P T n e] [h1 : TOne P e] {x y : Operand} {cs : List Value} {k : IntKind} {a : Int} {i : Nat} {v : Value} (hx : evo ρ x = some (.agg cs.toArray)) (hy : evo ρ y = some (.int k a)) (ha : a = Int.ofNat i) (hi : i < n) (hv : cs[i]? = some v) :
    Y P ρ w (.index T x y) v := by
  subst ha
  intro c h2 d ty pos af
  have e1 : (Go.part e cs.toArray (i * 1)).run P w = .ok v w := by
    unfold Go.part
    simp [run_isAgg_one (T := e), hv]
  have e2 : (Instr.index T (.agg cs.toArray) (.int k ((i : Nat) : Int))).run P w = .ok v w := by
    unfold Instr.index
    simp only [asIntOf, Sem.run_bind, Sem.run_pure, Result.andThen_ok, run_underlying h.at_]
    have hb : 0 ≤ ((i : Nat) : Int) ∧ ((i : Nat) : Int) < (n : Int) := ⟨Int.natCast_nonneg i, Int.ofNat_lt.2 hi⟩
    simp only [hb, and_self, if_true, Sem.run_bind, run_size h1.size, Result.andThen_ok]
    exact e1
  simp [execOp, eval_of h2 hx, eval_of h2 hy, e2]

class TBuildA (P : Program) (T : TypeId) (zs : outParam (List Value)) (n e sz : outParam Nat) : Prop where
  zero : zeroB P T = some (.agg zs.toArray)
  at_ : P.underlying T = some (.array n e)
  size : sizeB P e = some sz

theorem y_buildA {P : Program} {w : World} {ρ : Env} {T n e sz : TypeId} {zs : List Value} [h : TBuildA P T zs n e sz] {ps : List (Nat × Operand)} {vs : List (Nat × Value)} {cs : List Value}
    (hp : evps ρ ps = some vs) (hf : fillL (fun i => some (i * sz, sz)) zs vs = some cs) : Y P ρ w (.build T ps.toArray) (.agg cs.toArray) := by
  intro a h2 d ty pos af
  have e1 := evalps_of h2 hp
  have hb : P.built T vs = some cs.toArray := by
    have hz := h.zero
    obtain ⟨ie, hie, hsz⟩ := info_size h.size
    unfold zeroB at hz
    unfold Program.built
    cases hi : P.info? T with
    | none => rw [hi] at hz; cases hz
    | some it =>
      rw [hi] at hz
      simp only [Option.bind_some] at hz
      simp only [h.at_, hz, hie, hsz]
      have := fill_of _ _ _ hf
      simpa [Value.cells] using this
  have := run_build (P := P) w T vs.toArray cs.toArray (by simpa using hb)
  simp [execOp, e1, this]
end Gk
