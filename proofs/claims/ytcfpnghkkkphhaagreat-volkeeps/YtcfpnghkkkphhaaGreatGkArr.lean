/- Arrays, rows of structs of one's own, things that are one. Nothing here speaks of one program. -/
import Derived.Test.YtcfpnghkkkphhaaGreatGkRound
import Derived.Test.YtcfpnghkkkphhaaGreatGkEq
import Derived.Laws.Small
namespace Gk
open Go
set_option linter.unusedVariables false

/-! ### arrays -/

theorem y_arrSlice {P : Program} {w : World} {ρ : Env} {T n e sz : Nat} [h : TArr P T n e] (hsz : sizeB P e = some sz) {x : Operand} {lo hi mx : Option Operand} {p : Addr} {li hi' mi : Int} (hx : evo ρ x = some (.pointer (some p)))
    (h1 : bndI ρ lo 0 = some li) (h2 : bndI ρ hi n = some hi') (h3 : bndI ρ mx n = some mi) (hmx : mx.isSome = true → hi.isSome = true)
    (hb : 0 ≤ li ∧ li ≤ hi' ∧ hi' ≤ mi ∧ mi ≤ n) : Y P ρ w (.slice T x lo hi mx) (cutV (some p) sz li.toNat hi'.toNat mi.toNat) := by
  intro a hs d ty pos af
  obtain ⟨b1, b2, b3, b4⟩ := hb
  have hc : (Instr.sliceBounds false n n (lo.map a.eval) (hi.map a.eval) (mx.map a.eval)).run P w = .ok (li.toNat, hi'.toNat, mi.toNat) w := by
    unfold Instr.sliceBounds
    cases mx with
    | none =>
      simp only [bndI, Option.some.injEq] at h3
      subst h3
      cases hi with
      | none =>
        simp only [bndI, Option.some.injEq] at h2
        subst h2
        cases lo with
        | none => simp only [bndI, Option.some.injEq] at h1; subst h1; simp
        | some l =>
          obtain ⟨k, ek⟩ := bndI_some hs h1
          simp only [Option.map_some, Option.map_none, Sem.run_bind, Sem.run_pure, Result.andThen_ok, ek]
          rw [run_bound (x := l) ⟨b1, by omega⟩]; simp
      | some hh =>
        obtain ⟨k, ek⟩ := bndI_some hs h2
        simp only [Option.map_some, Option.map_none, Sem.run_bind, Sem.run_pure, Result.andThen_ok, ek]
        rw [run_bound (x := hh) ⟨by omega, by omega⟩]
        cases lo with
        | none => simp only [bndI, Option.some.injEq] at h1; subst h1; simp
        | some l =>
          obtain ⟨k', ek'⟩ := bndI_some hs h1
          simp only [Option.map_some, Result.andThen_ok, ek', Sem.run_bind]
          rw [run_bound (x := l) ⟨b1, by omega⟩]; simp
    | some mm =>
      obtain ⟨k3, ek3⟩ := bndI_some hs h3
      cases hi with
      | none => have := hmx rfl; cases this
      | some hh =>
        obtain ⟨k, ek⟩ := bndI_some hs h2
        simp only [Option.map_some, Sem.run_bind, ek, ek3]
        rw [run_bound (x := mm) ⟨by omega, by omega⟩]
        simp only [Result.andThen_ok]
        rw [run_bound (x := hh) ⟨by omega, by omega⟩]
        cases lo with
        | none => simp only [bndI, Option.some.injEq] at h1; subst h1; simp
        | some l =>
          obtain ⟨k', ek'⟩ := bndI_some hs h1
          simp only [Option.map_some, Result.andThen_ok, ek', Sem.run_bind]
          rw [run_bound (x := l) ⟨b1, by omega⟩]; simp
  have : (Instr.sliceAt T (.pointer (some p)) (lo.map a.eval) (hi.map a.eval) (mx.map a.eval)).run P w = .ok (cutV (some p) sz li.toNat hi'.toNat mi.toNat) w := by
    simp only [Instr.sliceAt, Sem.run_bind, run_underlying h.at_, Result.andThen_ok, Instr.sureAddr, hc, run_size hsz, Sem.run_pure]
    unfold cutV
    split <;> rfl
  simp [execOp, eval_of hs hx, this]

/-- The whole of an array, as a slice. -/
theorem y_arrAll {P : Program} {w : World} {ρ : Env} {T n e : Nat} [h : TArr P T n e] [h1 : TOne P e] {x : Operand} {q i : Nat} (hx : evo ρ x = some (.pointer (some ⟨q, i, none⟩))) : Y P ρ w (.slice T x none none none) (.slice (some ⟨q, i, none⟩) n n) := by
  have := y_arrSlice (P := P) (w := w) (ρ := ρ) (T := T) (sz := 1) h1.size (x := x) (lo := none) (hi := none) (mx := none) (li := 0) (hi' := n) (mi := n) hx rfl rfl rfl (by simp) (by omega)
  have e : cutV (some ⟨q, i, none⟩) 1 (0 : Int).toNat ((n : Nat) : Int).toNat ((n : Nat) : Int).toNat = .slice (some ⟨q, i, none⟩) n n := by
    unfold cutV
    simp [Addr.add_lit]
  rwa [e] at this

/-- An array's element's place. -/
theorem y_indexArr {P : Program} {w : World} {ρ : Env} {T n e : Nat} [h : TArr P T n e] [h1 : TOne P e] {x y : Operand} {q : Nat} {k : IntKind} {i : Nat} (hx : evo ρ x = some (.pointer (some ⟨q, 0, none⟩))) (hy : evo ρ y = some (.int k (i : Nat))) (hi : i < n) :
    Y P ρ w (.indexAddr T x y) (.pointer (some ⟨q, i, none⟩)) := by
  intro a hs d ty pos af
  simp [execOp, eval_of hs hx, eval_of hs hy, Instr.indexAt, asIntOf, run_underlying h.at_, hi, run_size h1.size, Instr.sureAddr, Addr.add_lit]

theorem y_not32 {P : Program} {ρ : Env} {w : World} {T : TypeId} {x : Operand} {a : Nat} (hx : evo ρ x = some (.int .u32 a)) (h : a < 4294967296) : Y P ρ w (.unOp .xor T x) (.int .u32 ((4294967295 ^^^ a : Nat) : Int)) := by
  intro c h2 d ty pos af
  have k1 : (BitVec.ofInt 32 (4294967295 : Int)).toNat = 4294967295 := by decide
  have k2 : (BitVec.ofInt 32 (a : Int)).toNat = a := by
    rw [BitVec.ofInt_natCast, BitVec.toNat_ofNat, Nat.mod_eq_of_lt (by simpa using h)]
  have e3 : IntKind.u32.wrap (((4294967295 ^^^ a : Nat)) : Int) = ((4294967295 ^^^ a : Nat) : Int) := wrap_lim (by simp only [lim]; exact Nat.xor_lt_two_pow (n := 32) (by decide) h)
  have e2 : (Op.unary .xor (.int .u32 (a : Int))).run P w = .ok (.int .u32 ((4294967295 ^^^ a : Nat) : Int)) w := by
    show (Op.intBits .xor .u32 4294967295 (a : Int)).run P w = _
    simp only [Op.intBits, BitVec.toNat_xor]
    show Sem.run P (pure (Value.int .u32 (IntKind.u32.wrap ((((BitVec.ofInt 32 4294967295).toNat ^^^ (BitVec.ofInt 32 (a : Int)).toNat : Nat)) : Int)))) w = _
    rw [k1, k2, e3]
    rfl
  simp [execOp, eval_of h2 hx, e2]

/-- A slice's array. -/
theorem y_toArr {P : Program} {w : World} {ρ : Env} {T n e : Nat} [h : TArr P T n e] {x : Operand} {p : Option Addr} {m c : Nat} (hx : evo ρ x = some (.slice p m c)) (hm : n ≤ m) : Y P ρ w (.sliceToArrayPointer T x) (.pointer p) := by
  intro a hs d ty pos af
  have : (Instr.arrayAt T (.slice p m c)).run P w = .ok (.pointer p) w := by
    simp [Instr.arrayAt, Sem.run_bind, run_underlying h.at_, Result.andThen, Nat.not_lt.2 hm]
  simp [execOp, eval_of hs hx, this]

/-- An array is read where bytes lie. -/
theorem y_loadBytes {P : Program} {w : World} {ρ : Env} {O : List Nat} {T n : Nat} [TAgg P T n] {x : Operand} {p : Addr} {m c : Nat} {xs : List UInt8} (hx : evo ρ x = some (.pointer (some p))) (hb : Bytes O w (.slice (some p) m c) xs) (hn : xs.length = n) :
    Y P ρ w (.load T x) (.agg (bytesV xs).toArray) := by
  refine y_loadAgg hx (by simp [bytesV, hn]) (fun j v hj => ?_)
  rcases hb with ⟨e, _, _⟩ | ⟨y, cap, e, _, hc⟩
  · injection e with e; cases e
  · injection e with e
    injection e with e
    subst e
    exact (hc j v hj).1

section
variable {P : Program} {n : Nat} {all : Array Oper} {os : List Oper} {ρ : Env} {D : Dr} {w w0 : World} {Q : Exit → Act → World → Prop}
variable {d : Option Nat} {ty : TypeId} {pos : String} {af : Array Edge} {M O0 O : List Nat} {L L1 L2 L' : List KT} {Φ : List Fact}

/-- The end of a block is read. -/
theorem y_loadTail {T m : Nat} [TAgg P T m] {x : Operand} {p k : Nat} {pre vs : List Value} (hx : evo ρ x = some (.pointer (some ⟨p, pre.length, none⟩))) (F : Fr M O0 w0 O w L Φ) (hs : Sel L (k, Thing.cells p (pre ++ vs)) L') (hm : vs.length = m) :
    Y P ρ w (.load T x) (.agg vs.toArray) := by
  have hc : CB w p (pre ++ vs) := F.th _ hs.mem
  refine y_loadAgg hx hm (fun j v hj => ?_)
  rw [Addr.add_lit]
  exact hc.cell? (by rw [List.getElem?_append_right (by omega), show pre.length + j - pre.length = j from by omega]; exact hj)
/-- The whole of a block is read. -/
theorem y_loadAll {T m : Nat} [TAgg P T m] {x : Operand} {p k : Nat} {vs : List Value} (hx : evo ρ x = some (.pointer (some ⟨p, 0, none⟩))) (F : Fr M O0 w0 O w L Φ) (hs : Sel L (k, Thing.cells p vs) L') (hm : vs.length = m) :
    Y P ρ w (.load T x) (.agg vs.toArray) := y_loadTail (pre := []) hx F hs hm

/-- A variable that is declared with its value. -/
theorem f_decl {T m : Nat} {z : Value} [hT : TAgg P T m] [hz : TZero P T z] {y : Operand} {vs : List Value} {t : Nat} {ty' : TypeId} {pos' : String} {af' : Array Edge} (F : Fr M O0 w0 O w L Φ) (hd : okO n (some t) = true)
    (hy : evo ((t, .pointer (some ⟨w.heap.size, 0, none⟩)) :: ρ) y = some (.agg vs.toArray)) (hm : vs.length = m) (hv : ∀ u ∈ vs, u.oneCell' = true) (hzz : ∃ zs : List Value, z = .agg zs.toArray ∧ zs.length = m)
    (h : ∀ q w', Fr M O0 w0 (q :: O) w' ((2, Thing.cells q vs) :: L) Φ → R P n all os ((t, .pointer (some ⟨q, 0, none⟩)) :: ρ) D w' Q) :
    R P n all (⟨some t, .alloc T, ty, pos, af, none⟩ :: ⟨none, .store T (.tmp t) y, ty', pos', af', none⟩ :: os) ρ D w Q := by
  obtain ⟨zs, rfl, hzl⟩ := hzz
  refine r_allocN (T := T) (cs := zs) F.ok hd (fun q w1 hq s z b => ?_)
  subst hq
  have F1 := new_cells (O' := O) F rfl s z b
  have hg : evo ((t, Value.pointer (some ⟨w.heap.size, 0, none⟩)) :: ρ) (.tmp t) = some (.pointer (some ⟨w.heap.size, 0, none⟩)) := by simp [evo, Env.get]
  refine f_storeAll F1 rfl hg hy (fun w2 F2 => h _ w2 F2) Sel.here (List.all_eq_true.2 hv) hm (by omega) (.inr rfl)

/-- A row of structs of one's own: one of them. -/
theorem y_loadOwnRow {T sz : Nat} [TAgg P T sz] {x : Operand} {q k i : Nat} {rows : List (List Value)} {rest : List Value} (hx : evo ρ x = some (.pointer (some ⟨q, i * sz, none⟩))) (F : Fr M O0 w0 O w L Φ) (hs : Sel L (k, Thing.cells q (rows.flatten ++ rest)) L') (hl : ∀ r ∈ rows, r.length = sz) (hi : i < rows.length) :
    Y P ρ w (.load T x) (.agg (rows[i]).toArray) := by
  have hc : CB w q (rows.flatten ++ rest) := F.th _ hs.mem
  refine y_loadAgg hx (hl _ (List.getElem_mem hi)) (fun j v hj => ?_)
  rw [Addr.add_lit]
  refine hc.cell? ?_
  have hjl : j < sz := by
    have := (List.getElem?_eq_some_iff.1 hj).1
    rw [hl _ (List.getElem_mem hi)] at this; exact this
  have key : ∀ (rows : List (List Value)) (i : Nat) (hi : i < rows.length), (∀ r ∈ rows, r.length = sz) → (rows[i])[j]? = some v → rows.flatten[i * sz + j]? = some v := by
    intro rows
    induction rows with
    | nil => intro i hi; cases hi
    | cons r rs ih =>
      intro i hi hl hj
      have hr := hl r (by simp)
      cases i with
      | zero =>
        simp only [List.getElem_cons_zero] at hj
        simp only [List.flatten_cons, Nat.zero_mul, Nat.zero_add]
        rw [List.getElem?_append_left (by omega)]; exact hj
      | succ i =>
        simp only [List.getElem_cons_succ] at hj
        simp only [List.flatten_cons]
        rw [List.getElem?_append_right (by rw [hr, Nat.add_mul]; omega), hr]
        have := ih i (by simpa using hi) (fun r h => hl r (by simp [h])) hj
        rw [show (i + 1) * sz + j - sz = i * sz + j from by rw [Nat.add_mul]; omega]
        exact this
  have := key rows i hi hl hj
  rw [List.getElem?_append_left (List.getElem?_eq_some_iff.1 this).1]; exact this

/-- One of a row of structs that is held as a row. -/
theorem Fr.bufRow {k sz m c i : Nat} {a : Option Addr} {rows : List (List Value)} (F : Fr M O0 w0 O w L Φ) (hl : ∀ r ∈ rows, r.length = sz) (hi : i < rows.length) (hm : m ≠ 0) (hs : Sel L (k, Thing.buf sz (.slice a m c) m rows.flatten) L' := by (repeat (first | exact Sel.here | apply Sel.there))) :
    ∃ q, a = some ⟨q, 0, none⟩ ∧ ∀ {P : Program} {ρ : Env} {T : Nat} [TAgg P T sz] {x : Operand}, evo ρ x = some (.pointer (some ((⟨q, 0, none⟩ : Addr).add (i * sz)))) → Y P ρ w (.load T x) (.agg (rows[i]).toArray) := by
  obtain ⟨q, cap, rest, h1, _, _, F2⟩ := F.openBuf hm hs
  injection h1 with h1 _ _
  exact ⟨q, h1, fun hx => y_loadOwnRow (by rw [Addr.add_lit, Nat.zero_add] at hx; exact hx) F2 Sel.here hl hi⟩

/-- A row of one struct. -/
theorem fill_row {sz : Nat} {zs vs : List Value} (hz : zs.length = sz) (hv : vs.length = sz) : fillL (fun i => some (i * sz, sz)) ((List.replicate 1 zs).flatten) [(0, .agg vs.toArray)] = some vs := by
  have e : (List.replicate 1 zs).flatten = zs := by simp
  have e2 : cellsOf (.agg vs.toArray) = vs := by simp [cellsOf]
  rw [e]
  unfold fillL
  simp only [e2, Nat.zero_mul]
  rw [laid_eq _ _ _ (by omega)]
  have h1 : Nat.ble sz sz = true := Nat.ble_self_eq_true sz
  have h2 : zs.drop sz = [] := List.drop_eq_nil_of_le (by omega)
  simp [fillL, hv, hz, h1, h2]

/-- A struct of a number and an array. -/
theorem y_buildPair {T m : Nat} {zs : List Value} [h : TBuild P T zs [(0, 1), (1, m)]] {x y : Operand} {v : Value} {xs : List Value} (hx : evo ρ x = some v) (hv : cellsOf v = [v]) (hy : evo ρ y = some (.agg xs.toArray)) (hz : zs.length = m + 1) (hm : xs.length = m) :
    Y P ρ w (.build T #[(0, x), (1, y)]) (.agg (v :: xs).toArray) := by
  have hp : evps ρ [(0, x), (1, y)] = some [(0, v), (1, .agg xs.toArray)] := by simp [evps, hx, hy]
  refine y_build (ps := [(0, x), (1, y)]) hp ?_
  have e2 : cellsOf (.agg xs.toArray) = xs := by simp [cellsOf]
  unfold fillL
  simp only [List.getElem?_cons_zero, hv]
  rw [laid_eq _ _ _ (by simp; omega)]
  match zs, hz with
  | z :: zs, hz =>
    have hz : zs.length = m := by simpa using hz
    unfold fillL
    simp only [List.getElem?_cons_succ, List.getElem?_cons_zero, e2]
    rw [laid_eq _ _ _ (by simp; omega)]
    have h1 : Nat.ble 1 (m + 1) = true := Nat.ble_eq_true_of_le (by omega)
    have h2 : Nat.ble (1 + m) (m + 1) = true := Nat.ble_eq_true_of_le (by omega)
    have h3 : (v :: zs).drop (1 + m) = [] := List.drop_eq_nil_of_le (by simp; omega)
    simp [fillL, hz, hm, h1, h2, h3]

theorem y_max2 {T yT : Nat} {x y : Operand} {k : IntKind} {a b : Int} (hx : evo ρ x = some (.int k a)) (hy : evo ρ y = some (.int k b)) : Y P ρ w (.call ⟨.builtin .max, #[x, y], #[T, yT]⟩) (.int k (if b > a then b else a)) := by
  intro c h2 d ty pos af
  simp [execOp, resolve, invoke, builtin, eval_of h2 hx, eval_of h2 hy, run_max_int2]
theorem y_min2 {T yT : Nat} {x y : Operand} {k : IntKind} {a b : Int} (hx : evo ρ x = some (.int k a)) (hy : evo ρ y = some (.int k b)) : Y P ρ w (.call ⟨.builtin .min, #[x, y], #[T, yT]⟩) (.int k (if b < a then b else a)) := by
  intro c h2 d ty pos af
  simp [execOp, resolve, invoke, builtin, eval_of h2 hx, eval_of h2 hy, run_min_int2]

theorem y_loadTailS {T m : Nat} [TAgg P T m] {x : Operand} {p k : Nat} {pre vs : List Value} (hx : evo ρ x = some (.pointer (some ⟨p, pre.length, none⟩))) (F : FS M O0 w0 L Φ w) (hs : Sel L (k, Thing.cells p (pre ++ vs)) L') (hm : vs.length = m) :
    Y P ρ w (.load T x) (.agg vs.toArray) := by
  obtain ⟨O, F⟩ := F; exact y_loadTail hx F hs hm
theorem y_loadAllS {T m : Nat} [TAgg P T m] {x : Operand} {p k : Nat} {vs : List Value} (hx : evo ρ x = some (.pointer (some ⟨p, 0, none⟩))) (F : FS M O0 w0 L Φ w) (hs : Sel L (k, Thing.cells p vs) L') (hm : vs.length = m) :
    Y P ρ w (.load T x) (.agg vs.toArray) := by
  obtain ⟨O, F⟩ := F; exact y_loadAll hx F hs hm

theorem bytes_some {O : List Nat} {w : World} {a : Option Addr} {m c : Nat} {xs : List UInt8} (h : Bytes O w (.slice a m c) xs) (hn : 0 < xs.length) : ∃ x, a = some x := by
  rcases h with ⟨e, h1, _⟩ | ⟨x, cap, e, _⟩
  · omega
  · injection e with e; exact ⟨x, e⟩

/-- Held as what is written. -/
theorem Fr.demote {t : Thing} (F : Fr M O0 w0 O w L Φ) (h : Sel L (2, t) L' := by (repeat (first | exact Sel.here | apply Sel.there))) : Fr M O0 w0 O w ((1, t) :: L') Φ := by
  have G := F.pull h
  have hp := List.pairwise_cons.1 G.ap
  refine ⟨G.st, G.ok0, fun s hs => ?_, fun s hs b hb => ?_, List.Pairwise.cons (fun s hs => hp.1 s hs) hp.2, G.fa⟩
  · rcases List.mem_cons.1 hs with rfl | hs
    · exact G.th (2, t) (by simp)
    · exact G.th s (by simp [hs])
  · rcases List.mem_cons.1 hs with rfl | hs
    · have := G.ow (2, t) (by simp) b hb
      exact ⟨this.1, fun _ => .inr (this.2.2 rfl), fun h => by cases h⟩
    · exact G.ow s (by simp [hs]) b hb

/-! ### things that are one -/

def Thing.both (s t : Thing) : Thing := ⟨s.bs ++ t.bs, fun O w => (s.φ O w ∧ t.φ O w) ∧ ∀ b, b ∈ s.bs → b ∉ t.bs, fun st hn h => ⟨⟨s.st st (fun b hb => hn b (by simp [hb])) h.1.1, t.st st (fun b hb => hn b (by simp [hb])) h.1.2⟩, h.2⟩,
  fun hs hb h => ⟨⟨s.sb hs (fun b hb' => hb b (by simp [hb'])) h.1.1, t.sb hs (fun b hb' => hb b (by simp [hb'])) h.1.2⟩, h.2⟩⟩
/-- What is so of no memory. -/
def Thing.if (p : Prop) (t : Thing) : Thing := ⟨t.bs, fun O w => p ∧ t.φ O w, fun st hn h => ⟨h.1, t.st st hn h.2⟩, fun hs hb h => ⟨h.1, t.sb hs hb h.2⟩⟩

theorem Fr.open {k : Nat} {s t : Thing} (F : Fr M O0 w0 O w L Φ) (h : Sel L (k, Thing.both s t) L' := by (repeat (first | exact Sel.here | apply Sel.there))) : Fr M O0 w0 O w ((k, s) :: (k, t) :: L') Φ :=
  F.split h (fun h => h.1) (fun b hb => by simpa [Thing.both] using hb) (fun b hb => (F.th _ h.mem : (Thing.both s t).φ O w).2 b hb)

theorem Fr.close {k : Nat} {s t : Thing} (F : Fr M O0 w0 O w ((k, s) :: (k, t) :: L) Φ) : Fr M O0 w0 O w ((k, Thing.both s t) :: L) Φ := by
  have hp := List.pairwise_cons.1 F.ap
  have hp2 := List.pairwise_cons.1 hp.2
  refine ⟨F.st, F.ok0, fun u hu => ?_, fun u hu b hb => ?_, List.Pairwise.cons (fun u hu b hb => ?_) hp2.2, F.fa⟩
  · rcases List.mem_cons.1 hu with rfl | hu
    · exact ⟨⟨F.th (k, s) (by simp), F.th (k, t) (by simp)⟩, hp.1 (k, t) (by simp)⟩
    · exact F.th u (by simp [hu])
  · rcases List.mem_cons.1 hu with rfl | hu
    · rcases List.mem_append.1 hb with hb | hb
      · exact F.ow (k, s) (by simp) b hb
      · exact F.ow (k, t) (by simp) b hb
    · exact F.ow u (by simp [hu]) b hb
  · rcases List.mem_append.1 hb with hb | hb
    · exact hp.1 u (by simp [hu]) b hb
    · exact hp2.1 u hu b hb
theorem Fr.close2 {k : Nat} {s t : Thing} (F : Fr M O0 w0 O w L Φ) (h1 : Sel L (k, s) L1 := by (repeat (first | exact Sel.here | apply Sel.there))) (h2 : Sel L1 (k, t) L2 := by (repeat (first | exact Sel.here | apply Sel.there))) : Fr M O0 w0 O w ((k, Thing.both s t) :: L2) Φ := by
  have F1 := F.pull h1
  exact Fr.close (F1.perm (List.Perm.cons _ h2.perm))
theorem Fr.unif {k : Nat} {p : Prop} {t : Thing} (F : Fr M O0 w0 O w L Φ) (h : Sel L (k, Thing.if p t) L' := by (repeat (first | exact Sel.here | apply Sel.there))) : p ∧ Fr M O0 w0 O w ((k, t) :: L') Φ :=
  ⟨(F.th _ h.mem : (Thing.if p t).φ O w).1, F.as (t' := t) h (fun h _ => h.2) (fun b hb => by simpa [Thing.if] using hb)⟩
theorem Fr.mkif {k : Nat} {p : Prop} {t : Thing} (F : Fr M O0 w0 O w L Φ) (hp : p) (h : Sel L (k, t) L' := by (repeat (first | exact Sel.here | apply Sel.there))) : Fr M O0 w0 O w ((k, Thing.if p t) :: L') Φ :=
  F.as (t' := Thing.if p t) h (fun h _ => ⟨hp, h⟩) (fun b hb => by simpa [Thing.if] using hb)
end
end Gk
