/- The operations that make or write memory, and calls. Nothing here speaks of one program. -/
import Derived.Test.YtcfpnghkkkphhaaGreatGkOps
namespace Gk
open Go
set_option linter.unusedVariables false

/-! ### bytes and texts -/

def byteV (c : UInt8) : Value := .int .u8 c.toNat
def bytesV (xs : List UInt8) : List Value := xs.map byteV
def str (xs : List UInt8) : Value := .string ⟨xs.toArray⟩

/-- A slice of bytes that stays. -/
def Bytes (O : List Nat) (w : World) (v : Value) (xs : List UInt8) : Prop := Sl O w v xs.length (bytesV xs)

theorem Bytes.step {M O O' : List Nat} {w w' : World} {v : Value} {xs : List UInt8} (h : Bytes O w v xs) (s : Step M O O' w w') : Bytes O' w' v xs := Sl.step h s
theorem Bytes.sub {O O' : List Nat} {w : World} {v : Value} {xs : List UInt8} (h : Bytes O w v xs) (hs : ∀ b, b ∈ O' → b ∈ O) : Bytes O' w v xs := Sl.sub h hs
theorem Bytes.keep {O O' Oi : List Nat} {w w' : World} {v : Value} {xs : List UInt8} (h : Bytes Oi w v xs) (s : Step [] O O' w w') : Bytes Oi w' v xs := Sl.keep h s
theorem Bytes.nil {O : List Nat} {w : World} : Bytes O w (.slice none 0 0) [] := Sl.nil
theorem Bytes.form {O : List Nat} {w : World} {v : Value} {xs : List UInt8} (h : Bytes O w v xs) : ∃ a cap, v = .slice a xs.length cap ∧ xs.length ≤ cap := Sl.form h

theorem one_bytes {xs : List UInt8} : ∀ u ∈ bytesV xs, u.oneCell' = true := fun u hu => by
  obtain ⟨_, _, rfl⟩ := List.mem_map.1 hu; rfl

/-! ### a row of one's own: 'n' elements of 'sz' cells, from a block's first cell on -/

def Buf (p : Nat → Prop) (w : World) (sz : Nat) (v : Value) (n : Nat) (cs : List Value) : Prop :=
  cs.length = n * sz ∧ ((v = .slice none 0 0 ∧ n = 0) ∨
    ∃ q cap rest, v = .slice (some ⟨q, 0, none⟩) n cap ∧ n ≤ cap ∧ cap ≤ maxLen ∧ (cs ++ rest).length = cap * sz ∧ CB w q (cs ++ rest) ∧ p q)

/-- The block of a slice. -/
def blk : Value → List Nat
  | .slice (some a) _ _ => [a.block]
  | _ => []

theorem Buf.nil {p : Nat → Prop} {w : World} {sz : Nat} : Buf p w sz (.slice none 0 0) 0 [] := ⟨by simp, .inl ⟨rfl, rfl⟩⟩

theorem Buf.mono {p p' : Nat → Prop} {w : World} {sz : Nat} {v : Value} {n : Nat} {cs : List Value} (h : Buf p w sz v n cs) (hp : ∀ q, p q → p' q) : Buf p' w sz v n cs := by
  obtain ⟨h1, h2⟩ := h
  refine ⟨h1, ?_⟩
  rcases h2 with h2 | ⟨q, cap, rest, a, b, c, d, e, f⟩
  · exact .inl h2
  · exact .inr ⟨q, cap, rest, a, b, c, d, e, hp _ f⟩

theorem Buf.step {p : Nat → Prop} {M O O' : List Nat} {w w' : World} {sz : Nat} {v : Value} {n : Nat} {cs : List Value} (h : Buf p w sz v n cs) (s : Step M O O' w w') (hp : ∀ q, p q → q ∉ M) : Buf p w' sz v n cs := by
  obtain ⟨h1, h2⟩ := h
  refine ⟨h1, ?_⟩
  rcases h2 with h2 | ⟨q, cap, rest, a, b, c, d, e, f⟩
  · exact .inl h2
  · exact .inr ⟨q, cap, rest, a, b, c, d, e.step s (hp _ f), f⟩

theorem Buf.form {p : Nat → Prop} {w : World} {sz : Nat} {v : Value} {n : Nat} {cs : List Value} (h : Buf p w sz v n cs) : ∃ a cap, v = .slice a n cap ∧ n ≤ cap := by
  rcases h.2 with ⟨rfl, rfl⟩ | ⟨q, cap, rest, rfl, a, _⟩
  · exact ⟨none, 0, rfl, Nat.le_refl _⟩
  · exact ⟨_, cap, rfl, a⟩

theorem Buf.blk {p : Nat → Prop} {w : World} {sz : Nat} {v : Value} {n : Nat} {cs : List Value} (h : Buf p w sz v n cs) : ∀ q, q ∈ blk v → p q := by
  rcases h.2 with ⟨rfl, rfl⟩ | ⟨q, cap, rest, rfl, _, _, _, _, hp⟩
  · intro q hq; cases hq
  · intro q' hq; simp [Gk.blk] at hq; subst hq; exact hp

theorem Buf.self {p : Nat → Prop} {w : World} {sz : Nat} {v : Value} {n : Nat} {cs : List Value} (h : Buf p w sz v n cs) : Buf (fun q => p q ∧ q ∈ Gk.blk v) w sz v n cs := by
  obtain ⟨g1, g2⟩ := h
  refine ⟨g1, ?_⟩
  rcases g2 with g2 | ⟨q, cap, rest, rfl, a2, a3, a4, a5, a6⟩
  · exact .inl g2
  · exact .inr ⟨q, cap, rest, rfl, a2, a3, a4, a5, a6, by simp [Gk.blk]⟩

theorem Buf.lt {p : Nat → Prop} {w : World} {sz : Nat} {v : Value} {n : Nat} {cs : List Value} (h : Buf p w sz v n cs) : ∀ q, q ∈ Gk.blk v → q < w.heap.size := by
  rcases h.2 with ⟨rfl, rfl⟩ | ⟨q, cap, rest, rfl, _, _, _, hc, hp⟩
  · intro q hq; cases hq
  · intro q' hq; simp [Gk.blk] at hq; subst hq; exact hc.lt

/-- What was one's own stays from here on. -/
theorem Buf.sl {p : Nat → Prop} {O : List Nat} {w : World} {sz : Nat} {v : Value} {n : Nat} {cs : List Value} (h : Buf p w sz v n cs) (hp : ∀ q, p q → q ∉ O) : Sl O w v n cs := by
  obtain ⟨h1, h2⟩ := h
  rcases h2 with ⟨rfl, rfl⟩ | ⟨q, cap, rest, rfl, hnc, hm, hl, hcb, hq⟩
  · have : cs = [] := List.length_eq_zero_iff.1 (by simpa using h1)
    subst this; exact Sl.nil
  · refine hcb.sl (hp q hq) hnc cs (fun i u hi => ?_)
    rw [List.getElem?_append_left]
    · exact hi
    · exact (List.getElem?_eq_some_iff.1 hi).1

theorem fresh_nin {O : List Nat} {w : World} (hO : OK O w) {q : Nat} (h : w.heap.size ≤ q) : q ∉ O := fun hm => absurd (hO q hm) (Nat.not_lt.2 h)

/-! ### the laws -/

theorem setCells_other (b : Nat) : ∀ (vs : List Value) (o : Nat) (w : World) (k : Nat), b ≠ k → (w.setCells b o vs).heap[k]? = w.heap[k]?
  | [], _, _, _, _ => rfl
  | v :: r, o, w, k, h => by rw [World.setCells, setCells_other b r _ _ k h, setCell_other h]

theorem setCells_size (b : Nat) : ∀ (vs : List Value) (o : Nat) (w : World), (w.setCells b o vs).heap.size = w.heap.size
  | [], _, _ => rfl
  | v :: r, o, w => by rw [World.setCells, setCells_size b r, size_setCell]

theorem setCells_os (b : Nat) : ∀ (vs : List Value) (o : Nat) (w : World), (w.setCells b o vs).os = w.os ∧ (w.setCells b o vs).tape = w.tape ∧ (w.setCells b o vs).output = w.output
  | [], _, _ => ⟨rfl, rfl, rfl⟩
  | v :: r, o, w => by rw [World.setCells]; exact setCells_os b r _ _

theorem step_setCells {O : List Nat} {w : World} {p i : Nat} {vs : List Value} (hO : OK O w) (hp : p ∈ O) : Step [p] O O w (w.setCells p i vs) := by
  obtain ⟨h1, h2, h3⟩ := setCells_os p vs i w
  exact ⟨h1, h2, h3, by rw [setCells_size]; exact Nat.le_refl _, fun k _ hn => setCells_other _ _ _ _ _ (fun e => hn (by simp [e])), fun k hk => by simp at hk; subst hk; exact hp,
   fun _ h => .inl h, fun _ h => h, fun k hk => by rw [setCells_size]; exact hO k hk⟩

/-- Cells laid over others. -/
def laid : List Value → Nat → List Value → List Value
  | cs, _, [] => cs
  | cs, o, v :: r => laid (cs.set o v) (o + 1) r

theorem CB.setCells {p : Nat} : ∀ (vs : List Value) {i : Nat} {w : World} {cs : List Value}, CB w p cs → CB (w.setCells p i vs) p (laid cs i vs)
  | [], _, _, _, h => h
  | v :: r, i, w, cs, h => by rw [World.setCells, laid]; exact CB.setCells r h.set

theorem laid_length : ∀ (vs cs : List Value) (o : Nat), (laid cs o vs).length = cs.length
  | [], _, _ => rfl
  | v :: r, cs, o => by rw [laid, laid_length r]; simp

theorem laid_get : ∀ (vs cs : List Value) (o k : Nat), o + vs.length ≤ cs.length → (laid cs o vs)[k]? = if k < o then cs[k]? else if k < o + vs.length then vs[k - o]? else cs[k]?
  | [], cs, o, k, h => by simp only [laid, List.length_nil, Nat.add_zero]; split <;> simp
  | v :: r, cs, o, k, h => by
    simp only [List.length_cons] at h ⊢
    rw [laid, laid_get r _ _ _ (by simp; omega)]
    simp only [List.getElem?_set]
    rcases Nat.lt_trichotomy k o with hk | hk | hk
    · rw [if_pos (by omega), if_neg (by omega), if_pos hk]
    · subst hk
      have hk : k < cs.length := by omega
      simp [hk]
    · rw [if_neg (by omega), if_neg (show ¬ k < o by omega)]
      rw [show k - o = (k - (o + 1)) + 1 from by omega]
      simp only [List.getElem?_cons_succ]
      by_cases h2 : k < o + 1 + r.length
      · rw [if_pos h2, if_pos (by omega)]
      · rw [if_neg h2, if_neg (by omega), if_neg (by omega)]

theorem laid_eq (vs cs : List Value) (o : Nat) (h : o + vs.length ≤ cs.length) : laid cs o vs = cs.take o ++ vs ++ cs.drop (o + vs.length) := by
  apply List.ext_getElem?
  intro k
  rw [laid_get vs cs o k h]
  rw [List.append_assoc, List.getElem?_append, List.length_take, List.getElem?_append, Nat.min_eq_left (by omega), List.getElem?_take, List.getElem?_drop]
  by_cases h1 : k < o
  · rw [if_pos h1, if_pos h1, if_pos h1]
  · rw [if_neg h1, if_neg h1]
    by_cases h2 : k < o + vs.length
    · rw [if_pos h2, if_pos (by omega)]
    · rw [if_neg h2, if_neg (by omega)]
      congr 1; omega

theorem getElem?_flat (l : List Value) (hl : 0 < l.length) : ∀ (m k : Nat), ((List.replicate m l).flatten)[k]? = if k < m * l.length then l[k % l.length]? else none
  | 0, k => by simp
  | m + 1, k => by
    rw [List.replicate_succ, List.flatten_cons, List.getElem?_append]
    by_cases h : k < l.length
    · rw [if_pos h, if_pos (by rw [Nat.succ_mul]; omega), Nat.mod_eq_of_lt h]
    · rw [if_neg h, getElem?_flat l hl m, Nat.mod_eq_sub_mod (a := k) (by omega)]
      by_cases h2 : k < (m + 1) * l.length
      · rw [if_pos h2, if_pos (by rw [Nat.succ_mul] at h2; omega)]
      · rw [if_neg h2, if_neg (by rw [Nat.succ_mul] at h2; omega)]

section
variable {P : Program} {n : Nat} {all : Array Oper} {os : List Oper} {ρ : Env} {D : Dr} {w : World} {Q : Exit → Act → World → Prop}
variable {d : Option Nat} {ty : TypeId} {pos : String} {af : Array Edge} {O : List Nat}

/-! #### new blocks -/

theorem r_new {op : Op} {v : Value} {cs : List Value} {T : TypeId} (hd : okO n d = true)
    (hx : ∀ a, Sat ρ a → (execOp a.eval ⟨d, op, ty, pos, af, none⟩).run P w = .ok (.value v) (w.alloc (.cells cs.toArray T)))
    (hO : OK O w) (h : ∀ w', Step [] O O w w' → w.heap.size < w'.heap.size → CB w' w.heap.size cs → R P n all os (upO ρ d v) D w' Q) :
    R P n all (⟨d, op, ty, pos, af, none⟩ :: os) ρ D w Q :=
  r_val hd hx (h _ (step_alloc _ hO) (by rw [World.size_alloc]; exact Nat.lt_succ_self _) (cb_alloc w cs T))

theorem cells_one {v : Value} (h : v.oneCell' = true) : v.cells = #[v] := by cases v <;> first | rfl | cases h

/-- '&x', a captured variable: of one cell. -/
theorem r_box1 {T : TypeId} {x : Operand} {v : Value} (hO : OK O w) (hd : okO n d = true) (hx : evo ρ x = some v) (hv : v.oneCell' = true)
    (h : ∀ q w', q = w.heap.size → Step [] O O w w' → w.heap.size < w'.heap.size → CB w' q [v] → R P n all os (upO ρ d (.pointer (some ⟨q, 0, none⟩))) D w' Q) :
    R P n all (⟨d, .box T x, ty, pos, af, none⟩ :: os) ρ D w Q :=
  r_new (cs := [v]) (T := T) hd (fun a h2 => by
    simp [execOp, eval_of h2 hx, Instr.box, newVar, newRow, cells_one hv]) hO (fun w' h1 h2 h3 => h _ w' rfl h1 h2 h3)

theorem r_boxN {T : TypeId} {x : Operand} {cs : List Value} (hO : OK O w) (hd : okO n d = true) (hx : evo ρ x = some (.agg cs.toArray))
    (h : ∀ q w', q = w.heap.size → Step [] O O w w' → w.heap.size < w'.heap.size → CB w' q cs → R P n all os (upO ρ d (.pointer (some ⟨q, 0, none⟩))) D w' Q) :
    R P n all (⟨d, .box T x, ty, pos, af, none⟩ :: os) ρ D w Q :=
  r_new (cs := cs) (T := T) hd (fun a h2 => by
    simp [execOp, eval_of h2 hx, Instr.box, newVar, newRow, Value.cells]) hO (fun w' h1 h2 h3 => h _ w' rfl h1 h2 h3)

theorem r_alloc1 {T : TypeId} {z : Value} [TZero P T z] (hO : OK O w) (hd : okO n d = true) (hz : z.oneCell' = true)
    (h : ∀ q w', q = w.heap.size → Step [] O O w w' → w.heap.size < w'.heap.size → CB w' q [z] → R P n all os (upO ρ d (.pointer (some ⟨q, 0, none⟩))) D w' Q) :
    R P n all (⟨d, .alloc T, ty, pos, af, none⟩ :: os) ρ D w Q :=
  r_new (cs := [z]) (T := T) hd (fun a h2 => by
    simp [execOp, Instr.alloc, run_zero (T := T), newVar, newRow, cells_one hz]) hO (fun w' h1 h2 h3 => h _ w' rfl h1 h2 h3)

theorem r_allocN {T : TypeId} {cs : List Value} [TZero P T (.agg cs.toArray)] (hO : OK O w) (hd : okO n d = true)
    (h : ∀ q w', q = w.heap.size → Step [] O O w w' → w.heap.size < w'.heap.size → CB w' q cs → R P n all os (upO ρ d (.pointer (some ⟨q, 0, none⟩))) D w' Q) :
    R P n all (⟨d, .alloc T, ty, pos, af, none⟩ :: os) ρ D w Q :=
  r_new (cs := cs) (T := T) hd (fun a h2 => by
    simp [execOp, Instr.alloc, run_zero (T := T), newVar, newRow, Value.cells]) hO (fun w' h1 h2 h3 => h _ w' rfl h1 h2 h3)

/-! #### stores -/

theorem cell?_set {p i : Nat} {cs : List Value} (h : CB w p cs) (hi : i < cs.length) : (w.cell? ⟨p, i, none⟩).isSome = true := by
  rw [h.cell? (List.getElem?_eq_getElem hi)]; rfl

theorem run_store1 {T : TypeId} (hs : sizeB P T = some 1) {p i : Nat} {cs : List Value} {v : Value} (h : CB w p cs) (hi : i < cs.length) (hv : v.oneCell' = true) :
    (storeVar T ⟨p, i, none⟩ v).run P w = .ok () (w.setCell ⟨p, i, none⟩ v) := by
  have hc := h.cell? (List.getElem?_eq_getElem hi)
  have hf := h.frozen? hi
  have := run_store P w ⟨p, i, none⟩ v .plain hv
  simp only [hc, hf] at this
  have h0 : (⟨p, i, none⟩ : Addr).add 0 = ⟨p, i, none⟩ := rfl
  simp [storeVar, run_size hs, cells_one hv, storeCells, h0, this]

theorem r_store1 {T : TypeId} [hT : TOne P T] {x y : Operand} {p i : Nat} {v : Value} {cs : List Value} (hO : OK O w) (hd : okO n d = true)
    (hx : evo ρ x = some (.pointer (some ⟨p, i, none⟩))) (hy : evo ρ y = some v) (hv : v.oneCell' = true) (hb : CB w p cs) (hi : i < cs.length) (hp : p ∈ O)
    (h : ∀ w', Step [p] O O w w' → CB w' p (cs.set i v) → R P n all os (upO ρ d undef) D w' Q) :
    R P n all (⟨d, .store T x y, ty, pos, af, none⟩ :: os) ρ D w Q :=
  r_do hd (fun a h2 => by
    simp [execOp, eval_of h2 hx, eval_of h2 hy, Instr.storeAt, Instr.sureAddr, run_store1 (P := P) hT.size hb hi hv]) (h _ (step_setCell hO hp) hb.set)

theorem r_storeN {T k : TypeId} [hT : TAgg P T k] {x y : Operand} {p i : Nat} {vs cs : List Value} (hO : OK O w) (hd : okO n d = true)
    (hx : evo ρ x = some (.pointer (some ⟨p, i, none⟩))) (hy : evo ρ y = some (.agg vs.toArray)) (hv : vs.all (·.oneCell') = true) (hk : vs.length = k) (hb : CB w p cs) (hi : i + vs.length ≤ cs.length) (hp : p ∈ O)
    (h : ∀ w', Step [p] O O w w' → CB w' p (laid cs i vs) → R P n all os (upO ρ d undef) D w' Q) :
    R P n all (⟨d, .store T x y, ty, pos, af, none⟩ :: os) ρ D w Q :=
  r_do hd (fun a h2 => by
    have hst := run_storeCells_cells (P := P) p i vs 0 w (fun j hj => by rw [Nat.add_zero]; exact cell?_set hb (by omega))
      (fun j hj => by rw [Nat.add_zero]; exact hb.frozen? (by omega)) (fun v hv' => List.all_eq_true.1 hv v hv')
    rw [Nat.add_zero] at hst
    simp [execOp, eval_of h2 hx, eval_of h2 hy, Instr.storeAt, Instr.sureAddr, storeVar, Value.cells, run_size hT.size, hk, hst]) (h _ (step_setCells hO hp) (hb.setCells vs))

/-! #### structs and slice literals -/

def cellsOf : Value → List Value
  | .agg cs => cs.toList
  | v => [v]

def fillL (pl : Nat → Option (Nat × Nat)) : List Value → List (Nat × Value) → Option (List Value)
  | cs, [] => some cs
  | cs, (i, v) :: rest => match pl i with
    | none => none
    | some (off, sz) => bif Nat.beq (cellsOf v).length sz && Nat.ble (off + sz) cs.length then fillL pl (laid cs off (cellsOf v)) rest else none

theorem foldl_set (vs : List Value) : ∀ (k off : Nat) (cs : Array Value), ((vs.zipIdx k).foldl (fun cs (c, j) => cs.setIfInBounds (off + j) c) cs) = (laid cs.toList (off + k) vs).toArray := by
  induction vs with
  | nil => intro k off cs; simp [laid]
  | cons v vs ih =>
    intro k off cs
    simp only [List.zipIdx_cons, List.foldl_cons, ih, laid]
    rw [show off + (k + 1) = off + k + 1 from by omega]
    simp

theorem cells_toList (v : Value) : v.cells.toList = cellsOf v := by cases v <;> rfl

theorem fill_of {pl : Nat → Option (Nat × Nat)} : ∀ (parts : List (Nat × Value)) (cs ds : List Value), fillL pl cs parts = some ds → Instr.fill pl cs.toArray parts = some ds.toArray
  | [], cs, ds, h => by simp only [fillL, Option.some.injEq] at h; subst h; rfl
  | (i, v) :: rest, cs, ds, h => by
    simp only [fillL] at h
    simp only [Instr.fill]
    cases hp : pl i with
    | none => rw [hp] at h; cases h
    | some q =>
      obtain ⟨off, sz⟩ := q
      rw [hp] at h
      simp only at h
      cases hb : (Nat.beq (cellsOf v).length sz && Nat.ble (off + sz) cs.length) with
      | false => rw [hb] at h; cases h
      | true =>
        rw [hb] at h
        simp only [cond_true] at h
        rw [Bool.and_eq_true] at hb
        have h1 : (cellsOf v).length = sz := Nat.eq_of_beq_eq_true hb.1
        have h2 : off + sz ≤ cs.length := Nat.le_of_ble_eq_true hb.2
        have hsz : v.cells.size = sz := by rw [← h1, ← cells_toList]; simp
        simp only [hsz, ne_eq, not_true_eq_false, List.size_toArray, decide_false, Bool.false_or, decide_eq_true_eq]
        rw [if_neg (by omega)]
        have := fill_of rest _ _ h
        rw [← Array.foldl_toList, Array.toList_zipIdx, foldl_set, cells_toList]
        simpa using this

/-- A struct type: its zero value's cells, and where its fields lie. -/
class TBuild (P : Program) (T : TypeId) (zs : outParam (List Value)) (pl : outParam (List (Nat × Nat))) : Prop where
  zero : zeroB P T = some (.agg zs.toArray)
  places : (match P.underlying T with
    | some (.struct fields) => fields.toList.mapM (fun f => (P.info? f.type).map fun i => (f.offset, i.size))
    | _ => none) = some pl

theorem y_build {T : TypeId} {zs : List Value} {pl : List (Nat × Nat)} [h : TBuild P T zs pl] {ps : List (Nat × Operand)} {vs : List (Nat × Value)} {cs : List Value}
    (hp : evps ρ ps = some vs) (hf : fillL (fun i => pl[i]?) zs vs = some cs) : Y P ρ w (.build T ps.toArray) (.agg cs.toArray) := by
  intro a h2 d ty pos af
  have e1 := evalps_of h2 hp
  have hb : P.built T vs = some cs.toArray := by
    have hz := h.zero
    have hpl := h.places
    unfold zeroB at hz
    unfold Program.built
    cases hi : P.info? T with
    | none => rw [hi] at hz; cases hz
    | some it =>
      rw [hi] at hz
      simp only [Option.bind_some] at hz
      split at hpl
      · rename_i fields hu
        simp only [hu, hz, hpl]
        have := fill_of _ _ _ hf
        simpa [Value.cells] using this
      · cases hpl
  have := run_build (P := P) w T vs.toArray cs.toArray (by simpa using hb)
  simp [execOp, e1, this]

/-- Cells that are laid over others, from a place on. -/
inductive PutL : List Value → Nat → List Value → List Value → Prop
  | skip {a : Value} {i : Nat} {l vs l' : List Value} : PutL l i vs l' → PutL (a :: l) (i + 1) vs (a :: l')
  | put {a v : Value} {l vs l' : List Value} : PutL l 0 vs l' → PutL (a :: l) 0 (v :: vs) (v :: l')
  | done {l : List Value} : PutL l 0 [] l

theorem PutL.laid {l vs l' : List Value} {i : Nat} (h : PutL l i vs l') : i + vs.length ≤ l.length ∧ l.take i ++ vs ++ l.drop (i + vs.length) = l' := by
  induction h with
  | skip _ ih => exact ⟨by simp only [List.length_cons]; omega, by rw [← ih.2, show ∀ a b : Nat, a + 1 + b = a + b + 1 from by omega]; simp⟩
  | put _ ih => exact ⟨by simp only [List.length_cons]; omega, by
      rw [← ih.2]
      simp⟩
  | done => simp

inductive FillI (pl : Nat → Option (Nat × Nat)) : List Value → List (Nat × Value) → List Value → Prop
  | nil {cs : List Value} : FillI pl cs [] cs
  | one {cs cs' ds : List Value} {i off : Nat} {v : Value} {rest : List (Nat × Value)} : pl i = some (off, 1) → cellsOf v = [v] → PutL cs off [v] cs' → FillI pl cs' rest ds → FillI pl cs ((i, v) :: rest) ds
  | agg {cs cs' ds xs : List Value} {i off sz : Nat} {rest : List (Nat × Value)} : pl i = some (off, sz) → xs.length = sz → PutL cs off xs cs' → FillI pl cs' rest ds → FillI pl cs ((i, .agg xs.toArray) :: rest) ds

theorem FillI.eq {pl : Nat → Option (Nat × Nat)} {cs ds : List Value} {ps : List (Nat × Value)} (h : FillI pl cs ps ds) : fillL pl cs ps = some ds := by
  induction h with
  | nil => rfl
  | one h1 h2 h3 _ ih =>
    have h4 := h3.laid
    unfold fillL
    rw [h1]
    simp only [h2]
    rw [laid_eq _ _ _ h4.1, h4.2, ih]
    have h5 := Nat.ble_eq_true_of_le h4.1
    simp only [List.length_cons, List.length_nil, Nat.zero_add] at h5 ⊢
    rw [h5]; rfl
  | agg h1 h2 h3 _ ih =>
    have h4 := h3.laid
    unfold fillL
    rw [h1]
    have e : ∀ xs : List Value, cellsOf (.agg xs.toArray) = xs := fun xs => by simp [cellsOf]
    simp only [e]
    rw [laid_eq _ _ _ h4.1, h4.2, ih]
    have h5 := Nat.ble_eq_true_of_le h4.1
    rw [h2] at h5
    rw [h2, h5, Nat.beq_refl]; rfl

theorem y_buildI {T : TypeId} {zs : List Value} {pl : List (Nat × Nat)} [h : TBuild P T zs pl] {ps : List (Nat × Operand)} {vs : List (Nat × Value)} {cs : List Value}
    (hp : evps ρ ps = some vs) (hf : FillI (fun i => pl[i]?) zs vs cs) : Y P ρ w (.build T ps.toArray) (.agg cs.toArray) := y_build hp hf.eq

theorem r_buildSlice {T e sz by_ : TypeId} [h : TSlice P T e sz by_] {z : Value} [hz : TZero P e z] {m : Nat} {ps : List (Nat × Operand)} {vs : List (Nat × Value)} {cs : List Value} (hO : OK O w) (hd : okO n d = true)
    (hp : evps ρ ps = some vs) (hm : Nat.ble (m * sz) 16777216 = true) (hf : fillL (fun i => some (i * sz, sz)) ((List.replicate m (cellsOf z)).flatten) vs = some cs)
    (hk : ∀ q w', q = w.heap.size → Step [] O O w w' → w.heap.size < w'.heap.size → CB w' q cs → R P n all os (upO ρ d (.slice (some ⟨q, 0, none⟩) m m)) D w' Q) :
    R P n all (⟨d, .buildSlice T m ps.toArray, ty, pos, af, none⟩ :: os) ρ D w Q :=
  r_new (cs := cs) (T := e) hd (fun a h2 => by
    have e1 := evalps_of h2 hp
    have hsz : z.cells.size = sz := by
      have h3 := h.zero
      rw [hz.at_] at h3
      simpa using h3
    have hpos : 0 < sz := by have := h.pos; rw [Nat.blt_eq] at this; exact this
    have hlen : (cellsOf z).length = sz := by rw [← cells_toList]; simpa using hsz
    have hrow : ((Array.range (m * sz)).map (z.cells[· % z.cells.size]!)) = ((List.replicate m (cellsOf z)).flatten).toArray := by
      apply Array.ext'
      apply List.ext_getElem?
      intro k
      have hfl := getElem?_flat (cellsOf z) (by rw [hlen]; exact hpos) m k
      rw [hlen] at hfl
      simp only [Array.toList_map, Array.toList_range, List.getElem?_map, hfl]
      by_cases hk : k < m * sz
      · rw [if_pos hk]
        have hmod : k % sz < sz := Nat.mod_lt _ hpos
        rw [List.getElem?_range hk]
        simp only [Option.map_some, hsz]
        rw [← cells_toList, Array.getElem?_toList]
        rw [Array.getElem?_eq_getElem (by omega), getElem!_pos z.cells _ (by omega)]
      · rw [if_neg hk, List.getElem?_eq_none (by simpa using hk)]; rfl
    have hle : m * sz ≤ 16777216 := Nat.le_of_ble_eq_true hm
    have hfill := fill_of _ _ _ hf
    have : (Instr.buildSlice T m vs.toArray).run P w = .ok (.slice (some ⟨w.heap.size, 0, none⟩) m m) (w.alloc (.cells cs.toArray e)) := by
      have hgt : ¬ (m * sz > 2 ^ 24) := by omega
      by_cases h0 : m * sz = 0
      · have hm0 : m = 0 := by
          rcases Nat.eq_zero_or_pos m with hz | hz
          · exact hz
          · have := Nat.mul_pos hz hpos; omega
        subst hm0
        simp only [List.replicate_zero, List.flatten_nil] at hfill
        simp only [Instr.buildSlice, Sem.run_bind, run_underlying h.at_, Result.andThen_ok, run_size h.size, h0, if_true]
        simp [newRow]
        rw [show Array.map (fun _ => (default : Value)) (Array.range 0) = #[] from (by apply Array.ext'; simp), hfill]
        rfl
      · rw [← hrow] at hfill
        simp only [Instr.buildSlice, Sem.run_bind, run_underlying h.at_, Result.andThen_ok, run_size h.size, hgt, if_false, Sem.run_pure, h0, run_zero (T := e), hfill, newRow, run_newObj]
        rfl
    simp [execOp, e1, this]) hO (fun w' h1 h2 h3 => hk _ w' rfl h1 h2 h3)

end
end Gk
