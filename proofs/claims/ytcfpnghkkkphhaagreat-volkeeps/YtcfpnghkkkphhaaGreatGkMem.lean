/- The memory layer: what a call may change ('Step'), what stays ('Cell', 'Sl'), what is one's own ('CB', 'Buf'). Nothing here speaks of one program. -/
import Derived.Test.YtcfpnghkkkphhaaGreatGkCore
namespace Gk
open Go
set_option linter.unusedVariables false

/-- From 'w' to 'w'': of the blocks that were there only those in 'M' may have changed; 'O', 'O'': the blocks that somebody may yet write into, ahead and behind. -/
structure Step (M O O' : List Nat) (w w' : World) : Prop where
  os : w'.os = w.os
  tape : w'.tape = w.tape
  output : w'.output = w.output
  size : w.heap.size ≤ w'.heap.size
  same : ∀ k, k < w.heap.size → k ∉ M → w'.heap[k]? = w.heap[k]?
  mo : ∀ k, k ∈ M → k ∈ O
  own : ∀ k, k ∈ O' → k ∈ O ∨ w.heap.size ≤ k
  keep : ∀ k, k ∈ O → k ∈ O'
  lt : ∀ k, k ∈ O' → k < w'.heap.size

def OK (O : List Nat) (w : World) : Prop := ∀ k, k ∈ O → k < w.heap.size

theorem OK_nil {w : World} : OK [] w := fun _ h => by cases h

theorem Step.ok {M O O' : List Nat} {w w' : World} (h : Step M O O' w w') : OK O' w' := h.lt

theorem Step.refl {O : List Nat} {w : World} (h : OK O w) : Step [] O O w w :=
  ⟨rfl, rfl, rfl, Nat.le_refl _, fun _ _ _ => rfl, fun _ h => (by cases h), fun _ h => .inl h, fun _ h => h, h⟩

theorem Step.trans {M M1 O O1 O2 : List Nat} {w w1 w2 : World} (h : Step M O O1 w w1) (k : Step M1 O1 O2 w1 w2) (hM : ∀ b, b ∈ M1 → b ∈ M ∨ w.heap.size ≤ b) : Step M O O2 w w2 where
  os := k.os.trans h.os
  tape := k.tape.trans h.tape
  output := k.output.trans h.output
  size := Nat.le_trans h.size k.size
  same := fun b hb hn => by
    rw [k.same b (Nat.lt_of_lt_of_le hb h.size) (fun hm => (hM b hm).elim hn (fun hle => absurd hb (Nat.not_lt.2 hle))), h.same b hb hn]
  mo := h.mo
  own := fun b hb => by
    rcases k.own b hb with h1 | h1
    · exact h.own b h1
    · exact .inr (Nat.le_trans h.size h1)
  keep := fun b hb => k.keep b (h.keep b hb)
  lt := k.lt

theorem Step.trans0 {M O O1 O2 : List Nat} {w w1 w2 : World} (h : Step M O O1 w w1) (k : Step [] O1 O2 w1 w2) : Step M O O2 w w2 :=
  h.trans k (fun _ h => by cases h)

/-- More may have changed. -/
theorem Step.more {M M' O O' : List Nat} {w w' : World} (h : Step M O O' w w') (hM : ∀ b, b ∈ M → b ∈ M') (hO : ∀ b, b ∈ M' → b ∈ O) : Step M' O O' w w' :=
  ⟨h.os, h.tape, h.output, h.size, fun k hk hn => h.same k hk (fun hm => hn (hM k hm)), hO, h.own, h.keep, h.lt⟩

/-- Less is one's own from here on. -/
theorem Step.less {M O O' O2 : List Nat} {w w' : World} (h : Step M O O' w w') (h1 : ∀ b, b ∈ O → b ∈ O2) (h2 : ∀ b, b ∈ O2 → b ∈ O') : Step M O O2 w w' :=
  ⟨h.os, h.tape, h.output, h.size, h.same, h.mo, fun k hk => h.own k (h2 k hk), h1, fun k hk => h.lt k (h2 k hk)⟩

theorem Step.block {M O O' : List Nat} {w w' : World} (h : Step M O O' w w') {k : Nat} {o : Obj} (hk : w.heap[k]? = some o) (hn : k ∉ M) : w'.heap[k]? = some o := by
  have : k < w.heap.size := by
    rcases Nat.lt_or_ge k w.heap.size with h | h
    · exact h
    · simp [Array.getElem?_eq_none h] at hk
  rw [h.same k this hn, hk]

theorem Step.below {O' : List Nat} {w w' : World} (h : Step [] [] O' w w') : RowKit.Below w.heap.size w w' :=
  ⟨h.os, h.tape, h.output, h.size, fun k hk => h.same k hk (by simp)⟩

/-! ### cells that stay -/

def Cell (O : List Nat) (w : World) (a : Addr) (v : Value) : Prop := w.cell? a = some v ∧ a.block ∉ O

theorem cell?_heap {w w' : World} {a : Addr} (h : w'.heap[a.block]? = w.heap[a.block]?) : w'.cell? a = w.cell? a := by
  unfold World.cell?; rw [h]
theorem frozen?_heap {w w' : World} {a : Addr} (h : w'.heap[a.block]? = w.heap[a.block]?) : w'.frozen? a = w.frozen? a := by
  unfold World.frozen?; rw [h]

theorem Step.cell? {M O O' : List Nat} {w w' : World} (h : Step M O O' w w') {a : Addr} {v : Value} (hc : w.cell? a = some v) (hn : a.block ∉ M) : w'.cell? a = some v := by
  rw [cell?_heap (h.same _ (World.block_lt_of_cell? w a hc) hn), hc]

theorem Cell.step {M O O' : List Nat} {w w' : World} {a : Addr} {v : Value} (h : Cell O w a v) (s : Step M O O' w w') : Cell O' w' a v :=
  ⟨s.cell? h.1 (fun hm => h.2 (s.mo _ hm)), fun hm => (s.own _ hm).elim h.2 (fun hle => absurd (World.block_lt_of_cell? w a h.1) (Nat.not_lt.2 hle))⟩

theorem Cell.sub {O O' : List Nat} {w : World} {a : Addr} {v : Value} (h : Cell O w a v) (hs : ∀ b, b ∈ O' → b ∈ O) : Cell O' w a v := ⟨h.1, fun hm => h.2 (hs _ hm)⟩

/-! ### slices whose elements stay: 'n' elements, the cells one behind the other -/

def Sl (O : List Nat) (w : World) (v : Value) (n : Nat) (cs : List Value) : Prop :=
  (v = .slice none 0 0 ∧ n = 0 ∧ cs = []) ∨
  ∃ a cap, v = .slice (some a) n cap ∧ n ≤ cap ∧ ∀ i u, cs[i]? = some u → Cell O w (a.add i) u

theorem Sl.nil {O : List Nat} {w : World} : Sl O w (.slice none 0 0) 0 [] := .inl ⟨rfl, rfl, rfl⟩

theorem Sl.step {M O O' : List Nat} {w w' : World} {v : Value} {n : Nat} {cs : List Value} (h : Sl O w v n cs) (s : Step M O O' w w') : Sl O' w' v n cs := by
  rcases h with h | ⟨a, cap, h1, h2, h3⟩
  · exact .inl h
  · exact .inr ⟨a, cap, h1, h2, fun i u hi => (h3 i u hi).step s⟩

theorem Sl.sub {O O' : List Nat} {w : World} {v : Value} {n : Nat} {cs : List Value} (h : Sl O w v n cs) (hs : ∀ b, b ∈ O' → b ∈ O) : Sl O' w v n cs := by
  rcases h with h | ⟨a, cap, h1, h2, h3⟩
  · exact .inl h
  · exact .inr ⟨a, cap, h1, h2, fun i u hi => (h3 i u hi).sub hs⟩

/-- Where nothing that was there turns, what is read stays, whoever owns what. -/
theorem Cell.keep {O O' Oi : List Nat} {w w' : World} {a : Addr} {v : Value} (h : Cell Oi w a v) (s : Step [] O O' w w') : Cell Oi w' a v := ⟨s.cell? h.1 (by simp), h.2⟩
theorem Sl.keep {O O' Oi : List Nat} {w w' : World} {v : Value} {n : Nat} {cs : List Value} (h : Sl Oi w v n cs) (s : Step [] O O' w w') : Sl Oi w' v n cs := by
  rcases h with h | ⟨a, cap, h1, h2, h3⟩
  · exact .inl h
  · exact .inr ⟨a, cap, h1, h2, fun i u hi => (h3 i u hi).keep s⟩

/-- A slice is written so. -/
theorem Sl.form {O : List Nat} {w : World} {v : Value} {n : Nat} {cs : List Value} (h : Sl O w v n cs) : ∃ a cap, v = .slice a n cap ∧ n ≤ cap := by
  rcases h with ⟨rfl, rfl, _⟩ | ⟨a, cap, h1, h2, h3⟩
  · exact ⟨none, 0, rfl, Nat.le_refl _⟩
  · exact ⟨some a, cap, h1, h2⟩

theorem Sl.cells {O : List Nat} {w : World} {a : Option Addr} {n m cap : Nat} {cs : List Value} (h : Sl O w (.slice a n cap) m cs) (hc : cs ≠ []) :
    ∃ x, a = some x ∧ ∀ i u, cs[i]? = some u → Cell O w (x.add i) u := by
  rcases h with ⟨_, _, rfl⟩ | ⟨x, cap', h1, h2, h3⟩
  · exact absurd rfl hc
  · injection h1 with e1; exact ⟨x, e1, h3⟩

/-! ### one's own blocks -/

/-- A block of cells that may be written. -/
def CB (w : World) (p : Nat) (cs : List Value) : Prop :=
  ∃ T fz, w.heap[p]? = some (.cells cs.toArray T fz) ∧ (cs.length ≤ fz.1 ∨ fz.1 = fz.2)

theorem CB.step {M O O' : List Nat} {w w' : World} {p : Nat} {cs : List Value} (h : CB w p cs) (s : Step M O O' w w') (hn : p ∉ M) : CB w' p cs := by
  obtain ⟨T, fz, h1, h2⟩ := h
  exact ⟨T, fz, s.block h1 hn, h2⟩

theorem CB.lt {w : World} {p : Nat} {cs : List Value} (h : CB w p cs) : p < w.heap.size := by
  obtain ⟨T, fz, h1, _⟩ := h
  rcases Nat.lt_or_ge p w.heap.size with h | h
  · exact h
  · simp [Array.getElem?_eq_none h] at h1

theorem CB.cell? {w : World} {p : Nat} {cs : List Value} (h : CB w p cs) {i : Nat} {v : Value} (hi : cs[i]? = some v) : w.cell? ⟨p, i, none⟩ = some v := by
  obtain ⟨T, fz, h1, _⟩ := h
  simp [World.cell?, h1, hi]

theorem CB.frozen? {w : World} {p : Nat} {cs : List Value} (h : CB w p cs) {i : Nat} (hi : i < cs.length) : w.frozen? ⟨p, i, none⟩ = false := by
  obtain ⟨T, fz, h1, h2⟩ := h
  simp only [World.frozen?, h1]
  have : ¬ (fz.1 ≤ i ∧ i < fz.2) := by omega
  simpa using this

theorem CB.cell {O : List Nat} {w : World} {p : Nat} {cs : List Value} (h : CB w p cs) (hp : p ∉ O) {i : Nat} {v : Value} (hi : cs[i]? = some v) : Cell O w ⟨p, i, none⟩ v := ⟨h.cell? hi, hp⟩

theorem CB.ne {w : World} {p q : Nat} {cs ds : List Value} (h : CB w p cs) (k : CB w q ds) (hne : cs ≠ ds) : p ≠ q := by
  rintro rfl
  obtain ⟨T, fz, h1, _⟩ := h
  obtain ⟨U, gz, k1, _⟩ := k
  rw [h1] at k1
  injection k1 with k1; injection k1 with k1
  exact hne (by injection k1)

/-- What was one's own block becomes a slice that stays. -/
theorem CB.sl {O : List Nat} {w : World} {p : Nat} {cs : List Value} (h : CB w p cs) (hp : p ∉ O) {n cap : Nat} (hn : n ≤ cap) (ds : List Value) (hd : ∀ (i : Nat) (u : Value), ds[i]? = some u → cs[i]? = some u) :
    Sl O w (.slice (some ⟨p, 0, none⟩) n cap) n ds :=
  .inr ⟨_, cap, rfl, hn, fun i u hi => by
    have := h.cell hp (hd i u hi)
    rwa [Addr.add_lit, Nat.zero_add]⟩

theorem size_setCell (w : World) (a : Addr) (v : Value) : (w.setCell a v).heap.size = w.heap.size := World.size_setCell w a v

theorem setCell_other {w : World} {p i k : Nat} {v : Value} (h : p ≠ k) : (w.setCell ⟨p, i, none⟩ v).heap[k]? = w.heap[k]? := by
  simp [World.setCell, Array.getElem?_modify, h]

theorem CB.set {w : World} {p i : Nat} {cs : List Value} {v : Value} (h : CB w p cs) : CB (w.setCell ⟨p, i, none⟩ v) p (cs.set i v) := by
  obtain ⟨T, fz, h1, h2⟩ := h
  refine ⟨T, fz, ?_, by simpa using h2⟩
  simp [World.setCell, Array.getElem?_modify, h1]

theorem step_setCell {O : List Nat} {w : World} {p i : Nat} {v : Value} (hO : OK O w) (hp : p ∈ O) : Step [p] O O w (w.setCell ⟨p, i, none⟩ v) :=
  ⟨rfl, rfl, rfl, by rw [size_setCell]; exact Nat.le_refl _, fun k _ hn => setCell_other (fun e => hn (by simp [e])), fun k hk => by simp at hk; subst hk; exact hp,
   fun _ h => .inl h, fun _ h => h, fun k hk => by rw [size_setCell]; exact hO k hk⟩

theorem heap_alloc_new (w : World) (o : Obj) : (w.alloc o).heap[w.heap.size]? = some o := by
  show (w.heap.push o)[w.heap.size]? = _; simp
theorem heap_alloc_old (w : World) (o : Obj) {k : Nat} (h : k < w.heap.size) : (w.alloc o).heap[k]? = w.heap[k]? := by
  show (w.heap.push o)[k]? = _; simp [Array.getElem?_push, Nat.ne_of_lt h]

theorem step_alloc {O : List Nat} {w : World} (o : Obj) (hO : OK O w) : Step [] O O w (w.alloc o) :=
  ⟨rfl, rfl, rfl, by simp, fun k hk _ => heap_alloc_old w o hk, fun _ h => (by cases h), fun _ h => .inl h, fun _ h => h, fun k hk => (by have := hO k hk; rw [World.size_alloc]; omega)⟩

theorem step_drew {O : List Nat} {w : World} (hO : OK O w) : Step [] O O w w.drew :=
  ⟨rfl, rfl, rfl, Nat.le_refl _, fun k hk _ => rfl, fun _ h => (by cases h), fun _ h => .inl h, fun _ h => h, hO⟩

/-- A block that was just laid may be one's own. -/
theorem Step.take {M O O' : List Nat} {w w' : World} (h : Step M O O' w w') {q : Nat} (h1 : w.heap.size ≤ q) (h2 : q < w'.heap.size) : Step M O (q :: O') w w' :=
  ⟨h.os, h.tape, h.output, h.size, h.same, h.mo, fun k hk => by
    rcases List.mem_cons.1 hk with rfl | hk
    · exact .inr h1
    · exact h.own k hk, fun k hk => List.mem_cons_of_mem _ (h.keep k hk), fun k hk => by
    rcases List.mem_cons.1 hk with rfl | hk
    · exact h2
    · exact h.lt k hk⟩

theorem cb_alloc (w : World) (cs : List Value) (T : TypeId) : CB (w.alloc (.cells cs.toArray T)) w.heap.size cs :=
  ⟨T, (0, 0), heap_alloc_new _ _, .inr rfl⟩

end Gk
