/- Lists of things in memory. Nothing here speaks of one program. -/
import Derived.Test.YtcfpnghkkkphhaaGreatGkMap
namespace Gk
open Go
set_option linter.unusedVariables false

def All2 {α β : Type} (r : α → β → Prop) : List α → List β → Prop
  | [], [] => True
  | x :: xs, y :: ys => r x y ∧ All2 r xs ys
  | _, _ => False

section
variable {α β : Type} {r r' : α → β → Prop}

theorem All2.length : ∀ {xs : List α} {ys : List β}, All2 r xs ys → xs.length = ys.length
  | [], [], _ => rfl
  | _ :: _, _ :: _, h => by simp [All2.length h.2]
  | [], _ :: _, h => h.elim
  | _ :: _, [], h => h.elim

theorem All2.mono (hr : ∀ x y, r x y → r' x y) : ∀ {xs : List α} {ys : List β}, All2 r xs ys → All2 r' xs ys
  | [], [], _ => trivial
  | _ :: _, _ :: _, h => ⟨hr _ _ h.1, All2.mono hr h.2⟩
  | [], _ :: _, h => h.elim
  | _ :: _, [], h => h.elim

theorem All2.get : ∀ {xs : List α} {ys : List β}, All2 r xs ys → ∀ (i : Nat) (y : β), ys[i]? = some y → ∃ x, xs[i]? = some x ∧ r x y
  | [], [], _, i, y, h => by simp at h
  | x :: _, y :: _, h, 0, z, hz => by simp at hz; subst hz; exact ⟨x, rfl, h.1⟩
  | _ :: _, _ :: _, h, i + 1, z, hz => by simpa using All2.get h.2 i z (by simpa using hz)
  | [], _ :: _, h, _, _, _ => h.elim
  | _ :: _, [], h, _, _, _ => h.elim

theorem All2.get' : ∀ {xs : List α} {ys : List β}, All2 r xs ys → ∀ (i : Nat) (x : α), xs[i]? = some x → ∃ y, ys[i]? = some y ∧ r x y
  | [], [], _, i, y, h => by simp at h
  | x :: _, y :: _, h, 0, z, hz => by simp at hz; subst hz; exact ⟨y, rfl, h.1⟩
  | _ :: _, _ :: _, h, i + 1, z, hz => by simpa using All2.get' h.2 i z (by simpa using hz)
  | [], _ :: _, h, _, _, _ => h.elim
  | _ :: _, [], h, _, _, _ => h.elim

theorem All2.append : ∀ {xs : List α} {ys : List β} {us : List α} {vs : List β}, All2 r xs ys → All2 r us vs → All2 r (xs ++ us) (ys ++ vs)
  | [], [], _, _, _, k => k
  | _ :: _, _ :: _, _, _, h, k => ⟨h.1, All2.append h.2 k⟩
  | [], _ :: _, _, _, h, _ => h.elim
  | _ :: _, [], _, _, h, _ => h.elim

theorem All2.snoc {xs : List α} {ys : List β} {x : α} {y : β} (h : All2 r xs ys) (k : r x y) : All2 r (xs ++ [x]) (ys ++ [y]) := h.append ⟨k, trivial⟩

theorem All2.mk : ∀ {xs : List α} {ys : List β}, xs.length = ys.length → (∀ (i : Nat) (x : α) (y : β), xs[i]? = some x → ys[i]? = some y → r x y) → All2 r xs ys
  | [], [], _, _ => trivial
  | x :: xs, y :: ys, hl, h => ⟨h 0 x y rfl rfl, All2.mk (by simpa using hl) (fun i a b ha hb => h (i + 1) a b (by simpa using ha) (by simpa using hb))⟩
  | [], _ :: _, h, _ => by simp at h
  | _ :: _, [], h, _ => by simp at h

/-- A list of numbered things, told by another one. -/
def Keyed (r : α → β → Prop) : Int × α → Int × β → Prop := fun a b => a.1 = b.1 ∧ r a.2 b.2

theorem All2.look : ∀ {xs : List (Int × α)} {ys : List (Int × β)}, All2 (Keyed r) xs ys → ∀ k, (lookI xs k = none ∧ lookI ys k = none) ∨ ∃ x y, lookI xs k = some x ∧ lookI ys k = some y ∧ r x y
  | [], [], _, k => .inl ⟨rfl, rfl⟩
  | (a, x) :: _, (b, y) :: _, h, k => by
    have h1 := h.1
    obtain ⟨rfl, hr⟩ : a = b ∧ r x y := h1
    simp only [lookI]
    by_cases hk : k = a
    · rw [if_pos hk, if_pos hk]; exact .inr ⟨x, y, rfl, rfl, hr⟩
    · rw [if_neg hk, if_neg hk]; exact All2.look h.2 k
  | [], _ :: _, h, _ => h.elim
  | _ :: _, [], h, _ => h.elim

theorem All2.upd : ∀ {xs : List (Int × α)} {ys : List (Int × β)}, All2 (Keyed r) xs ys → ∀ k x y, r x y → All2 (Keyed r) (updI xs k x) (updI ys k y)
  | [], [], _, k, x, y, hr => ⟨⟨rfl, hr⟩, trivial⟩
  | (a, u) :: xs, (b, v) :: ys, h, k, x, y, hr => by
    have h1 := h.1
    obtain ⟨rfl, hr'⟩ : a = b ∧ r u v := h1
    simp only [updI]
    by_cases hk : k = a
    · rw [if_pos hk, if_pos hk]; exact ⟨⟨rfl, hr⟩, h.2⟩
    · rw [if_neg hk, if_neg hk]; exact ⟨⟨rfl, hr'⟩, All2.upd h.2 k x y hr⟩
  | [], _ :: _, h, _, _, _, _ => h.elim
  | _ :: _, [], h, _, _, _, _ => h.elim
end

/-- A slice of things of one cell each. -/
def SlA {β : Type} (r : Value → β → Prop) (O : List Nat) (w : World) (v : Value) (ys : List β) : Prop :=
  ∃ vs, Sl O w v ys.length vs ∧ All2 r vs ys

theorem SlA.form {β : Type} {r : Value → β → Prop} {O : List Nat} {w : World} {v : Value} {ys : List β} (h : SlA r O w v ys) : ∃ a cap, v = .slice a ys.length cap ∧ ys.length ≤ cap := by
  obtain ⟨vs, h1, _⟩ := h; exact h1.form

theorem SlA.step {β : Type} {r r' : Value → β → Prop} {M O O' : List Nat} {w w' : World} {v : Value} {ys : List β} (h : SlA r O w v ys) (s : Step M O O' w w') (hr : ∀ x y, r x y → r' x y) : SlA r' O' w' v ys := by
  obtain ⟨vs, h1, h2⟩ := h; exact ⟨vs, h1.step s, h2.mono hr⟩

theorem SlA.sub {β : Type} {r r' : Value → β → Prop} {O O' : List Nat} {w : World} {v : Value} {ys : List β} (h : SlA r O w v ys) (hs : ∀ b, b ∈ O' → b ∈ O) (hr : ∀ x y, r x y → r' x y) : SlA r' O' w v ys := by
  obtain ⟨vs, h1, h2⟩ := h; exact ⟨vs, h1.sub hs, h2.mono hr⟩

theorem SlA.keep {β : Type} {r r' : Value → β → Prop} {O O' Oi : List Nat} {w w' : World} {v : Value} {ys : List β} (h : SlA r Oi w v ys) (s : Step [] O O' w w') (hr : ∀ x y, r x y → r' x y) : SlA r' Oi w' v ys := by
  obtain ⟨vs, h1, h2⟩ := h; exact ⟨vs, h1.keep s, h2.mono hr⟩

theorem SlA.nil {β : Type} {r : Value → β → Prop} {O : List Nat} {w : World} : SlA r O w (.slice none 0 0) [] := ⟨[], Sl.nil, trivial⟩

/-- An element: where it lies. -/
theorem SlA.at {β : Type} {r : Value → β → Prop} {O : List Nat} {w : World} {a : Option Addr} {n cap : Nat} {ys : List β} (h : SlA r O w (.slice a n cap) ys) {i : Nat} {y : β} (hi : ys[i]? = some y) :
    ∃ x u, a = some x ∧ Cell O w (x.add i) u ∧ r u y := by
  obtain ⟨vs, h1, h2⟩ := h
  obtain ⟨u, hu, hr⟩ := h2.get i y hi
  obtain ⟨x, rfl, hc⟩ := h1.cells (by rintro rfl; simp at hu)
  exact ⟨x, u, rfl, hc i u hu, hr⟩

/-- Slices of bytes in a slice. -/
def BytesL (O : List Nat) (w : World) (v : Value) (xss : List (List UInt8)) : Prop := SlA (Bytes O w) O w v xss

theorem BytesL.step {M O O' : List Nat} {w w' : World} {v : Value} {xss : List (List UInt8)} (h : BytesL O w v xss) (s : Step M O O' w w') : BytesL O' w' v xss := SlA.step h s fun _ _ h => h.step s
theorem BytesL.keep {O O' Oi : List Nat} {w w' : World} {v : Value} {xss : List (List UInt8)} (h : BytesL Oi w v xss) (s : Step [] O O' w w') : BytesL Oi w' v xss := SlA.keep h s fun _ _ h => h.keep s
theorem BytesL.sub {O O' : List Nat} {w : World} {v : Value} {xss : List (List UInt8)} (h : BytesL O w v xss) (hs : ∀ b, b ∈ O' → b ∈ O) : BytesL O' w v xss := SlA.sub h hs fun _ _ h => h.sub hs

theorem BytesL.form {O : List Nat} {w : World} {v : Value} {xss : List (List UInt8)} (h : BytesL O w v xss) : ∃ a cap, v = .slice a xss.length cap ∧ xss.length ≤ cap := SlA.form h
theorem BytesL.at {O : List Nat} {w : World} {a : Option Addr} {n cap : Nat} {xss : List (List UInt8)} (h : BytesL O w (.slice a n cap) xss) {i : Nat} {y : List UInt8} (hi : xss[i]? = some y) :
    ∃ x u, a = some x ∧ Cell O w (x.add i) u ∧ Bytes O w u y := SlA.at h hi

theorem BytesL.mk {O : List Nat} {w : World} {v : Value} {xss : List (List UInt8)} {vs : List Value} (h : Sl O w v xss.length vs) (k : All2 (Bytes O w) vs xss) : BytesL O w v xss := ⟨vs, h, k⟩
theorem SlA.mk {β : Type} {r : Value → β → Prop} {O : List Nat} {w : World} {v : Value} {ys : List β} {vs : List Value} (h : Sl O w v ys.length vs) (k : All2 r vs ys) : SlA r O w v ys := ⟨vs, h, k⟩

/-- Texts in a slice. -/
def StrL (O : List Nat) (w : World) (v : Value) (xss : List (List UInt8)) : Prop := Sl O w v xss.length (xss.map str)

theorem StrL.step {M O O' : List Nat} {w w' : World} {v : Value} {xss : List (List UInt8)} (h : StrL O w v xss) (s : Step M O O' w w') : StrL O' w' v xss := Sl.step h s

theorem oneCell_bytes {O : List Nat} {w : World} {v : Value} {xs : List UInt8} (h : Bytes O w v xs) : v.oneCell' = true := by
  obtain ⟨a, cap, rfl, _⟩ := h.form; rfl

theorem str_inj {xs ys : List UInt8} (h : str xs = str ys) : xs = ys := by
  unfold str at h
  injection h with h
  injection h with h
  injection h

theorem str_eq_iff (xs ys : List UInt8) : ((⟨xs.toArray⟩ : ByteArray) = ⟨ys.toArray⟩) ↔ xs = ys := by
  constructor
  · intro h
    injection h with h
    injection h
  · rintro rfl; rfl

/-- A cell of a slice's element, at the place that the walk comes to. -/
theorem cell_at {w : World} {x : Addr} {i : Nat} {u : Value} {O : List Nat} (h : Cell O w (x.add i) u) : w.cell? (x.add ((i : Int).toNat * 1)) = some u := by
  rw [Int.toNat_natCast, Nat.mul_one]; exact h.1

/-! ### slices of things of several cells -/

theorem flat_get {sz : Nat} : ∀ (rows : List (List Value)) (i j : Nat), (∀ row, row ∈ rows → row.length = sz) → j < sz → rows.flatten[i * sz + j]? = (rows[i]?).bind (·[j]?)
  | [], i, j, _, _ => by simp
  | row :: rows, 0, j, h, hj => by
    have := h row (by simp)
    simp only [List.flatten_cons, Nat.zero_mul, Nat.zero_add, List.getElem?_cons_zero, Option.bind_some]
    rw [List.getElem?_append_left (by omega)]
  | row :: rows, i + 1, j, h, hj => by
    have h1 := h row (by simp)
    simp only [List.flatten_cons, List.getElem?_cons_succ]
    rw [List.getElem?_append_right (by rw [Nat.succ_mul]; omega), ← flat_get rows i j (fun r hr => h r (by simp [hr])) hj]
    congr 1
    rw [Nat.succ_mul]; omega

theorem flat_length {sz : Nat} : ∀ (rows : List (List Value)), (∀ row, row ∈ rows → row.length = sz) → rows.flatten.length = rows.length * sz
  | [], _ => by simp
  | row :: rows, h => by
    simp only [List.flatten_cons, List.length_append, List.length_cons, h row (by simp), flat_length rows (fun r hr => h r (by simp [hr]))]
    rw [Nat.succ_mul]; omega

/-- A slice of things of 'sz' cells each. -/
def SlR {β : Type} (sz : Nat) (r : List Value → β → Prop) (O : List Nat) (w : World) (v : Value) (ys : List β) : Prop :=
  ∃ rows, Sl O w v ys.length rows.flatten ∧ All2 r rows ys ∧ ∀ row, row ∈ rows → row.length = sz

theorem SlR.form {β : Type} {sz : Nat} {r : List Value → β → Prop} {O : List Nat} {w : World} {v : Value} {ys : List β} (h : SlR sz r O w v ys) : ∃ a cap, v = .slice a ys.length cap ∧ ys.length ≤ cap := by
  obtain ⟨vs, h1, _⟩ := h; exact h1.form

theorem SlR.step {β : Type} {sz : Nat} {r r' : List Value → β → Prop} {M O O' : List Nat} {w w' : World} {v : Value} {ys : List β} (h : SlR sz r O w v ys) (s : Step M O O' w w') (hr : ∀ x y, r x y → r' x y) : SlR sz r' O' w' v ys := by
  obtain ⟨vs, h1, h2, h3⟩ := h; exact ⟨vs, h1.step s, h2.mono hr, h3⟩

theorem SlR.keep {β : Type} {sz : Nat} {r r' : List Value → β → Prop} {O O' Oi : List Nat} {w w' : World} {v : Value} {ys : List β} (h : SlR sz r Oi w v ys) (s : Step [] O O' w w') (hr : ∀ x y, r x y → r' x y) : SlR sz r' Oi w' v ys := by
  obtain ⟨vs, h1, h2, h3⟩ := h; exact ⟨vs, h1.keep s, h2.mono hr, h3⟩

theorem SlR.sub {β : Type} {sz : Nat} {r r' : List Value → β → Prop} {O O' : List Nat} {w : World} {v : Value} {ys : List β} (h : SlR sz r O w v ys) (hs : ∀ b, b ∈ O' → b ∈ O) (hr : ∀ x y, r x y → r' x y) : SlR sz r' O' w v ys := by
  obtain ⟨vs, h1, h2, h3⟩ := h; exact ⟨vs, h1.sub hs, h2.mono hr, h3⟩

theorem SlR.mk {β : Type} {sz : Nat} {r : List Value → β → Prop} {O : List Nat} {w : World} {v : Value} {ys : List β} {rows : List (List Value)} (h : Sl O w v ys.length rows.flatten) (k : All2 r rows ys) (h3 : ∀ row, row ∈ rows → row.length = sz) : SlR sz r O w v ys := ⟨rows, h, k, h3⟩
theorem SlR.nil {β : Type} {sz : Nat} {r : List Value → β → Prop} {O : List Nat} {w : World} : SlR sz r O w (.slice none 0 0) [] := ⟨[], Sl.nil, trivial, fun _ h => by cases h⟩

theorem SlR.at {β : Type} {sz : Nat} {r : List Value → β → Prop} {O : List Nat} {w : World} {a : Option Addr} {n cap : Nat} {ys : List β} (h : SlR sz r O w (.slice a n cap) ys) (hsz : 0 < sz) {i : Nat} {y : β} (hi : ys[i]? = some y) :
    ∃ x row, a = some x ∧ (∀ (j : Nat) (u : Value), row[j]? = some u → Cell O w (x.add (i * sz + j)) u) ∧ r row y ∧ row.length = sz := by
  obtain ⟨rows, h1, h2, h3⟩ := h
  obtain ⟨row, hu, hr⟩ := h2.get i y hi
  have hl := h3 row (List.mem_of_getElem? hu)
  have hg : ∀ j, j < sz → rows.flatten[i * sz + j]? = row[j]? := fun j hj => by rw [flat_get rows i j h3 hj, hu]; rfl
  obtain ⟨x, rfl, hc⟩ := h1.cells (by
    intro h0
    have := hg 0 hsz
    rw [h0, List.getElem?_eq_getElem (l := row) (by omega)] at this
    simp at this)
  refine ⟨x, row, rfl, fun j u hj => ?_, hr, hl⟩
  have hlt : j < sz := by rw [← hl]; exact (List.getElem?_eq_some_iff.1 hj).1
  exact hc _ u (by rw [hg j hlt]; exact hj)

theorem cell_atF {w : World} {x : Addr} {i sz j : Nat} {u : Value} {O : List Nat} (h : Cell O w (x.add (i * sz + j)) u) : w.cell? ((x.add ((i : Int).toNat * sz)).add j) = some u := by
  rw [Int.toNat_natCast, Addr.add_add]; exact h.1

theorem flat_snoc (rows : List (List Value)) (row : List Value) : (rows ++ [row]).flatten = rows.flatten ++ row := by simp

theorem Bytes.at {O : List Nat} {w : World} {a : Option Addr} {n cap : Nat} {xs : List UInt8} (h : Bytes O w (.slice a n cap) xs) {i : Nat} {y : UInt8} (hi : xs[i]? = some y) :
    ∃ x, a = some x ∧ Cell O w (x.add i) (byteV y) := by
  obtain ⟨x, hx, hc⟩ := Sl.cells h.sl (by intro h0; have : xs = [] := by simpa [bytesV] using h0
                                          subst this; cases hi)
  exact ⟨x, hx, hc i _ (by simp [bytesV, hi])⟩

theorem StrL.at {O : List Nat} {w : World} {a : Option Addr} {n cap : Nat} {xss : List (List UInt8)} (h : StrL O w (.slice a n cap) xss) {i : Nat} {y : List UInt8} (hi : xss[i]? = some y) :
    ∃ x, a = some x ∧ Cell O w (x.add i) (str y) := by
  unfold StrL at h
  obtain ⟨x, hx, hc⟩ := Sl.cells h (by intro h0; have : xss = [] := by simpa using h0
                                       subst this; cases hi)
  exact ⟨x, hx, hc i _ (by simp [hi])⟩

theorem Sl.atf {β : Type} {f : β → Value} {O : List Nat} {w : World} {a : Option Addr} {n m cap : Nat} {ys : List β} (h : Sl O w (.slice a n cap) m (ys.map f)) {i : Nat} {y : β} (hi : ys[i]? = some y) :
    ∃ x, a = some x ∧ Cell O w (x.add i) (f y) := by
  obtain ⟨x, hx, hc⟩ := Sl.cells h (by intro h0; have : ys = [] := by simpa using h0
                                       subst this; cases hi)
  exact ⟨x, hx, hc i _ (by simp [hi])⟩

end Gk
