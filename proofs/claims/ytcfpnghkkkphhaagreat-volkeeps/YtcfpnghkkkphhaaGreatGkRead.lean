/- What came in, read: from the form's reading to the engine's words. Nothing here speaks of one program. -/
import Derived.Test.YtcfpnghkkkphhaaGreatGkData
import Derived.Test.YtcfpnghkkkphhaaGreatGkNum
import Derived.ProofKit
import Derived.OpenShut
import Derived.Deep.Slices
namespace Gk
open Go
set_option linter.unusedVariables false

/-- The cells read as a value of type 't', to the bottom. -/
def Reads (P : Program) (w : World) (t : TypeId) (cs : List Value) : Prop :=
  ∃ (H : Type) (enc : TypeId × Value → H) (base fuel : Nat) (y : DataW H × List MemPlace), DataW.trod enc P w base (fun _ => true) true fuel t cs = some y

theorem mapM_get {α β : Type} {f : α → Option β} : ∀ {xs : List α} {ys : List β}, xs.mapM f = some ys → ∀ (i : Nat) (x : α), xs[i]? = some x → ∃ y, ys[i]? = some y ∧ f x = some y
  | [], ys, h, i, x, hx => by simp at hx
  | a :: xs, ys, h, i, x, hx => by
    simp only [List.mapM_cons, Option.bind_eq_bind, Option.pure_def, Option.bind_eq_some_iff, Option.some.injEq] at h
    obtain ⟨b, hb, bs, hbs, rfl⟩ := h
    cases i with
    | zero => simp at hx; subst hx; exact ⟨b, rfl, hb⟩
    | succ i => simpa using mapM_get hbs i x (by simpa using hx)

theorem mapM_length {α β : Type} {f : α → Option β} : ∀ {xs : List α} {ys : List β}, xs.mapM f = some ys → ys.length = xs.length
  | [], ys, h => by simp at h; subst h; rfl
  | a :: xs, ys, h => by
    simp only [List.mapM_cons, Option.bind_eq_bind, Option.pure_def, Option.bind_eq_some_iff, Option.some.injEq] at h
    obtain ⟨b, hb, bs, hbs, rfl⟩ := h
    simp [mapM_length hbs]

theorem cellsOf_eq {P : Program} {T k : Nat} (h : sizeB P T = some k) : P.cellsOf T = k := by
  obtain ⟨i, h1, h2⟩ := info_size h
  simp [Program.cellsOf, h1, h2]

/-- A struct's field: its type, where it lies, its cells. -/
def fieldTB (P : Program) (T i : Nat) : Option (Nat × Nat × Nat) :=
  match P.underlying T with
  | some (.struct fs) => match fs[i]? with
    | some f => (sizeB P f.type).map fun s => (f.type, f.offset, s)
    | none => none
  | _ => none

class TFT (P : Program) (T : TypeId) (i : Nat) (ft off sz : outParam Nat) : Prop where
  at_ : fieldTB P T i = some (ft, off, sz)

section
variable {P : Program} {w : World} {t : TypeId} {cs : List Value}

theorem reads_int {k : IntKind} [h : TInt P t k] (hr : Reads P w t cs) : ∃ n, cs = [.int k n] ∧ (Lit.int k n).wf = true := by
  obtain ⟨H, enc, base, fuel, y, hy⟩ := hr
  obtain ⟨n, h1, _, h2⟩ := DataW.trod_int h.at_ hy
  exact ⟨n, h1, h2⟩

theorem reads_bool [h : TBool P t] (hr : Reads P w t cs) : ∃ b, cs = [.bool b] := by
  obtain ⟨H, enc, base, fuel, y, hy⟩ := hr
  obtain ⟨b, h1, _⟩ := DataW.trod_bool h.at_ hy
  exact ⟨b, h1⟩

theorem reads_str [h : TString P t] (hr : Reads P w t cs) : ∃ s : ByteArray, cs = [.string s] ∧ s.size ≤ maxLen := by
  obtain ⟨H, enc, base, fuel, y, hy⟩ := hr
  obtain ⟨b, h1, _, h2⟩ := DataW.trod_string h.at_ hy
  exact ⟨b, h1, h2⟩

theorem reads_u8 [h : TInt P t .u8] (hr : Reads P w t cs) : ∃ c : UInt8, cs = [byteV c] := by
  obtain ⟨n, rfl, hw⟩ := reads_int hr
  have hb := bounds_u8 hw
  refine ⟨UInt8.ofNat n.toNat, ?_⟩
  unfold byteV
  congr 2
  rw [UInt8.toNat_ofNat']
  omega

theorem reads_nat {k : IntKind} [h : TInt P t k] (hk : k.signed = false) (hr : Reads P w t cs) : ∃ m : Nat, cs = [.int k m] ∧ m < lim k := by
  obtain ⟨n, rfl, hw⟩ := reads_int hr
  refine ⟨n.toNat, ?_⟩
  cases k <;> first
    | (exact absurd hk (by decide))
    | (simp [Lit.wf, IntKind.min, IntKind.max, IntKind.signed, IntKind.bits] at hw
       refine ⟨by congr 2; omega, by simp only [lim]; omega⟩)

theorem reads_slice {e sz by_ : Nat} [h : TSlice P t e sz by_] (hr : Reads P w t cs) : cs = [.slice none 0 0] ∨
    ∃ a len cap, cs = [.slice (some a) len cap] ∧ len ≤ cap ∧ cap ≤ maxLen ∧
      ∀ i, i < len → ∃ row, row.length = sz ∧ (∀ (j : Nat) (u : Value), row[j]? = some u → w.cell? (a.add (i * sz + j)) = some u) ∧ Reads P w e row := by
  obtain ⟨H, enc, base, fuel, y, hy⟩ := hr
  rcases Go.Deep.open_slice h.at_ hy with ⟨h1, _⟩ | ⟨a, len, cap, m, n, D, Pl, h1, _, h2, h3, h4, _, h5⟩
  · exact .inl h1
  · refine .inr ⟨a, len, cap, h1, h2, h3, fun i hi => ?_⟩
    obtain ⟨row, hrow, hd⟩ := h5 i (by rw [h4]; simp; omega)
    rw [cellsOf_eq h.size] at hrow
    unfold World.cells? at hrow
    split at hrow
    · have hl := mapM_length hrow
      simp at hl
      refine ⟨row, hl, fun j u hj => ?_, H, enc, base, n, _, hd⟩
      have hlt : j < sz := by rw [← hl]; exact (List.getElem?_eq_some_iff.1 hj).1
      obtain ⟨v, hv, hc⟩ := mapM_get hrow j j (by simp [hlt])
      rw [hj] at hv
      injection hv with hv
      subst hv
      rw [← Addr.add_add]; exact hc
    · cases hrow

theorem reads_agg {k : Nat} [h : TAgg P t k] (hs : ∃ fs, P.underlying t = some (.struct fs)) (hr : Reads P w t cs) : cs.length = k := by
  obtain ⟨fs, hu⟩ := hs
  obtain ⟨H, enc, base, fuel, y, hy⟩ := hr
  obtain ⟨xs, n, _, _, h1, _⟩ := DataW.trod_struct hu hy
  rw [cellsOf_eq h.size] at h1
  exact h1

theorem reads_field {i ft off sz : Nat} [h : TFT P t i ft off sz] (hr : Reads P w t cs) : Reads P w ft ((cs.drop off).take sz) := by
  have h1 := h.at_
  unfold fieldTB at h1
  split at h1
  · rename_i fs hu
    split at h1
    · rename_i f hf
      obtain ⟨s, hs, he⟩ := Option.map_eq_some_iff.1 h1
      simp only [Prod.mk.injEq] at he
      obtain ⟨rfl, rfl, rfl⟩ := he
      obtain ⟨H, enc, base, fuel, y, hy⟩ := hr
      obtain ⟨xs, n, _, _, _, hl, hx⟩ := DataW.trod_struct hu hy
      have := hx i f hf
      rw [cellsOf_eq hs] at this
      have hi : i < xs.length := by rw [hl]; exact (Array.getElem?_eq_some_iff.1 hf).1
      rw [List.getElem?_eq_getElem hi] at this
      exact ⟨H, enc, base, n, _, this⟩
    · cases h1
  · cases h1

theorem reads_structs {i ft off sz : Nat} (h : TFT P t i ft off sz) : ∃ fs, P.underlying t = some (.struct fs) := by
  have h1 := h.at_
  unfold fieldTB at h1
  split at h1
  · rename_i fs hu; exact ⟨fs, hu⟩
  · cases h1

/-! ### slices -/

theorem exists_list {α : Type} {p : Nat → α → Prop} : ∀ (n : Nat), (∀ i, i < n → ∃ x, p i x) → ∃ xs : List α, xs.length = n ∧ ∀ (i : Nat) (x : α), xs[i]? = some x → p i x
  | 0, _ => ⟨[], rfl, fun i x h => by simp at h⟩
  | n + 1, h => by
    obtain ⟨xs, h1, h2⟩ := exists_list n (fun i hi => h i (by omega))
    obtain ⟨x, hx⟩ := h n (by omega)
    refine ⟨xs ++ [x], by simp [h1], fun i y hy => ?_⟩
    rw [List.getElem?_append] at hy
    split at hy
    · exact h2 i y hy
    · rename_i hge
      have : i = n := by
        have := (List.getElem?_eq_some_iff.1 hy).1
        simp at this; omega
      subst this
      simp [h1] at hy
      subst hy; exact hx

/-- A slice that came in, of things of 'sz' cells. -/
theorem slR_of {β : Type} {r : List Value → β → Prop} {Rd : List Value → Prop} {sz N : Nat} {v : Value} (hpos : 0 < sz) (hr : [v] = [Value.slice none 0 0] ∨
    ∃ a len cap, [v] = [.slice (some a) len cap] ∧ len ≤ cap ∧ len ≤ N ∧
      ∀ i, i < len → ∃ row, row.length = sz ∧ (∀ (j : Nat) (u : Value), row[j]? = some u → w.cell? (a.add (i * sz + j)) = some u) ∧ Rd row) (hx : ∀ row, row.length = sz → Rd row → ∃ y, r row y) :
    ∃ ys : List β, SlR sz r [] w v ys ∧ ys.length ≤ N := by
  rcases hr with h1 | ⟨a, len, cap, h1, h2, h3, h4⟩
  · injection h1 with h1
    subst h1
    exact ⟨[], SlR.nil, Nat.zero_le _⟩
  · injection h1 with h1
    subst h1
    obtain ⟨ps, hl, hp⟩ := exists_list (α := List Value × β) (p := fun i x => x.1.length = sz ∧ (∀ (j : Nat) (u : Value), x.1[j]? = some u → w.cell? (a.add (i * sz + j)) = some u) ∧ r x.1 x.2) len
      (fun i hi => by obtain ⟨row, g1, g2, g3⟩ := h4 i hi; obtain ⟨y, hy⟩ := hx row g1 g3; exact ⟨(row, y), g1, g2, hy⟩)
    have hrows : ∀ row, row ∈ ps.map (·.1) → row.length = sz := fun row hr => by
      obtain ⟨x, hx, rfl⟩ := List.mem_map.1 hr
      obtain ⟨i, hi⟩ := List.getElem?_of_mem hx
      exact (hp i x hi).1
    refine ⟨ps.map (·.2), SlR.mk (rows := ps.map (·.1)) (.inr ⟨a, cap, by simp [hl], by simp [hl, h2], fun i u hi => ⟨?_, by simp⟩⟩) (All2.mk (by simp) (fun i x y hx hy => ?_)) hrows, by simp [hl]; omega⟩
    · have hlt := (List.getElem?_eq_some_iff.1 hi).1
      rw [flat_length _ hrows] at hlt
      have e : i = i / sz * sz + i % sz := by rw [Nat.mul_comm]; exact (Nat.div_add_mod i sz).symm
      rw [e, flat_get _ _ _ hrows (Nat.mod_lt _ hpos)] at hi
      obtain ⟨row, g1, g2⟩ := Option.bind_eq_some_iff.1 hi
      rw [List.getElem?_map, Option.map_eq_some_iff] at g1
      obtain ⟨x, g1, rfl⟩ := g1
      rw [e]
      exact (hp _ x g1).2.1 _ u g2
    · rw [List.getElem?_map, Option.map_eq_some_iff] at hx hy
      obtain ⟨x', g1, rfl⟩ := hx
      obtain ⟨y', g2, rfl⟩ := hy
      rw [g1] at g2
      injection g2 with g2
      subst g2
      exact (hp i x' g1).2.2

theorem reads_slR {β : Type} {r : List Value → β → Prop} {e sz by_ : Nat} [h : TSlice P t e sz by_] {v : Value} (hr : Reads P w t [v]) (hx : ∀ row, row.length = sz → Reads P w e row → ∃ y, r row y) :
    ∃ ys : List β, SlR sz r [] w v ys ∧ ys.length ≤ maxLen :=
  slR_of (by have := h.pos; rw [Nat.blt_eq] at this; exact this) ((reads_slice hr).imp id fun ⟨a, len, cap, h1, h2, h3, h4⟩ => ⟨a, len, cap, h1, h2, by omega, h4⟩) hx

theorem flat_one : ∀ (rows : List (List Value)), (∀ row, row ∈ rows → row.length = 1) → ∃ vs : List Value, rows = vs.map fun v => [v]
  | [], _ => ⟨[], rfl⟩
  | row :: rows, h => by
    obtain ⟨vs, hv⟩ := flat_one rows (fun r hr => h r (by simp [hr]))
    match row, h row (by simp) with
    | [v], _ => exact ⟨v :: vs, by simp [hv]⟩

theorem flat_map_one (vs : List Value) : (vs.map fun v => [v]).flatten = vs := by
  induction vs with
  | nil => rfl
  | cons v vs ih => simp [ih]

/-- A slice that came in, of things of one cell. -/
theorem slA_of {β : Type} {r : Value → β → Prop} {N : Nat} {v : Value} (hr : ∃ ys : List β, SlR 1 (fun row y => ∃ u, row = [u] ∧ r u y) [] w v ys ∧ ys.length ≤ N) :
    ∃ ys : List β, SlA r [] w v ys ∧ ys.length ≤ N := by
  obtain ⟨ys, ⟨rows, h1, h2, h3⟩, h4⟩ := hr
  obtain ⟨vs, rfl⟩ := flat_one rows h3
  rw [flat_map_one] at h1
  refine ⟨ys, SlA.mk h1 (All2.mk (by simpa using h2.length) (fun i x y hx hy => ?_)), h4⟩
  obtain ⟨row, g1, u, rfl, g2⟩ := h2.get i y hy
  rw [List.getElem?_map, hx] at g1
  simp at g1
  subst g1; exact g2

theorem reads_slA {β : Type} {r : Value → β → Prop} {e by_ : Nat} [h : TSlice P t e 1 by_] {v : Value} (hr : Reads P w t [v]) (hx : ∀ u, Reads P w e [u] → ∃ y, r u y) :
    ∃ ys : List β, SlA r [] w v ys ∧ ys.length ≤ maxLen :=
  slA_of (reads_slR (r := fun row y => ∃ u, row = [u] ∧ r u y) hr (fun row hl hrow => by
    match row, hl with
    | [u], _ => obtain ⟨y, hy⟩ := hx u hrow; exact ⟨y, u, rfl, hy⟩))

theorem bytes_of {N : Nat} {v : Value} (hr : ∃ ys : List UInt8, SlA (fun u (c : UInt8) => u = byteV c) [] w v ys ∧ ys.length ≤ N) : ∃ xs, Bytes [] w v xs ∧ xs.length ≤ N := by
  obtain ⟨ys, ⟨vs, h1, h2⟩, h3⟩ := hr
  have : vs = bytesV ys := by
    apply List.ext_getElem?
    intro i
    unfold bytesV
    rw [List.getElem?_map]
    cases hy : ys[i]? with
    | none =>
      have := List.getElem?_eq_none_iff.1 hy
      rw [← h2.length] at this
      rw [List.getElem?_eq_none this]; rfl
    | some y =>
      obtain ⟨x, g1, rfl⟩ := h2.get i y hy
      rw [g1]; rfl
  subst this
  exact ⟨ys, h1, h3⟩

theorem reads_bytes {e by_ : Nat} [h : TSlice P t e 1 by_] [he : TInt P e .u8] {v : Value} (hr : Reads P w t [v]) : ∃ xs, Bytes [] w v xs ∧ xs.length ≤ maxLen :=
  bytes_of (reads_slA (r := fun u (c : UInt8) => u = byteV c) hr (fun u hu => by
    obtain ⟨c, hc⟩ := reads_u8 hu
    injection hc with hc
    exact ⟨c, hc⟩))

theorem reads_bytesL {e e' by_ by' : Nat} [h : TSlice P t e 1 by_] [h' : TSlice P e e' 1 by'] [he : TInt P e' .u8] {v : Value} (hr : Reads P w t [v]) : ∃ xss, BytesL [] w v xss ∧ xss.length ≤ maxLen :=
  reads_slA hr (fun u hu => by obtain ⟨xs, h1, _⟩ := reads_bytes hu; exact ⟨xs, h1⟩)

end

theorem reads_map {P : Program} {w : World} {t : TypeId} {β : Type} (f : β → Value) (p : β → Prop) {e by_ : Nat} [h : TSlice P t e 1 by_] {v : Value} (hr : Reads P w t [v]) (hx : ∀ u, Reads P w e [u] → ∃ y, u = f y ∧ p y) :
    ∃ ys : List β, Sl [] w v ys.length (ys.map f) ∧ ys.length ≤ maxLen ∧ ∀ y, y ∈ ys → p y := by
  obtain ⟨ys, ⟨vs, h1, h2⟩, h3⟩ := reads_slA (r := fun u (y : β) => u = f y ∧ p y) hr hx
  have e1 : vs = ys.map f := by
    apply List.ext_getElem?
    intro i
    rw [List.getElem?_map]
    cases hy : ys[i]? with
    | none =>
      have := List.getElem?_eq_none_iff.1 hy
      rw [← h2.length] at this
      rw [List.getElem?_eq_none this]; rfl
    | some y =>
      obtain ⟨x, g1, g2, _⟩ := h2.get i y hy
      rw [g1, g2]; rfl
  subst e1
  refine ⟨ys, h1, h3, fun y hy => ?_⟩
  obtain ⟨i, hi⟩ := List.getElem?_of_mem hy
  obtain ⟨x, _, _, g⟩ := h2.get i y hi
  exact g

theorem reads_nats {P : Program} {w : World} {t : TypeId} {k : IntKind} {e by_ : Nat} [h : TSlice P t e 1 by_] [he : TInt P e k] (hk : k.signed = false) {v : Value} (hr : Reads P w t [v]) :
    ∃ ys : List Nat, Sl [] w v ys.length (ys.map fun n : Nat => Value.int k n) ∧ ys.length ≤ maxLen ∧ ∀ y, y ∈ ys → y < lim k :=
  reads_map (fun n : Nat => Value.int k n) (fun n => n < lim k) hr fun u hu => by
    obtain ⟨m, h1, h2⟩ := reads_nat hk hu
    injection h1 with h1
    exact ⟨m, h1, h2⟩

theorem reads_bools {P : Program} {w : World} {t : TypeId} {e by_ : Nat} [h : TSlice P t e 1 by_] [he : TBool P e] {v : Value} (hr : Reads P w t [v]) :
    ∃ ys : List Bool, Sl [] w v ys.length (ys.map Value.bool) ∧ ys.length ≤ maxLen ∧ ∀ y, y ∈ ys → True :=
  reads_map Value.bool (fun _ => True) hr fun u hu => by
    obtain ⟨b, h1⟩ := reads_bool hu
    injection h1 with h1
    exact ⟨b, h1, trivial⟩

/-- What the form's frame hands over. -/
theorem reads_of {H : Type} {enc : TypeId × Value → H} {P : Program} {w : World} {t : TypeId} {v : Value} {d : DataW H} {p : List MemPlace} (h : DataW.Trod enc P w 0 (fun _ => true) true t v d p) : Reads P w t v.cells.toList := by
  obtain ⟨fuel, hf⟩ := h
  exact ⟨H, enc, 0, fuel, _, hf⟩

end Gk
