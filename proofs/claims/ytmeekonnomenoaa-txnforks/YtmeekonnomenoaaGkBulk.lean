/- Reading what came in, where its bulk is bounded. Nothing here speaks of one program. -/
import Derived.Test.YtmeekonnomenoaaGkRead
namespace Gk
open Go
set_option linter.unusedVariables false

mutual
/-- How many values and letters a reading holds. -/
def bulk {H : Type} : DataW H → Nat
  | .lit (.string bytes) => bytes.length + 1
  | .lit _ => 1
  | .nil => 1
  | .ptr d => bulk d + 1
  | .slice elems spare => bulkAll elems + bulkAll spare + 1
  | .agg parts => bulkAll parts + 1
  | .iface _ d => bulk d + 1
  | .map entries => bulkEntries entries + 1
  | .held _ => 1
def bulkAll {H : Type} : List (DataW H) → Nat
  | [] => 0
  | d :: r => bulk d + bulkAll r
def bulkEntries {H : Type} : List (Lit × DataW H) → Nat
  | [] => 0
  | x :: r => bulkEntry x + bulkEntries r
def bulkEntry {H : Type} : Lit × DataW H → Nat
  | (.string bytes, d) => bytes.length + bulk d + 1
  | (_, d) => bulk d + 1
end

theorem bulk_pos {H : Type} (d : DataW H) : 1 ≤ bulk d := by
  cases d with
  | lit l => cases l <;> simp [bulk]
  | _ => simp [bulk]

theorem bulkAll_mem {H : Type} : ∀ {l : List (DataW H)} {d : DataW H}, d ∈ l → bulk d ≤ bulkAll l
  | _ :: r, d, h => by
    simp only [bulkAll]
    rcases List.mem_cons.1 h with rfl | h
    · omega
    · have := bulkAll_mem h; omega

theorem bulkAll_length {H : Type} : ∀ (l : List (DataW H)), l.length ≤ bulkAll l
  | [] => by simp [bulkAll]
  | d :: r => by
    have := bulkAll_length r
    have := bulk_pos d
    simp only [bulkAll, List.length_cons]; omega

/-- The cells read as a value of type 't', to the bottom, of bulk at most 'N'. -/
def ReadsN (P : Program) (w : World) (t : TypeId) (cs : List Value) (N : Nat) : Prop :=
  ∃ (H : Type) (enc : TypeId × Value → H) (base fuel : Nat) (y : DataW H × List MemPlace), DataW.trod enc P w base (fun _ => true) true fuel t cs = some y ∧ bulk y.1 ≤ N

section
variable {P : Program} {w : World} {t : TypeId} {cs : List Value} {N : Nat}

theorem ReadsN.reads (h : ReadsN P w t cs N) : Reads P w t cs := by
  obtain ⟨H, enc, base, fuel, y, hy, _⟩ := h
  exact ⟨H, enc, base, fuel, y, hy⟩

theorem readsN_str [h : TString P t] (hr : ReadsN P w t cs N) : ∃ s : ByteArray, cs = [.string s] ∧ s.size ≤ N := by
  obtain ⟨H, enc, base, fuel, y, hy, hb⟩ := hr
  obtain ⟨b, h1, h2, _⟩ := DataW.trod_string h.at_ hy
  refine ⟨b, h1, ?_⟩
  subst h2
  simp only [bulk] at hb
  have : b.data.toList.length = b.size := by simp
  omega

theorem readsN_slice {e sz by_ : Nat} [h : TSlice P t e sz by_] (hr : ReadsN P w t cs N) : cs = [.slice none 0 0] ∨
    ∃ a len cap, cs = [.slice (some a) len cap] ∧ len ≤ cap ∧ len ≤ N ∧
      ∀ i, i < len → ∃ row, row.length = sz ∧ (∀ (j : Nat) (u : Value), row[j]? = some u → w.cell? (a.add (i * sz + j)) = some u) ∧ ReadsN P w e row N := by
  obtain ⟨H, enc, base, fuel, y, hy, hb⟩ := hr
  rcases Go.Deep.open_slice h.at_ hy with ⟨h1, _⟩ | ⟨a, len, cap, m, n, D, Pl, h1, _, h2, h3, h4, rfl, h5⟩
  · exact .inl h1
  · simp only [bulk] at hb
    have hl := bulkAll_length ((List.range len).map D)
    simp only [List.length_map, List.length_range] at hl
    refine .inr ⟨a, len, cap, h1, h2, by omega, fun i hi => ?_⟩
    obtain ⟨row, hrow, hd⟩ := h5 i (by rw [h4]; simp; omega)
    have hm : bulk (D i) ≤ bulkAll ((List.range len).map D) := bulkAll_mem (List.mem_map.2 ⟨i, List.mem_range.2 hi, rfl⟩)
    rw [cellsOf_eq h.size] at hrow
    unfold World.cells? at hrow
    split at hrow
    · have hl := mapM_length hrow
      simp at hl
      refine ⟨row, hl, fun j u hj => ?_, H, enc, base, n, _, hd, by show bulk (D i) ≤ N; omega⟩
      have hlt : j < sz := by rw [← hl]; exact (List.getElem?_eq_some_iff.1 hj).1
      obtain ⟨v, hv, hc⟩ := mapM_get hrow j j (by simp [hlt])
      rw [hj] at hv
      injection hv with hv
      subst hv
      rw [← Addr.add_add]; exact hc
    · cases hrow

theorem readsN_field {i ft off sz : Nat} [h : TFT P t i ft off sz] (hr : ReadsN P w t cs N) : ReadsN P w ft ((cs.drop off).take sz) N := by
  have h1 := h.at_
  unfold fieldTB at h1
  split at h1
  · rename_i fs hu
    split at h1
    · rename_i f hf
      obtain ⟨s, hs, he⟩ := Option.map_eq_some_iff.1 h1
      simp only [Prod.mk.injEq] at he
      obtain ⟨rfl, rfl, rfl⟩ := he
      obtain ⟨H, enc, base, fuel, y, hy, hb⟩ := hr
      obtain ⟨xs, n, _, rfl, _, hl, hx⟩ := DataW.trod_struct hu hy
      have := hx i f hf
      rw [cellsOf_eq hs] at this
      have hi : i < xs.length := by rw [hl]; exact (Array.getElem?_eq_some_iff.1 hf).1
      rw [List.getElem?_eq_getElem hi] at this
      simp only [bulk] at hb
      have hm : bulk xs[i].1 ≤ bulkAll (xs.map (·.1)) := bulkAll_mem (List.mem_map.2 ⟨_, List.getElem_mem hi, rfl⟩)
      exact ⟨H, enc, base, n, _, this, by omega⟩
    · cases h1
  · cases h1

theorem readsN_slR {β : Type} {r : List Value → β → Prop} {e sz by_ : Nat} [h : TSlice P t e sz by_] {v : Value} (hr : ReadsN P w t [v] N) (hx : ∀ row, row.length = sz → ReadsN P w e row N → ∃ y, r row y) :
    ∃ ys : List β, SlR sz r [] w v ys ∧ ys.length ≤ N :=
  slR_of (by have := h.pos; rw [Nat.blt_eq] at this; exact this) (readsN_slice hr) hx

theorem readsN_slA {β : Type} {r : Value → β → Prop} {e by_ : Nat} [h : TSlice P t e 1 by_] {v : Value} (hr : ReadsN P w t [v] N) (hx : ∀ u, ReadsN P w e [u] N → ∃ y, r u y) :
    ∃ ys : List β, SlA r [] w v ys ∧ ys.length ≤ N :=
  slA_of (readsN_slR (r := fun row y => ∃ u, row = [u] ∧ r u y) hr (fun row hl hrow => by
    match row, hl with
    | [u], _ => obtain ⟨y, hy⟩ := hx u hrow; exact ⟨y, u, rfl, hy⟩))

theorem readsN_bytes {e by_ : Nat} [h : TSlice P t e 1 by_] [he : TInt P e .u8] {v : Value} (hr : ReadsN P w t [v] N) : ∃ xs, Bytes [] w v xs ∧ xs.length ≤ N :=
  bytes_of (readsN_slA (r := fun u (c : UInt8) => u = byteV c) hr (fun u hu => by
    obtain ⟨c, hc⟩ := reads_u8 hu.reads
    injection hc with hc
    exact ⟨c, hc⟩))

theorem readsN_bytesL {e e' by_ by' : Nat} [h : TSlice P t e 1 by_] [h' : TSlice P e e' 1 by'] [he : TInt P e' .u8] {v : Value} (hr : ReadsN P w t [v] N) : ∃ xss, BytesL [] w v xss ∧ xss.length ≤ N ∧ ∀ xs, xs ∈ xss → xs.length ≤ N := by
  obtain ⟨ys, h1, h2⟩ := readsN_slA (r := fun u (xs : List UInt8) => Bytes [] w u xs ∧ xs.length ≤ N) hr (fun u hu => readsN_bytes hu)
  obtain ⟨vs, h3, h4⟩ := h1
  refine ⟨ys, BytesL.mk h3 (h4.mono fun _ _ h => h.1), h2, fun xs hx => ?_⟩
  obtain ⟨i, hi⟩ := List.getElem?_of_mem hx
  obtain ⟨x, _, h5⟩ := h4.get i xs hi
  exact h5.2

end

theorem readsN_of {H : Type} {enc : TypeId × Value → H} {P : Program} {w : World} {t : TypeId} {v : Value} {d : DataW H} {p : List MemPlace} {N : Nat} (h : DataW.Trod enc P w 0 (fun _ => true) true t v d p) (hb : bulk d ≤ N) : ReadsN P w t v.cells.toList N := by
  obtain ⟨fuel, hf⟩ := h
  exact ⟨H, enc, 0, fuel, _, hf, hb⟩

end Gk
