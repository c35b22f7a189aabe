/- What a disk that holds a journal bears. -/
import Derived.Test.YtmohjmfcbhpldaaJrec
namespace Go.Proofs.Ytmohjmfcbhpldaa
open Gk Go
set_option linter.unusedVariables false
set_option maxHeartbeats 4000000
set_option maxRecDepth 4000
set_option linter.unusedSimpArgs false
attribute [local irreducible] Int.decLt Int.decLe Int.decEq Int.instDecidableEq Gk.Rnds Gk.E Gk.G Gk.R Gk.RD Gk.RX Gk.RO Gk.Y Gk.Ent Gk.Sat Gk.Round Gk.After Gk.Cell Gk.Sl Gk.SlA Gk.CB Gk.OK Gk.FnC Gk.Bytes Gk.BytesL Gk.StrL Gk.Buf Gk.MapI
theorem foldAt_app : ∀ (l m : Chg) (x : List UInt8) (b : Nat), foldAt x b (l ++ m) = foldAt (foldAt x b l) b m
  | [], m, x, b => rfl
  | y :: l, m, x, b => by rw [List.cons_append, foldAt, foldAt_app l m]; rfl
theorem foldAt_out : ∀ (l : Chg) (x : List UInt8) (b : Nat), (∀ y ∈ l, y.1.toNat ≠ b) → foldAt x b l = x
  | [], x, b, _ => rfl
  | y :: l, x, b, h => by rw [foldAt, if_neg (h y (by simp)), foldAt_out l x b (fun z hz => h z (by simp [hz]))]
theorem foldAt_in : ∀ (l : Chg) (x x' : List UInt8) (b : Nat), (∃ y ∈ l, y.1.toNat = b) → foldAt x b l = foldAt x' b l
  | [], x, x', b, ⟨y, hy, _⟩ => by cases hy
  | z :: l, x, x', b, ⟨y, hy, e⟩ => by
    rw [foldAt, foldAt]
    by_cases hz : z.1.toNat = b
    · rw [if_pos hz, if_pos hz]
    · rw [if_neg hz, if_neg hz]
      rcases List.mem_cons.1 hy with rfl | hy
      · exact absurd e hz
      · exact foldAt_in l x x' b ⟨y, hy, e⟩
theorem getD_set (B : List (List UInt8)) (i b : Nat) (v : List UInt8) (hb : b < B.length) : (B.set i v).getD b [] = if i = b then v else B.getD b [] := by
  rw [List.getD_eq_getElem?_getD, List.getElem?_set, List.getD_eq_getElem?_getD]
  by_cases h : i = b
  · subst h
    rw [if_pos rfl, if_pos hb, if_pos rfl]
    rfl
  · rw [if_neg h, if_neg h]
theorem setAll_at : ∀ (l : Chg) (B : List (List UInt8)) (b : Nat), b < B.length → (setAll B l).getD b [] = foldAt (B.getD b []) b l
  | [], B, b, _ => rfl
  | y :: l, B, b, hb => by
    rw [setAll, setAll_at l _ b (by rw [List.length_set]; exact hb), getD_set B y.1.toNat b y.2 hb, foldAt]
theorem list_ext {A B : List (List UInt8)} (h : A.length = B.length) (hh : ∀ b, b < A.length → A.getD b [] = B.getD b []) : A = B := by
  refine List.ext_getElem h (fun b h1 h2 => ?_)
  have := hh b h1
  simpa [List.getD_eq_getElem?_getD, h1, h2] using this
theorem ats_nat {N : Nat} {H : List Chg} (hm : ∀ l ∈ H, mayW N l) {y : Int × List UInt8} (hy : y ∈ H.flatten) : 0 ≤ y.1 ∧ y.1 < N ∧ y.2.length ≤ 96 := by
  obtain ⟨l, hl, hy⟩ := List.mem_flatten.1 hy
  obtain ⟨i, hi, rfl⟩ := List.getElem_of_mem hy
  rw [wAt_eq hi]
  exact may_at (hm l hl) hi
theorem out_of {N : Nat} {H : List Chg} (hm : ∀ l ∈ H, mayW N l) {b : Nat} (h : (b : Int) ∉ atsH H) : ∀ y ∈ H.flatten, y.1.toNat ≠ b := by
  intro y hy e
  have := (ats_nat hm hy).1
  exact h (List.mem_map.2 ⟨y, hy, by omega⟩)
theorem in_of {H : List Chg} {b : Nat} (h : (b : Int) ∈ atsH H) : ∃ y ∈ H.flatten, y.1.toNat = b := by
  obtain ⟨y, hy, e⟩ := List.mem_map.1 h
  exact ⟨y, hy, by omega⟩
theorem RecW.all {K N sq s0 p0 : Nat} {c : Int → List UInt8} {B X : List (List UInt8)} {H : List Chg} (R : RecW K N c sq B s0 p0 H) (hX : X.length = N) (h : ∀ b : Nat, b < N → (b : Int) ∉ atsH H → X.getD b [] = B.getD b []) : setAll X H.flatten = B := by
  refine list_ext (by rw [setAll_len, hX, R.len]) (fun b hb => ?_)
  rw [setAll_len, hX] at hb
  rw [setAll_at _ _ _ (by omega)]
  by_cases hh : (b : Int) ∈ atsH H
  · exact R.last b hb hh _
  · rw [foldAt_out _ _ _ (out_of R.may hh)]
    exact h b hb hh

/-! ### other sectors -/
theorem stand_upd {K : Nat} {c : Int → List UInt8} {i : Int} {b : List UInt8} (hK : 0 < K) (hi : i < 1 ∨ (K : Int) < i) : ∀ (H : List Chg) (s p : Nat), Stand K c s p H → Stand K (upd c i b) s p H
  | [], _, _, _ => trivial
  | l :: H, s, p, ⟨h1, h2, h3⟩ => by
    have hne : ∀ r, secAt K p r ≠ i := fun r => by
      have := Nat.mod_lt (p + r) hK
      unfold secAt
      omega
    exact ⟨fun r hr => by rw [upd_other (hne r)]; exact h1 r hr, by rw [upd_other (hne _)]; exact h2, stand_upd hK hi H _ _ h3⟩
theorem mod_ne {p a b K : Nat} (hK : 0 < K) (h1 : a < b) (h2 : b < a + K) : (p + a) % K ≠ (p + b) % K := by
  intro h
  have e1 := Nat.div_add_mod (p + a) K
  have e2 := Nat.div_add_mod (p + b) K
  rw [h] at e1
  have h3 : (p + a) / K = (p + b) / K ∨ (p + a) / K + 1 ≤ (p + b) / K ∨ (p + b) / K + 1 ≤ (p + a) / K := by omega
  rcases h3 with h3 | h3 | h3
  · rw [h3] at e1; omega
  · have := Nat.mul_le_mul_left K h3
    rw [Nat.mul_add] at this
    omega
  · have := Nat.mul_le_mul_left K h3
    rw [Nat.mul_add] at this
    omega
theorem sec_ne {p a b K : Nat} (hK : 0 < K) (h1 : a < b) (h2 : b < a + K) : secAt K p a ≠ secAt K p b := by
  have := mod_ne (p := p) hK h1 h2
  unfold secAt
  omega
theorem secAt_mod (K p u r : Nat) : secAt K ((p + u) % K) r = secAt K p (u + r) := by
  unfold secAt
  rw [Nat.mod_add_mod, Nat.add_assoc]
theorem stand_free {K : Nat} {c : Int → List UInt8} {b : List UInt8} (hK : 0 < K) : ∀ (H : List Chg) (s p u : Nat), usedH H ≤ u → u < K → Stand K c s p H → Stand K (upd c (secAt K p u) b) s p H
  | [], _, _, _, _, _, _ => trivial
  | l :: H, s, p, u, hu, hk, ⟨h1, h2, h3⟩ => by
    unfold usedH at hu
    have e : secAt K p u = secAt K ((p + (l.length + 1)) % K) (u - (l.length + 1)) := by rw [secAt_mod, show l.length + 1 + (u - (l.length + 1)) = u from by omega]
    refine ⟨fun r hr => ?_, ?_, ?_⟩
    · rw [upd_other (sec_ne hK (by omega) (by omega))]; exact h1 r hr
    · rw [upd_other (sec_ne hK (by omega) (by omega))]; exact h2
    · rw [e]
      exact stand_free hK H _ _ _ (by omega) (by omega) h3
theorem stand_snoc {K : Nat} {c : Int → List UInt8} {l : Chg} : ∀ (H : List Chg) (s p : Nat), Stand K c s p H → (∀ r, r < l.length → c (secAt K p (usedH H + r)) = (dataFr (s + H.length + 1) l r).bytes) → c (secAt K p (usedH H + l.length)) = (comFr (s + H.length + 1) l).bytes → Stand K c s p (H ++ [l])
  | [], s, p, _, h1, h2 => ⟨fun r hr => by have := h1 r hr; simpa [usedH] using this, by simpa [usedH] using h2, trivial⟩
  | k :: H, s, p, ⟨g1, g2, g3⟩, h1, h2 => by
    refine ⟨g1, g2, stand_snoc H _ _ g3 (fun r hr => ?_) ?_⟩
    · rw [secAt_mod]
      have := h1 r hr
      unfold usedH at this
      rw [List.length_cons, Nat.add_assoc] at this
      rw [this, show s + (H.length + 1) = s + 1 + H.length from by omega]
    · rw [secAt_mod]
      have := h2
      unfold usedH at this
      rw [List.length_cons, Nat.add_assoc] at this
      rw [this, show s + (H.length + 1) = s + 1 + H.length from by omega]
theorem usedH_snoc (H : List Chg) (l : Chg) : usedH (H ++ [l]) = usedH H + (l.length + 1) := by
  induction H with
  | nil => simp [usedH]
  | cons k H ih => rw [List.cons_append, usedH, ih, usedH]; omega

/-! ### a home -/
def homeFr (s i : Nat) (b : List UInt8) : Fm := ⟨1, 0, 0, s, i, b⟩
theorem home_fine {s i : Nat} {b : List UInt8} (hs : s < 18446744073709551616) (hi : i < 400) (hb : b.length ≤ 96) : (homeFr s i b).may ∧ (homeFr s i b).fit := by
  unfold Fm.may Fm.fit homeFr
  dsimp only
  omega
theorem homOf_put {s i : Nat} {b : List UInt8} (hs : s < 18446744073709551616) (hi : i < 400) (hb : b.length ≤ 96) : homOf i (homeFr s i b).bytes = b := by
  obtain ⟨h1, h2⟩ := home_fine hs hi hb
  unfold homOf
  rw [secGet_put h1 h2]
  exact if_pos ⟨rfl, rfl, rfl, hb⟩
theorem RecW.putHome {K N sq s0 p0 : Nat} {c : Int → List UInt8} {B : List (List UInt8)} {H : List Chg} (R : RecW K N c sq B s0 p0 H) {b s : Nat} (hb : b < N) (hN : N ≤ 400) (hs : s < 18446744073709551616) (hl : (B.getD b []).length ≤ 96) :
    RecW K N (upd c (1 + (K : Int) + (b : Int)) (homeFr s b (B.getD b [])).bytes) sq B s0 p0 H where
  sup := by rw [upd_other (by omega)]; exact R.sup
  place := R.place
  seqs := R.seqs
  may := R.may
  fits := R.fits
  stand := stand_upd (Nat.lt_of_le_of_lt (Nat.zero_le _) R.place) (by omega) H _ _ R.stand
  com := fun i hi => by
    rw [upd_other (by omega)]
    exact R.com i hi
  len := R.len
  home := fun k hk hh => by
    by_cases e : k = b
    · subst e
      rw [upd_same]
      exact homOf_put hs (by omega) hl
    · rw [upd_other (by omega)]
      exact R.home k hk hh
  last := R.last
/-! ### the log -/
theorem secAt_log {K p r : Nat} (hK : 0 < K) : 1 ≤ secAt K p r ∧ secAt K p r ≤ K := by
  have := Nat.mod_lt (p + r) hK
  unfold secAt
  omega
theorem RecW.putLog {K N sq s0 p0 u : Nat} {c : Int → List UInt8} {B : List (List UInt8)} {H : List Chg} (R : RecW K N c sq B s0 p0 H) {f : Fm} (hu : usedH H ≤ u) (hk : u < K) (hf : f.may ∧ f.fit) (h3 : f.kind ≠ 3) :
    RecW K N (upd c (secAt K p0 u) f.bytes) sq B s0 p0 H := by
  have hK : 0 < K := by omega
  have hs := secAt_log (p := p0) (r := u) hK
  exact {
    sup := by rw [upd_other (by omega)]; exact R.sup
    place := R.place
    seqs := R.seqs
    may := R.may
    fits := R.fits
    stand := stand_free hK H _ _ u hu hk R.stand
    com := fun i hi h1 h2 => by
      by_cases e : ((1 + i : Nat) : Int) = secAt K p0 u
      · rw [e, upd_same, secGet_put hf.1 hf.2] at h2
        exact absurd h2 h3
      · rw [upd_other e] at h1 h2 ⊢
        exact R.com i hi h1 h2
    len := R.len
    home := fun k hk hh => by
      rw [upd_other (by omega)]
      exact R.home k hk hh
    last := R.last }
theorem RecW.putCom {K N sq s0 p0 : Nat} {c : Int → List UInt8} {B : List (List UInt8)} {H : List Chg} {l : Chg} (R : RecW K N c sq B s0 p0 H) (hN : N ≤ 400) (hl : mayW N l) (hu : usedH H + (l.length + 1) ≤ K) (hs : sq + 1 < 18446744073709551616)
    (hd : ∀ r, r < l.length → c (secAt K p0 (usedH H + r)) = (dataFr (sq + 1) l r).bytes) :
    RecW K N (upd c (secAt K p0 (usedH H + l.length)) (comFr (sq + 1) l).bytes) (sq + 1) (setAll B l) s0 p0 (H ++ [l]) := by
  have hK : 0 < K := by omega
  have hse := secAt_log (p := p0) (r := usedH H + l.length) hK
  have hf := com_fine hl hs
  have hseq := R.seqs
  exact {
    sup := by rw [upd_other (by omega)]; exact R.sup
    place := R.place
    seqs := by rw [List.length_append, List.length_singleton]; omega
    may := fun x hx => by
      rcases List.mem_append.1 hx with hx | hx
      · exact R.may x hx
      · rw [List.mem_singleton.1 hx]; exact hl
    fits := by rw [usedH_snoc]; exact hu
    stand := stand_snoc H _ _ (stand_free hK H _ _ _ (by omega) (by omega) R.stand) (fun r hr => by
      rw [upd_other (sec_ne hK (by omega) (by omega)), hd r hr, hseq]) (by rw [upd_same, hseq])
    com := fun i hi h1 h2 => by
      by_cases e : ((1 + i : Nat) : Int) = secAt K p0 (usedH H + l.length)
      · rw [e, upd_same, secGet_put hf.1 hf.2]
        exact Nat.le_refl _
      · rw [upd_other e] at h1 h2 ⊢
        exact Nat.le_succ_of_le (R.com i hi h1 h2)
    len := by rw [setAll_len]; exact R.len
    home := fun k hk hh => by
      have hh1 : (k : Int) ∉ atsH H := fun h => hh (by unfold atsH at h ⊢; rw [List.flatten_append, List.map_append]; exact List.mem_append_left _ h)
      have hh2 : ∀ y ∈ l, y.1.toNat ≠ k := fun y hy e => by
        obtain ⟨i, hi, rfl⟩ := List.getElem_of_mem hy
        have := (may_at hl hi).1
        rw [wAt_eq hi] at e
        refine hh ?_
        unfold atsH
        rw [List.flatten_append, List.map_append]
        refine List.mem_append_right _ (List.mem_map.2 ⟨wAt l i, by rw [← wAt_eq hi]; simp, by omega⟩)
      rw [upd_other (by omega), R.home k hk hh1, setAll_at _ _ _ (by rw [R.len]; exact hk), foldAt_out _ _ _ hh2]
    last := fun k hk hh x => by
      rw [List.flatten_append, foldAt_app, setAll_at _ _ _ (by rw [R.len]; exact hk), List.flatten_cons, List.flatten_nil, List.append_nil]
      by_cases h1 : (k : Int) ∈ atsH H
      · rw [R.last k hk h1]
      · have h2 : ∃ y ∈ l, y.1.toNat = k := by
          unfold atsH at hh h1
          rw [List.flatten_append, List.map_append] at hh
          rcases List.mem_append.1 hh with h | h
          · exact absurd h h1
          · obtain ⟨y, hy, e⟩ := List.mem_map.1 h
            exact ⟨y, by simpa using hy, by omega⟩
        exact foldAt_in _ _ _ _ h2 }
/-! ### all is home -/
def superFr (s p : Nat) : Fm := ⟨4, 0, 0, s, p, []⟩
theorem super_fine {s p : Nat} (hs : s < 18446744073709551616) (hp : p < 200) : (superFr s p).may ∧ (superFr s p).fit := by
  unfold Fm.may Fm.fit superFr
  dsimp only
  simp only [List.length_nil]
  omega
theorem RecW.putSuper {K N sq s0 p0 p : Nat} {c : Int → List UInt8} {B : List (List UInt8)} {H : List Chg} (R : RecW K N c sq B s0 p0 H) (hK : K ≤ 200) (hp : p < K) (hs : sq < 18446744073709551616)
    (hh : ∀ b : Nat, b < N → homOf b (c (1 + (K : Int) + (b : Int))) = B.getD b []) : RecW K N (upd c 0 (superFr sq p).bytes) sq B sq p [] where
  sup := by
    obtain ⟨h1, h2⟩ := super_fine hs (show p < 200 by omega)
    rw [upd_same]
    unfold supOf
    rw [secGet_put h1 h2]
    exact if_pos ⟨rfl, rfl, hp⟩
  place := hp
  seqs := rfl
  may := fun _ h => by cases h
  fits := Nat.zero_le _
  stand := trivial
  com := fun i hi => by
    rw [upd_other (by omega)]
    exact R.com i hi
  len := R.len
  home := fun k hk _ => by
    rw [upd_other (by omega)]
    exact hh k hk
  last := fun k hk h => by cases h
end Go.Proofs.Ytmohjmfcbhpldaa
