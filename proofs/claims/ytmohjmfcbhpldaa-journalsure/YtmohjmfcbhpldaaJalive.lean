/- A journal that goes, on its disk. -/
import Derived.Test.YtmohjmfcbhpldaaJkeep
namespace Go.Proofs.Ytmohjmfcbhpldaa
open Gk Go
set_option linter.unusedVariables false
set_option maxHeartbeats 4000000
set_option maxRecDepth 4000
set_option linter.unusedSimpArgs false
attribute [local irreducible] Int.decLt Int.decLe Int.decEq Int.instDecidableEq Gk.Rnds Gk.E Gk.G Gk.R Gk.RD Gk.RX Gk.RO Gk.Y Gk.Ent Gk.Sat Gk.Round Gk.After Gk.Cell Gk.Sl Gk.SlA Gk.CB Gk.OK Gk.FnC Gk.Bytes Gk.BytesL Gk.StrL Gk.Buf Gk.MapI
structure Up (K N : Nat) (j : Jr) (d : Dk) (s0 p0 : Nat) (H : List Chg) : Prop where
  e : j.e = 0
  up : d.up
  log : j.log = K
  K4 : 4 ≤ K
  K2 : K ≤ 200
  N4 : N ≤ 400
  n : 1 + K + N ≤ d.n
  left : -1 ≤ d.left
  small : j.seq < 1000000000
  inv : ∀ c, Choice d c → RecW K N c j.seq j.B s0 p0 H
  used : j.used = usedH H
  place : j.place = (p0 + usedH H) % K
  ball : ∀ b, (j.B.getD b []).length ≤ 96
theorem Up.r0 {K N s0 p0 : Nat} {j : Jr} {d : Dk} {H : List Chg} (U : Up K N j d s0 p0 H) : RecW K N d.get j.seq j.B s0 p0 H := U.inv _ (get_choice d)
def Alive (K N : Nat) (j : Jr) (d : Dk) : Prop := ∃ s0 p0 H, Up K N j d s0 p0 H ∧ ∀ b : Nat, b < N → homOf b (d.get (1 + (K : Int) + (b : Int))) = j.B.getD b []
def Rec (K N : Nat) (c : Int → List UInt8) (sq : Nat) (B : List (List UInt8)) : Prop := ∃ s0 p0 H, RecW K N c sq B s0 p0 H

/-! ### homes -/
theorem Up.home {K N s0 p0 i : Nat} {j : Jr} {d : Dk} {H : List Chg} (U : Up K N j d s0 p0 H) (hi : i < N) :
    (d.left ≠ 0 ∧ (j.home d i).1 = j ∧ Up K N j (j.home d i).2 s0 p0 H ∧ (∀ k, (j.home d i).2.get k = upd d.get (1 + (K : Int) + (i : Int)) (homeFr j.seq i (j.B.getD i [])).bytes k) ∧ d.fewer (j.home d i).2) ∨
    (d.left = 0 ∧ (j.home d i).1 = { j with e := 20 } ∧ d.same (j.home d i).2) := by
  have hN := U.N4
  have hn := U.n
  have hs := U.small
  have hf := home_fine (s := j.seq) (i := i) (b := j.B.getD i []) (by omega) (by omega) (U.ball i)
  have e : j.home d i = j.lay d (1 + (K : Int) + (i : Int)) (homeFr j.seq i (j.B.getD i [])) := by unfold Jr.home; rw [U.log]; rfl
  rw [e]
  rcases lay_cases (j := j) (d := d) (i := 1 + (K : Int) + (i : Int)) U.e U.up hf.1 (by omega) U.left with ⟨h1, h2, h3, h4, h5, h6, h7⟩ | h
  · refine .inl ⟨h1, h2, ?_, fun k => get_add h5 h6 k, h7⟩
    have hl := U.left
    exact { e := U.e, up := h3, log := U.log, K4 := U.K4, K2 := U.K2, N4 := U.N4, n := by rw [h4]; exact hn, small := hs, used := U.used, place := U.place, ball := U.ball
            left := by
              have := h7
              unfold Dk.fewer at this
              by_cases g : d.left = -1
              · rw [this.1 g]; omega
              · rw [this.2 (by omega)]; omega
            inv := choice_add h5 h6 U.inv (fun c hc => (U.inv c hc).putHome hi U.N4 (by omega) (U.ball i)) }
  · exact .inr h
theorem homeAll_dead {j : Jr} (he : j.e ≠ 0) (d : Dk) : ∀ ss : List Int, homeAll ss (j, d) = (j, d)
  | [] => rfl
  | i :: ss => by
    rw [homeAll]
    have : j.home d i.toNat = (j, d) := lay_dead he _ _ _
    dsimp only
    rw [this]
    exact homeAll_dead he d ss
theorem Up.homeAll {K N s0 p0 : Nat} {j : Jr} {H : List Chg} : ∀ (ss : List Int) {d : Dk}, Up K N j d s0 p0 H → (∀ x ∈ ss, 0 ≤ x ∧ x < N) →
    ((homeAll ss (j, d)).1 = j ∧ Up K N j (homeAll ss (j, d)).2 s0 p0 H ∧ (∀ b : Nat, b < N → ((b : Int) ∈ ss ∨ homOf b (d.get (1 + (K : Int) + (b : Int))) = j.B.getD b []) → homOf b ((homeAll ss (j, d)).2.get (1 + (K : Int) + (b : Int))) = j.B.getD b []) ∧ (d.left = -1 → (homeAll ss (j, d)).2.left = -1)) ∨
    (d.left ≠ -1 ∧ (homeAll ss (j, d)).1 = { j with e := 20 } ∧ ∀ c, Choice (homeAll ss (j, d)).2 c → RecW K N c j.seq j.B s0 p0 H)
  | [], d, U, _ => .inl ⟨rfl, U, fun b hb h => h.resolve_left (by simp), id⟩
  | i :: ss, d, U, hss => by
    have hi := hss i (by simp)
    obtain ⟨k, rfl⟩ : ∃ k : Nat, i = k := ⟨i.toNat, by omega⟩
    have hk : k < N := by omega
    have hN := U.N4
    have hsm := U.small
    rw [Go.Proofs.Ytmohjmfcbhpldaa.homeAll]
    dsimp only
    rw [Int.toNat_natCast]
    rcases U.home hk with ⟨h1, h2, h3, h4, h5⟩ | ⟨h1, h2, h3⟩
    · obtain ⟨j', d', e⟩ : ∃ j' d', j.home d k = (j', d') := ⟨_, _, rfl⟩
      rw [e] at h2 h3 h4 h5 ⊢
      dsimp only at h2 h3 h4 h5
      subst h2
      rcases Up.homeAll ss h3 (fun x hx => hss x (by simp [hx])) with ⟨g1, g2, g3, g4⟩ | ⟨g1, g2, g3⟩
      · refine .inl ⟨g1, g2, fun b hb hor => g3 b hb ?_, fun hl => g4 (h5.1 hl)⟩
        by_cases hbk : b = k
        · subst hbk
          refine .inr ?_
          rw [h4, upd_same]
          exact homOf_put (by omega) (by omega) (U.ball b)
        · rw [h4, upd_other (by omega)]
          rcases hor with hor | hor
          · rcases List.mem_cons.1 hor with hor | hor
            · omega
            · exact .inl hor
          · exact .inr hor
      · exact .inr ⟨fun hl => g1 (h5.1 hl), g2, g3⟩
    · obtain ⟨j', d', e⟩ : ∃ j' d', j.home d k = (j', d') := ⟨_, _, rfl⟩
      rw [e] at h2 h3 ⊢
      dsimp only at h2 h3
      subst h2
      rw [homeAll_dead (by show (20 : Nat) ≠ 0; decide)]
      exact .inr ⟨by omega, rfl, fun c hc => U.inv c ((h3.choice c).1 hc)⟩

/-! ### it is opened -/
theorem homeOk_iff {d : Dk} {K i : Nat} (hd : d.up) (hn : 1 + K + i < d.n) : (if homeOk d K i then (d.fm (1 + (K : Int) + (i : Int))).body else []) = homOf i (d.get (1 + (K : Int) + (i : Int))) := by
  have hr : d.rd (1 + (K : Int) + (i : Int)) = d.get (1 + (K : Int) + (i : Int)) := rd_get hd (by omega)
  have hf : d.fm (1 + (K : Int) + (i : Int)) = (secGet (d.get (1 + (K : Int) + (i : Int)))).1 := by unfold Dk.fm; rw [hr]
  have hi : homeOk d K i ↔ ((secGet (d.get (1 + (K : Int) + (i : Int)))).2 = 0 ∧ (secGet (d.get (1 + (K : Int) + (i : Int)))).1.kind = 1 ∧ (secGet (d.get (1 + (K : Int) + (i : Int)))).1.adr = i ∧ (secGet (d.get (1 + (K : Int) + (i : Int)))).1.body.length ≤ 96) := by
    unfold homeOk Dk.is
    rw [hf, hr, decide_eq_true_iff, and_assoc]
  unfold homOf
  by_cases h : homeOk d K i
  · rw [if_pos h, if_pos (hi.1 h), hf]
  · rw [if_neg h, if_neg (fun g => h (hi.2 g))]
theorem homOf_len (i : Nat) (b : List UInt8) : (homOf i b).length ≤ 96 := by
  unfold homOf
  split
  · rename_i h; exact h.2.2.2
  · simp
theorem opB_at {d : Dk} {K N : Nat} (hd : d.up) (hn : 1 + K + N ≤ d.n) : ∀ i, i ≤ N → ∀ b, b < N → (opB d K N i).getD b [] = if b < i then homOf b (d.get (1 + (K : Int) + (b : Int))) else []
  | 0, _, b, hb => by simp [opB, List.getD_eq_getElem?_getD, hb]
  | i + 1, hi, b, hb => by
    have ih := opB_at hd hn i (by omega) b hb
    have hh := homeOk_iff (K := K) (i := i) hd (by omega)
    unfold opB
    split
    · rename_i g
      rw [if_pos g] at hh
      rw [getD_set _ _ _ _ (by rw [opB_len]; exact hb), ih]
      by_cases e : i = b
      · subst e
        rw [if_pos rfl, if_pos (by omega), hh]
      · rw [if_neg e]
        by_cases e2 : b < i
        · rw [if_pos e2, if_pos (by omega)]
        · rw [if_neg e2, if_neg (by omega)]
    · rename_i g
      rw [if_neg g] at hh
      rw [ih]
      by_cases e : i = b
      · subst e
        rw [if_neg (by omega), if_pos (by omega), hh]
      · by_cases e2 : b < i
        · rw [if_pos e2, if_pos (by omega)]
        · rw [if_neg e2, if_neg (by omega)]
theorem openA_eq {d : Dk} {K N : Nat} (hd : d.up) (hn : 1 + K + N ≤ d.n) : openA d K N = ⟨K, opB d K N N, (supOf K (d.get 0)).1, (supOf K (d.get 0)).2, 0, 0⟩ := by
  have hr : d.rd 0 = d.get 0 := rd_get hd (by omega)
  have hf : d.fm 0 = (secGet (d.get 0)).1 := by unfold Dk.fm; rw [hr]
  have hi : superOk d K ↔ ((secGet (d.get 0)).2 = 0 ∧ (secGet (d.get 0)).1.kind = 4 ∧ (secGet (d.get 0)).1.adr < K) := by
    unfold superOk Dk.is
    rw [hf, hr, decide_eq_true_iff, and_assoc]
  unfold openA supOf
  by_cases h : superOk d K
  · rw [if_pos h, if_pos (hi.1 h), hf]
  · rw [if_neg h, if_neg (fun g => h (hi.2 g))]
theorem usedH_len (H : List Chg) {N : Nat} (hm : ∀ l ∈ H, mayW N l) : 2 * H.length ≤ usedH H := by
  induction H with
  | nil => exact Nat.zero_le _
  | cons l H ih =>
    have h1 := ih (fun x hx => hm x (by simp [hx]))
    have h2 := (hm l (by simp)).2.1
    unfold usedH
    rw [List.length_cons]
    omega
theorem open_found {d : Dk} {K N sq s0 p0 : Nat} {B : List (List UInt8)} {H : List Chg} (hd : d.up) (hn : 1 + K + N ≤ d.n) (hK : 4 ≤ K) (hK2 : K ≤ 200) (hN : N ≤ 400) (hs : sq < 1000000000) (R : RecW K N d.get sq B s0 p0 H) :
    redo d 200 (openA d K N) [] = (⟨K, B, sq, (p0 + usedH H) % K, usedH H, 0⟩, atsH H) ∧ ∀ b, (B.getD b []).length ≤ 96 := by
  have hA := openA_eq hd hn
  rw [R.sup] at hA
  dsimp only at hA
  have hX : ∀ b : Nat, b < N → (opB d K N N).getD b [] = homOf b (d.get (1 + (K : Int) + (b : Int))) := fun b hb => by rw [opB_at hd hn N (Nat.le_refl _) b hb, if_pos hb]
  have hB := R.all (X := opB d K N N) (opB_len d K N N) (fun b hb hh => by rw [hX b hb]; exact R.home b hb hh)
  have hlen := usedH_len H R.may
  have hfit := R.fits
  have hseq := R.seqs
  have hr := redo_found (N := N) hd (by omega) hK hN H (openA d K N) [] 200 (by rw [hA]) (by rw [hA]; exact opB_len d K N N) R.may (by rw [hA]; show 0 + usedH H ≤ K; omega) (by rw [hA]; exact R.stand)
    (by rw [hA]; dsimp only; rw [hseq]; exact R.com) (by rw [hA]; dsimp only; omega) (by rw [hA]; exact R.place) (by omega)
  refine ⟨?_, fun b => ?_⟩
  · rw [hr, hA]
    dsimp only
    rw [hB, hseq, Nat.zero_add, List.nil_append]
  · by_cases hb : b < N
    · rw [← hB, setAll_at _ _ _ (by rw [opB_len]; exact hb)]
      have h0 : ((opB d K N N).getD b []).length ≤ 96 := by rw [hX b hb]; exact homOf_len _ _
      have : ∀ (l : Chg) (x : List UInt8), x.length ≤ 96 → (∀ y ∈ l, y.2.length ≤ 96) → (foldAt x b l).length ≤ 96 := by
        intro l
        induction l with
        | nil => intro x hx _; exact hx
        | cons y l ih =>
          intro x hx hy
          rw [foldAt]
          refine ih _ ?_ (fun z hz => hy z (by simp [hz]))
          split
          · exact hy y (by simp)
          · exact hx
      exact this _ _ h0 (fun y hy => (ats_nat R.may hy).2.2)
    · rw [List.getD_eq_getElem?_getD, List.getElem?_eq_none (by rw [R.len]; omega)]
      simp
theorem open_alive {d : Dk} {K N sq s0 p0 : Nat} {B : List (List UInt8)} {H : List Chg} {jr : Jr} {ks ss : List Int} (hd : d.up) (hl : d.left = -1) (hn : 1 + K + N ≤ d.n) (hK : 4 ≤ K) (hK2 : K ≤ 200) (hN : N ≤ 400) (hs : sq < 1000000000)
    (R : ∀ c, Choice d c → RecW K N c sq B s0 p0 H) (hr : redo d 200 (openA d K N) [] = (jr, ks)) (hss : ∀ x, x ∈ ss ↔ x ∈ ks) :
    Alive K N (homeAll ss (jr, d)).1 (homeAll ss (jr, d)).2 ∧ (homeAll ss (jr, d)).2.left = -1 ∧ (homeAll ss (jr, d)).1 = ⟨K, B, sq, (p0 + usedH H) % K, usedH H, 0⟩ ∧ (H = [] → (homeAll ss (jr, d)).2 = d) := by
  have R0 := R _ (get_choice d)
  obtain ⟨h1, h2⟩ := open_found hd hn hK hK2 hN hs R0
  rw [h1] at hr
  injection hr with hr1 hr2
  subst hr1 hr2
  have U : Up K N ⟨K, B, sq, (p0 + usedH H) % K, usedH H, 0⟩ d s0 p0 H :=
    { e := rfl, up := hd, log := rfl, K4 := hK, K2 := hK2, N4 := hN, n := hn, left := by omega, small := hs, inv := R, used := rfl, place := rfl, ball := h2 }
  rcases U.homeAll ss (fun x hx => by
    obtain ⟨y, hy, rfl⟩ := List.mem_map.1 ((hss x).1 hx)
    have := ats_nat R0.may hy
    omega) with ⟨g1, g2, g3, g4⟩ | ⟨g1, _⟩
  · refine ⟨⟨s0, p0, H, by rw [g1]; exact g2, fun b hb => ?_⟩, g4 hl, g1, ?_⟩
    · rw [g1]
      refine g3 b hb ?_
      by_cases hh : (b : Int) ∈ atsH H
      · exact .inl ((hss _).2 hh)
      · exact .inr (R0.home b hb hh)
    · rintro rfl
      have : ss = [] := List.eq_nil_iff_forall_not_mem.2 fun x hx => by
        have := (hss x).1 hx
        cases this
      subst this
      rfl
  · exact absurd hl g1
end Go.Proofs.Ytmohjmfcbhpldaa
