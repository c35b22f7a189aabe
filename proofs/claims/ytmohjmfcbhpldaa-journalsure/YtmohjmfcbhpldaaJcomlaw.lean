/- What a commit leaves on the disk. -/
import Derived.Test.YtmohjmfcbhpldaaJalive
namespace Go.Proofs.Ytmohjmfcbhpldaa
open Gk Go
set_option linter.unusedVariables false
set_option maxHeartbeats 4000000
set_option maxRecDepth 4000
set_option linter.unusedSimpArgs false
attribute [local irreducible] Int.decLt Int.decLe Int.decEq Int.instDecidableEq Gk.Rnds Gk.E Gk.G Gk.R Gk.RD Gk.RX Gk.RO Gk.Y Gk.Ent Gk.Sat Gk.Round Gk.After Gk.Cell Gk.Sl Gk.SlA Gk.CB Gk.OK Gk.FnC Gk.Bytes Gk.BytesL Gk.StrL Gk.Buf Gk.MapI
theorem check_alive {K N : Nat} {j : Jr} {d : Dk} (A : Alive K N j d) (hu : j.used ≠ 0) :
    ((j.check d).1 = { j with used := 0 } ∧ Alive K N { j with used := 0 } (j.check d).2 ∧ (d.left = -1 → (j.check d).2.left = -1)) ∨
    (d.left ≠ -1 ∧ (j.check d).1 = { j with e := 20 } ∧ ∀ c, Choice (j.check d).2 c → Rec K N c j.seq j.B) := by
  obtain ⟨s0, p0, H, U, hh⟩ := A
  have hn := U.n
  have hK := U.K4
  have hK2 := U.K2
  have hsm := U.small
  have hp : j.place < K := by rw [U.place]; exact Nat.mod_lt _ (by omega)
  have e20 : ({ j with e := 20 } : Jr).e ≠ 0 := by show (20 : Nat) ≠ 0; decide
  have hU := U.inv
  unfold Jr.check
  rw [if_neg (by rintro (h | h); exact h U.e; exact hu h)]
  dsimp only
  rcases flush_cases (j := j) (d := d) U.e U.up (by omega) U.left with ⟨a1, a2, a3, a4, a5, a6, a7⟩ | ⟨a1, a2, a3⟩
  · obtain ⟨j1, d1, e1⟩ : ∃ j1 d1, j.flush d = (j1, d1) := ⟨_, _, rfl⟩
    rw [e1] at a2 a3 a4 a5 a6 a7 ⊢
    dsimp only at a2 a3 a4 a5 a6 a7 ⊢
    subst a2
    have hg1 : d1.get = d.get := get_flush a5 a6
    have hl1 : -1 ≤ d1.left := by
      have := U.left
      by_cases g : d.left = -1
      · rw [a7.1 g]; omega
      · rw [a7.2 (by omega)]; omega
    have hc1 : ∀ c, Choice d1 c → Rec K N c j1.seq j1.B := fun c hc => by
      rw [choice_none a6 hc, hg1]
      exact ⟨s0, p0, H, U.r0⟩
    rcases lay_cases (j := j1) (d := d1) (i := 0) (f := j1.superF) U.e a3 (super_fine (s := j1.seq) (p := j1.place) (by omega) (by omega)).1 (by omega) hl1 with ⟨b1, b2, b3, b4, b5, b6, b7⟩ | ⟨b1, b2, b3⟩
    · obtain ⟨j2, d2, e2⟩ : ∃ j2 d2, j1.lay d1 0 j1.superF = (j2, d2) := ⟨_, _, rfl⟩
      rw [e2] at b2 b3 b4 b5 b6 b7 ⊢
      dsimp only at b2 b3 b4 b5 b6 b7 ⊢
      subst b2
      have hl2 : -1 ≤ d2.left := by
        by_cases g : d1.left = -1
        · rw [b7.1 g]; omega
        · rw [b7.2 (by omega)]; omega
      have hg2 : d2.get = upd d.get 0 (superFr j2.seq j2.place).bytes := funext fun k => by rw [get_add b5 b6 k, hg1]; rfl
      have hR : RecW K N (upd d.get 0 (superFr j2.seq j2.place).bytes) j2.seq j2.B j2.seq j2.place [] := U.r0.putSuper hK2 hp (by omega) hh
      rcases flush_cases (j := j2) (d := d2) U.e b3 (by omega) hl2 with ⟨f1, f2, f3, f4, f5, f6, f7⟩ | ⟨f1, f2, f3⟩
      · obtain ⟨j3, d3, e3⟩ : ∃ j3 d3, j2.flush d2 = (j3, d3) := ⟨_, _, rfl⟩
        rw [e3] at f2 f3 f4 f5 f6 f7 ⊢
        dsimp only at f2 f3 f4 f5 f6 f7 ⊢
        subst f2
        have hg3 : d3.get = upd d.get 0 (superFr j3.seq j3.place).bytes := (get_flush f5 f6).trans hg2
        rw [if_pos U.e]
        refine .inl ⟨rfl, ⟨j3.seq, j3.place, [], ?_, fun b hb => ?_⟩, fun g => f7.1 (b7.1 (a7.1 g))⟩
        · exact { e := U.e, up := f3, log := U.log, K4 := U.K4, K2 := U.K2, N4 := U.N4, n := by rw [f4, b4, a4]; exact hn, small := hsm
                  left := by
                    by_cases g : d2.left = -1
                    · rw [f7.1 g]; omega
                    · rw [f7.2 (by omega)]; omega
                  inv := fun c hc => by rw [choice_none f6 hc, hg3]; exact hR
                  used := rfl, place := (Nat.mod_eq_of_lt hp).symm, ball := U.ball }
        · rw [hg3, upd_other (by omega)]
          exact hh b hb
      · obtain ⟨j3, d3, e3⟩ : ∃ j3 d3, j2.flush d2 = (j3, d3) := ⟨_, _, rfl⟩
        rw [e3] at f2 f3 ⊢
        dsimp only at f2 f3 ⊢
        subst f2
        rw [if_neg e20]
        refine .inr ⟨fun g => ?_, rfl, fun c hc => ?_⟩
        · have := b7.1 (a7.1 g); omega
        · refine choice_add b5 b6 hc1 (fun c hc => ?_) c ((f3.choice c).1 hc)
          rw [choice_none a6 hc, hg1]
          exact ⟨_, _, _, hR⟩
    · obtain ⟨j2, d2, e2⟩ : ∃ j2 d2, j1.lay d1 0 j1.superF = (j2, d2) := ⟨_, _, rfl⟩
      rw [e2] at b2 b3 ⊢
      dsimp only at b2 b3 ⊢
      subst b2
      rw [flush_dead e20]
      dsimp only
      rw [if_neg e20]
      refine .inr ⟨fun g => ?_, rfl, fun c hc => hc1 c ((b3.choice c).1 hc)⟩
      have := a7.1 g; omega
  · obtain ⟨j1, d1, e1⟩ : ∃ j1 d1, j.flush d = (j1, d1) := ⟨_, _, rfl⟩
    rw [e1] at a2 a3 ⊢
    dsimp only at a2 a3 ⊢
    subst a2
    rw [lay_dead e20]
    dsimp only
    rw [flush_dead e20]
    dsimp only
    rw [if_neg e20]
    exact .inr ⟨by omega, rfl, fun c hc => ⟨s0, p0, H, hU c ((a3.choice c).1 hc)⟩⟩

theorem chAt_eq {K N s0 p0 : Nat} {j : Jr} {d : Dk} {H : List Chg} (U : Up K N j d s0 p0 H) (k : Nat) : j.chAt k = secAt K p0 (usedH H + k) := by
  rw [← secAt_mod, ← U.place, ← U.log]
  rfl
theorem putF_data {K N s0 p0 : Nat} {j : Jr} {d : Dk} {H : List Chg} (U : Up K N j d s0 p0 H) {l : Chg} {k : Nat} (hk : k < l.length) : j.putF l k = dataFr (j.seq + 1) l k := by
  have := U.small
  unfold Jr.putF
  rw [if_pos hk, Nat.mod_eq_of_lt (by omega)]
  rfl
theorem putF_com {K N s0 p0 : Nat} {j : Jr} {d : Dk} {H : List Chg} (U : Up K N j d s0 p0 H) {l : Chg} : j.putF l l.length = comFr (j.seq + 1) l := by
  have := U.small
  unfold Jr.putF
  rw [if_neg (Nat.lt_irrefl _), Nat.mod_eq_of_lt (by omega)]
  rfl
theorem fewer_left {d d' : Dk} (h : d.fewer d') (h0 : d.left ≠ 0) (hl : -1 ≤ d.left) : -1 ≤ d'.left := by
  by_cases g : d.left = -1
  · rw [h.1 g]; omega
  · rw [h.2 (by omega)]; omega
theorem puts_alive {K N s0 p0 : Nat} {j : Jr} {d : Dk} {H : List Chg} {l : Chg} (U : Up K N j d s0 p0 H) (hl : mayW N l) (hu : usedH H + (l.length + 1) ≤ K) : ∀ k, k ≤ l.length →
    ((j.puts l (j, d) k).1 = j ∧ Up K N j (j.puts l (j, d) k).2 s0 p0 H ∧ (∀ r, r < k → (j.puts l (j, d) k).2.get (secAt K p0 (usedH H + r)) = (dataFr (j.seq + 1) l r).bytes) ∧ (∀ i : Int, i < 1 ∨ (K : Int) < i → (j.puts l (j, d) k).2.get i = d.get i) ∧ (d.left = -1 → (j.puts l (j, d) k).2.left = -1) ∧ (0 ≤ d.left → (j.puts l (j, d) k).2.left = d.left - k ∧ (k : Int) ≤ d.left)) ∨
    ((j.puts l (j, d) k).1 = { j with e := 20 } ∧ d.left ≠ -1 ∧ ∀ c, Choice (j.puts l (j, d) k).2 c → RecW K N c j.seq j.B s0 p0 H)
  | 0, _ => .inl ⟨rfl, U, fun r hr => by omega, fun i _ => rfl, id, fun h => ⟨by show d.left = d.left - ((0 : Nat) : Int); omega, by omega⟩⟩
  | k + 1, hk => by
    have e20 : ({ j with e := 20 } : Jr).e ≠ 0 := by show (20 : Nat) ≠ 0; decide
    have hsm := U.small
    have hK := U.K4
    have hn := U.n
    have ih := puts_alive U hl hu k (by omega)
    rw [Jr.puts]
    obtain ⟨j1, d1, e1⟩ : ∃ j1 d1, j.puts l (j, d) k = (j1, d1) := ⟨_, _, rfl⟩
    rw [e1] at ih ⊢
    dsimp only at ih
    have hp : ∀ j1 : Jr, j.put1 l k (j1, d1) = j1.lay d1 (secAt K p0 (usedH H + k)) (dataFr (j.seq + 1) l k) := fun j1 => by
      unfold Jr.put1
      rw [if_pos (by omega), chAt_eq U, putF_data U (by omega)]
    rw [hp]
    have hf := data_fine (s := j.seq + 1) hl U.N4 (by omega) (show k < l.length by omega)
    have hsec := secAt_log (K := K) (p := p0) (r := usedH H + k) (by omega)
    rcases ih with ⟨h1, U1, h3, h4, h5, h6⟩ | ⟨h1, h2, h3⟩
    · subst h1
      rcases lay_cases (j := j1) (d := d1) (i := secAt K p0 (usedH H + k)) (f := dataFr (j1.seq + 1) l k) U1.e U1.up hf.1 (by have := U1.n; omega) U1.left with ⟨b1, b2, b3, b4, b5, b6, b7⟩ | ⟨b1, b2, b3⟩
      · obtain ⟨j2, d2, e2⟩ : ∃ j2 d2, j1.lay d1 (secAt K p0 (usedH H + k)) (dataFr (j1.seq + 1) l k) = (j2, d2) := ⟨_, _, rfl⟩
        rw [e2] at b2 b3 b4 b5 b6 b7 ⊢
        dsimp only at b2 b3 b4 b5 b6 b7 ⊢
        subst b2
        refine .inl ⟨rfl, ?_, fun r hr => ?_, fun i hi => ?_, fun g => b7.1 (h5 g), fun g => ?_⟩
        · exact { e := U1.e, up := b3, log := U1.log, K4 := U1.K4, K2 := U1.K2, N4 := U1.N4, n := by rw [b4]; exact U1.n, small := hsm, used := U1.used, place := U1.place, ball := U1.ball
                  left := fewer_left b7 b1 U1.left
                  inv := choice_add b5 b6 U1.inv (fun c hc => (U1.inv c hc).putLog (by omega) (by omega) hf (by show (2 : Nat) ≠ 3; decide)) }
        · rw [get_add b5 b6]
          by_cases e : r = k
          · subst e; rw [upd_same]
          · rw [upd_other (sec_ne (by omega) (by omega) (by omega))]
            exact h3 r (by omega)
        · rw [get_add b5 b6, upd_other (by omega)]
          exact h4 i hi
        · have g6 := h6 g
          have : d1.left ≠ 0 := b1
          have := b7.2 (by omega)
          omega
      · obtain ⟨j2, d2, e2⟩ : ∃ j2 d2, j1.lay d1 (secAt K p0 (usedH H + k)) (dataFr (j1.seq + 1) l k) = (j2, d2) := ⟨_, _, rfl⟩
        rw [e2] at b2 b3 ⊢
        dsimp only at b2 b3 ⊢
        subst b2
        refine .inr ⟨rfl, fun g => ?_, fun c hc => U1.inv c ((b3.choice c).1 hc)⟩
        have := h5 g; omega
    · subst h1
      rw [lay_dead e20]
      exact .inr ⟨rfl, h2, h3⟩
theorem setAll_ball {N : Nat} {B : List (List UInt8)} {l : Chg} (hl : mayW N l) (hB : ∀ b, (B.getD b []).length ≤ 96) : ∀ b, ((setAll B l).getD b []).length ≤ 96 := by
  intro b
  by_cases hb : b < B.length
  · rw [setAll_at _ _ _ hb]
    have : ∀ (l : Chg) (x : List UInt8), x.length ≤ 96 → (∀ y ∈ l, y.2.length ≤ 96) → (foldAt x b l).length ≤ 96 := by
      intro l
      induction l with
      | nil => intro x hx _; exact hx
      | cons y l ih =>
        intro x hx hy
        rw [foldAt]
        refine ih _ ?_ (fun z hz => hy z (by simp [hz]))
        split
        · exact hy y (by simp)
        · exact hx
    refine this _ _ (hB b) (fun y hy => ?_)
    obtain ⟨i, hi, rfl⟩ := List.getElem_of_mem hy
    rw [wAt_eq hi]
    exact (may_at hl hi).2.2
  · rw [List.getD_eq_getElem?_getD, List.getElem?_eq_none (by rw [setAll_len]; omega)]
    simp
theorem write_alive {K N s0 p0 : Nat} {j : Jr} {d : Dk} {H : List Chg} {l : Chg} (U : Up K N j d s0 p0 H) (hl : mayW N l) (hu : usedH H + (l.length + 1) ≤ K) (hs : j.seq + 1 < 1000000000) :
    ((j.write d l).1 = j ∧ Up K N (j.on l) (j.write d l).2 s0 p0 (H ++ [l]) ∧ (∀ i : Int, i < 1 ∨ (K : Int) < i → (j.write d l).2.get i = d.get i) ∧ (d.left = -1 → (j.write d l).2.left = -1) ∧ (d.left = -1 ∨ (l.length : Int) < d.left)) ∨
    ((j.write d l).1 = { j with e := 20 } ∧ d.left ≠ -1 ∧ (∀ c, Choice (j.write d l).2 c → Rec K N c j.seq j.B ∨ Rec K N c (j.seq + 1) (setAll j.B l)) ∧ (d.left ≤ l.length → ∀ c, Choice (j.write d l).2 c → Rec K N c j.seq j.B)) := by
  have e20 : ({ j with e := 20 } : Jr).e ≠ 0 := by show (20 : Nat) ≠ 0; decide
  have hK := U.K4
  have hn := U.n
  have hf := com_fine (s := j.seq + 1) hl (by omega)
  have hsec := secAt_log (K := K) (p := p0) (r := usedH H + l.length) (by omega)
  unfold Jr.write
  rw [Jr.puts]
  have ih := puts_alive U hl hu l.length (Nat.le_refl _)
  obtain ⟨j1, d1, e1⟩ : ∃ j1 d1, j.puts l (j, d) l.length = (j1, d1) := ⟨_, _, rfl⟩
  rw [e1] at ih ⊢
  dsimp only at ih
  have hp : j.put1 l l.length (j1, d1) = (j1.flush d1).1.lay (j1.flush d1).2 (secAt K p0 (usedH H + l.length)) (comFr (j.seq + 1) l) := by
    unfold Jr.put1
    rw [if_neg (Nat.lt_irrefl _), chAt_eq U, putF_com U]
  rw [hp]
  rcases ih with ⟨h1, U1, h3, h4, h5, h6⟩ | ⟨h1, h2, h3⟩
  · subst h1
    have hS1 : ∀ c, Choice d1 c → Rec K N c j1.seq j1.B := fun c hc => ⟨s0, p0, H, U1.inv c hc⟩
    rcases flush_cases (j := j1) (d := d1) U1.e U1.up (by have := U1.n; omega) U1.left with ⟨a1, a2, a3, a4, a5, a6, a7⟩ | ⟨a1, a2, a3⟩
    · obtain ⟨j2, d2, e2⟩ : ∃ j2 d2, j1.flush d1 = (j2, d2) := ⟨_, _, rfl⟩
      rw [e2] at a2 a3 a4 a5 a6 a7 ⊢
      dsimp only at a2 a3 a4 a5 a6 a7 ⊢
      subst a2
      have hg2 : d2.get = d1.get := get_flush a5 a6
      have hlong : d.left = -1 ∨ (l.length : Int) < d.left := by
        have := U.left
        by_cases g : d.left = -1
        · exact .inl g
        · have := h6 (by omega); exact .inr (by omega)
      have hS2 : ∀ c, Choice d2 c → RecW K N c j2.seq j2.B s0 p0 H := fun c hc => by
        rw [choice_none a6 hc, hg2]; exact U1.r0
      have hR : RecW K N (upd d2.get (secAt K p0 (usedH H + l.length)) (comFr (j2.seq + 1) l).bytes) (j2.seq + 1) (setAll j2.B l) s0 p0 (H ++ [l]) :=
        (hS2 _ (get_choice d2)).putCom U1.N4 hl hu (by omega) (fun r hr => by rw [hg2]; exact h3 r hr)
      rcases lay_cases (j := j2) (d := d2) (i := secAt K p0 (usedH H + l.length)) (f := comFr (j2.seq + 1) l) U1.e a3 hf.1 (by have := U1.n; omega) (fewer_left a7 a1 U1.left) with ⟨b1, b2, b3, b4, b5, b6, b7⟩ | ⟨b1, b2, b3⟩
      · obtain ⟨j3, d3, e3⟩ : ∃ j3 d3, j2.lay d2 (secAt K p0 (usedH H + l.length)) (comFr (j2.seq + 1) l) = (j3, d3) := ⟨_, _, rfl⟩
        rw [e3] at b2 b3 b4 b5 b6 b7 ⊢
        dsimp only at b2 b3 b4 b5 b6 b7 ⊢
        subst b2
        have hl2 := fewer_left a7 a1 U1.left
        have hg3 : d3.get = upd d2.get (secAt K p0 (usedH H + l.length)) (comFr (j3.seq + 1) l).bytes := funext fun k => get_add b5 b6 k
        rcases flush_cases (j := j3) (d := d3) U1.e b3 (by have := U1.n; omega) (fewer_left b7 b1 hl2) with ⟨f1, f2, f3, f4, f5, f6, f7⟩ | ⟨f1, f2, f3⟩
        · obtain ⟨j4, d4, e4⟩ : ∃ j4 d4, j3.flush d3 = (j4, d4) := ⟨_, _, rfl⟩
          rw [e4] at f2 f3 f4 f5 f6 f7 ⊢
          dsimp only at f2 f3 f4 f5 f6 f7 ⊢
          subst f2
          have hg4 : d4.get = d3.get := get_flush f5 f6
          have hseq : (j4.on l).seq = j4.seq + 1 := Nat.mod_eq_of_lt (by omega)
          refine .inl ⟨rfl, ?_, fun i hi => ?_, fun g => f7.1 (b7.1 (a7.1 (h5 g))), hlong⟩
          · exact { e := U1.e, up := f3, log := U1.log, K4 := U1.K4, K2 := U1.K2, N4 := U1.N4, n := by rw [f4, b4, a4]; exact U1.n, small := by rw [hseq]; exact hs
                    left := fewer_left f7 f1 (fewer_left b7 b1 hl2)
                    inv := fun c hc => by
                      rw [choice_none f6 hc, hg4, hg3, hseq]
                      exact hR
                    used := by rw [usedH_snoc]; show j4.used + (l.length + 1) = _; rw [U1.used]
                    place := by
                      rw [usedH_snoc]
                      show (j4.place + (l.length + 1)) % j4.log = _
                      rw [U1.place, U1.log, Nat.mod_add_mod, Nat.add_assoc]
                    ball := setAll_ball hl U1.ball }
          · rw [hg4, hg3, upd_other (by omega), hg2]
            exact h4 i hi
        · obtain ⟨j4, d4, e4⟩ : ∃ j4 d4, j3.flush d3 = (j4, d4) := ⟨_, _, rfl⟩
          rw [e4] at f2 f3 ⊢
          dsimp only at f2 f3 ⊢
          subst f2
          refine .inr ⟨rfl, fun g => ?_, fun c hc => ?_, fun g => ?_⟩
          · have := b7.1 (a7.1 (h5 g)); omega
          · refine choice_add b5 b6 (R := fun c => Rec K N c j3.seq j3.B ∨ Rec K N c (j3.seq + 1) (setAll j3.B l)) (fun c hc => .inl ⟨_, _, _, hS2 c hc⟩) (fun c hc => .inr ?_) c ((f3.choice c).1 hc)
            rw [choice_none a6 hc]
            exact ⟨_, _, _, hR⟩
          · exfalso
            rcases hlong with h | h
            · have := b7.1 (a7.1 (h5 h)); omega
            · omega
      · obtain ⟨j3, d3, e3⟩ : ∃ j3 d3, j2.lay d2 (secAt K p0 (usedH H + l.length)) (comFr (j2.seq + 1) l) = (j3, d3) := ⟨_, _, rfl⟩
        rw [e3] at b2 b3 ⊢
        dsimp only at b2 b3 ⊢
        subst b2
        rw [flush_dead e20]
        have hS3 : ∀ c, Choice d3 c → Rec K N c j2.seq j2.B := fun c hc => ⟨_, _, _, hS2 c ((b3.choice c).1 hc)⟩
        refine .inr ⟨rfl, fun g => ?_, fun c hc => .inl (hS3 c hc), fun _ => hS3⟩
        have := a7.1 (h5 g); omega
    · obtain ⟨j2, d2, e2⟩ : ∃ j2 d2, j1.flush d1 = (j2, d2) := ⟨_, _, rfl⟩
      rw [e2] at a2 a3 ⊢
      dsimp only at a2 a3 ⊢
      subst a2
      rw [lay_dead e20]
      dsimp only
      rw [flush_dead e20]
      have hS2 : ∀ c, Choice d2 c → Rec K N c j1.seq j1.B := fun c hc => hS1 c ((a3.choice c).1 hc)
      refine .inr ⟨rfl, fun g => ?_, fun c hc => .inl (hS2 c hc), fun _ => hS2⟩
      have := h5 g; omega
  · subst h1
    rw [flush_dead e20]
    dsimp only
    rw [lay_dead e20]
    dsimp only
    rw [flush_dead e20]
    exact .inr ⟨rfl, h2, fun c hc => .inl ⟨_, _, _, h3 c hc⟩, fun _ c hc => ⟨_, _, _, h3 c hc⟩⟩
theorem homes_eq (l : Chg) (x : Jr × Dk) : ∀ k, k ≤ l.length → homes l x k = homeAll ((l.take k).map (·.1)) x
  | 0, _ => rfl
  | k + 1, hk => by
    rw [homes, homes_eq l x k (by omega), List.take_succ_eq_append_getElem (by omega), List.map_append, List.map_singleton, homeAll_snoc, wAt_eq (by omega)]
theorem commit_alive {K N : Nat} {j : Jr} {d : Dk} (A : Alive K N j d) (l : Chg) (hs : j.seq + 1 < 1000000000) :
    (¬ mayW N l ∧ j.commit d l = ((j, d), 1)) ∨ (mayW N l ∧ K ≤ l.length ∧ j.commit d l = ((j, d), 21)) ∨
    (mayW N l ∧ l.length < K ∧ (j.commit d l).2 = 0 ∧ (j.commit d l).1.1.B = setAll j.B l ∧ (j.commit d l).1.1.seq = j.seq + 1 ∧ ((j.commit d l).1.1.used ≤ K ∧ (j.used + l.length < K → (j.commit d l).1.1.used = j.used + (l.length + 1))) ∧
      (d.left = -1 → Alive K N (j.commit d l).1.1 (j.commit d l).1.2 ∧ (j.commit d l).1.2.left = -1) ∧
      (Alive K N (j.commit d l).1.1 (j.commit d l).1.2 ∨ ((j.commit d l).1.1.e = 20 ∧ ∀ c, Choice (j.commit d l).1.2 c → Rec K N c (j.seq + 1) (setAll j.B l))) ∧ (j.used + l.length < K → d.left = -1 ∨ (l.length : Int) < d.left)) ∨
    (mayW N l ∧ l.length < K ∧ (j.commit d l).2 = 20 ∧ d.left ≠ -1 ∧ (j.commit d l).1.1.e = 20 ∧ (∀ c, Choice (j.commit d l).1.2 c → Rec K N c j.seq j.B ∨ Rec K N c (j.seq + 1) (setAll j.B l)) ∧
      (j.used + l.length < K → d.left ≤ l.length → ∀ c, Choice (j.commit d l).1.2 c → Rec K N c j.seq j.B)) := by
  obtain ⟨s0, p0, H, U, hh⟩ := id A
  have hBN := U.r0.len
  have hlg := U.log
  unfold Jr.commit
  rw [if_neg (fun h => h U.e), hBN, hlg]
  by_cases h1 : mayW N l
  · rw [if_neg (fun h => h h1)]
    by_cases h2 : K ≤ l.length
    · rw [if_pos h2]
      exact .inr (.inl ⟨h1, h2, rfl⟩)
    · rw [if_neg h2]
      dsimp only
      have room : ((j.room d l).1.e = 0 ∧ Alive K N (j.room d l).1 (j.room d l).2 ∧ (j.room d l).1.B = j.B ∧ (j.room d l).1.seq = j.seq ∧ (j.room d l).1.used + (l.length + 1) ≤ K ∧ (d.left = -1 → (j.room d l).2.left = -1) ∧ (j.used + l.length < K → j.room d l = (j, d))) ∨
          ((j.room d l).1.e = 20 ∧ d.left ≠ -1 ∧ (∀ c, Choice (j.room d l).2 c → Rec K N c j.seq j.B) ∧ ¬ j.used + l.length < K) := by
        unfold Jr.room
        rw [hlg]
        by_cases h3 : K - j.used ≤ l.length
        · rw [if_pos h3]
          rcases check_alive A (by omega) with ⟨g1, g2, g3⟩ | ⟨g1, g2, g3⟩
          · rw [g1]
            exact .inl ⟨U.e, g2, rfl, rfl, by show 0 + (l.length + 1) ≤ K; omega, g3, fun h => by omega⟩
          · rw [g2]
            exact .inr ⟨rfl, g1, g3, by omega⟩
        · rw [if_neg h3]
          exact .inl ⟨U.e, A, rfl, rfl, by show j.used + (l.length + 1) ≤ K; omega, id, fun _ => rfl⟩
      obtain ⟨j1, d1, e1⟩ : ∃ j1 d1, j.room d l = (j1, d1) := ⟨_, _, rfl⟩
      rw [e1] at room ⊢
      dsimp only at room ⊢
      rcases room with ⟨r1, ⟨s1, p1, H1, U1, hh1⟩, r3, r4, r5, r6, r7⟩ | ⟨r1, r2, r3, r4⟩
      · rw [if_neg (fun h => h r1)]
        have hw := write_alive U1 h1 (by rw [← U1.used]; exact r5) (by rw [r4]; exact hs)
        have hon : (j1.on l).seq = j.seq + 1 := by show (j1.seq + 1) % _ = _; rw [r4]; exact Nat.mod_eq_of_lt (by omega)
        have honB : (j1.on l).B = setAll j.B l := by show setAll j1.B l = _; rw [r3]
        have honu : (j1.on l).used ≤ K ∧ (j.used + l.length < K → (j1.on l).used = j.used + (l.length + 1)) := ⟨r5, fun h => by
          have := r7 h
          injection this with hj _
          rw [hj]; rfl⟩
        obtain ⟨j2, d2, e2⟩ : ∃ j2 d2, j1.write d1 l = (j2, d2) := ⟨_, _, rfl⟩
        rw [e2] at hw ⊢
        dsimp only at hw ⊢
        rcases hw with ⟨w1, U2, w3, w4, w5⟩ | ⟨w1, w2, w3, w4⟩
        · subst w1
          rw [if_neg (fun h => h r1)]
          unfold Jr.done
          rw [homes_eq l _ _ (Nat.le_refl _), List.take_length]
          have hb : ∀ b : Nat, b < N → ((b : Int) ∈ l.map (·.1) ∨ homOf b (d2.get (1 + (K : Int) + (b : Int))) = (j2.on l).B.getD b []) := fun b hb => by
            by_cases hm : (b : Int) ∈ l.map (·.1)
            · exact .inl hm
            · refine .inr ?_
              rw [w3 _ (by omega), hh1 b hb]
              show _ = (setAll j2.B l).getD b []
              rw [setAll_at _ _ _ (by rw [U1.r0.len]; exact hb), foldAt_out]
              intro y hy e
              obtain ⟨i, hi, rfl⟩ := List.getElem_of_mem hy
              have := (may_at h1 hi).1
              rw [wAt_eq hi] at e
              exact hm (List.mem_map.2 ⟨wAt l i, by rw [← wAt_eq hi]; simp, by omega⟩)
          have ha := U2.homeAll (l.map (·.1)) (fun x hx => by
            obtain ⟨y, hy, rfl⟩ := List.mem_map.1 hx
            obtain ⟨i, hi, rfl⟩ := List.getElem_of_mem hy
            rw [wAt_eq hi]
            have := may_at h1 hi
            omega)
          obtain ⟨j3, d3, e3⟩ : ∃ j3 d3, homeAll (l.map (·.1)) (j2.on l, d2) = (j3, d3) := ⟨_, _, rfl⟩
          rw [e3] at ha ⊢
          dsimp only at ha ⊢
          have hlast : j.used + l.length < K → d.left = -1 ∨ (l.length : Int) < d.left := fun h => by
            have := r7 h
            injection this with _ hd
            rw [hd] at w5
            exact w5
          rcases ha with ⟨a1, a2, a3, a4⟩ | ⟨a1, a2, a3⟩
          · have hal : Alive K N j3 d3 := ⟨s1, p1, H1 ++ [l], by rw [a1]; exact a2, fun b hb' => by rw [a1]; exact a3 b hb' (hb b hb')⟩
            exact .inr (.inr (.inl ⟨h1, by omega, rfl, by rw [a1]; exact honB, by rw [a1]; exact hon, by rw [a1]; exact honu, fun g => ⟨hal, a4 (w4 (r6 g))⟩, .inl hal, hlast⟩))
          · refine .inr (.inr (.inl ⟨h1, by omega, rfl, by rw [a2]; exact honB, by rw [a2]; exact hon, by rw [a2]; exact honu, fun g => absurd (w4 (r6 g)) a1, .inr ⟨by rw [a2], fun c hc => ?_⟩, hlast⟩))
            have := a3 c hc
            rw [hon, honB] at this
            exact ⟨_, _, _, this⟩
        · subst w1
          have e20 : ({ j1 with e := 20 } : Jr).e ≠ 0 := by show (20 : Nat) ≠ 0; decide
          rw [if_pos e20]
          rw [r4, r3] at w3 w4
          refine .inr (.inr (.inr ⟨h1, by omega, rfl, fun g => w2 (r6 g), rfl, w3, fun h g => ?_⟩))
          have := r7 h
          injection this with _ hd
          exact w4 (by rw [hd]; exact g)
      · rw [if_pos (by omega)]
        exact .inr (.inr (.inr ⟨h1, by omega, r1, r2, r1, fun c hc => .inl (r3 c hc), fun h => absurd h r4⟩))
  · rw [if_pos h1]
    exact .inl ⟨h1, rfl⟩
end Go.Proofs.Ytmohjmfcbhpldaa
