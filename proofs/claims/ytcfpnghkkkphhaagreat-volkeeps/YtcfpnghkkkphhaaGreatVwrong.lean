/- What isn't as it must be. -/
import Derived.Test.YtcfpnghkkkphhaaGreatVsmall
namespace Go.Proofs.YtcfpnghkkkphhaaGreat
open Gk Go
set_option linter.unusedVariables false
set_option maxHeartbeats 4000000
set_option maxRecDepth 4000
set_option linter.unusedSimpArgs false
attribute [local irreducible] Int.decLt Int.decLe Int.decEq Int.instDecidableEq Gk.Rnds Gk.E Gk.G Gk.R Gk.RD Gk.RX Gk.RO Gk.Y Gk.Ent Gk.Sat Gk.Round Gk.After Gk.Cell Gk.Sl Gk.SlA Gk.CB Gk.OK Gk.FnC Gk.Bytes Gk.BytesL Gk.StrL Gk.Buf Gk.MapI
/-- Is a block's state as it must be? -/
def blkFine (t : Tx) (k : Nat) : Prop := (t.own 24).getD k 0 ≤ 1 ∧ (hasB (t.get 9) k = decide ((t.own 24).getD k 0 = 1)) ∧ ((t.own 24).getD k 0 = 0 → t.get (35 + (k : Int)) = [])
/-- Is all as it must be? -/
def volFine (t : Tx) : Prop := t.right ∧ (volAll t).2 = 0 ∧ (volChange t).2 = 0 ∧ (∀ k, k < t.was.length - 35 → blkFine t k) ∧ cntB (t.get 9) 768 = cntB (t.get 9) (t.was.length - 35)
attribute [local irreducible] cntB Tx.slotsE Tx.own volAll volChange
theorem vwrong_c {p m : Nat} {t : Tx} (h : True) : Con Tryz.prog 14 [tptr p] [] [Tn p m t] [] fun r T Φ => ∃ s, r = str s ∧ T = [] ∧ Φ = [] ∧ (s = [] ↔ volFine t) := by
  refine con_of (fun O0 w0 F => ?_)
  refine tidy F (fun F => ?_)
  refine fn_of _ Tryz.func14 rfl (by kernel_rfl) Tryz.ntmps14 rfl ?_
  have hbig := (tnAt (t := t) F).get_big
  refine go_on ?_
  refine f_call F rfl rfl (vright_c (t := t)) ?_ (hp := trivial)
  clear F; rintro r O w T Φ ⟨rfl, rfl, rfl⟩ F0
  refine tidy F0 (fun F => ?_); clear F0
  by_cases hr : t.right
  · have hr1 : 35 < t.was.length := hr.1
    have hr2 : t.was.length ≤ 803 := hr.2
    rw [decide_eq_true hr]
    refine go_on ?_
    refine f_call F rfl rfl (vall_c (t := t)) ?_ (hp := trivial)
    clear F; rintro r O w T Φ ⟨av, rfl, rfl, rfl⟩ F0
    refine tidy F0 (fun F => ?_); clear F0
    obtain ⟨al, ae, hA⟩ : ∃ al ae, volAll t = (al, ae) := ⟨_, _, (Prod.eta _).symm⟩
    have hF1 : volFine t → ae = 0 := fun k => by have := k.2.1; rw [hA] at this; exact this
    rw [hA] at F
    rw [hA]
    dsimp only at F ⊢
    by_cases ha : ae = 0
    · subst ha
      have hA2 : (volAll t).2 = 0 := by rw [hA]
      clear hA hF1
      refine go_on ?_
      refine f_call F rfl rfl (vchange_c (t := t)) ?_ (hp := trivial)
      clear F; rintro r O w T Φ ⟨rfl, rfl, rfl⟩ F0
      refine tidy F0 (fun F => ?_); clear F0
      obtain ⟨cx, ce, hC⟩ : ∃ cx ce, volChange t = (cx, ce) := ⟨_, _, (Prod.eta _).symm⟩
      have hF2 : volFine t → ce = 0 := fun k => by have := k.2.2.1; rw [hC] at this; exact this
      rw [hC]
      dsimp only
      by_cases hc : ce = 0
      · subst hc
        have hC2 : (volChange t).2 = 0 := by rw [hC]
        clear hC hF2
        refine go_on ?_
        refine f_call F rfl rfl (txnGet_c (t := t)) ?_ (hp := trivial)
        clear F; rintro r O w T Φ ⟨rfl, rfl⟩ F0
        refine tidy F0 (fun F => ?_); clear F0
        refine go_on ?_
        refine f_call F rfl rfl (vowned_c (t := t)) ?_ (hp := hr)
        clear F; rintro r O w T Φ ⟨rfl, rfl⟩ F0
        refine tidy F0 (fun F => ?_); clear F0
        have hol := t.own_len 24
        have hb9 := hbig 9
        obtain ⟨b9, hb⟩ : ∃ b9, t.get 9 = b9 := ⟨_, rfl⟩
        obtain ⟨ow, ho⟩ : ∃ ow, t.own 24 = ow := ⟨_, rfl⟩
        obtain ⟨N, hN⟩ : ∃ N, t.was.length - 35 = N := ⟨_, rfl⟩
        have hfine : volFine t ↔ (∀ k, k < N → ow.getD k 0 ≤ 1 ∧ (hasB b9 k = decide (ow.getD k 0 = 1)) ∧ (ow.getD k 0 = 0 → t.get (35 + (k : Int)) = [])) ∧ cntB b9 768 = cntB b9 N := by
          unfold volFine blkFine
          rw [hb, ho, hN]
          exact ⟨fun k => k.2.2.2, fun k => ⟨hr, hA2, hC2, k⟩⟩
        rw [hb, ho] at F
        rw [ho, hN] at hol
        rw [hb] at hb9
        clear hA2 hC2 ho hb
        obtain ⟨ra, rc, hrr, _⟩ := (F.bytes (xs := b9)).form
        subst hrr
        obtain ⟨oa, oc, hro, _⟩ := (F.sl (cs := ow.map iV)).form
        subst hro
        refine go_on ?_
        refine g_loop (X := Nat) (fun y => [(0, tptr p), (7, .slice ra b9.length rc), (30, .slice oa ow.length oc), (31, .int .i64 ow.length), (32, .int .i64 y)])
          (fun y wr => ∃ O, Fr [] O0 w0 O wr [(0, Tn p m t)] [Fact.sl (.slice oa ow.length oc) ow.length (ow.map iV), Fact.bytes (.slice ra b9.length rc) b9] ∧ y ≤ ow.length ∧ (∀ k, k < y → ow.getD k 0 ≤ 1 ∧ (hasB b9 k = decide (ow.getD k 0 = 1)) ∧ (ow.getD k 0 = 0 → t.get (35 + (k : Int)) = []))) (fun y => ow.length - y)
          0 (sub_cons rfl rfl (sub_cons rfl rfl (sub_cons rfl rfl (sub_cons rfl rfl (sub_cons rfl rfl (sub_nil)))))) ⟨_, F.wk, Nat.zero_le _, fun k hk => absurd hk (Nat.not_lt_zero _)⟩ ?_
        clear F
        rintro i w ⟨O, F, hi, hok⟩
        refine go_on ?_
        refine g_dec rfl (fun g => ?_) (fun g => ?_)
        · have hi' : i < ow.length := by omega
          have hno : ∀ s : List UInt8, s ≠ [] → ¬ (ow.getD i 0 ≤ 1 ∧ (hasB b9 i = decide (ow.getD i 0 = 1)) ∧ (ow.getD i 0 = 0 → t.get (35 + (i : Int)) = [])) → (s = [] ↔ volFine t) := fun s hs hn => ⟨fun e => absurd e hs, fun k => absurd ((hfine.1 k).1 i (by omega)) hn⟩
          refine go_on ?_
          obtain ⟨x, hx9, hc⟩ := ((F.sl (cs := ow.map iV))).atm hi'
          (first | subst hx9 | (injection hx9 with hx9; subst hx9))
          have F := F.fact (f := Fact.cell _ _) hc
          refine go_on ?_
          have hc : ow.getD i 0 = ow[i] := by rw [List.getD_eq_getElem?_getD, List.getElem?_eq_getElem hi']; rfl
          have hstep : ∀ k, k < i + 1 → (k = i ∨ k < i) := fun k hk => by omega
          rw [hc] at hno
          generalize ow[i] = c at hc hno ⊢
          refine go_on ?_
          by_cases c1 : c > 1
          · refine go_on ?_
            refine go_back ?_
            exact F.fin ⟨_, rfl, rfl, rfl, hno _ (by simp) (fun k => by omega)⟩
          · refine go_on ?_
            refine f_call F rfl rfl (bhas_c (b := b9) (i := i)) ?_ (hp := ⟨by omega, by omega⟩)
            clear F; rintro r O w T Φ ⟨rfl, rfl, rfl⟩ F0
            refine tidy F0 (fun F => ?_); clear F0
            obtain ⟨hs, hhs⟩ : ∃ hs, hasB b9 i = hs := ⟨_, rfl⟩
            rw [hhs]
            rw [hhs] at hno
            by_cases c2 : hs = decide (c = 1)
            · have hgo : t.get (35 + (i : Int)) ≠ [] → c = 0 → ∀ s : List UInt8, s ≠ [] → (s = [] ↔ volFine t) := fun hne h0 s hs0 => hno s hs0 (fun k => hne (k.2.2 h0))
              have hnx : (c = 0 → t.get (35 + (i : Int)) = []) → ∀ k, k < i + 1 → ow.getD k 0 ≤ 1 ∧ (hasB b9 k = decide (ow.getD k 0 = 1)) ∧ (ow.getD k 0 = 0 → t.get (35 + (k : Int)) = []) := fun h0 k hk => by
                by_cases e : k = i
                · subst e; rw [hc, hhs]; exact ⟨by omega, c2, h0⟩
                · exact hok k (by omega)
              clear hno hhs hok hc hstep
              by_cases h1 : c = 1
              · subst h1
                have hs1 : hs = true := by rw [c2]; rfl
                subst hs1
                refine go_on ?_
                rw [show (!(true == decide (((1 : Nat) : Int) = 1))) = false from by simp]
                refine go_on ?_
                exact e_round (i + 1) (sub_cons rfl rfl (sub_cons rfl rfl (sub_cons rfl rfl (sub_cons rfl rfl (sub_cons rfl rfl (sub_nil)))))) ⟨_, F.wk, by omega, hnx (fun h => absurd h (by decide))⟩ (by omega)
              · have hc0 : c = 0 := by omega
                subst hc0
                have hs1 : hs = false := by rw [c2]; rfl
                subst hs1
                refine go_on ?_
                rw [show (!(false == decide (((0 : Nat) : Int) = 1))) = false from by simp]
                refine go_on ?_
                refine f_call F rfl rfl (txnGet_c (t := t)) ?_ (hp := trivial)
                clear F; rintro r O w T Φ ⟨rfl, rfl⟩ F0
                refine tidy F0 (fun F => ?_); clear F0
                have hxl := hbig (35 + (i : Int))
                obtain ⟨x, hx⟩ : ∃ x, t.get (35 + (i : Int)) = x := ⟨_, rfl⟩
                rw [hx] at F hgo hnx hxl
                obtain ⟨xa, xc, rfl, _⟩ := (F.bytes (xs := x)).form
                by_cases hx0 : x.length = 0
                · have hxe : x = [] := List.length_eq_zero_iff.1 hx0
                  refine go_on ?_
                  exact e_round (i + 1) (sub_cons rfl rfl (sub_cons rfl rfl (sub_cons rfl rfl (sub_cons rfl rfl (sub_cons rfl rfl (sub_nil)))))) ⟨_, F.wk, by omega, hnx (fun _ => hxe)⟩ (by omega)
                · refine go_on ?_
                  refine go_back ?_
                  exact F.fin ⟨_, rfl, rfl, rfl, hgo (fun e => hx0 (by rw [e]; rfl)) rfl _ (by simp)⟩
            · have hd : decide ((c : Int) = 1) = decide (c = 1) := by rw [decide_eq_decide]; omega
              refine go_on ?_
              rw [show (!(hs == decide ((c : Int) = 1))) = true from by rw [hd, Bool.not_eq_true', beq_eq_false_iff_ne]; exact c2]
              refine go_on ?_
              refine go_back ?_
              exact F.fin ⟨_, rfl, rfl, rfl, hno _ (by simp) (fun k => c2 k.2.1)⟩
        · obtain rfl : ow.length = i := by omega
          refine go_on ?_
          refine f_call F rfl rfl (bcount_c (b := b9) (n := 768)) ?_ (hp := ⟨by decide, by omega⟩)
          clear F; rintro r O w T Φ ⟨rfl, rfl, rfl⟩ F0
          refine tidy F0 (fun F => ?_); clear F0
          refine go_on ?_
          refine f_call F rfl rfl (txnLen_c (t := t)) ?_ (hp := trivial)
          clear F; rintro r O w T Φ ⟨rfl, rfl, rfl⟩ F0
          refine tidy F0 (fun F => ?_); clear F0
          refine go_on ?_
          rw [show ((t.was.length : Int) - 35) = ((N : Nat) : Int) from by omega]
          refine go_on ?_
          refine f_call F rfl rfl (bcount_c (b := b9) (n := N)) ?_ (hp := ⟨by omega, by omega⟩)
          clear F; rintro r O w T Φ ⟨rfl, rfl, rfl⟩ F0
          refine tidy F0 (fun F => ?_); clear F0
          rw [hol] at hok
          by_cases he : cntB b9 768 = cntB b9 N
          · rw [he]
            refine go_on ?_
            refine go_back ?_
            exact F.fin ⟨_, rfl, rfl, rfl, fun _ => hfine.2 ⟨hok, he⟩, fun _ => rfl⟩
          · generalize cntB b9 768 = c1 at he hfine ⊢
            generalize cntB b9 N = c2 at he hfine ⊢
            refine go_on ?_
            refine go_back ?_
            exact F.fin ⟨_, rfl, rfl, rfl, fun h => by simp at h, fun k => absurd (hfine.1 k).2 he⟩
      · refine go_on ?_
        refine go_back ?_
        exact F.fin ⟨_, rfl, rfl, rfl, fun h => by simp at h, fun k => absurd (hF2 k) hc⟩
    · clear hA
      refine go_on ?_
      refine go_back ?_
      exact F.fin ⟨_, rfl, rfl, rfl, fun h => by simp at h, fun k => absurd (hF1 k) ha⟩
  · rw [decide_eq_false hr]
    refine go_on ?_
    refine go_back ?_
    exact F.fin ⟨_, rfl, rfl, rfl, fun h => by simp at h, fun k => absurd k.1 hr⟩
end Go.Proofs.YtcfpnghkkkphhaaGreat
