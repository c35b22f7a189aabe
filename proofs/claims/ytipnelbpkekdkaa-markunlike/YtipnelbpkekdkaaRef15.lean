/- What the reference of layer 15 answers, and the laws' helpers. -/
import Derived.Test.YtipnelbpkekdkaaMark
import Derived.Test.YtipnelbpkekdkaaRef01
namespace Go.Proofs.Ytipnelbpkekdkaa
open Gk Go
set_option linter.unusedVariables false
set_option maxHeartbeats 4000000
set_option maxRecDepth 4000
set_option linter.unusedSimpArgs false
attribute [local irreducible] Int.decLt Int.decLe Int.decEq Int.instDecidableEq Gk.Rnds Gk.E Gk.G Gk.R Gk.RD Gk.RX Gk.RO Gk.Y Gk.Ent Gk.Sat Gk.Round Gk.After Gk.Cell Gk.Sl Gk.SlA Gk.CB Gk.OK Gk.FnC Gk.Bytes Gk.BytesL Gk.StrL Gk.Buf Gk.MapI
theorem stateOf_c {s : Mk} (h : True) : Con Try.prog 33 [mkV s] [] [] [] fun r T Φ => r = mkV s ∧ T = [] ∧ Φ = [] := by
  refine con_of (fun O0 w0 F => ?_)
  refine tidy F (fun F => ?_)
  refine fn_of _ Try.func33 rfl (by kernel_rfl) Try.ntmps33 rfl ?_
  refine go_on ?_
  (first | refine f_box1 F rfl rfl (fun q w F => ?_) | refine f_boxN F rfl rfl (fun q w F => ?_)); refine go_on ?_
  (first | refine f_alloc1 F rfl (fun z w F => ?_) | refine f_allocN F rfl (fun z w F => ?_)); refine go_on ?_
  refine f_storeAll F rfl rfl rfl (fun w F => ?_); refine go_on ?_
  refine go_back ?_
  exact F.fin ⟨rfl, rfl, rfl⟩

theorem rCheck15_c {s : Mk} (h : True) : Con Try.prog 40 [mkV s] [] [] [] fun r T Φ => r = errT (if s.may then 0 else 1) ∧ T = [] ∧ Φ = [] := by
  obtain ⟨owner, phase, peer, epoch, seq, base, goal, next, round⟩ := s
  change Con _ _ [.agg #[.bool owner, .int .u32 phase, .int .u32 peer, .int .u64 epoch, .int .u64 seq, .int .u64 base, .int .u64 goal, .int .u32 next, .int .u32 round]] [] [] [] _
  refine con_of (fun O0 w0 F => ?_)
  refine tidy F (fun F => ?_)
  refine fn_of _ Try.func40 rfl (by kernel_rfl) Try.ntmps40 rfl ?_
  refine go_on ?_
  (first | refine f_box1 F rfl rfl (fun q w F => ?_) | refine f_boxN F rfl rfl (fun q w F => ?_)); refine go_on ?_
  apply f_or 4 10 6 F
  · exact rfl
  · intro e; have e' := e; (try simp only [Bool.and_eq_true, Bool.or_eq_true, decide_eq_true_eq, decide_eq_false_iff_not, Bool.not_eq_true', Bool.or_eq_false_iff, Bool.not_eq_false', Bool.and_eq_false_iff] at e'); refine go_on ?_; refine e_cut rfl rfl (by (repeat (first | exact sub_refl | refine sub_new rfl ?_ | refine sub_bool rfl (by assumption) ?_))) (by (first | exact ⟨_, F⟩ | exact ⟨_, F.wk⟩))
  · intro e; have e' := e; (try simp only [Bool.and_eq_true, Bool.or_eq_true, decide_eq_true_eq, decide_eq_false_iff_not, Bool.not_eq_true', Bool.or_eq_false_iff, Bool.not_eq_false', Bool.and_eq_false_iff] at e'); refine go_on ?_; refine e_cut rfl rfl (by (repeat (first | exact sub_refl | refine sub_new rfl ?_ | refine sub_bool rfl (by assumption) ?_))) (by (first | exact ⟨_, F⟩ | exact ⟨_, F.wk⟩))
  intro O w F; refine go_on ?_
  apply f_or 4 15 11 F
  · exact rfl
  · intro e; have e' := e; (try simp only [Bool.and_eq_true, Bool.or_eq_true, decide_eq_true_eq, decide_eq_false_iff_not, Bool.not_eq_true', Bool.or_eq_false_iff, Bool.not_eq_false', Bool.and_eq_false_iff] at e'); refine go_on ?_; refine e_cut rfl rfl (by (repeat (first | exact sub_refl | refine sub_new rfl ?_ | refine sub_bool rfl (by assumption) ?_))) (by (first | exact ⟨_, F⟩ | exact ⟨_, F.wk⟩))
  · intro e; have e' := e; (try simp only [Bool.and_eq_true, Bool.or_eq_true, decide_eq_true_eq, decide_eq_false_iff_not, Bool.not_eq_true', Bool.or_eq_false_iff, Bool.not_eq_false', Bool.and_eq_false_iff] at e'); refine go_on ?_; refine e_cut rfl rfl (by (repeat (first | exact sub_refl | refine sub_new rfl ?_ | refine sub_bool rfl (by assumption) ?_))) (by (first | exact ⟨_, F⟩ | exact ⟨_, F.wk⟩))
  intro O w F; refine go_on ?_
  apply f_or 6 22 16 F
  · exact rfl
  · intro e; have e' := e; (try simp only [Bool.and_eq_true, Bool.or_eq_true, decide_eq_true_eq, decide_eq_false_iff_not, Bool.not_eq_true', Bool.or_eq_false_iff, Bool.not_eq_false', Bool.and_eq_false_iff] at e'); refine go_on ?_; refine e_cut rfl rfl (by (repeat (first | exact sub_refl | refine sub_new rfl ?_ | refine sub_bool rfl (by assumption) ?_))) (by (first | exact ⟨_, F⟩ | exact ⟨_, F.wk⟩))
  · intro e; have e' := e; (try simp only [Bool.and_eq_true, Bool.or_eq_true, decide_eq_true_eq, decide_eq_false_iff_not, Bool.not_eq_true', Bool.or_eq_false_iff, Bool.not_eq_false', Bool.and_eq_false_iff] at e'); refine go_on ?_; refine e_cut rfl rfl (by (repeat (first | exact sub_refl | refine sub_new rfl ?_ | refine sub_bool rfl (by assumption) ?_))) (by (first | exact ⟨_, F⟩ | exact ⟨_, F.wk⟩))
  intro O w F; refine go_on ?_
  by_cases g : phase ≤ 5 ∧ next ≤ 34 ∧ peer < 16 ∧ base ≤ goal
  · have hb : (decide ((5 : Int) < ↑phase) || decide ((34 : Int) < ↑next) || decide ((15 : Int) < ↑peer) || decide ((goal : Int) < ↑base)) = false := by
      simp only [Bool.or_eq_false_iff, decide_eq_false_iff_not]; omega
    rw [hb]
    cases owner
    · by_cases p12 : phase = 1 ∨ phase = 2
      · have hm : ¬ Mk.may ⟨false, phase, peer, epoch, seq, base, goal, next, round⟩ := by
          rintro ⟨_, _, _, _, _, m6, _⟩
          exact absurd (m6 p12) (by simp)
        rw [if_neg hm]
        rcases p12 with rfl | rfl
        all_goals
          refine go_on ?_
          refine go_back ?_
          exact F.fin ⟨rfl, rfl, rfl⟩
      · have k1 : phase ≠ 1 := fun h => p12 (.inl h)
        have k2 : phase ≠ 2 := fun h => p12 (.inr h)
        by_cases p3 : phase = 3
        · by_cases n3 : 33 ≤ next
          · have hm : Mk.may ⟨false, phase, peer, epoch, seq, base, goal, next, round⟩ := ⟨g.1, g.2.1, g.2.2.1, g.2.2.2, ⟨fun _ => n3, fun _ => p3⟩, fun h => absurd h p12, fun _ => rfl⟩
            rw [if_pos hm]
            refine go_on ?_
            refine go_back ?_
            exact F.fin ⟨rfl, rfl, rfl⟩
          · have hm : ¬ Mk.may ⟨false, phase, peer, epoch, seq, base, goal, next, round⟩ := fun ⟨_, _, _, _, m5, _, _⟩ => n3 (m5.1 p3)
            rw [if_neg hm]
            refine go_on ?_
            refine go_back ?_
            exact F.fin ⟨rfl, rfl, rfl⟩
        · by_cases n3 : 33 ≤ next
          · have hm : ¬ Mk.may ⟨false, phase, peer, epoch, seq, base, goal, next, round⟩ := fun ⟨_, _, _, _, m5, _, _⟩ => p3 (m5.2 n3)
            rw [if_neg hm]
            by_cases p4 : 3 ≤ phase
            all_goals
              refine go_on ?_
              refine go_back ?_
              exact F.fin ⟨rfl, rfl, rfl⟩
          · have hm : Mk.may ⟨false, phase, peer, epoch, seq, base, goal, next, round⟩ := ⟨g.1, g.2.1, g.2.2.1, g.2.2.2, ⟨fun h => absurd h p3, fun h => absurd h n3⟩, fun h => absurd h p12, fun _ => rfl⟩
            rw [if_pos hm]
            by_cases p4 : 3 ≤ phase
            all_goals
              refine go_on ?_
              refine go_back ?_
              exact F.fin ⟨rfl, rfl, rfl⟩
    · by_cases p3 : 3 ≤ phase
      · have hm : ¬ Mk.may ⟨true, phase, peer, epoch, seq, base, goal, next, round⟩ := by
          rintro ⟨_, _, _, _, _, _, m7⟩
          exact absurd (m7 p3) (by simp)
        rw [if_neg hm]
        refine go_on ?_
        refine go_back ?_
        exact F.fin ⟨rfl, rfl, rfl⟩
      · by_cases n3 : 33 ≤ next
        · have hm : ¬ Mk.may ⟨true, phase, peer, epoch, seq, base, goal, next, round⟩ := by
            rintro ⟨_, _, _, _, m5, _, _⟩
            have := m5.2 n3
            dsimp only at this; omega
          rw [if_neg hm]
          by_cases k1 : phase = 1
          · refine go_on ?_
            refine go_back ?_
            exact F.fin ⟨rfl, rfl, rfl⟩
          by_cases k2 : phase = 2
          all_goals
            refine go_on ?_
            refine go_back ?_
            exact F.fin ⟨rfl, rfl, rfl⟩
        · have hm : Mk.may ⟨true, phase, peer, epoch, seq, base, goal, next, round⟩ := ⟨g.1, g.2.1, g.2.2.1, g.2.2.2, ⟨fun h => by dsimp only at h; omega, fun h => absurd h n3⟩, fun _ => rfl, fun h => absurd h p3⟩
          rw [if_pos hm]
          by_cases k1 : phase = 1
          · refine go_on ?_
            refine go_back ?_
            exact F.fin ⟨rfl, rfl, rfl⟩
          by_cases k2 : phase = 2
          all_goals
            refine go_on ?_
            refine go_back ?_
            exact F.fin ⟨rfl, rfl, rfl⟩
  · have hb : (decide ((5 : Int) < ↑phase) || decide ((34 : Int) < ↑next) || decide ((15 : Int) < ↑peer) || decide ((goal : Int) < ↑base)) = true := by
      simp only [Bool.or_eq_true, decide_eq_true_eq]; omega
    rw [hb]
    have hm : ¬ Mk.may ⟨owner, phase, peer, epoch, seq, base, goal, next, round⟩ := fun ⟨m1, m2, m3, m4, _⟩ => g ⟨m1, m2, m3, m4⟩
    rw [if_neg hm]
    refine go_on ?_
    refine go_back ?_
    exact F.fin ⟨rfl, rfl, rfl⟩

theorem rPut15_c {s : Mk} (h : s.fit) : Con Try.prog 37 [mkV s] [] [] [] fun r T Φ => r = .tuple #[str s.out, errT (if s.may then 0 else 1)] ∧ T = [] ∧ Φ = [] := by
  obtain ⟨h1, h2, h3, h4, h5, h6, h7, h8⟩ := h
  refine con_of (fun O0 w0 F => ?_)
  refine tidy F (fun F => ?_)
  refine fn_of _ Try.func37 rfl (by kernel_rfl) Try.ntmps37 rfl ?_
  refine go_on ?_
  (first | refine f_box1 F rfl rfl (fun q w F => ?_) | refine f_boxN F rfl rfl (fun q w F => ?_)); refine go_on ?_
  refine f_call F rfl rfl (rCheck15_c (s := s)) ?_
  clear F; rintro r O w T Φ ⟨rfl, rfl, rfl⟩ F0
  refine tidy F0 (fun F => ?_); clear F0
  refine go_on ?_
  unfold Mk.out
  by_cases g : s.may
  · rw [if_pos g]
    refine go_on ?_
    refine r_y (y_agg_eq (r := decide (s = .zero)) rfl rfl (mk_eq s .zero)) rfl ?_
    by_cases g2 : s = .zero
    · have e : ¬ (s.may ∧ s ≠ .zero) := fun h => h.2 g2
      rw [if_neg e]
      refine go_on ?_
      refine go_back ?_
      exact F.fin ⟨rfl, rfl, rfl⟩
    · have e : s.may ∧ s ≠ .zero := ⟨g, g2⟩
      rw [if_pos e]
      refine go_on ?_
      refine f_drawA F [] [(0, true), (1, true), (3, true), (4, true), (7, true), (8, true), (2, false), (5, false), (6, true), (9, false), (10, true), (11, true)] (by kernel_rfl) (by kernel_rfl) (fun w F hS => ?_); refine go_look ?_
      refine rd_do rfl ?_
      (try refine r_go rfl rfl ?_)
      refine f_call F rfl rfl rBool_c ?_
      clear F; rintro r O w T Φ ⟨rfl, rfl, rfl⟩ F0
      refine tidy F0 (fun F => ?_); clear F0
      refine r_nil ?_; refine e_afterF F (fun hS => ?_); refine go_look ?_
      refine rd_do rfl ?_
      (try refine r_go rfl rfl ?_)
      refine f_call F rfl rfl rU32_c ?_
      clear F; rintro r O w T Φ ⟨rfl, rfl, rfl⟩ F0
      refine tidy F0 (fun F => ?_); clear F0
      refine r_nil ?_; refine e_afterF F (fun hS => ?_); refine go_look ?_
      refine rd_do rfl ?_
      (try refine r_go rfl rfl ?_)
      refine f_call F rfl rfl rU32_c ?_
      clear F; rintro r O w T Φ ⟨rfl, rfl, rfl⟩ F0
      refine tidy F0 (fun F => ?_); clear F0
      refine r_nil ?_; refine e_afterF F (fun hS => ?_); refine go_look ?_
      refine rd_done ?_; refine go_on ?_
      refine f_drawA F [] [(0, true), (1, true), (2, true), (4, true), (5, true), (8, true), (9, true), (12, true), (13, true), (3, false), (6, false), (7, true), (10, false), (11, true), (14, false), (15, true), (16, true), (17, true)] (by kernel_rfl) (by kernel_rfl) (fun w F hS => ?_); refine go_look ?_
      refine rd_do rfl ?_
      (try refine r_go rfl rfl ?_)
      refine f_call F rfl rfl rU64_c ?_
      clear F; rintro r O w T Φ ⟨rfl, rfl, rfl⟩ F0
      refine tidy F0 (fun F => ?_); clear F0
      refine r_nil ?_; refine e_afterF F (fun hS => ?_); refine go_look ?_
      refine rd_do rfl ?_
      (try refine r_go rfl rfl ?_)
      refine f_call F rfl rfl rU64_c ?_
      clear F; rintro r O w T Φ ⟨rfl, rfl, rfl⟩ F0
      refine tidy F0 (fun F => ?_); clear F0
      refine r_nil ?_; refine e_afterF F (fun hS => ?_); refine go_look ?_
      refine rd_do rfl ?_
      (try refine r_go rfl rfl ?_)
      refine f_call F rfl rfl rU64_c ?_
      clear F; rintro r O w T Φ ⟨rfl, rfl, rfl⟩ F0
      refine tidy F0 (fun F => ?_); clear F0
      refine r_nil ?_; refine e_afterF F (fun hS => ?_); refine go_look ?_
      refine rd_do rfl ?_
      (try refine r_go rfl rfl ?_)
      refine f_call F rfl rfl rU64_c ?_
      clear F; rintro r O w T Φ ⟨rfl, rfl, rfl⟩ F0
      refine tidy F0 (fun F => ?_); clear F0
      refine r_nil ?_; refine e_afterF F (fun hS => ?_); refine go_look ?_
      refine rd_done ?_; refine go_on ?_
      refine f_drawA F [] [(0, true), (1, true), (2, true), (5, true), (6, true), (3, false), (4, true), (7, false), (8, true), (9, true), (10, true)] (by kernel_rfl) (by kernel_rfl) (fun w F hS => ?_); refine go_look ?_
      refine rd_do rfl ?_
      (try refine r_go rfl rfl ?_)
      refine f_call F rfl rfl rU32_c ?_
      clear F; rintro r O w T Φ ⟨rfl, rfl, rfl⟩ F0
      refine tidy F0 (fun F => ?_); clear F0
      refine r_nil ?_; refine e_afterF F (fun hS => ?_); refine go_look ?_
      refine rd_do rfl ?_
      (try refine r_go rfl rfl ?_)
      refine f_call F rfl rfl rU32_c ?_
      clear F; rintro r O w T Φ ⟨rfl, rfl, rfl⟩ F0
      refine tidy F0 (fun F => ?_); clear F0
      refine r_nil ?_; refine e_afterF F (fun hS => ?_); refine go_look ?_
      refine rd_done ?_; refine go_on ?_
      refine go_back ?_
      exact F.fin ⟨by simp [Mk.bytes, errT], rfl, rfl⟩
  · have e : ¬ (s.may ∧ s ≠ .zero) := fun h => g h.1
    rw [if_neg g, if_neg e]
    refine go_on ?_
    refine go_back ?_
    exact F.fin ⟨rfl, rfl, rfl⟩

theorem rRead32_g {bs : List UInt8} {e x e' : Nat} {bs' : List UInt8} (h : rdN bs e 4 = (x, bs', e') ∧ bs.length < 9223372036854775808) : Con Try.prog 63 [rv bs e] [] [] [] fun r T Φ => r = .tuple #[rv bs' e', .int .u32 x] ∧ T = [] ∧ Φ = [] := by
  have := rRead32_c (bs := bs) (e := e) h.2
  rw [h.1] at this
  exact this
theorem rRead64_g {bs : List UInt8} {e x e' : Nat} {bs' : List UInt8} (h : rdN bs e 8 = (x, bs', e') ∧ bs.length < 9223372036854775808) : Con Try.prog 64 [rv bs e] [] [] [] fun r T Φ => r = .tuple #[rv bs' e', .int .u64 x] ∧ T = [] ∧ Φ = [] := by
  have := rRead64_c (bs := bs) (e := e) h.2
  rw [h.1] at this
  exact this
theorem rReadBool_g {bs : List UInt8} {e : Nat} {x : Bool} {e' : Nat} {bs' : List UInt8} (h : rdBool bs e = (x, bs', e') ∧ bs.length < 9223372036854775808) : Con Try.prog 62 [rv bs e] [] [] [] fun r T Φ => r = .tuple #[rv bs' e', .bool x] ∧ T = [] ∧ Φ = [] := by
  have := rReadBool_c (bs := bs) (e := e) h.2
  rw [h.1] at this
  exact this
theorem rdN_shrink {bs bs' : List UInt8} {e e' x n : Nat} (h : rdN bs e n = (x, bs', e')) : bs'.length ≤ bs.length := by
  have := rdN_rest bs e n
  rw [h] at this
  exact this
theorem rdBool_shrink {bs bs' : List UInt8} {e e' : Nat} {x : Bool} (h : rdBool bs e = (x, bs', e')) : bs'.length ≤ bs.length := by
  have := rdBool_rest bs e
  rw [h] at this
  exact this

theorem rGet15_c {b : List UInt8} (h : b.length ≤ 140737488355328) : Con Try.prog 32 [str b] [] [] [] fun r T Φ => r = .tuple #[mkV (mkGet b).1, errT (mkGet b).2] ∧ T = [] ∧ Φ = [] := by
  refine con_of (fun O0 w0 F => ?_)
  refine tidy F (fun F => ?_)
  refine fn_of _ Try.func32 rfl (by kernel_rfl) Try.ntmps32 rfl ?_
  by_cases hb : b = []
  · have e : mkGet b = (.zero, 0) := by unfold mkGet; rw [if_pos hb]
    rw [e]
    refine go_on ?_
    (first | refine f_alloc1 F rfl (fun z w F => ?_) | refine f_allocN F rfl (fun z w F => ?_)); refine go_on ?_
    refine f_storeAll F rfl rfl rfl (fun w F => ?_); refine go_on ?_
    refine go_back ?_
    exact F.fin ⟨rfl, rfl, rfl⟩
  obtain ⟨x0, b0, e0, r0⟩ : ∃ x b' e', rdBool b 0 = (x, b', e') := ⟨_, _, _, rfl⟩
  obtain ⟨x1, b1, e1, r1⟩ : ∃ x b' e', rdN b0 e0 4 = (x, b', e') := ⟨_, _, _, rfl⟩
  obtain ⟨x2, b2, e2, r2⟩ : ∃ x b' e', rdN b1 e1 4 = (x, b', e') := ⟨_, _, _, rfl⟩
  obtain ⟨x3, b3, e3, r3⟩ : ∃ x b' e', rdN b2 e2 8 = (x, b', e') := ⟨_, _, _, rfl⟩
  obtain ⟨x4, b4, e4, r4⟩ : ∃ x b' e', rdN b3 e3 8 = (x, b', e') := ⟨_, _, _, rfl⟩
  obtain ⟨x5, b5, e5, r5⟩ : ∃ x b' e', rdN b4 e4 8 = (x, b', e') := ⟨_, _, _, rfl⟩
  obtain ⟨x6, b6, e6, r6⟩ : ∃ x b' e', rdN b5 e5 8 = (x, b', e') := ⟨_, _, _, rfl⟩
  obtain ⟨x7, b7, e7, r7⟩ : ∃ x b' e', rdN b6 e6 4 = (x, b', e') := ⟨_, _, _, rfl⟩
  obtain ⟨x8, b8, e8, r8⟩ : ∃ x b' e', rdN b7 e7 4 = (x, b', e') := ⟨_, _, _, rfl⟩
  have l0 := rdBool_shrink r0
  have l1 := rdN_shrink r1
  have l2 := rdN_shrink r2
  have l3 := rdN_shrink r3
  have l4 := rdN_shrink r4
  have l5 := rdN_shrink r5
  have l6 := rdN_shrink r6
  have l7 := rdN_shrink r7
  have eg : mkGet b = if endE b8 e8 ≠ 0 then (.zero, endE b8 e8) else if ¬ Mk.may ⟨x0, x1, x2, x3, x4, x5, x6, x7, x8⟩ ∨ (⟨x0, x1, x2, x3, x4, x5, x6, x7, x8⟩ : Mk) = .zero then (.zero, 11) else (⟨x0, x1, x2, x3, x4, x5, x6, x7, x8⟩, 0) := by
    unfold mkGet
    rw [if_neg hb]
    simp only [r0, r1, r2, r3, r4, r5, r6, r7, r8]
  rw [eg]
  clear eg
  refine go_on ?_
  (first | refine f_alloc1 F rfl (fun z w F => ?_) | refine f_allocN F rfl (fun z w F => ?_)); refine go_on ?_
  (first | refine f_alloc1 F rfl (fun m w F => ?_) | refine f_allocN F rfl (fun m w F => ?_)); refine go_on ?_
  refine f_storeAll F rfl rfl rfl (fun w F => ?_); refine go_on ?_
  refine f_call F rfl rfl rReadBool_g ?_
  clear F; rintro r O w T Φ ⟨rfl, rfl, rfl⟩ F0
  refine tidy F0 (fun F => ?_); clear F0
  refine go_on ?_
  (first | refine f_alloc1 F rfl (fun c w F => ?_) | refine f_allocN F rfl (fun c w F => ?_)); refine go_on ?_
  refine f_storeAll F rfl rfl rfl (fun w F => ?_); refine go_on ?_
  refine f_store1 F rfl rfl rfl (fun w F => ?_); refine go_on ?_
  refine f_call F rfl rfl rRead32_g ?_
  clear F; rintro r O w T Φ ⟨rfl, rfl, rfl⟩ F0
  refine tidy F0 (fun F => ?_); clear F0
  refine go_on ?_
  refine f_storeAll F rfl rfl rfl (fun w F => ?_); refine go_on ?_
  refine f_store1 F rfl rfl rfl (fun w F => ?_); refine go_on ?_
  refine f_call F rfl rfl rRead32_g ?_
  clear F; rintro r O w T Φ ⟨rfl, rfl, rfl⟩ F0
  refine tidy F0 (fun F => ?_); clear F0
  refine go_on ?_
  refine f_storeAll F rfl rfl rfl (fun w F => ?_); refine go_on ?_
  refine f_store1 F rfl rfl rfl (fun w F => ?_); refine go_on ?_
  refine f_call F rfl rfl rRead64_g ?_
  clear F; rintro r O w T Φ ⟨rfl, rfl, rfl⟩ F0
  refine tidy F0 (fun F => ?_); clear F0
  refine go_on ?_
  refine f_storeAll F rfl rfl rfl (fun w F => ?_); refine go_on ?_
  refine f_store1 F rfl rfl rfl (fun w F => ?_); refine go_on ?_
  refine f_call F rfl rfl rRead64_g ?_
  clear F; rintro r O w T Φ ⟨rfl, rfl, rfl⟩ F0
  refine tidy F0 (fun F => ?_); clear F0
  refine go_on ?_
  refine f_storeAll F rfl rfl rfl (fun w F => ?_); refine go_on ?_
  refine f_store1 F rfl rfl rfl (fun w F => ?_); refine go_on ?_
  refine f_call F rfl rfl rRead64_g ?_
  clear F; rintro r O w T Φ ⟨rfl, rfl, rfl⟩ F0
  refine tidy F0 (fun F => ?_); clear F0
  refine go_on ?_
  refine f_storeAll F rfl rfl rfl (fun w F => ?_); refine go_on ?_
  refine f_store1 F rfl rfl rfl (fun w F => ?_); refine go_on ?_
  refine f_call F rfl rfl rRead64_g ?_
  clear F; rintro r O w T Φ ⟨rfl, rfl, rfl⟩ F0
  refine tidy F0 (fun F => ?_); clear F0
  refine go_on ?_
  refine f_storeAll F rfl rfl rfl (fun w F => ?_); refine go_on ?_
  refine f_store1 F rfl rfl rfl (fun w F => ?_); refine go_on ?_
  refine f_call F rfl rfl rRead32_g ?_
  clear F; rintro r O w T Φ ⟨rfl, rfl, rfl⟩ F0
  refine tidy F0 (fun F => ?_); clear F0
  refine go_on ?_
  refine f_storeAll F rfl rfl rfl (fun w F => ?_); refine go_on ?_
  refine f_store1 F rfl rfl rfl (fun w F => ?_); refine go_on ?_
  refine f_call F rfl rfl rRead32_g ?_
  clear F; rintro r O w T Φ ⟨rfl, rfl, rfl⟩ F0
  refine tidy F0 (fun F => ?_); clear F0
  refine go_on ?_
  refine f_storeAll F rfl rfl rfl (fun w F => ?_); refine go_on ?_
  refine f_store1 F rfl rfl rfl (fun w F => ?_); refine go_on ?_
  refine f_call F rfl rfl rEnd_c ?_
  clear F; rintro r O w T Φ ⟨rfl, rfl, rfl⟩ F0
  refine tidy F0 (fun F => ?_); clear F0
  refine go_on ?_
  by_cases g1 : endE b8 e8 = 0
  · rw [if_neg (by simpa using g1)]
    refine go_on ?_
    refine f_call F rfl rfl (rCheck15_c (s := ⟨x0, x1, x2, x3, x4, x5, x6, x7, x8⟩)) ?_
    clear F; rintro r O w T Φ ⟨rfl, rfl, rfl⟩ F0
    refine tidy F0 (fun F => ?_); clear F0
    refine go_on ?_
    by_cases g2 : Mk.may ⟨x0, x1, x2, x3, x4, x5, x6, x7, x8⟩
    · rw [if_pos g2]
      refine go_on ?_
      refine r_y (y_agg_eq (r := decide ((⟨x0, x1, x2, x3, x4, x5, x6, x7, x8⟩ : Mk) = .zero)) rfl rfl (mk_eq ⟨x0, x1, x2, x3, x4, x5, x6, x7, x8⟩ .zero)) rfl ?_
      by_cases g3 : (⟨x0, x1, x2, x3, x4, x5, x6, x7, x8⟩ : Mk) = .zero
      · rw [if_pos (.inr g3)]
        refine go_on ?_
        refine f_storeAll F rfl rfl rfl (fun w F => ?_); refine go_on ?_
        refine go_back ?_
        exact F.fin ⟨rfl, rfl, rfl⟩
      · rw [if_neg (fun h => h.elim (fun h => h g2) g3)]
        refine go_on ?_
        refine f_storeAll F rfl rfl rfl (fun w F => ?_); refine go_on ?_
        refine go_back ?_
        exact F.fin ⟨rfl, rfl, rfl⟩
    · rw [if_neg g2, if_pos (.inl g2)]
      refine go_on ?_
      refine f_storeAll F rfl rfl rfl (fun w F => ?_); refine go_on ?_
      refine go_back ?_
      exact F.fin ⟨rfl, rfl, rfl⟩
  · rw [if_pos g1]
    refine go_on ?_
    refine f_storeAll F rfl rfl rfl (fun w F => ?_); refine go_on ?_
    refine go_back ?_
    exact F.fin ⟨rfl, rfl, rfl⟩

theorem mkSave_c {p m : Nat} {t : Tx} {s : Mk} (h : s.fit) : Con Try.prog 38 [tptr p, mkV s] [Tn p m t] [] [] fun r T Φ => r = errT (if s.may then t.putE 0 s.out else 1) ∧ T = [Tn p m (if s.may then t.put1 0 s.out else t)] ∧ Φ = [] := by
  refine con_of (fun O0 w0 F => ?_)
  refine tidy F (fun F => ?_)
  refine fn_of _ Try.func38 rfl (by kernel_rfl) Try.ntmps38 rfl ?_
  refine go_on ?_
  (first | refine f_box1 F rfl rfl (fun q w F => ?_) | refine f_boxN F rfl rfl (fun q w F => ?_)); refine go_on ?_
  refine f_call F rfl rfl (mkPut_c (s := s)) ?_
  clear F; rintro r O w T Φ ⟨u, rfl, rfl, rfl⟩ F0
  refine tidy F0 (fun F => ?_); clear F0
  refine go_on ?_
  by_cases g : s.may
  · rw [if_pos g, if_pos g, if_pos g]
    obtain ⟨O, F⟩ := F.frzB
    refine go_on ?_
    refine f_call F rfl rfl (txnPut_c (xs := s.out)) ?_
    clear F; rintro r O w T Φ ⟨rfl, rfl, rfl⟩ F0
    refine tidy F0 (fun F => ?_); clear F0
    refine go_on ?_
    refine go_back ?_
    exact F.fin ⟨rfl, rfl, rfl⟩
  · rw [if_neg g, if_neg g, if_neg g]
    refine go_on ?_
    refine go_back ?_
    exact F.fin ⟨rfl, rfl, rfl⟩

theorem mkLoad_c {p m : Nat} {t : Tx} (h : (t.get 0).length ≤ 140737488355328) : Con Try.prog 39 [tptr p] [] [Tn p m t] [] fun r T Φ => r = .tuple #[mkV (mkGet (t.get 0)).1, errT (mkGet (t.get 0)).2] ∧ T = [] ∧ Φ = [] := by
  refine con_of (fun O0 w0 F => ?_)
  refine tidy F (fun F => ?_)
  refine fn_of _ Try.func39 rfl (by kernel_rfl) Try.ntmps39 rfl ?_
  refine go_on ?_
  (first | refine f_alloc1 F rfl (fun z w F => ?_) | refine f_allocN F rfl (fun z w F => ?_)); refine go_on ?_
  refine f_call F rfl rfl txnGet_c ?_
  clear F; rintro r O w T Φ ⟨rfl, rfl⟩ F0
  refine tidy F0 (fun F => ?_); clear F0
  refine go_on ?_
  refine f_call F rfl rfl (mkGet_c (b := t.get 0)) ?_
  clear F; rintro r O w T Φ ⟨rfl, rfl, rfl⟩ F0
  refine tidy F0 (fun F => ?_); clear F0
  refine go_on ?_
  refine f_storeAll F rfl rfl rfl (fun w F => ?_); refine go_on ?_
  refine go_back ?_
  exact F.fin ⟨rfl, rfl, rfl⟩
end Go.Proofs.Ytipnelbpkekdkaa
