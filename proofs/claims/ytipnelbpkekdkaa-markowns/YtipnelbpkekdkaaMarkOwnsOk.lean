/- MarkOwns answers true. -/
import Derived.Test.YtipnelbpkekdkaaMarkl
namespace Go.Proofs.Ytipnelbpkekdkaa
open Gk Go
set_option linter.unusedVariables false
set_option maxHeartbeats 4000000
set_option maxRecDepth 4000
set_option linter.unusedSimpArgs false
attribute [local irreducible] Int.decLt Int.decLe Int.decEq Int.instDecidableEq Gk.Rnds Gk.E Gk.G Gk.R Gk.RD Gk.RX Gk.RO Gk.Y Gk.Ent Gk.Sat Gk.Round Gk.After Gk.Cell Gk.Sl Gk.SlA Gk.CB Gk.OK Gk.FnC Gk.Bytes Gk.BytesL Gk.StrL Gk.Buf Gk.MapI
theorem MarkOwns_ok {w0 : World} {s : Mk} (hf : s.fit) (F : Fr [] [] w0 [] w0 [] []) :
    FnC Try.prog 6 [mkV s] [] [] w0 fun r O' w' => r = .bool true := by
  obtain ⟨owner, phase, peer, epoch, seq, base, goal, next, round⟩ := s
  change FnC _ _ [.agg #[.bool owner, .int .u32 phase, .int .u32 peer, .int .u64 epoch, .int .u64 seq, .int .u64 base, .int .u64 goal, .int .u32 next, .int .u32 round]] [] [] w0 _
  refine fn_of _ Try.func6 rfl (by kernel_rfl) Try.ntmps6 rfl ?_
  refine go_on ?_
  (first | refine f_box1 F rfl rfl (fun z w F => ?_) | refine f_boxN F rfl rfl (fun z w F => ?_)); refine go_on ?_
  refine f_call F rfl rfl awake15_c ?_
  clear F; rintro r O w T Φ ⟨rfl, rfl, rfl⟩ F0
  refine tidy F0 (fun F => ?_); clear F0
  refine go_on ?_
  refine f_call F rfl rfl (mkCheck_c (s := ⟨owner, phase, peer, epoch, seq, base, goal, next, round⟩)) ?_
  clear F; rintro r O w T Φ ⟨rfl, rfl, rfl⟩ F0
  refine tidy F0 (fun F => ?_); clear F0
  refine go_on ?_
  by_cases hm : Mk.may ⟨owner, phase, peer, epoch, seq, base, goal, next, round⟩
  · rw [if_pos hm]
    obtain ⟨m1, m2, m3, m4, m5, m6, m7⟩ := id hm
    dsimp only at m1 m2 m3 m4 m5 m6 m7
    have m5' : (decide ((phase : Int) = 3) == decide ((33 : Int) ≤ next)) = true := by simp only [beq_iff_eq, decide_eq_decide]; omega
    have m5n : (!(decide ((phase : Int) = 3) == decide ((33 : Int) ≤ next))) = false := by rw [m5']; rfl
    by_cases p1 : phase = 1 ∨ phase = 2
    · have ho := m6 p1
      subst ho
      have hn : ¬ Mk.may ⟨false, phase, peer, epoch, seq, base, goal, next, round⟩ := fun ⟨_, _, _, _, _, k, _⟩ => absurd (k p1) (by simp)
      rcases p1 with rfl | rfl
      all_goals
        refine go_on ?_
        rw [m5n]
        refine go_on ?_
        refine f_store1 F rfl rfl rfl (fun w F => ?_); refine go_on ?_
        refine f_draw [(2, Thing.cells z _)] F [] [(0, true), (3, true), (4, true), (5, true), (1, false), (2, true), (6, true), (7, true)] (by kernel_rfl) (by kernel_rfl) (fun w F hS => ?_); refine go_look ?_
        refine rd_do rfl ?_
        (try refine r_go rfl rfl ?_)
        refine f_call F rfl rfl (mkCheck_c (s := ⟨false, _, peer, epoch, seq, base, goal, next, round⟩)) ?_
        clear F; rintro r O w T Φ ⟨rfl, rfl, rfl⟩ F0
        refine tidy F0 (fun F => ?_); clear F0
        refine r_nil ?_; refine e_afterF F (fun hS => ?_); refine go_look ?_
        rw [if_neg hn]
        refine go_look ?_
        refine rd_done ?_; refine go_on ?_
        refine go_back ?_
        exact F.lawb (by simp)
    · by_cases p3 : 3 ≤ phase
      · have ho := m7 p3
        subst ho
        have hn : ¬ Mk.may ⟨true, phase, peer, epoch, seq, base, goal, next, round⟩ := fun ⟨_, _, _, _, _, _, k⟩ => absurd (k p3) (by simp)
        have p345 : phase = 3 ∨ phase = 4 ∨ phase = 5 := by omega
        rcases p345 with rfl | rfl | rfl
        all_goals
          refine go_on ?_
          rw [m5n]
          refine go_on ?_
          refine f_store1 F rfl rfl rfl (fun w F => ?_); refine go_on ?_
          refine f_draw [(2, Thing.cells z _)] F [] [(0, true), (3, true), (4, true), (5, true), (1, false), (2, true), (6, true), (7, true)] (by kernel_rfl) (by kernel_rfl) (fun w F hS => ?_); refine go_look ?_
          refine rd_do rfl ?_
          (try refine r_go rfl rfl ?_)
          refine f_call F rfl rfl (mkCheck_c (s := ⟨true, _, peer, epoch, seq, base, goal, next, round⟩)) ?_
          clear F; rintro r O w T Φ ⟨rfl, rfl, rfl⟩ F0
          refine tidy F0 (fun F => ?_); clear F0
          refine r_nil ?_; refine e_afterF F (fun hS => ?_); refine go_look ?_
          rw [if_neg hn]
          refine go_look ?_
          refine rd_done ?_; refine go_on ?_
          refine go_back ?_
          exact F.lawb (by simp)
      · have p0 : phase = 0 := by omega
        subst p0
        have hn : Mk.may ⟨!owner, 0, peer, epoch, seq, base, goal, next, round⟩ := ⟨m1, m2, m3, m4, m5, fun h => by dsimp only at h; omega, fun h => by dsimp only at h; omega⟩
        refine go_on ?_
        rw [m5n]
        refine go_on ?_
        refine f_store1 F rfl rfl rfl (fun w F => ?_); refine go_on ?_
        refine f_draw [(2, Thing.cells z _)] F [] [(0, true), (3, true), (4, true), (5, true), (1, false), (2, true), (6, true), (7, true)] (by kernel_rfl) (by kernel_rfl) (fun w F hS => ?_); refine go_look ?_
        refine rd_do rfl ?_
        (try refine r_go rfl rfl ?_)
        refine f_call F rfl rfl (mkCheck_c (s := ⟨!owner, 0, peer, epoch, seq, base, goal, next, round⟩)) ?_
        clear F; rintro r O w T Φ ⟨rfl, rfl, rfl⟩ F0
        refine tidy F0 (fun F => ?_); clear F0
        refine r_nil ?_; refine e_afterF F (fun hS => ?_); refine go_look ?_
        rw [if_pos hn]
        refine go_look ?_
        refine rd_done ?_; refine go_on ?_
        refine go_back ?_
        exact F.lawb (by simp)
  · rw [if_neg hm]
    refine go_on ?_
    refine go_back ?_
    exact F.law
theorem MarkOwns_true {w : World} {l : List Value} (r0 : Reads Try.prog w 77 l) :
    FnC Try.prog 6 [.agg l.toArray] [] [] w fun r O' w' => r = .bool true := by
  obtain ⟨s, e, hf⟩ := reads_mk r0
  rw [e]
  exact MarkOwns_ok hf (Fr.start OK_nil)
end Go.Proofs.Ytipnelbpkekdkaa
