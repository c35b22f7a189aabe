/- MarkGets answers true. -/
import Derived.Test.YtipnelbpkekdkaaMarkl
namespace Go.Proofs.Ytipnelbpkekdkaa
open Gk Go
set_option linter.unusedVariables false
set_option maxHeartbeats 4000000
set_option maxRecDepth 4000
set_option linter.unusedSimpArgs false
attribute [local irreducible] Int.decLt Int.decLe Int.decEq Int.instDecidableEq Gk.Rnds Gk.E Gk.G Gk.R Gk.RD Gk.RX Gk.RO Gk.Y Gk.Ent Gk.Sat Gk.Round Gk.After Gk.Cell Gk.Sl Gk.SlA Gk.CB Gk.OK Gk.FnC Gk.Bytes Gk.BytesL Gk.StrL Gk.Buf Gk.MapI
theorem MarkGets_ok {w0 : World} {b : List UInt8} {v : Value} (F : Fr [] [] w0 [] w0 [] [Fact.bytes v b]) :
    FnC Try.prog 5 [v] [] [] w0 fun r O' w' => r = .bool true := by
  obtain ⟨a, c, rfl, _⟩ := (F.bytes (v := v)).form
  refine fn_of _ Try.func5 rfl (by kernel_rfl) Try.ntmps5 rfl ?_
  refine go_on ?_
  refine f_call F rfl rfl awake15_c ?_
  clear F; rintro r O w T Φ ⟨rfl, rfl, rfl⟩ F0
  refine tidy F0 (fun F => ?_); clear F0
  refine go_on ?_
  by_cases g : 120 < b.length
  · refine go_on ?_
    refine go_back ?_
    exact F.law
  refine go_on ?_
  refine f_call F rfl rfl (mkGet_c (b := b)) ?_
  clear F; rintro r O w T Φ ⟨rfl, rfl, rfl⟩ F0
  refine tidy F0 (fun F => ?_); clear F0
  refine go_on ?_
  (first | refine f_alloc1 F rfl (fun p w F => ?_) | refine f_allocN F rfl (fun p w F => ?_)); refine go_on ?_
  refine f_storeAll F rfl rfl rfl (fun w F => ?_); refine go_on ?_
  refine f_call F rfl rfl (rGet15_c (b := b)) ?_
  clear F; rintro r O w T Φ ⟨rfl, rfl, rfl⟩ F0
  refine tidy F0 (fun F => ?_); clear F0
  refine go_on ?_
  (first | refine f_alloc1 F rfl (fun q w F => ?_) | refine f_allocN F rfl (fun q w F => ?_)); refine go_on ?_
  refine f_storeAll F rfl rfl rfl (fun w F => ?_); refine go_on ?_
  have hi := mkGet_inv (b := b)
  generalize mkGet b = t at hi F ⊢
  obtain ⟨s, e⟩ := t
  dsimp only at hi F ⊢
  obtain ⟨hf, hi, _⟩ := hi
  have hs : decide (s = s) = true := by simp
  refine f_drawA F [] [(0, true), (1, true), (2, true), (3, true), (4, true), (6, true), (5, false), (7, true), (8, true)] (by kernel_rfl) (by kernel_rfl) (fun w F hS => ?_); refine go_look ?_
  refine rd_do rfl ?_
  (try refine r_go rfl rfl ?_)
  refine f_call F rfl rfl (stateOf_c (s := s)) ?_
  clear F; rintro r O w T Φ ⟨rfl, rfl, rfl⟩ F0
  refine tidy F0 (fun F => ?_); clear F0
  refine r_nil ?_; refine e_afterF F (fun hS => ?_); refine go_look ?_
  refine rd_open rfl ?_; (first | refine ro_n ?_ | refine ro_g rfl rfl ?_); refine rx_y rfl (fun _ hw => y_agg_ne (r := decide (s = s)) rfl rfl (mk_eq s s)) (by assumption) ?_; refine go_look ?_
  rw [hs]
  refine go_look ?_
  refine rd_done ?_; refine go_on ?_
  by_cases he : e = 0
  · have hi2 := hi he
    clear hi
    subst he
    refine go_on ?_
    refine f_call F rfl rfl (mkPut_c (s := s)) ?_
    clear F; rintro r O w T Φ ⟨u, rfl, rfl, rfl⟩ F0
    refine tidy F0 (fun F => ?_); clear F0
    refine go_on ?_
    obtain ⟨O, F⟩ := F.frzB
    obtain ⟨ua, uc, rfl, _⟩ := (F.bytes (v := u)).form
    have ho : s.out = b ∧ s.may := by
      rcases hi2 with ⟨rfl, rfl⟩ | ⟨hm, hz, hb⟩
      · exact ⟨by unfold Mk.out; rw [if_neg (fun h => h.2 rfl)], by decide⟩
      · exact ⟨by unfold Mk.out; rw [if_pos ⟨hm, hz⟩]; exact hb.symm, hm⟩
    rw [if_pos ho.2, ho.1]
    rw [ho.1] at F
    refine go_on ?_
    refine go_back ?_
    exact F.lawb (by simp)
  · refine go_on ?_
    refine go_back ?_
    exact F.law
theorem MarkGets_true {w : World} {v0 : Value} (r0 : Reads Try.prog w 38 [v0]) :
    FnC Try.prog 5 [v0] [] [] w fun r O' w' => r = .bool true := by
  obtain ⟨b, hb, _⟩ := reads_bytes r0
  exact MarkGets_ok ((Fr.start OK_nil).factB hb)
end Go.Proofs.Ytipnelbpkekdkaa
