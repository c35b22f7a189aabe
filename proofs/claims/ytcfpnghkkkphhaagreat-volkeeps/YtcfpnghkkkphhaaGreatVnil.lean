/- What the functions of vol do without blocks. -/
import Derived.Test.YtcfpnghkkkphhaaGreatVsaver
import Derived.Test.YtcfpnghkkkphhaaGreatVwrong
namespace Go.Proofs.YtcfpnghkkkphhaaGreat
open Gk Go
set_option linter.unusedVariables false
set_option maxHeartbeats 4000000
set_option maxRecDepth 4000
set_option linter.unusedSimpArgs false
attribute [local irreducible] Int.decLt Int.decLe Int.decEq Int.instDecidableEq Gk.Rnds Gk.E Gk.G Gk.R Gk.RD Gk.RX Gk.RO Gk.Y Gk.Ent Gk.Sat Gk.Round Gk.After Gk.Cell Gk.Sl Gk.SlA Gk.CB Gk.OK Gk.FnC Gk.Bytes Gk.BytesL Gk.StrL Gk.Buf Gk.MapI
theorem vloadn_c {ino : Int} (h : True) : Con Tryz.prog 15 [.pointer none, .int .i64 ino] [] [] [] fun r T Φ => r = .tuple #[sltV .zero (.slice none 0 0), errT 1] ∧ T = [] ∧ Φ = [] := by
  refine con_of (fun O0 w0 F => ?_)
  refine tidy F (fun F => ?_)
  refine fn_of _ Tryz.func15 rfl (by kernel_rfl) Tryz.ntmps15 rfl ?_
  refine go_on ?_
  (first | refine f_alloc1 F rfl (fun q4 w F => ?_) | refine f_allocN F rfl (fun q4 w F => ?_)); refine go_on ?_
  refine go_on ?_
  refine f_call F rfl rfl vrightn_c ?_ (hp := trivial)
  clear F; rintro r O w T Φ ⟨rfl, rfl, rfl⟩ F0
  refine tidy F0 (fun F => ?_); clear F0
  refine go_on ?_
  refine f_storeAll F rfl rfl rfl (fun w F => ?_); refine go_on ?_
  refine go_on ?_
  refine go_back ?_
  exact F.fin ⟨rfl, rfl, rfl⟩
theorem valln_c (h : True) : Con Tryz.prog 16 [.pointer none] [] [] [] fun r T Φ => r = .tuple #[.slice none 0 0, errT 1] ∧ T = [] ∧ Φ = [] := by
  refine con_of (fun O0 w0 F => ?_)
  refine tidy F (fun F => ?_)
  refine fn_of _ Tryz.func16 rfl (by kernel_rfl) Tryz.ntmps16 rfl ?_
  refine go_on ?_
  refine g_unroll 2 ?_; refine go_on ?_
  refine f_call F rfl rfl (vloadn_c (ino := 0)) ?_ (hp := trivial)
  clear F; rintro r O w T Φ ⟨rfl, rfl, rfl⟩ F0
  refine tidy F0 (fun F => ?_); clear F0
  unfold sltV sltC
  refine go_on ?_
  (first | refine f_alloc1 F rfl (fun q6 w F => ?_) | refine f_allocN F rfl (fun q6 w F => ?_)); refine go_on ?_
  refine f_storeAll F rfl rfl rfl (fun w F => ?_); refine go_on ?_
  refine go_on ?_
  refine go_back ?_
  exact F.fin ⟨rfl, rfl, rfl⟩
theorem vfreen_c (h : True) : Con Tryz.prog 13 [.pointer none] [] [] [] fun r T Φ => r = .int .i64 0 ∧ T = [] ∧ Φ = [] := by
  refine con_of (fun O0 w0 F => ?_)
  refine tidy F (fun F => ?_)
  refine fn_of _ Tryz.func13 rfl (by kernel_rfl) Tryz.ntmps13 rfl ?_
  refine go_on ?_
  refine f_call F rfl rfl vrightn_c ?_ (hp := trivial)
  clear F; rintro r O w T Φ ⟨rfl, rfl, rfl⟩ F0
  refine tidy F0 (fun F => ?_); clear F0
  refine go_on ?_
  refine go_back ?_
  exact F.fin ⟨rfl, rfl, rfl⟩
theorem vsetchangen_c {x : Nat} (h : True) : Con Tryz.prog 11 [.pointer none, .int .u64 x] [] [] [] fun r T Φ => r = errT 1 ∧ T = [] ∧ Φ = [] := by
  refine con_of (fun O0 w0 F => ?_)
  refine tidy F (fun F => ?_)
  refine fn_of _ Tryz.func11 rfl (by kernel_rfl) Tryz.ntmps11 rfl ?_
  refine go_on ?_
  refine f_call F rfl rfl vrightn_c ?_ (hp := trivial)
  clear F; rintro r O w T Φ ⟨rfl, rfl, rfl⟩ F0
  refine tidy F0 (fun F => ?_); clear F0
  refine go_on ?_
  refine go_back ?_
  exact F.fin ⟨rfl, rfl, rfl⟩
theorem vsaven_c {v : Value} (h : True) : Con Tryz.prog 17 [.pointer none, v] [] [] [] fun r T Φ => r = errT 1 ∧ T = [] ∧ Φ = [] := by
  refine con_of (fun O0 w0 F => ?_)
  refine tidy F (fun F => ?_)
  refine fn_of _ Tryz.func17 rfl (by kernel_rfl) Tryz.ntmps17 rfl ?_
  refine go_on ?_
  refine f_call F rfl rfl vrightn_c ?_ (hp := trivial)
  clear F; rintro r O w T Φ ⟨rfl, rfl, rfl⟩ F0
  refine tidy F0 (fun F => ?_); clear F0
  refine go_on ?_
  refine go_back ?_
  exact F.fin ⟨rfl, rfl, rfl⟩
theorem vwrongn_c (h : True) : Con Tryz.prog 14 [.pointer none] [] [] [] fun r T Φ => ∃ s, r = str s ∧ T = [] ∧ Φ = [] ∧ s ≠ [] := by
  refine con_of (fun O0 w0 F => ?_)
  refine tidy F (fun F => ?_)
  refine fn_of _ Tryz.func14 rfl (by kernel_rfl) Tryz.ntmps14 rfl ?_
  refine go_on ?_
  refine f_call F rfl rfl vrightn_c ?_ (hp := trivial)
  clear F; rintro r O w T Φ ⟨rfl, rfl, rfl⟩ F0
  refine tidy F0 (fun F => ?_); clear F0
  refine go_on ?_
  refine go_back ?_
  exact F.fin ⟨_, rfl, rfl, rfl, by simp⟩
end Go.Proofs.YtcfpnghkkkphhaaGreat
