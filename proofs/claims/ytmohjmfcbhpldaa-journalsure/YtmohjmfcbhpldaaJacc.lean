/- What a journal tells. -/
import Derived.Test.YtmohjmfcbhpldaaJon
namespace Go.Proofs.Ytmohjmfcbhpldaa
open Gk Go
set_option linter.unusedVariables false
set_option maxHeartbeats 4000000
set_option maxRecDepth 4000
set_option linter.unusedSimpArgs false
attribute [local irreducible] Int.decLt Int.decLe Int.decEq Int.instDecidableEq Gk.Rnds Gk.E Gk.G Gk.R Gk.RD Gk.RX Gk.RO Gk.Y Gk.Ent Gk.Sat Gk.Round Gk.After Gk.Cell Gk.Sl Gk.SlA Gk.CB Gk.OK Gk.FnC Gk.Bytes Gk.BytesL Gk.StrL Gk.Buf Gk.MapI
theorem jseq_c {p q bq : Nat} {j : Jr} (h : True) : Con Try.prog 14 [dptr p] [] [Jt p q bq j] [] fun r T Φ => r = .int .u64 j.seq ∧ T = [] ∧ Φ = [] := by
  refine con_of (fun O0 w0 F => ?_)
  refine tidy F (fun F => ?_)
  refine fn_of _ Try.func14 rfl (by kernel_rfl) Try.ntmps14 rfl ?_
  obtain ⟨vs, hvl, hj, F⟩ := openJ F
  unfold jcells at F
  refine go_on ?_
  refine go_back ?_
  exact F.fin ⟨rfl, rfl, rfl⟩

theorem jused_c {p q bq : Nat} {j : Jr} (h : True) : Con Try.prog 15 [dptr p] [] [Jt p q bq j] [] fun r T Φ => r = .int .i64 j.used ∧ T = [] ∧ Φ = [] := by
  refine con_of (fun O0 w0 F => ?_)
  refine tidy F (fun F => ?_)
  refine fn_of _ Try.func15 rfl (by kernel_rfl) Try.ntmps15 rfl ?_
  obtain ⟨vs, hvl, hj, F⟩ := openJ F
  unfold jcells at F
  refine go_on ?_
  refine go_back ?_
  exact F.fin ⟨rfl, rfl, rfl⟩

theorem jerr_c {p q bq : Nat} {j : Jr} (h : True) : Con Try.prog 20 [dptr p] [] [Jt p q bq j] [] fun r T Φ => r = .int .i64 j.e ∧ T = [] ∧ Φ = [] := by
  refine con_of (fun O0 w0 F => ?_)
  refine tidy F (fun F => ?_)
  refine fn_of _ Try.func20 rfl (by kernel_rfl) Try.ntmps20 rfl ?_
  obtain ⟨vs, hvl, hj, F⟩ := openJ F
  unfold jcells at F
  refine go_on ?_
  refine go_back ?_
  exact F.fin ⟨rfl, rfl, rfl⟩

theorem jseq0_c (h : True) : Con Try.prog 14 [.pointer none] [] [] [] fun r T Φ => r = .int .u64 0 ∧ T = [] ∧ Φ = [] := by
  refine con_of (fun O0 w0 F => ?_)
  refine tidy F (fun F => ?_)
  refine fn_of _ Try.func14 rfl (by kernel_rfl) Try.ntmps14 rfl ?_
  refine go_on ?_
  refine go_back ?_
  exact F.fin ⟨rfl, rfl, rfl⟩

theorem jused0_c (h : True) : Con Try.prog 15 [.pointer none] [] [] [] fun r T Φ => r = .int .i64 0 ∧ T = [] ∧ Φ = [] := by
  refine con_of (fun O0 w0 F => ?_)
  refine tidy F (fun F => ?_)
  refine fn_of _ Try.func15 rfl (by kernel_rfl) Try.ntmps15 rfl ?_
  refine go_on ?_
  refine go_back ?_
  exact F.fin ⟨rfl, rfl, rfl⟩

theorem jerr0_c (h : True) : Con Try.prog 20 [.pointer none] [] [] [] fun r T Φ => r = .int .i64 1 ∧ T = [] ∧ Φ = [] := by
  refine con_of (fun O0 w0 F => ?_)
  refine tidy F (fun F => ?_)
  refine fn_of _ Try.func20 rfl (by kernel_rfl) Try.ntmps20 rfl ?_
  refine go_on ?_
  refine go_back ?_
  exact F.fin ⟨rfl, rfl, rfl⟩
end Go.Proofs.Ytmohjmfcbhpldaa
