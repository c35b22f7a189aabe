/- InodeNeeds answers true. -/
import Derived.Test.YtejkpngghbcbbaaInodel
namespace Go.Proofs.Ytejkpngghbcbbaa
open Gk Go
set_option linter.unusedVariables false
set_option maxHeartbeats 4000000
set_option linter.unusedSimpArgs false
attribute [local irreducible] Int.decLt Int.decLe Int.decEq Int.instDecidableEq Gk.Rnds Gk.E Gk.G Gk.R Gk.RD Gk.RX Gk.RO Gk.Y Gk.Ent Gk.Sat Gk.Round Gk.After Gk.Cell Gk.Sl Gk.SlA Gk.CB Gk.OK Gk.FnC Gk.Bytes Gk.BytesL Gk.StrL Gk.Buf Gk.MapI
theorem InodeNeeds_ok {w0 : World} {size : Nat} (hs : size < 4294967296) (F : Fr [] [] w0 [] w0 [] []) :
    FnC Try.prog 13 [.int .u32 size] [] [] w0 fun r O' w' => r = .bool true := by
  refine fn_of _ Try.func13 rfl (by kernel_rfl) Try.ntmps13 rfl ?_
  refine go_on ?_
  refine f_call F rfl rfl awake07_c ?_
  clear F; rintro r O w T Φ ⟨rfl, rfl, rfl⟩ F0
  refine tidy F0 (fun F => ?_); clear F0
  refine go_on ?_
  refine f_call F rfl rfl need_c ?_
  clear F; rintro r O w T Φ ⟨rfl, rfl, rfl⟩ F0
  refine tidy F0 (fun F => ?_); clear F0
  refine go_on ?_
  have h1 : (size : Int) ≤ needN size * 96 := by unfold needN; omega
  have h2 : needN size ≠ 0 → (needN size - 1 : Int) * 96 < size := by unfold needN; omega
  have h3 : needN (-size) = 0 := by unfold needN; omega
  have h4 : needN size ≤ 44739243 := by unfold needN; omega
  refine r_y (y_mul64 rfl rfl (by omega)) rfl ?_
  refine go_on ?_
  by_cases h5 : needN size = 0
  · refine go_on ?_
    refine f_call F rfl rfl need_c ?_
    clear F; rintro r O w T Φ ⟨rfl, rfl, rfl⟩ F0
    refine tidy F0 (fun F => ?_); clear F0
    refine go_on ?_
    refine go_back ?_
    exact F.lawb (by simp [h3])
  · have h6 := h2 h5
    refine go_on ?_
    refine r_y (y_mul64 rfl rfl (by omega)) rfl ?_
    refine go_on ?_
    refine f_call F rfl rfl need_c ?_
    clear F; rintro r O w T Φ ⟨rfl, rfl, rfl⟩ F0
    refine tidy F0 (fun F => ?_); clear F0
    refine go_on ?_
    refine go_back ?_
    exact F.lawb (by simp [h3])
theorem InodeNeeds_true {w : World} {v0 : Value} (r0 : Reads Try.prog w 39 [v0]) :
    FnC Try.prog 13 [v0] [] [] w fun r O' w' => r = .bool true := by
  obtain ⟨x, h, hlt⟩ := reads_nat (k := .u32) rfl r0
  injection h with h
  subst h
  exact InodeNeeds_ok hlt (Fr.start OK_nil)
end Go.Proofs.Ytejkpngghbcbbaa
