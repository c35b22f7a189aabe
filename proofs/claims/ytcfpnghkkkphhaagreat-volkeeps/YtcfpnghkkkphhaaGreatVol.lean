/- What the functions of vol do. -/
import Derived.Test.YtcfpnghkkkphhaaGreatSlot
import Derived.Test.YtcfpnghkkkphhaaGreatTxnc
import Derived.Test.YtcfpnghkkkphhaaGreatInodeg
namespace Go.Proofs.YtcfpnghkkkphhaaGreat
open Gk Go
set_option linter.unusedVariables false
set_option maxHeartbeats 4000000
set_option maxRecDepth 4000
set_option linter.unusedSimpArgs false
attribute [local irreducible] Int.decLt Int.decLe Int.decEq Int.instDecidableEq Gk.Rnds Gk.E Gk.G Gk.R Gk.RD Gk.RX Gk.RO Gk.Y Gk.Ent Gk.Sat Gk.Round Gk.After Gk.Cell Gk.Sl Gk.SlA Gk.CB Gk.OK Gk.FnC Gk.Bytes Gk.BytesL Gk.StrL Gk.Buf Gk.MapI
/-- Are there as many blocks as a volume may have? -/
def Tx.right (t : Tx) : Prop := 35 < t.was.length ∧ t.was.length ≤ 803
instance (t : Tx) : Decidable t.right := by unfold Tx.right; infer_instance
theorem vright_c {p m : Nat} {t : Tx} (h : True) : Con Tryz.prog 25 [tptr p] [] [Tn p m t] [] fun r T Φ => r = .bool (decide t.right) ∧ T = [] ∧ Φ = [] := by
  refine con_of (fun O0 w0 F => ?_)
  refine tidy F (fun F => ?_)
  refine fn_of _ Tryz.func25 rfl (by kernel_rfl) Tryz.ntmps25 rfl ?_
  refine go_on ?_
  refine f_call F rfl rfl (txnLen_c (t := t)) ?_ (hp := trivial)
  clear F; rintro r O w T Φ ⟨rfl, rfl, rfl⟩ F0
  refine tidy F0 (fun F => ?_); clear F0
  by_cases h1 : 35 < t.was.length
  · have e : decide t.right = decide (t.was.length ≤ 803) := by
      rw [decide_eq_decide]
      exact ⟨fun k => k.2, fun k => ⟨h1, k⟩⟩
    rw [e]
    refine go_on ?_
    refine f_call F rfl rfl (txnLen_c (t := t)) ?_ (hp := trivial)
    clear F; rintro r O w T Φ ⟨rfl, rfl, rfl⟩ F0
    refine tidy F0 (fun F => ?_); clear F0
    refine go_on ?_
    refine go_back ?_
    exact F.fin ⟨by congr 1; rw [decide_eq_decide]; omega, rfl, rfl⟩
  · rw [decide_eq_false (show ¬ t.right from fun k => h1 k.1)]
    refine go_on ?_
    refine go_back ?_
    exact F.fin ⟨by first | rfl | rw [decide_eq_false (by omega)], rfl, rfl⟩
theorem vrightn_c (h : True) : Con Tryz.prog 25 [.pointer none] [] [] [] fun r T Φ => r = .bool false ∧ T = [] ∧ Φ = [] := by
  refine con_of (fun O0 w0 F => ?_)
  refine tidy F (fun F => ?_)
  refine fn_of _ Tryz.func25 rfl (by kernel_rfl) Tryz.ntmps25 rfl ?_
  refine go_on ?_
  refine f_call F rfl rfl txnLenn_c ?_ (hp := trivial)
  clear F; rintro r O w T Φ ⟨rfl, rfl, rfl⟩ F0
  refine tidy F0 (fun F => ?_); clear F0
  refine go_on ?_
  refine go_back ?_
  exact F.fin ⟨by first | rfl | simp, rfl, rfl⟩
end Go.Proofs.YtcfpnghkkkphhaaGreat
