/- What the reference of layer 15 answers, and the laws' helpers. -/
import Derived.Test.YtdhfikbehbpdjaaMark
import Derived.Test.YtdhfikbehbpdjaaRef01
namespace Go.Proofs.Ytdhfikbehbpdjaa
open Gk Go
set_option linter.unusedVariables false
set_option maxHeartbeats 4000000
set_option maxRecDepth 4000
set_option linter.unusedSimpArgs false
attribute [local irreducible] Int.decLt Int.decLe Int.decEq Int.instDecidableEq Gk.Rnds Gk.E Gk.G Gk.R Gk.RD Gk.RX Gk.RO Gk.Y Gk.Ent Gk.Sat Gk.Round Gk.After Gk.Cell Gk.Sl Gk.SlA Gk.CB Gk.OK Gk.FnC Gk.Bytes Gk.BytesL Gk.StrL Gk.Buf Gk.MapI
theorem rRead32_g {bs : List UInt8} {e x e' : Nat} {bs' : List UInt8} (h : rdN bs e 4 = (x, bs', e') ∧ bs.length < 9223372036854775808) : Con Try.prog 48 [rv bs e] [] [] [] fun r T Φ => r = .tuple #[rv bs' e', .int .u32 x] ∧ T = [] ∧ Φ = [] := by
  have := rRead32_c (bs := bs) (e := e) h.2
  rw [h.1] at this
  exact this
theorem rRead64_g {bs : List UInt8} {e x e' : Nat} {bs' : List UInt8} (h : rdN bs e 8 = (x, bs', e') ∧ bs.length < 9223372036854775808) : Con Try.prog 49 [rv bs e] [] [] [] fun r T Φ => r = .tuple #[rv bs' e', .int .u64 x] ∧ T = [] ∧ Φ = [] := by
  have := rRead64_c (bs := bs) (e := e) h.2
  rw [h.1] at this
  exact this
theorem rdN_shrink {bs bs' : List UInt8} {e e' x n : Nat} (h : rdN bs e n = (x, bs', e')) : bs'.length ≤ bs.length := by
  have := rdN_rest bs e n
  rw [h] at this
  exact this
theorem rdBool_shrink {bs bs' : List UInt8} {e e' : Nat} {x : Bool} (h : rdBool bs e = (x, bs', e')) : bs'.length ≤ bs.length := by
  have := rdBool_rest bs e
  rw [h] at this
  exact this

end Go.Proofs.Ytdhfikbehbpdjaa
