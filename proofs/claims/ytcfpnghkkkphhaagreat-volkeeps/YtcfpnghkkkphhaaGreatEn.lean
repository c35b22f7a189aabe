/- An entry of a directory. -/
import Derived.Test.YtcfpnghkkkphhaaGreatXdrn
import Derived.Test.YtcfpnghkkkphhaaGreatGkGo
namespace Go.Proofs.YtcfpnghkkkphhaaGreat
open Gk Go
set_option linter.unusedVariables false
set_option maxHeartbeats 4000000
set_option maxRecDepth 4000
set_option linter.unusedSimpArgs false
attribute [local irreducible] Int.decLt Int.decLe Int.decEq Int.instDecidableEq Gk.Rnds Gk.E Gk.G Gk.R Gk.RD Gk.RX Gk.RO Gk.Y Gk.Ent Gk.Sat Gk.Round Gk.After Gk.Cell Gk.Sl Gk.SlA Gk.CB Gk.OK Gk.FnC Gk.Bytes Gk.BytesL Gk.StrL Gk.Buf Gk.MapI
/-- An entry of a directory. -/
structure En where
  cookie : Nat
  ino : Nat
  gen : Nat
  name : List UInt8
deriving DecidableEq
def EnR : Rel En := Rel.pure fun e => [.int .u64 e.cookie, .int .u32 e.ino, .int .u32 e.gen, str e.name]
end Go.Proofs.YtcfpnghkkkphhaaGreat
