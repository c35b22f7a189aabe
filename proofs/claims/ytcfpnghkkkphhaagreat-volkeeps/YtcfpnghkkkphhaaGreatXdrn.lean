/- Numbers that are put one behind the other; what is left. -/
import Derived.Test.YtcfpnghkkkphhaaGreatXdrc
import Derived.Test.YtcfpnghkkkphhaaGreatGkRead
namespace Go.Proofs.YtcfpnghkkkphhaaGreat
open Gk Go
set_option linter.unusedVariables false
set_option maxHeartbeats 4000000
set_option maxRecDepth 4000
set_option linter.unusedSimpArgs false
attribute [local irreducible] Int.decLt Int.decLe Int.decEq Int.instDecidableEq Gk.Rnds Gk.E Gk.G Gk.R Gk.RD Gk.RX Gk.RO Gk.Y Gk.Ent Gk.Sat Gk.Round Gk.After Gk.Cell Gk.Sl Gk.SlA Gk.CB Gk.OK Gk.FnC Gk.Bytes Gk.BytesL Gk.StrL Gk.Buf Gk.MapI
/-- What is put for numbers. -/
def nB (k : Nat) (l : List Nat) : List UInt8 := l.flatMap (be k)
@[simp] theorem nB_len (k : Nat) (l : List Nat) : (nB k l).length = k * l.length := by
  unfold nB
  induction l with
  | nil => simp
  | cons a l ih => rw [List.flatMap_cons, List.length_append, be_length, ih, List.length_cons, Nat.mul_succ]; omega
theorem nB_take (k : Nat) (l : List Nat) (i : Nat) (h : i < l.length) : nB k (l.take (i + 1)) = nB k (l.take i) ++ be k l[i] := by
  unfold nB
  rw [List.take_succ_eq_append_getElem h, List.flatMap_append, List.flatMap_cons, List.flatMap_nil, List.append_nil]
theorem nB_drop (k : Nat) (l : List Nat) (i : Nat) (h : i < l.length) : nB k (l.drop i) = be k l[i] ++ nB k (l.drop (i + 1)) := by
  unfold nB
  rw [List.drop_eq_getElem_cons h, List.flatMap_cons]

theorem takeR_rest (bs : List UInt8) (e n : Nat) : (takeR bs e n).2.1.length ≤ bs.length := by
  unfold takeR; split
  · split <;> simp
  · simp
theorem rdN_rest (bs : List UInt8) (e n : Nat) : (rdN bs e n).2.1.length ≤ bs.length := takeR_rest bs e n
theorem rdBool_rest (bs : List UInt8) (e : Nat) : (rdBool bs e).2.1.length ≤ bs.length := by
  have := rdN_rest bs e 4
  unfold rdBool; dsimp only; split <;> exact this
theorem rdOpaque_rest (bs : List UInt8) (e : Nat) (m : Int) : (rdOpaque bs e m).2.1.length ≤ bs.length := by
  have h1 := rdN_rest bs e 4
  unfold rdOpaque; dsimp only
  have h2 := takeR_rest (rdN bs e 4).2.1 0 ((rdN bs e 4).1 + fillN (rdN bs e 4).1)
  split
  · exact h1
  · split
    · exact h1
    · split
      · exact Nat.le_trans h2 h1
      · split <;> exact Nat.le_trans h2 h1
end Go.Proofs.YtcfpnghkkkphhaaGreat
