/- A frame that is put is got. -/
import Derived.Test.YtmohjmfcbhpldaaSecget
namespace Go.Proofs.Ytmohjmfcbhpldaa
open Gk Go
set_option linter.unusedVariables false
set_option maxHeartbeats 4000000
set_option maxRecDepth 4000
set_option linter.unusedSimpArgs false
attribute [local irreducible] Int.decLt Int.decLe Int.decEq Int.instDecidableEq Gk.Rnds Gk.E Gk.G Gk.R Gk.RD Gk.RX Gk.RO Gk.Y Gk.Ent Gk.Sat Gk.Round Gk.After Gk.Cell Gk.Sl Gk.SlA Gk.CB Gk.OK Gk.FnC Gk.Bytes Gk.BytesL Gk.StrL Gk.Buf Gk.MapI
theorem cut_mid {b pre mid post : List UInt8} {l h : Nat} (hb : b = pre ++ (mid ++ post)) (hl : pre.length = l) (hm : l + mid.length = h) : cutB b l h = mid := by
  subst hb
  subst hl
  unfold cutB
  rw [List.drop_left, show h - pre.length = mid.length from by omega, List.take_left]
theorem Fm.bytes_len {f : Fm} (h : f.may) : f.bytes.length = 128 := by
  unfold Fm.bytes sealB
  rw [List.length_append, be_length, sum_len f h.2.2.2.2]
theorem Fm.bytes_right {f : Fm} (h : f.may) : rightB f.bytes = true := by
  unfold rightB
  have hl := f.bytes_len h
  rw [decide_eq_true_iff]
  refine ⟨by omega, ?_⟩
  have : f.bytes.take (f.bytes.length - 4) = f.sum := by
    rw [hl, show 128 - 4 = f.sum.length from by rw [sum_len f h.2.2.2.2]]
    exact List.take_left
  rw [this]
  rfl
theorem cleanB_rep (n : Nat) : cleanB (List.replicate n 0) = true := by simp [cleanB]
theorem Fm.parts (f : Fm) : f.bytes = f.h4 ++ (be 8 f.seq ++ (be 4 f.adr ++ (f.body ++ (List.replicate (108 - f.body.length) 0 ++ be 4 (crcOf f.sum))))) := by
  simp only [Fm.bytes, sealB, Fm.sum, Fm.head, Fm.h12, List.append_assoc]
theorem ofNat_back {n : Nat} (h : n < 256) : (UInt8.ofNat n).toNat = n := by simp; omega
theorem Fm.at_h4 (f : Fm) (i : Nat) (hi : i < 4) : f.bytes.getD i 0 = f.h4.getD i 0 := by
  rw [f.parts, List.getD_eq_getElem?_getD, List.getD_eq_getElem?_getD, List.getElem?_append_left (by rw [h4_len]; exact hi)]
theorem secGet_put {f : Fm} (h : f.may) (hf : f.fit) : secGet f.bytes = (f, 0) := by
  obtain ⟨m1, m2, m3, m4, m5⟩ := h
  have b0 : bat f.bytes 0 = f.kind := by
    unfold bat; rw [f.at_h4 0 (by decide)]; exact ofNat_back (by omega)
  have b1 : bat f.bytes 1 = f.index := by
    unfold bat; rw [f.at_h4 1 (by decide)]; exact ofNat_back (by omega)
  have b2 : bat f.bytes 2 = f.count := by
    unfold bat; rw [f.at_h4 2 (by decide)]; exact ofNat_back (by omega)
  have b3 : bat f.bytes 3 = f.body.length := by
    unfold bat; rw [f.at_h4 3 (by decide)]; exact ofNat_back (by omega)
  have c1 : cutB f.bytes 4 12 = be 8 f.seq := cut_mid (pre := f.h4) f.parts rfl (by rw [be_length])
  have c2 : cutB f.bytes 12 16 = be 4 f.adr := cut_mid (pre := f.h4 ++ be 8 f.seq) (post := f.body ++ (List.replicate (108 - f.body.length) 0 ++ be 4 (crcOf f.sum))) (by rw [f.parts]; simp only [List.append_assoc]) (by simp [h4_len]) (by rw [be_length])
  have c3 : cutB f.bytes 16 (16 + f.body.length) = f.body := cut_mid (pre := f.h4 ++ be 8 f.seq ++ be 4 f.adr) (post := List.replicate (108 - f.body.length) 0 ++ be 4 (crcOf f.sum)) (by rw [f.parts]; simp only [List.append_assoc]) (by simp [h4_len]) rfl
  have c4 : cutB f.bytes (16 + f.body.length) 124 = List.replicate (108 - f.body.length) 0 := cut_mid (pre := f.h4 ++ be 8 f.seq ++ be 4 f.adr ++ f.body) (post := be 4 (crcOf f.sum)) (by rw [f.parts]; simp only [List.append_assoc]) (by simp [h4_len]; omega) (by simp; omega)
  unfold secGet
  rw [if_neg (by simpa using f.bytes_len ⟨m1, m2, m3, m4, m5⟩), if_neg (by rw [Fm.bytes_right ⟨m1, m2, m3, m4, m5⟩]; decide), if_neg]
  · unfold secOf
    rw [b0, b1, b2, b3, c1, c2, c3, numB_be, numB_be, Nat.mod_eq_of_lt hf.1, Nat.mod_eq_of_lt hf.2.1]
  · unfold secBad
    rw [b0, b3, c4, cleanB_rep]
    simp
    omega
theorem secGet_zero : (secGet (List.replicate 128 0)).2 ≠ 0 := by
  have : rightB (List.replicate 128 0) = false := by decide +kernel
  unfold secGet
  rw [if_neg (by simp), if_pos this]
  decide
end Go.Proofs.Ytmohjmfcbhpldaa
