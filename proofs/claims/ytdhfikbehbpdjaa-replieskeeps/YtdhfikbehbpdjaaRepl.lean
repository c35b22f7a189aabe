/- Plain laws of replies: what is told again. -/
import Derived.Test.YtdhfikbehbpdjaaReplies
namespace Go.Proofs.Ytdhfikbehbpdjaa
open Gk Go
set_option linter.unusedVariables false
set_option maxHeartbeats 4000000
set_option maxRecDepth 4000
set_option linter.unusedSimpArgs false
attribute [local irreducible] Int.decLt Int.decLe Int.decEq Int.instDecidableEq Gk.Rnds Gk.E Gk.G Gk.R Gk.RD Gk.RX Gk.RO Gk.Y Gk.Ent Gk.Sat Gk.Round Gk.After Gk.Cell Gk.Sl Gk.SlA Gk.CB Gk.OK Gk.FnC Gk.Bytes Gk.BytesL Gk.StrL Gk.Buf Gk.MapI
def t40 : Tx := ⟨List.replicate 40 [], []⟩
theorem t40_get (i : Int) : t40.get i = [] := by
  unfold Tx.get
  split
  · show (List.replicate 40 ([] : List UInt8)).getD i.toNat [] = []
    rw [List.getD_eq_getElem?_getD, List.getElem?_replicate]
    split <;> rfl
  · rfl

theorem Tx.get_put1 (t : Tx) (i j : Int) (xs : List UInt8) : (t.put1 i xs).get j = if 0 ≤ i ∧ i < t.was.length ∧ xs.length ≤ 96 ∧ j = i then xs else t.get j := by
  unfold Tx.get
  rw [t.put_was]
  by_cases hj : 0 ≤ j ∧ j < t.was.length
  · rw [if_pos hj]
    unfold Tx.put1
    by_cases hi : 0 ≤ i ∧ i < t.was.length ∧ xs.length ≤ 96
    · rw [if_pos hi, Tx.now_set]
      by_cases hji : j = i
      · rw [if_pos (by omega), if_pos ⟨hi.1, hi.2.1, hi.2.2, hji⟩]
      · rw [if_neg (by omega), if_neg (fun h => hji h.2.2.2), if_pos hj]
    · rw [if_neg hi, if_neg (fun h => hi ⟨h.1, h.2.1, h.2.2.1⟩), if_pos hj]
  · rw [if_neg hj, if_neg (fun h => hj ⟨by omega, by omega⟩), if_neg hj]

theorem repRead_bytes {r : Rp} (hf : r.fit) (hm : r.may) : repRead r.client r.bytes = (r, 0) := by
  obtain ⟨client, xid, status, ino, gen, kind, mode, links, size, change, data, ents, eof, verf, free⟩ := r
  obtain ⟨h1, h2, h3, h4, h5, h6, h7, h8, h9, h10, h11⟩ := hf
  obtain ⟨m1, m2, m3, m4⟩ := hm
  dsimp only at *
  obtain rfl : data = [] := List.length_eq_zero_iff.1 (by omega)
  obtain rfl : ents = [] := List.length_eq_zero_iff.1 (by omega)
  subst m4
  have hst : ∃ k : Nat, status = k ∧ k < 4294967296 := by
    rcases m2 with g2 | g2
    · exact ⟨0, by omega, by omega⟩
    · exact ⟨status.toNat, by omega, by omega⟩
  obtain ⟨st, rfl, hst⟩ := hst
  have hg : Rp.bytes ⟨client, xid, st, ino, gen, kind, mode, links, size, change, [], [], false, verf, free⟩ = be 4 xid ++ (be 4 st ++ (be 4 ino ++ (be 4 gen ++ (be 4 kind ++ (be 4 mode ++ (be 4 links ++ (be 4 size ++ (be 8 change ++ (be 8 verf ++ (be 4 free ++ [])))))))))) := by simp [Rp.bytes]
  rw [hg]
  unfold repRead
  simp only [rdN_be (n := 4) h2, rdN_be (n := 4) hst, rdN_be (n := 4) h3, rdN_be (n := 4) h4, rdN_be (n := 4) h5, rdN_be (n := 4) h6, rdN_be (n := 4) h7, rdN_be (n := 4) h8, rdN_be (n := 8) h9, rdN_be (n := 8) h10, rdN_be (n := 4) h11]
  rw [if_neg (by simp [endE]), if_neg (fun h => h m2)]

theorem repGet_put {t : Tx} {r : Rp} {c : Nat} (hf : r.fit) (hm : r.may) (ht : t.was.length = 40) : repGet (t.put1 (1 + r.client) r.bytes) c = if c = r.client then (r, true, 0) else repGet t c := by
  have hl := r.bytes_len
  have hne : r.bytes ≠ [] := fun h => by rw [h] at hl; cases hl
  have h8 := hm.1
  unfold repGet
  by_cases hc : c = r.client
  · subst hc
    rw [if_pos (show r.client = r.client from rfl), if_pos h8, Tx.get_put1, if_pos (show 0 ≤ (1 + (r.client : Int)) ∧ 1 + (r.client : Int) < t.was.length ∧ r.bytes.length ≤ 96 ∧ 1 + (r.client : Int) = 1 + (r.client : Int) from ⟨by omega, by omega, by omega, rfl⟩), if_neg hne, repRead_bytes hf hm]
    rfl
  · rw [if_neg hc, Tx.get_put1, if_neg (show ¬ (0 ≤ (1 + (r.client : Int)) ∧ 1 + (r.client : Int) < t.was.length ∧ r.bytes.length ≤ 96 ∧ 1 + (c : Int) = 1 + (r.client : Int)) from fun h => hc (by omega))]

theorem repGet_t40 (c : Nat) : repGet t40 c = (.zero, false, if c < 8 then 0 else 1) := by
  unfold repGet
  rw [t40_get]
  by_cases h : c < 8
  · rw [if_pos h, if_pos h, if_pos rfl]
  · rw [if_neg h, if_neg h]
end Go.Proofs.Ytdhfikbehbpdjaa
