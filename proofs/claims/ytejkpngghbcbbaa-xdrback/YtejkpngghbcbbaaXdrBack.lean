/- XdrBack answers true. -/
import Derived.Test.YtejkpngghbcbbaaXdrl
namespace Go.Proofs.Ytejkpngghbcbbaa
open Gk Go
set_option linter.unusedVariables false
attribute [local irreducible] Gk.E Gk.G Gk.R Gk.RD Gk.RX Gk.RO Gk.Y Gk.Ent Gk.Sat Gk.Round Gk.After Gk.Cell Gk.Sl Gk.SlA Gk.CB Gk.OK Gk.FnC Gk.Bytes Gk.BytesL Gk.StrL Gk.Buf Gk.MapI
theorem rd_cut {n x m : Nat} (hx : x < 256 ^ n) (hm : n ≤ m) (rest : List UInt8) : rdN ((be n x ++ rest).take m) 0 n = (x, rest.take (m - n), 0) := by
  rw [List.take_append, be_length, List.take_of_length_le (by rw [be_length]; exact hm)]
  exact rdN_be hx _
theorem rd_short {bs : List UInt8} {n : Nat} (h : bs.length < n) : rdN bs 0 n = (0, bs, 10) := by
  unfold rdN takeR; simp [h, numB]
theorem opaque_cut {c : List UInt8} {m : Nat} (hc : c.length ≤ 100) (hm : m < (opaqueB c).length) : ∃ r, rdOpaque ((opaqueB c).take m) 0 100 = ([], r, 10) := by
  have hol := opaqueB_length c
  have hb : c.length < 256 ^ 4 := by omega
  by_cases h4 : m < 4
  · refine ⟨(opaqueB c).take m, ?_⟩
    unfold rdOpaque
    rw [rd_short (by rw [List.length_take]; omega)]
    rfl
  · have e1 : (opaqueB c) = be 4 c.length ++ (c ++ List.replicate (fillN c.length) 0) := by
      unfold opaqueB; rw [Nat.mod_eq_of_lt (by omega), List.append_assoc]
    have hl : (c ++ List.replicate (fillN c.length) (0 : UInt8)).length = c.length + fillN c.length := by simp
    refine ⟨(c ++ List.replicate (fillN c.length) 0).take (m - 4), ?_⟩
    unfold rdOpaque
    rw [e1, rd_cut hb (by omega)]
    dsimp only
    rw [if_neg (by simp), if_neg (by omega)]
    have ht : takeR ((c ++ List.replicate (fillN c.length) (0 : UInt8)).take (m - 4)) 0 (c.length + fillN c.length) = ([], (c ++ List.replicate (fillN c.length) 0).take (m - 4), 10) := by
      unfold takeR
      rw [if_pos rfl, if_pos (by rw [List.length_take, hl]; omega)]
    rw [ht]
    simp

set_option maxHeartbeats 2000000 in
theorem XdrBack_ok {w0 : World} {vl vc : Value} {l : List Nat} {c : List UInt8} {a : Nat} (hl : ∀ x, x ∈ l → x < 18446744073709551616) (ha : a < 65536) (F : Fr [] [] w0 [] w0 [] [Fact.sl vl l.length (l.map fun n : Nat => Value.int .u64 n), Fact.bytes vc c]) :
    FnC Try.prog 6 [vl, vc, .int .u16 a] [] [] w0 fun r O' w' => r = .bool true := by
  obtain ⟨la, lc, rfl, _⟩ := F.sl.form
  obtain ⟨ca, cc, rfl, _⟩ := (F.bytes (v := vc)).form
  refine fn_of _ Try.func6 rfl (by kernel_rfl) Try.ntmps6 rfl ?_
  refine go_on ?_
  refine f_call F rfl rfl awake01_c ?_
  clear F; rintro r O w T Φ ⟨rfl, rfl, rfl⟩ F0
  refine tidy F0 (fun F => ?_); clear F0
  refine go_on ?_
  refine r_partd rfl rfl (fun h1 => ?_) (fun h1 => ?_)
  · refine go_on ?_
    refine go_back ?_
    exact F.law
  refine go_on ?_
  refine g_dec rfl (fun h2 => ?_) (fun h2 => ?_)
  · refine go_on ?_
    refine go_back ?_
    exact F.law
  have hll : l.length ≤ 20 := by omega
  have hcl : c.length ≤ 100 := by omega
  refine go_on ?_
  refine f_call F rfl rfl newWriter_c ?_
  clear F; rintro r O w T Φ ⟨p, rfl, rfl, rfl⟩ F0
  refine tidy F0 (fun F => ?_); clear F0
  refine go_on ?_
  refine g_loop (X := Nat × Value) (fun y => [(0, .slice la l.length lc), (1, .slice ca c.length cc), (2, .int .u16 a), (8, ptr p), (9, .int .i64 y.1)])
    (fun y wr => ∃ O, Fr [] [] w0 O wr [(2, Wr p y.2 (nB 8 (l.take y.1)))] [Fact.sl (.slice la l.length lc) l.length (l.map fun n : Nat => Value.int .u64 n), Fact.bytes (.slice ca c.length cc) c] ∧ y.1 ≤ l.length) (fun y => l.length - y.1) (0, _) (sub_cons rfl rfl (sub_cons rfl rfl (sub_cons rfl rfl (sub_cons rfl rfl (sub_cons rfl rfl (sub_nil)))))) ⟨_, F, by simp⟩ ?_
  clear F
  rintro ⟨i, v⟩ w ⟨O, F, hi⟩
  dsimp only at F hi ⊢
  refine go_on ?_
  refine g_dec rfl (fun h => ?_) (fun h => ?_)
  · have hi' : i < l.length := by omega
    have hx := hl l[i] (List.getElem_mem hi')
    have hlen := nB_len 8 (l.take i)
    rw [List.length_take] at hlen
    refine go_on ?_
    obtain ⟨x, rfl, hc⟩ := (F.sl).atm hi'
    have F := F.fact (f := Fact.cell _ _) hc
    refine go_on ?_
    refine f_call F rfl rfl u64_c ?_
    clear F; rintro r O w T Φ ⟨v, rfl, rfl, rfl⟩ F0
    refine tidy F0 (fun F => ?_); clear F0
    refine go_on ?_
    refine go_on ?_
    exact e_round (i + 1, v) (sub_cons rfl rfl (sub_cons rfl rfl (sub_cons rfl rfl (sub_cons rfl rfl (sub_cons rfl rfl (sub_nil)))))) ⟨_, by rw [nB_take 8 l i hi']; exact F.wk, by simp only; omega⟩ (by simp only; omega)
  have hi' : i = l.length := by omega
  subst hi'
  rw [List.take_length] at F
  have hlen := nB_len 8 l
  have hol := opaqueB_length c
  have hfl := fillN_lt c.length
  refine go_on ?_
  refine f_call F rfl rfl wopaque_c ?_
  clear F; rintro r O w T Φ ⟨v, rfl, rfl, rfl⟩ F0
  refine tidy F0 (fun F => ?_); clear F0
  refine go_on ?_
  have hT : (nB 8 l ++ opaqueB c).length = 8 * l.length + (opaqueB c).length := by rw [List.length_append, hlen]
  refine f_call F rfl rfl out_c ?_
  clear F; rintro r O w T Φ ⟨rfl, rfl⟩ F0
  refine tidy F0 (fun F => ?_); clear F0
  refine go_on ?_
  obtain ⟨oa, oc, rfl, hoc⟩ := (F.bytes (v := r)).form
  have hoc' : ((nB 8 l ++ opaqueB c).length : Int) ≤ oc := by omega
  have hk : a % ((nB 8 l ++ opaqueB c).length + 1) ≤ (nB 8 l ++ opaqueB c).length := by have := Nat.mod_lt a (show 0 < (nB 8 l ++ opaqueB c).length + 1 by omega); omega
  refine go_on ?_
  rw [show (((nB 8 l ++ opaqueB c).length : Int) + 1) = (((nB 8 l ++ opaqueB c).length + 1 : Nat) : Int) from by omega]
  refine go_on ?_
  generalize a % ((nB 8 l ++ opaqueB c).length + 1) = k at hk ⊢
  refine r_y (y_slice (mi := (oc : Int)) rfl rfl rfl rfl (by simp) (by omega)) rfl ?_
  have F := F.factB (v := cutV oa 1 0 k oc) (xs := (nB 8 l ++ opaqueB c).take k) (by
    have := (F.bytes (v := .slice oa (nB 8 l ++ opaqueB c).length oc)).cut (l := 0) (h := k) (k := oc) (by omega) (by omega) (by omega) (by omega)
    simpa using this)
  have htk : ((nB 8 l ++ opaqueB c).take k).length = k := by rw [List.length_take]; omega
  refine go_on ?_
  refine f_call F rfl rfl (newReader_c (v := cutV oa 1 0 k oc)) ?_
  clear F; rintro r O w T Φ ⟨q, rfl, rfl, rfl⟩ F0
  refine tidy F0 (fun F => ?_); clear F0
  refine go_on ?_
  refine g_loop (X := Nat) (fun i => [(0, .slice la l.length lc), (1, .slice ca c.length cc), (10, .slice oa (nB 8 l ++ opaqueB c).length oc), (11, .int .i64 k), (12, ptr q), (13, .int .i64 i)])
    (fun i wr => ∃ O, Fr [] [] w0 O wr [(2, Rd q ((nB 8 (l.drop i) ++ opaqueB c).take (k - 8 * i)) 0)] [Fact.sl (.slice la l.length lc) l.length (l.map fun n : Nat => Value.int .u64 n), Fact.bytes (.slice ca c.length cc) c] ∧ i ≤ l.length ∧ 8 * i ≤ k) (fun i => l.length - i) 0 (sub_cons rfl rfl (sub_cons rfl rfl (sub_cons rfl rfl (sub_cons rfl rfl (sub_cons rfl rfl (sub_cons rfl rfl (sub_nil))))))) ⟨_, F.wk, by simp⟩ ?_
  clear F
  rintro i w ⟨O, F, hi, hik⟩
  refine go_on ?_
  refine g_dec rfl (fun h => ?_) (fun h => ?_)
  · have hi' : i < l.length := by omega
    have hx := hl l[i] (List.getElem_mem hi')
    rw [nB_drop 8 l i hi', List.append_assoc] at F
    refine go_on ?_
    refine f_call F rfl rfl ru64_c ?_
    clear F; rintro r O w T Φ ⟨rfl, rfl, rfl⟩ F0
    refine tidy F0 (fun F => ?_); clear F0
    refine go_on ?_
    by_cases hs : k < 8 * i + 8
    · rw [rd_short (by rw [List.length_take]; omega)] at F ⊢
      dsimp only at F ⊢
      refine go_on ?_
      refine r_y (y_mul64 rfl rfl (by omega)) rfl ?_
      refine go_on ?_
      refine f_call F rfl rfl err_c ?_
      clear F; rintro r O w T Φ ⟨rfl, rfl, rfl⟩ F0
      refine tidy F0 (fun F => ?_); clear F0
      refine go_on ?_
      refine go_back ?_
      exact F.law
    · rw [rd_cut (by simpa using hx) (by omega)] at F ⊢
      dsimp only at F ⊢
      refine go_on ?_
      refine r_y (y_mul64 rfl rfl (by omega)) rfl ?_
      refine go_on ?_
      obtain ⟨x, rfl, hc⟩ := (F.sl).atm hi'
      have F := F.fact (f := Fact.cell _ _) hc
      refine go_on ?_
      exact e_round (i + 1) (sub_cons rfl rfl (sub_cons rfl rfl (sub_cons rfl rfl (sub_cons rfl rfl (sub_cons rfl rfl (sub_cons rfl rfl (sub_nil))))))) ⟨_, by rw [show k - 8 * (i + 1) = k - 8 * i - 8 from by omega]; exact F.wk, by omega, by omega⟩ (by omega)
  have hi' : i = l.length := by omega
  subst hi'
  rw [List.drop_length, show nB 8 [] = [] from rfl, List.nil_append] at F
  refine go_on ?_
  refine f_call F rfl rfl ropaque_c ?_
  clear F; rintro r O w T Φ ⟨rfl, rfl⟩ F0
  refine tidy F0 (fun F => ?_); clear F0
  refine go_on ?_
  by_cases hs : k < (nB 8 l ++ opaqueB c).length
  · obtain ⟨rest, hr⟩ := opaque_cut hcl (m := k - 8 * l.length) (by omega)
    rw [hr] at F
    dsimp only at F
    obtain ⟨ra, rc, rfl, _⟩ := (F.bytes (v := r)).form
    refine go_on ?_
    refine f_call F rfl rfl err_c ?_
    clear F; rintro r O w T Φ ⟨rfl, rfl, rfl⟩ F0
    refine tidy F0 (fun F => ?_); clear F0
    refine go_on ?_
    refine go_back ?_
    exact F.law
  · have hr := rdOpaque_put (b := c) (rest := []) (most := 100) (by omega) (by omega)
    rw [List.append_nil] at hr
    rw [List.take_of_length_le (by omega), hr] at F
    dsimp only at F
    obtain ⟨ra, rc, rfl, _⟩ := (F.bytes (v := r)).form
    refine go_on ?_
    refine f_call F rfl rfl end_c ?_
    clear F; rintro r O w T Φ ⟨rfl, rfl, rfl⟩ F0
    refine tidy F0 (fun F => ?_); clear F0
    refine go_on ?_
    refine go_back ?_
    exact F.law

theorem XdrBack_true {w : World} {v0 v1 v2 : Value} (r0 : Reads Try.prog w 37 [v0]) (r1 : Reads Try.prog w 22 [v1]) (r2 : Reads Try.prog w 34 [v2]) :
    FnC Try.prog 6 [v0, v1, v2] [] [] w fun r O' w' => r = .bool true := by
  obtain ⟨l, hl, _, hx⟩ := reads_nats (k := .u64) rfl r0
  obtain ⟨c, hc, _⟩ := reads_bytes r1
  obtain ⟨x, h, hlt⟩ := reads_nat (k := .u16) rfl r2
  injection h with h
  subst h
  exact XdrBack_ok hx hlt (((Fr.start OK_nil).factB hc).fact (f := Fact.sl v0 l.length (l.map fun n : Nat => Value.int .u64 n)) hl)
end Go.Proofs.Ytejkpngghbcbbaa
