/- What the reference of layer 1 answers. -/
import Derived.Test.YtejkpngghbcbbaaXdrn
namespace Go.Proofs.Ytejkpngghbcbbaa
open Gk Go
set_option linter.unusedVariables false
set_option maxHeartbeats 4000000
set_option linter.unusedSimpArgs false
attribute [local irreducible] Int.decLt Int.decLe Int.decEq Int.instDecidableEq Gk.Rnds Gk.E Gk.G Gk.R Gk.RD Gk.RX Gk.RO Gk.Y Gk.Ent Gk.Sat Gk.Round Gk.After Gk.Cell Gk.Sl Gk.SlA Gk.CB Gk.OK Gk.FnC Gk.Bytes Gk.BytesL Gk.StrL Gk.Buf Gk.MapI
theorem be4 (x : Nat) : be 4 x = [UInt8.ofNat (x / 16777216), UInt8.ofNat (x / 65536), UInt8.ofNat (x / 256), UInt8.ofNat x] := by simp [be]
theorem be8 (x : Nat) : be 8 x = be 4 (x / 4294967296) ++ be 4 (x % 4294967296) := by
  have h : be 4 (x % 4294967296) = be 4 x := by
    have := be_mod 4 (x / 4294967296) (x % 4294967296)
    rw [← this]
    congr 1
    have := Nat.div_add_mod x 4294967296
    omega
  rw [h]
  simp only [be, Nat.div_div_eq_div_mul, List.cons_append, List.nil_append]

theorem rU32_c {x : Nat} (h : x < 4294967296) : Con Try.prog 26 [.int .u32 x] [] [] [] fun r T Φ => r = str (be 4 x) ∧ T = [] ∧ Φ = [] := by
  refine con_of (fun O0 w0 F => ?_)
  refine tidy F (fun F => ?_)
  refine fn_of _ Try.func26 rfl (by kernel_rfl) Try.ntmps26 rfl ?_
  refine go_on ?_
  refine r_y (y_quoN (k := .u32) (b := 16777216) rfl rfl (by decide) (by simp only [lim]; omega)) rfl ?_; refine go_on ?_
  refine r_y (y_quoN (k := .u32) (b := 65536) rfl rfl (by decide) (by simp only [lim]; omega)) rfl ?_; refine go_on ?_
  refine r_y (y_quoN (k := .u32) (b := 256) rfl rfl (by decide) (by simp only [lim]; omega)) rfl ?_; refine go_on ?_
  refine f_buildSlice (cs := [_, _, _, _]) F rfl rfl rfl rfl (fun q w F => ?_); refine go_on ?_
  refine r_y (y_bytes_str (xs := [UInt8.ofNat (x / 16777216), UInt8.ofNat (x / 65536), UInt8.ofNat (x / 256), UInt8.ofNat x]) rfl (F.cellBytes (xs := [UInt8.ofNat (x / 16777216), UInt8.ofNat (x / 65536), UInt8.ofNat (x / 256), UInt8.ofNat x]))) rfl ?_; refine go_on ?_
  refine go_back ?_
  exact F.fin ⟨by rw [be4], rfl, rfl⟩

theorem rU64_c {x : Nat} (h : x < 18446744073709551616) : Con Try.prog 28 [.int .u64 x] [] [] [] fun r T Φ => r = str (be 8 x) ∧ T = [] ∧ Φ = [] := by
  refine con_of (fun O0 w0 F => ?_)
  refine tidy F (fun F => ?_)
  refine fn_of _ Try.func28 rfl (by kernel_rfl) Try.ntmps28 rfl ?_
  refine go_on ?_
  refine r_y (y_quoN (k := .u64) (b := 4294967296) rfl rfl (by decide) (by simp only [lim]; omega)) rfl ?_; refine go_on ?_
  refine f_call F rfl rfl rU32_c ?_
  clear F; rintro r O w T Φ ⟨rfl, rfl, rfl⟩ F0
  refine tidy F0 (fun F => ?_); clear F0
  refine go_on ?_
  refine r_y (y_convM (k := .u32) rfl rfl) rfl ?_; refine go_on ?_
  have hm : x % lim .u32 < 4294967296 := Nat.mod_lt _ (by decide)
  refine f_call F rfl rfl rU32_c ?_
  clear F; rintro r O w T Φ ⟨rfl, rfl, rfl⟩ F0
  refine tidy F0 (fun F => ?_); clear F0
  refine go_on ?_
  (try refine r_y (y_str_add rfl rfl (by simp only [be_length]; omega)) rfl ?_)
  refine go_on ?_
  refine go_back ?_
  exact F.fin ⟨by rw [be8]; rfl, rfl, rfl⟩

theorem rBool_c {b : Bool} (h : True) : Con Try.prog 31 [.bool b] [] [] [] fun r T Φ => r = str (be 4 (if b then 1 else 0)) ∧ T = [] ∧ Φ = [] := by
  refine con_of (fun O0 w0 F => ?_)
  refine tidy F (fun F => ?_)
  refine fn_of _ Try.func31 rfl (by kernel_rfl) Try.ntmps31 rfl ?_
  cases b
  all_goals
    refine go_on ?_
    first
      | refine f_call F rfl rfl (rU32_c (x := 0)) ?_
      | refine f_call F rfl rfl (rU32_c (x := 1)) ?_
    clear F; rintro r O w T Φ ⟨rfl, rfl, rfl⟩ F
    refine tidy F (fun F => ?_)
    refine go_on ?_
    refine go_back ?_
    exact F.fin ⟨rfl, rfl, rfl⟩

theorem rOpaque_c {s : List UInt8} (h : s.length ≤ 1000000000000) : Con Try.prog 30 [str s] [] [] [] fun r T Φ => r = str (opaqueB s) ∧ T = [] ∧ Φ = [] := by
  refine con_of (fun O0 w0 F => ?_)
  refine tidy F (fun F => ?_)
  refine fn_of _ Try.func30 rfl (by kernel_rfl) Try.ntmps30 rfl ?_
  refine go_on ?_
  refine r_y (y_convM (k := .u32) rfl rfl) rfl ?_; refine go_on ?_
  refine g_loop (X := Nat) (fun j => [(0, str (s ++ List.replicate j 0)), (3, .int .u32 ((s.length % lim .u32 : Nat) : Int))])
    (fun j wr => ∃ O, Fr [] O0 w0 O wr [] [] ∧ j ≤ fillN s.length) (fun j => 4 - j) 0 (sub_cons rfl (by simp) (sub_cons rfl rfl sub_nil)) ⟨_, F, by simp⟩ ?_
  clear F
  rintro j w ⟨O, F, hj⟩
  have hf : fillN s.length < 4 := fillN_lt _
  have hl : (s ++ List.replicate j (0 : UInt8)).length = s.length + j := by simp
  refine go_on ?_
  rw [hl]
  refine r_y (y_remN (b := 4) rfl rfl (by decide)) rfl ?_
  refine go_on ?_
  refine g_ndec rfl (fun g => ?_) (fun g => ?_)
  · have hlt : j < fillN s.length := by unfold fillN at hj ⊢; omega
    refine go_on ?_
    (try refine r_y (y_str_add (b := [0]) rfl rfl (by simp; omega)) rfl ?_)
    refine go_on ?_
    refine e_round (j + 1) (sub_cons rfl (by rw [List.append_assoc, List.replicate_succ']) (sub_cons rfl rfl sub_nil)) ⟨_, F, by omega⟩ (by omega)
  · have he : j = fillN s.length := by unfold fillN at hj ⊢; omega
    have hm : s.length % lim .u32 < 4294967296 := Nat.mod_lt _ (by decide)
    refine go_on ?_
    refine f_call F rfl rfl rU32_c ?_
    clear F; rintro r O w T Φ ⟨rfl, rfl, rfl⟩ F0
    refine tidy F0 (fun F => ?_); clear F0
    refine go_on ?_
    (try refine r_y (y_str_add rfl rfl (by simp only [be_length, hl]; omega)) rfl ?_)
    refine go_on ?_
    refine go_back ?_
    exact F.fin ⟨by rw [he]; simp only [opaqueB, List.append_assoc]; rfl, rfl, rfl⟩

/-! ### reading -/

def rv (bs : List UInt8) (e : Nat) : Value := .agg #[str bs, .int .i64 e]

theorem rraw_c {bs : List UInt8} {e n : Nat} (h : n < 9223372036854775808 ∧ bs.length < 9223372036854775808) : Con Try.prog 62 [rv bs e, .int .i64 n] [] [] [] fun r T Φ => r = .tuple #[rv (takeR bs e n).2.1 (takeR bs e n).2.2, str (takeR bs e n).1] ∧ T = [] ∧ Φ = [] := by
  obtain ⟨hn, hb⟩ := h
  refine con_of (fun O0 w0 F => ?_)
  refine tidy F (fun F => ?_)
  refine fn_of _ Try.func62 rfl (by kernel_rfl) Try.ntmps62 rfl ?_
  refine go_on ?_
  (first | refine f_box1 F rfl rfl (fun q w F => ?_) | refine f_boxN F rfl rfl (fun q w F => ?_)); refine go_on ?_
  (first | refine f_alloc1 F rfl (fun q w F => ?_) | refine f_allocN F rfl (fun q w F => ?_)); refine go_on ?_
  by_cases he : e = 0
  · by_cases hl : bs.length < n
    · rw [show takeR bs e n = ([], bs, 10) from by unfold takeR; simp [he, hl]]
      refine go_on ?_
      refine f_store1 F rfl rfl rfl (fun w F => ?_); refine go_on ?_
      refine f_storeAll F rfl rfl rfl (fun w F => ?_); refine go_on ?_
      refine go_back ?_
      exact F.fin ⟨rfl, rfl, rfl⟩
    · rw [show takeR bs e n = (bs.take n, bs.drop n, 0) from by unfold takeR; simp [he, hl]]
      refine go_on ?_
      refine f_store1 F rfl rfl rfl (fun w F => ?_); refine go_on ?_
      refine f_storeAll F rfl rfl rfl (fun w F => ?_); refine go_on ?_
      refine go_back ?_
      refine F.fin ⟨?_, rfl, rfl⟩
      simp only [rv, List.drop_zero, Nat.sub_zero, he]
      rw [List.take_of_length_le (l := bs.drop n) (by simp)]
  · rw [takeR_err _ _ _ he]
    refine go_on ?_
    refine f_storeAll F rfl rfl rfl (fun w F => ?_); refine go_on ?_
    refine go_back ?_
    exact F.fin ⟨rfl, rfl, rfl⟩

theorem rnumber_c {s : List UInt8} (h : s.length ≤ 8) : Con Try.prog 63 [str s] [] [] [] fun r T Φ => r = .int .u64 (numB s) ∧ T = [] ∧ Φ = [] := by
  refine con_of (fun O0 w0 F => ?_)
  refine tidy F (fun F => ?_)
  refine fn_of _ Try.func63 rfl (by kernel_rfl) Try.ntmps63 rfl ?_
  refine go_on ?_
  refine g_loop (X := Nat) (fun i => [(0, str s), (3, .int .u64 (numB (s.take i))), (4, .int .i64 i)])
    (fun i wr => ∃ O, Fr [] O0 w0 O wr [] [] ∧ i ≤ s.length) (fun i => s.length - i) 0 (sub_cons rfl rfl (sub_cons rfl rfl (sub_cons rfl rfl (sub_nil)))) ⟨_, F, by simp⟩ ?_
  clear F
  rintro i w ⟨O, F, hi⟩
  refine go_on ?_
  refine g_dec rfl (fun g => ?_) (fun g => ?_)
  · have hi' : i < s.length := by omega
    have hlt : numB (s.take i) < 256 ^ 7 := Nat.lt_of_lt_of_le (numB_lt _) (Nat.pow_le_pow_right (by decide) (by simp; omega))
    have hc := UInt8.toNat_lt s[i]
    refine go_on ?_
    refine r_y (y_mulN (k := .u64) (b := 256) rfl rfl (by simp only [lim]; omega)) rfl ?_
    refine go_on ?_
    refine r_y (y_str_at (i := i) rfl rfl (List.getElem?_eq_getElem hi')) rfl ?_
    refine go_on ?_
    refine r_y (y_addN (k := .u64) rfl rfl (by simp only [lim]; omega)) rfl ?_
    refine go_on ?_
    exact e_round (i + 1) (sub_cons rfl rfl (sub_cons rfl (by rw [List.take_succ_eq_append_getElem hi', numB_snoc]) (sub_cons rfl rfl sub_nil))) ⟨_, F, by omega⟩ (by omega)
  · have hi' : i = s.length := by omega
    subst hi'
    rw [List.take_length]
    refine go_on ?_
    refine go_back ?_
    exact F.fin ⟨rfl, rfl, rfl⟩

theorem rRead32_c {bs : List UInt8} {e : Nat} (h : bs.length < 9223372036854775808) : Con Try.prog 36 [rv bs e] [] [] [] fun r T Φ => r = .tuple #[rv (rdN bs e 4).2.1 (rdN bs e 4).2.2, .int .u32 (rdN bs e 4).1] ∧ T = [] ∧ Φ = [] := by
  refine con_of (fun O0 w0 F => ?_)
  refine tidy F (fun F => ?_)
  refine fn_of _ Try.func36 rfl (by kernel_rfl) Try.ntmps36 rfl ?_
  refine go_on ?_
  (first | refine f_box1 F rfl rfl (fun a w F => ?_) | refine f_boxN F rfl rfl (fun a w F => ?_)); refine go_on ?_
  (first | refine f_alloc1 F rfl (fun b w F => ?_) | refine f_allocN F rfl (fun b w F => ?_)); refine go_on ?_
  refine f_call F rfl rfl (rraw_c (n := 4)) ?_
  clear F; rintro r O w T Φ ⟨rfl, rfl, rfl⟩ F0
  refine tidy F0 (fun F => ?_); clear F0
  refine go_on ?_
  refine f_storeAll F rfl rfl rfl (fun w F => ?_); refine go_on ?_
  have hl := takeR_length bs e 4
  have hlt : numB (takeR bs e 4).1 < 4294967296 := Nat.lt_of_lt_of_le (numB_lt _) (Nat.pow_le_pow_right (by decide) hl)
  refine f_draw [(2, Thing.cells a _)] F [] [(0, true), (1, true), (2, false), (3, true), (4, false), (5, true)] (by kernel_rfl) (by kernel_rfl) (fun w F hS => ?_); refine go_look ?_
  refine rd_do rfl ?_
  (try refine r_go rfl rfl ?_)
  refine f_call F rfl rfl rnumber_c ?_
  clear F; rintro r O w T Φ ⟨rfl, rfl, rfl⟩ F0
  refine tidy F0 (fun F => ?_); clear F0
  refine r_nil ?_; refine e_afterF F (fun hS => ?_); refine go_look ?_
  refine rd_do rfl ?_
  refine f_storeAll F rfl rfl rfl (fun w F => ?_); refine go_on ?_
  refine e_afterS F.wk.fs (fun hS => ?_)
  refine go_look ?_
  refine rd_done ?_; refine go_on ?_
  refine go_back ?_
  exact F.fin ⟨rfl, rfl, rfl⟩

theorem rRead64_c {bs : List UInt8} {e : Nat} (h : bs.length < 9223372036854775808) : Con Try.prog 37 [rv bs e] [] [] [] fun r T Φ => r = .tuple #[rv (rdN bs e 8).2.1 (rdN bs e 8).2.2, .int .u64 (rdN bs e 8).1] ∧ T = [] ∧ Φ = [] := by
  refine con_of (fun O0 w0 F => ?_)
  refine tidy F (fun F => ?_)
  refine fn_of _ Try.func37 rfl (by kernel_rfl) Try.ntmps37 rfl ?_
  refine go_on ?_
  (first | refine f_box1 F rfl rfl (fun a w F => ?_) | refine f_boxN F rfl rfl (fun a w F => ?_)); refine go_on ?_
  (first | refine f_alloc1 F rfl (fun b w F => ?_) | refine f_allocN F rfl (fun b w F => ?_)); refine go_on ?_
  refine f_call F rfl rfl (rraw_c (n := 8)) ?_
  clear F; rintro r O w T Φ ⟨rfl, rfl, rfl⟩ F0
  refine tidy F0 (fun F => ?_); clear F0
  refine go_on ?_
  refine f_storeAll F rfl rfl rfl (fun w F => ?_); refine go_on ?_
  have hl := takeR_length bs e 8
  refine f_draw [(2, Thing.cells a _)] F [] [(0, true), (1, true), (2, false), (3, false), (4, true)] (by kernel_rfl) (by kernel_rfl) (fun w F hS => ?_); refine go_look ?_
  refine rd_do rfl ?_
  (try refine r_go rfl rfl ?_)
  refine f_call F rfl rfl rnumber_c ?_
  clear F; rintro r O w T Φ ⟨rfl, rfl, rfl⟩ F0
  refine tidy F0 (fun F => ?_); clear F0
  refine r_nil ?_; refine e_afterF F (fun hS => ?_); refine go_look ?_
  refine rd_do rfl ?_
  refine f_storeAll F rfl rfl rfl (fun w F => ?_); refine go_on ?_
  refine e_afterS F.wk.fs (fun hS => ?_)
  refine go_look ?_
  refine rd_done ?_; refine go_on ?_
  refine go_back ?_
  exact F.fin ⟨rfl, rfl, rfl⟩

theorem rReadBool_c {bs : List UInt8} {e : Nat} (h : bs.length < 9223372036854775808) : Con Try.prog 38 [rv bs e] [] [] [] fun r T Φ => r = .tuple #[rv (rdBool bs e).2.1 (rdBool bs e).2.2, .bool (rdBool bs e).1] ∧ T = [] ∧ Φ = [] := by
  refine con_of (fun O0 w0 F => ?_)
  refine tidy F (fun F => ?_)
  refine fn_of _ Try.func38 rfl (by kernel_rfl) Try.ntmps38 rfl ?_
  refine go_on ?_
  (first | refine f_box1 F rfl rfl (fun q w F => ?_) | refine f_boxN F rfl rfl (fun q w F => ?_)); refine go_on ?_
  (first | refine f_alloc1 F rfl (fun q w F => ?_) | refine f_allocN F rfl (fun q w F => ?_)); refine go_on ?_
  refine f_call F rfl rfl rRead32_c ?_
  clear F; rintro r O w T Φ ⟨rfl, rfl, rfl⟩ F0
  refine tidy F0 (fun F => ?_); clear F0
  refine go_on ?_
  refine f_storeAll F rfl rfl rfl (fun w F => ?_); refine go_on ?_
  have he : e ≠ 0 → rdN bs e 4 = (0, bs, e) := rdN_err _ _
  have hk : (rdN bs e 4).2.2 = 0 ∨ (rdN bs e 4).1 = 0 := by
    by_cases h0 : e = 0
    · subst h0
      by_cases hl : bs.length < 4
      · right; unfold rdN takeR; simp [hl, numB]
      · left; unfold rdN takeR; simp [hl]
    · right; rw [he h0]
  by_cases g : 1 < (rdN bs e 4).1
  · have hr : rdBool bs e = (false, (rdN bs e 4).2.1, 11) := by
      unfold rdBool; rw [if_pos g, if_pos (by omega)]
    rw [hr]
    refine go_on ?_
    refine f_store1 F rfl rfl rfl (fun w F => ?_); refine go_on ?_
    refine f_storeAll F rfl rfl rfl (fun w F => ?_); refine go_on ?_
    refine go_back ?_
    exact F.fin ⟨rfl, rfl, rfl⟩
  · have hr : rdBool bs e = (decide ((rdN bs e 4).1 = 1), (rdN bs e 4).2) := by
      unfold rdBool; rw [if_neg g]
    rw [hr]
    refine go_on ?_
    refine f_storeAll F rfl rfl rfl (fun w F => ?_); refine go_on ?_
    refine go_back ?_
    have e2 : decide (((rdN bs e 4).1 : Int) = 1) = decide ((rdN bs e 4).1 = 1) := by rw [decide_eq_decide]; omega
    exact F.fin ⟨by rw [e2]; rfl, rfl, rfl⟩

theorem rEnd_c {bs : List UInt8} {e : Nat} (h : True) : Con Try.prog 40 [rv bs e] [] [] [] fun r T Φ => r = .int .i64 (endE bs e) ∧ T = [] ∧ Φ = [] := by
  refine con_of (fun O0 w0 F => ?_)
  refine tidy F (fun F => ?_)
  refine fn_of _ Try.func40 rfl (by kernel_rfl) Try.ntmps40 rfl ?_
  refine go_on ?_
  (first | refine f_box1 F rfl rfl (fun q w F => ?_) | refine f_boxN F rfl rfl (fun q w F => ?_)); refine go_on ?_
  by_cases he : e = 0
  · by_cases hb : bs = []
    · subst hb
      refine go_on ?_
      refine go_back ?_
      exact F.fin ⟨by simp [endE, he], rfl, rfl⟩
    · refine go_on ?_
      refine go_back ?_
      exact F.fin ⟨by simp [endE, he, hb], rfl, rfl⟩
  · refine go_on ?_
    refine go_back ?_
    exact F.fin ⟨by simp [endE, he], rfl, rfl⟩

set_option maxHeartbeats 1000000 in
theorem rReadOpaque_c {bs : List UInt8} {e : Nat} {most : Int} (h : bs.length < 4611686018427387904 ∧ most ≤ 9223372036854775807) : Con Try.prog 39 [rv bs e, .int .i64 most] [] [] [] fun r T Φ => r = .tuple #[rv (rdOpaque bs e most).2.1 (rdOpaque bs e most).2.2, str (rdOpaque bs e most).1] ∧ T = [] ∧ Φ = [] := by
  obtain ⟨hb, hm⟩ := h
  have hlt := rdN_lt bs e 4
  have hrest := rdN_rest bs e 4
  unfold rdOpaque
  refine con_of (fun O0 w0 F => ?_)
  refine tidy F (fun F => ?_)
  refine fn_of _ Try.func39 rfl (by kernel_rfl) Try.ntmps39 rfl ?_
  refine go_on ?_
  (first | refine f_box1 F rfl rfl (fun a w F => ?_) | refine f_boxN F rfl rfl (fun a w F => ?_)); refine go_on ?_
  (first | refine f_alloc1 F rfl (fun b w F => ?_) | refine f_allocN F rfl (fun b w F => ?_)); refine go_on ?_
  refine f_call F rfl rfl rRead32_c ?_
  clear F; rintro r O w T Φ ⟨rfl, rfl, rfl⟩ F0
  refine tidy F0 (fun F => ?_); clear F0
  refine go_on ?_
  generalize rdN bs e 4 = t at hlt hrest ⊢
  obtain ⟨n, cs, e1⟩ := t
  dsimp only at hlt hrest ⊢
  have hn : n < 4294967296 := hlt
  refine f_storeAll F rfl rfl rfl (fun w F => ?_); refine go_on ?_
  by_cases he : e1 = 0
  · rw [if_neg (by simpa using he)]
    by_cases h0 : most < 0
    · rw [if_pos (.inl h0)]
      refine go_on ?_
      refine f_store1 F rfl rfl rfl (fun w F => ?_); refine go_on ?_
      refine f_storeAll F rfl rfl rfl (fun w F => ?_); refine go_on ?_
      refine go_back ?_
      exact F.fin ⟨rfl, rfl, rfl⟩
    obtain ⟨mo, rfl⟩ : ∃ k : Nat, most = k := ⟨most.toNat, by omega⟩
    by_cases h1 : mo < n
    · rw [if_pos (.inr (by omega))]
      refine go_on ?_
      refine f_store1 F rfl rfl rfl (fun w F => ?_); refine go_on ?_
      refine f_storeAll F rfl rfl rfl (fun w F => ?_); refine go_on ?_
      refine go_back ?_
      exact F.fin ⟨rfl, rfl, rfl⟩
    rw [if_neg (by omega)]
    have hf := fillN_lt n
    refine go_on ?_
    refine g_loop (X := Nat) (fun j => [(2, ptr a), (4, ptr b), (7, .int .i64 n), (8, .int .i64 ((n + j : Nat) : Int))])
      (fun j wr => ∃ O, Fr [] O0 w0 O wr [(2, Thing.cells a [str cs, .int .i64 ((0 : Nat) : Int)]), (2, Thing.cells b [.string ⟨#[]⟩, .int .i64 0])] [] ∧ j ≤ fillN n) (fun j => 4 - j) 0 (sub_cons rfl rfl (sub_cons rfl rfl (sub_cons rfl rfl (sub_cons rfl rfl (sub_nil))))) ⟨_, by subst he; exact F.wk, by simp⟩ ?_
    clear F; rintro j w ⟨O, F, hj⟩
    refine go_on ?_
    refine r_y (y_remN (b := 4) rfl rfl (by decide)) rfl ?_
    refine go_on ?_
    refine g_ndec rfl (fun g => ?_) (fun g => ?_)
    · have hlt2 : j < fillN n := by unfold fillN at hj ⊢; omega
      refine go_on ?_
      exact e_round (j + 1) (sub_cons rfl rfl (sub_cons rfl rfl (sub_cons rfl rfl (sub_cons rfl (by congr 1 <;> omega) sub_nil)))) ⟨_, F, by omega⟩ (by omega)
    have hj' : j = fillN n := by unfold fillN at hj ⊢; omega
    subst hj'
    refine go_on ?_
    refine f_call F rfl rfl rraw_c ?_
    clear F; rintro r O w T Φ ⟨rfl, rfl, rfl⟩ F0
    refine tidy F0 (fun F => ?_); clear F0
    refine go_on ?_
    have htk := takeR_ok cs 0 (n + fillN n)
    have htl := takeR_length cs 0 (n + fillN n)
    generalize takeR cs 0 (n + fillN n) = t at htk htl ⊢
    obtain ⟨t1, t2, t3⟩ := t
    dsimp only at htk htl ⊢
    refine f_storeAll F rfl rfl rfl (fun w F => ?_); refine go_on ?_
    by_cases h3 : t3 = 0
    · rw [if_neg (by simpa using h3)]
      obtain ⟨_, hle, ht⟩ := htk h3
      injection ht with ht1 ht
      have hl1 : t1.length = n + fillN n := by rw [ht1]; simp; omega
      refine go_on ?_
      refine g_loop (X := Nat) (fun i => [(2, ptr a), (4, ptr b), (7, .int .i64 n), (8, .int .i64 ((n + fillN n : Nat) : Int)), (9, str t1), (10, .int .i64 i)])
        (fun i wr => ∃ O, Fr [] O0 w0 O wr [(2, Thing.cells a [str t2, .int .i64 ((0 : Nat) : Int)]), (2, Thing.cells b [.string ⟨#[]⟩, .int .i64 0])] [] ∧ n ≤ i ∧ i ≤ n + fillN n ∧ ∀ j (hj : j < t1.length), n ≤ j → j < i → t1[j] = 0) (fun i => n + fillN n - i) n (sub_cons rfl rfl (sub_cons rfl rfl (sub_cons rfl rfl (sub_cons rfl rfl (sub_cons rfl rfl (sub_cons rfl rfl (sub_nil))))))) ⟨_, by subst h3; exact F.wk, by omega, by omega, by omega⟩ ?_
      clear F; rintro i w ⟨O, F, hi0, hi, hz⟩
      refine go_on ?_
      refine g_dec rfl (fun g => ?_) (fun g => ?_)
      · have hi' : i < t1.length := by omega
        refine go_on ?_
        refine r_y (y_str_at (i := i) rfl rfl (List.getElem?_eq_getElem hi')) rfl ?_
        refine go_on ?_
        refine g_ndec rfl (fun g2 => ?_) (fun g2 => ?_)
        · have hx : ∃ c, c ∈ t1.drop n ∧ c ≠ 0 := ⟨t1[i], by
            rw [show t1[i] = (t1.drop n)[i - n]'(by simp; omega) from by rw [List.getElem_drop]; congr 1 <;> omega]
            exact List.getElem_mem _, fun h0 => g2 (by rw [h0]; rfl)⟩
          rw [if_pos hx]
          refine go_on ?_
          refine f_store1 F rfl rfl rfl (fun w F => ?_); refine go_on ?_
          refine f_storeAll F rfl rfl rfl (fun w F => ?_); refine go_on ?_
          refine go_back ?_
          exact F.fin ⟨rfl, rfl, rfl⟩
        · refine go_on ?_
          refine e_round (i + 1) (sub_cons rfl rfl (sub_cons rfl rfl (sub_cons rfl rfl (sub_cons rfl rfl (sub_cons rfl rfl (sub_cons rfl rfl (sub_nil))))))) ⟨_, F, by omega, by omega, fun j hj h1 h2 => ?_⟩ (by omega)
          by_cases hji : j = i
          · subst hji; exact UInt8.toNat_inj.1 (by simpa using g2)
          · exact hz j hj h1 (by omega)
      · have hx : ¬ ∃ c, c ∈ t1.drop n ∧ c ≠ 0 := by
          rintro ⟨c, hc, hn0⟩
          obtain ⟨j, hj, rfl⟩ := List.getElem_of_mem hc
          simp at hj
          exact hn0 (by rw [List.getElem_drop]; exact hz (n + j) (by omega) (by omega) (by omega))
        rw [if_neg hx]
        refine go_on ?_
        refine f_draw [(2, Thing.cells a _)] F [] [(0, true), (1, true), (2, true), (3, true), (4, false), (5, true)] (by kernel_rfl) (by kernel_rfl) (fun w F hS => ?_); refine go_look ?_
        refine rd_do rfl ?_
        refine f_storeAll F rfl rfl rfl (fun w F => ?_); refine go_on ?_
        refine e_afterS F.wk.fs (fun hS => ?_)
        refine go_look ?_
        refine rd_done ?_; refine go_on ?_
        refine go_back ?_
        exact F.fin ⟨by subst h3; simp [rv], rfl, rfl⟩
    · rw [if_pos h3]
      refine go_on ?_
      refine f_storeAll F rfl rfl rfl (fun w F => ?_); refine go_on ?_
      refine go_back ?_
      exact F.fin ⟨rfl, rfl, rfl⟩
  · rw [if_pos he]
    refine go_on ?_
    refine f_storeAll F rfl rfl rfl (fun w F => ?_); refine go_on ?_
    refine go_back ?_
    exact F.fin ⟨rfl, rfl, rfl⟩
end Go.Proofs.Ytejkpngghbcbbaa
