/- What the reference of layer 1 answers. -/
import Derived.Test.YtdhfikbehbpdjaaXdrn
namespace Go.Proofs.Ytdhfikbehbpdjaa
open Gk Go
set_option linter.unusedVariables false
set_option maxHeartbeats 4000000
set_option maxRecDepth 4000
set_option linter.unusedSimpArgs false
attribute [local irreducible] Int.decLt Int.decLe Int.decEq Int.instDecidableEq Gk.Rnds Gk.E Gk.G Gk.R Gk.RD Gk.RX Gk.RO Gk.Y Gk.Ent Gk.Sat Gk.Round Gk.After Gk.Cell Gk.Sl Gk.SlA Gk.CB Gk.OK Gk.FnC Gk.Bytes Gk.BytesL Gk.StrL Gk.Buf Gk.MapI
theorem be4 (x : Nat) : be 4 x = [UInt8.ofNat (x / 16777216), UInt8.ofNat (x / 65536), UInt8.ofNat (x / 256), UInt8.ofNat x] := by simp [be]
theorem be8 (x : Nat) : be 8 x = be 4 (x / 4294967296) ++ be 4 (x % 4294967296) := by
  have h : be 4 (x % 4294967296) = be 4 x := by
    have := be_mod 4 (x / 4294967296) (x % 4294967296)
    rw [← this]
    congr 1
    have := Nat.div_add_mod x 4294967296
    omega
  rw [h]
  simp only [be, Nat.div_div_eq_div_mul, List.cons_append, List.nil_append]

theorem rU32_c {x : Nat} (h : x < 4294967296) : Con Try.prog 43 [.int .u32 x] [] [] [] fun r T Φ => r = str (be 4 x) ∧ T = [] ∧ Φ = [] := by
  refine con_of (fun O0 w0 F => ?_)
  refine tidy F (fun F => ?_)
  refine fn_of _ Try.func43 rfl (by kernel_rfl) Try.ntmps43 rfl ?_
  refine go_on ?_
  refine r_y (y_quoN (k := .u32) (b := 16777216) rfl rfl (by decide) (by simp only [lim]; omega)) rfl ?_; refine go_on ?_
  refine r_y (y_quoN (k := .u32) (b := 65536) rfl rfl (by decide) (by simp only [lim]; omega)) rfl ?_; refine go_on ?_
  refine r_y (y_quoN (k := .u32) (b := 256) rfl rfl (by decide) (by simp only [lim]; omega)) rfl ?_; refine go_on ?_
  refine f_buildSlice (cs := [_, _, _, _]) F rfl rfl rfl rfl (fun q w F => ?_); refine go_on ?_
  refine r_y (y_bytes_str (xs := [UInt8.ofNat (x / 16777216), UInt8.ofNat (x / 65536), UInt8.ofNat (x / 256), UInt8.ofNat x]) rfl (F.cellBytes (xs := [UInt8.ofNat (x / 16777216), UInt8.ofNat (x / 65536), UInt8.ofNat (x / 256), UInt8.ofNat x]))) rfl ?_; refine go_on ?_
  refine go_back ?_
  exact F.fin ⟨by rw [be4], rfl, rfl⟩

theorem rU64_c {x : Nat} (h : x < 18446744073709551616) : Con Try.prog 34 [.int .u64 x] [] [] [] fun r T Φ => r = str (be 8 x) ∧ T = [] ∧ Φ = [] := by
  refine con_of (fun O0 w0 F => ?_)
  refine tidy F (fun F => ?_)
  refine fn_of _ Try.func34 rfl (by kernel_rfl) Try.ntmps34 rfl ?_
  refine go_on ?_
  refine r_y (y_quoN (k := .u64) (b := 4294967296) rfl rfl (by decide) (by simp only [lim]; omega)) rfl ?_; refine go_on ?_
  refine f_call F rfl rfl rU32_c ?_
  clear F; rintro r O w T Φ ⟨rfl, rfl, rfl⟩ F0
  refine tidy F0 (fun F => ?_); clear F0
  refine go_on ?_
  refine r_y (y_convM (k := .u32) rfl rfl) rfl ?_; refine go_on ?_
  have hm : x % lim .u32 < 4294967296 := Nat.mod_lt _ (by decide)
  refine f_call F rfl rfl rU32_c ?_
  clear F; rintro r O w T Φ ⟨rfl, rfl, rfl⟩ F0
  refine tidy F0 (fun F => ?_); clear F0
  refine go_on ?_
  (try refine r_y (y_str_add rfl rfl (by simp only [be_length]; omega)) rfl ?_)
  refine go_on ?_
  refine go_back ?_
  exact F.fin ⟨by rw [be8]; rfl, rfl, rfl⟩

/-! ### reading -/

def rv (bs : List UInt8) (e : Nat) : Value := .agg #[str bs, .int .i64 e]

theorem rraw_c {bs : List UInt8} {e n : Nat} (h : n < 9223372036854775808 ∧ bs.length < 9223372036854775808) : Con Try.prog 54 [rv bs e, .int .i64 n] [] [] [] fun r T Φ => r = .tuple #[rv (takeR bs e n).2.1 (takeR bs e n).2.2, str (takeR bs e n).1] ∧ T = [] ∧ Φ = [] := by
  obtain ⟨hn, hb⟩ := h
  refine con_of (fun O0 w0 F => ?_)
  refine tidy F (fun F => ?_)
  refine fn_of _ Try.func54 rfl (by kernel_rfl) Try.ntmps54 rfl ?_
  refine go_on ?_
  (first | refine f_box1 F rfl rfl (fun q w F => ?_) | refine f_boxN F rfl rfl (fun q w F => ?_)); refine go_on ?_
  (first | refine f_alloc1 F rfl (fun q w F => ?_) | refine f_allocN F rfl (fun q w F => ?_)); refine go_on ?_
  by_cases he : e = 0
  · by_cases hl : bs.length < n
    · rw [show takeR bs e n = ([], bs, 10) from by unfold takeR; simp [he, hl]]
      refine go_on ?_
      refine f_store1 F rfl rfl rfl (fun w F => ?_); refine go_on ?_
      refine f_storeAll F rfl rfl rfl (fun w F => ?_); refine go_on ?_
      refine go_back ?_
      exact F.fin ⟨rfl, rfl, rfl⟩
    · rw [show takeR bs e n = (bs.take n, bs.drop n, 0) from by unfold takeR; simp [he, hl]]
      refine go_on ?_
      refine f_store1 F rfl rfl rfl (fun w F => ?_); refine go_on ?_
      refine f_storeAll F rfl rfl rfl (fun w F => ?_); refine go_on ?_
      refine go_back ?_
      refine F.fin ⟨?_, rfl, rfl⟩
      simp only [rv, List.drop_zero, Nat.sub_zero, he]
      rw [List.take_of_length_le (l := bs.drop n) (by simp)]
  · rw [takeR_err _ _ _ he]
    refine go_on ?_
    refine f_storeAll F rfl rfl rfl (fun w F => ?_); refine go_on ?_
    refine go_back ?_
    exact F.fin ⟨rfl, rfl, rfl⟩

theorem rnumber_c {s : List UInt8} (h : s.length ≤ 8) : Con Try.prog 55 [str s] [] [] [] fun r T Φ => r = .int .u64 (numB s) ∧ T = [] ∧ Φ = [] := by
  refine con_of (fun O0 w0 F => ?_)
  refine tidy F (fun F => ?_)
  refine fn_of _ Try.func55 rfl (by kernel_rfl) Try.ntmps55 rfl ?_
  refine go_on ?_
  refine g_loop (X := Nat) (fun i => [(0, str s), (3, .int .u64 (numB (s.take i))), (4, .int .i64 i)])
    (fun i wr => ∃ O, Fr [] O0 w0 O wr [] [] ∧ i ≤ s.length) (fun i => s.length - i) 0 (sub_cons rfl rfl (sub_cons rfl rfl (sub_cons rfl rfl (sub_nil)))) ⟨_, F, by simp⟩ ?_
  clear F
  rintro i w ⟨O, F, hi⟩
  refine go_on ?_
  refine g_dec rfl (fun g => ?_) (fun g => ?_)
  · have hi' : i < s.length := by omega
    have hlt : numB (s.take i) < 256 ^ 7 := Nat.lt_of_lt_of_le (numB_lt _) (Nat.pow_le_pow_right (by decide) (by simp; omega))
    have hc := UInt8.toNat_lt s[i]
    refine go_on ?_
    refine r_y (y_mulN (k := .u64) (b := 256) rfl rfl (by simp only [lim]; omega)) rfl ?_
    refine go_on ?_
    refine r_y (y_str_at (i := i) rfl rfl (List.getElem?_eq_getElem hi')) rfl ?_
    refine go_on ?_
    refine r_y (y_addN (k := .u64) rfl rfl (by simp only [lim]; omega)) rfl ?_
    refine go_on ?_
    exact e_round (i + 1) (sub_cons rfl rfl (sub_cons rfl (by rw [List.take_succ_eq_append_getElem hi', numB_snoc]) (sub_cons rfl rfl sub_nil))) ⟨_, F, by omega⟩ (by omega)
  · have hi' : i = s.length := by omega
    subst hi'
    rw [List.take_length]
    refine go_on ?_
    refine go_back ?_
    exact F.fin ⟨rfl, rfl, rfl⟩

theorem rRead32_c {bs : List UInt8} {e : Nat} (h : bs.length < 9223372036854775808) : Con Try.prog 48 [rv bs e] [] [] [] fun r T Φ => r = .tuple #[rv (rdN bs e 4).2.1 (rdN bs e 4).2.2, .int .u32 (rdN bs e 4).1] ∧ T = [] ∧ Φ = [] := by
  refine con_of (fun O0 w0 F => ?_)
  refine tidy F (fun F => ?_)
  refine fn_of _ Try.func48 rfl (by kernel_rfl) Try.ntmps48 rfl ?_
  refine go_on ?_
  (first | refine f_box1 F rfl rfl (fun a w F => ?_) | refine f_boxN F rfl rfl (fun a w F => ?_)); refine go_on ?_
  (first | refine f_alloc1 F rfl (fun b w F => ?_) | refine f_allocN F rfl (fun b w F => ?_)); refine go_on ?_
  refine f_call F rfl rfl (rraw_c (n := 4)) ?_
  clear F; rintro r O w T Φ ⟨rfl, rfl, rfl⟩ F0
  refine tidy F0 (fun F => ?_); clear F0
  refine go_on ?_
  refine f_storeAll F rfl rfl rfl (fun w F => ?_); refine go_on ?_
  have hl := takeR_length bs e 4
  have hlt : numB (takeR bs e 4).1 < 4294967296 := Nat.lt_of_lt_of_le (numB_lt _) (Nat.pow_le_pow_right (by decide) hl)
  refine f_draw [(2, Thing.cells a _)] F [] [(0, true), (1, true), (2, false), (3, true), (4, false), (5, true)] (by kernel_rfl) (by kernel_rfl) (fun w F hS => ?_); refine go_look ?_
  refine rd_do rfl ?_
  (try refine r_go rfl rfl ?_)
  refine f_call F rfl rfl rnumber_c ?_
  clear F; rintro r O w T Φ ⟨rfl, rfl, rfl⟩ F0
  refine tidy F0 (fun F => ?_); clear F0
  refine r_nil ?_; refine e_afterF F (fun hS => ?_); refine go_look ?_
  refine rd_do rfl ?_
  refine f_storeAll F rfl rfl rfl (fun w F => ?_); refine go_on ?_
  refine e_afterS F.wk.fs (fun hS => ?_)
  refine go_look ?_
  refine rd_done ?_; refine go_on ?_
  refine go_back ?_
  exact F.fin ⟨rfl, rfl, rfl⟩

theorem rRead64_c {bs : List UInt8} {e : Nat} (h : bs.length < 9223372036854775808) : Con Try.prog 49 [rv bs e] [] [] [] fun r T Φ => r = .tuple #[rv (rdN bs e 8).2.1 (rdN bs e 8).2.2, .int .u64 (rdN bs e 8).1] ∧ T = [] ∧ Φ = [] := by
  refine con_of (fun O0 w0 F => ?_)
  refine tidy F (fun F => ?_)
  refine fn_of _ Try.func49 rfl (by kernel_rfl) Try.ntmps49 rfl ?_
  refine go_on ?_
  (first | refine f_box1 F rfl rfl (fun a w F => ?_) | refine f_boxN F rfl rfl (fun a w F => ?_)); refine go_on ?_
  (first | refine f_alloc1 F rfl (fun b w F => ?_) | refine f_allocN F rfl (fun b w F => ?_)); refine go_on ?_
  refine f_call F rfl rfl (rraw_c (n := 8)) ?_
  clear F; rintro r O w T Φ ⟨rfl, rfl, rfl⟩ F0
  refine tidy F0 (fun F => ?_); clear F0
  refine go_on ?_
  refine f_storeAll F rfl rfl rfl (fun w F => ?_); refine go_on ?_
  have hl := takeR_length bs e 8
  refine f_draw [(2, Thing.cells a _)] F [] [(0, true), (1, true), (2, false), (3, false), (4, true)] (by kernel_rfl) (by kernel_rfl) (fun w F hS => ?_); refine go_look ?_
  refine rd_do rfl ?_
  (try refine r_go rfl rfl ?_)
  refine f_call F rfl rfl rnumber_c ?_
  clear F; rintro r O w T Φ ⟨rfl, rfl, rfl⟩ F0
  refine tidy F0 (fun F => ?_); clear F0
  refine r_nil ?_; refine e_afterF F (fun hS => ?_); refine go_look ?_
  refine rd_do rfl ?_
  refine f_storeAll F rfl rfl rfl (fun w F => ?_); refine go_on ?_
  refine e_afterS F.wk.fs (fun hS => ?_)
  refine go_look ?_
  refine rd_done ?_; refine go_on ?_
  refine go_back ?_
  exact F.fin ⟨rfl, rfl, rfl⟩

theorem rEnd_c {bs : List UInt8} {e : Nat} (h : True) : Con Try.prog 50 [rv bs e] [] [] [] fun r T Φ => r = .int .i64 (endE bs e) ∧ T = [] ∧ Φ = [] := by
  refine con_of (fun O0 w0 F => ?_)
  refine tidy F (fun F => ?_)
  refine fn_of _ Try.func50 rfl (by kernel_rfl) Try.ntmps50 rfl ?_
  refine go_on ?_
  (first | refine f_box1 F rfl rfl (fun q w F => ?_) | refine f_boxN F rfl rfl (fun q w F => ?_)); refine go_on ?_
  by_cases he : e = 0
  · by_cases hb : bs = []
    · subst hb
      refine go_on ?_
      refine go_back ?_
      exact F.fin ⟨by simp [endE, he], rfl, rfl⟩
    · refine go_on ?_
      refine go_back ?_
      exact F.fin ⟨by simp [endE, he, hb], rfl, rfl⟩
  · refine go_on ?_
    refine go_back ?_
    exact F.fin ⟨by simp [endE, he], rfl, rfl⟩

end Go.Proofs.Ytdhfikbehbpdjaa
