/- InodePuts answers true. -/
import Derived.Test.YtejkpngghbcbbaaInodel
namespace Go.Proofs.Ytejkpngghbcbbaa
open Gk Go
set_option linter.unusedVariables false
set_option maxHeartbeats 4000000
set_option linter.unusedSimpArgs false
attribute [local irreducible] Int.decLt Int.decLe Int.decEq Int.instDecidableEq Gk.Rnds Gk.E Gk.G Gk.R Gk.RD Gk.RX Gk.RO Gk.Y Gk.Ent Gk.Sat Gk.Round Gk.After Gk.Cell Gk.Sl Gk.SlA Gk.CB Gk.OK Gk.FnC Gk.Bytes Gk.BytesL Gk.StrL Gk.Buf Gk.MapI
theorem InodePuts_ok {w0 : World} {n : Ino} {v : Value} {size : Int} (hf : n.blocks.length ≤ 1000000 → n.fit) (hs : -9223372036854775808 ≤ size ∧ size ≤ 9223372036854775807) (F : Fr [] [] w0 [] w0 [] [Fact.u32s v n.blocks]) :
    FnC Try.prog 11 [inoV n v, .int .i64 size] [] [] w0 fun r O' w' => r = .bool true := by
  obtain ⟨a, c, rfl, _⟩ := (F.sl (v := v) (cs := n.blocks.map u32V)).form
  refine fn_of _ Try.func11 rfl (by kernel_rfl) Try.ntmps11 rfl ?_
  refine go_on ?_
  (first | refine f_box1 F rfl rfl (fun q w F => ?_) | refine f_boxN F rfl rfl (fun q w F => ?_)); refine go_on ?_
  refine f_call F rfl rfl awake07_c ?_
  clear F; rintro r O w T Φ ⟨rfl, rfl, rfl⟩ F0
  refine tidy F0 (fun F => ?_); clear F0
  refine go_on ?_
  by_cases g : 20 < n.blocks.length ∨ 1000000 < size
  · apply f_or 3 22 19 F
    · exact rfl
    · intro e; have e' := e; (try simp only [Bool.and_eq_true, Bool.or_eq_true, decide_eq_true_eq, decide_eq_false_iff_not, Bool.not_eq_true', Bool.or_eq_false_iff, Bool.not_eq_false', Bool.and_eq_false_iff] at e'); refine go_on ?_; refine e_cut rfl rfl (by (repeat (first | exact sub_refl | refine sub_new rfl ?_ | refine sub_bool rfl (by assumption) ?_))) (by (first | exact ⟨_, F⟩ | exact ⟨_, F.wk⟩))
    · intro e; have e' := e; (try simp only [Bool.and_eq_true, Bool.or_eq_true, decide_eq_true_eq, decide_eq_false_iff_not, Bool.not_eq_true', Bool.or_eq_false_iff, Bool.not_eq_false', Bool.and_eq_false_iff] at e'); refine go_on ?_; refine e_cut rfl rfl (by (repeat (first | exact sub_refl | refine sub_new rfl ?_ | refine sub_bool rfl (by assumption) ?_))) (by (first | exact ⟨_, F⟩ | exact ⟨_, F.wk⟩))
    intro O w F; refine go_on ?_
    have e : (decide ((20 : Int) < ↑n.blocks.length) || decide ((1000000 : Int) < size)) = true := by simp only [Bool.or_eq_true, decide_eq_true_eq]; omega
    rw [e]
    refine go_on ?_
    refine go_back ?_
    exact F.law
  have hf := hf (by omega)
  have hlen := n.bytes_len
  refine go_on ?_
  refine f_call F rfl rfl (inoPut_c (n := n)) ?_
  clear F; rintro r O w T Φ ⟨u, rfl, rfl, rfl⟩ F0
  refine tidy F0 (fun F => ?_); clear F0
  refine go_on ?_
  obtain ⟨ua, uc, rfl, _⟩ := (F.bytes (v := u)).form
  refine f_call F rfl rfl (inodeOf_c (n := n)) ?_
  clear F; rintro r O w T Φ ⟨rfl, rfl, rfl⟩ F0
  refine tidy F0 (fun F => ?_); clear F0
  refine go_on ?_
  refine f_call F rfl rfl (rPut_c (n := n)) ?_
  clear F; rintro r O w T Φ ⟨rfl, rfl, rfl⟩ F0
  refine tidy F0 (fun F => ?_); clear F0
  refine go_on ?_
  refine f_drawA F [] [(0, true), (2, true), (1, false), (3, false), (4, false), (5, true), (6, true), (7, true), (8, true), (9, true), (10, true), (11, true), (12, true), (13, true), (14, true), (15, true), (16, true), (17, true), (18, true), (20, true), (19, false), (21, false), (22, true), (23, true)] (by kernel_rfl) (by kernel_rfl) (fun w F hS => ?_); refine go_look ?_
  refine rd_do rfl ?_
  (try refine r_go rfl rfl ?_)
  refine f_call F rfl rfl (check_c (n := n)) ?_
  clear F; rintro r O w T Φ ⟨rfl, rfl, rfl⟩ F0
  refine tidy F0 (fun F => ?_); clear F0
  refine r_nil ?_; refine e_afterF F (fun hS => ?_); refine go_look ?_
  refine rd_do rfl ?_
  (try refine r_go rfl rfl ?_)
  refine f_call F rfl rfl (inodeOf_c (n := n)) ?_
  clear F; rintro r O w T Φ ⟨rfl, rfl, rfl⟩ F0
  refine tidy F0 (fun F => ?_); clear F0
  refine r_nil ?_; refine e_afterF F (fun hS => ?_); refine go_look ?_
  refine rd_do rfl ?_
  (try refine r_go rfl rfl ?_)
  refine f_call F rfl rfl (rCheck_c (n := n)) ?_
  clear F; rintro r O w T Φ ⟨rfl, rfl, rfl⟩ F0
  refine tidy F0 (fun F => ?_); clear F0
  refine r_nil ?_; refine e_afterF F (fun hS => ?_); refine go_look ?_
  refine rd_do rfl ?_
  (try refine r_go rfl rfl ?_)
  refine f_call F rfl rfl need_c ?_
  clear F; rintro r O w T Φ ⟨rfl, rfl, rfl⟩ F0
  refine tidy F0 (fun F => ?_); clear F0
  refine r_nil ?_; refine e_afterF F (fun hS => ?_); refine go_look ?_
  refine rd_do rfl ?_
  (try refine r_go rfl rfl ?_)
  refine f_call F rfl rfl rNeed_c ?_
  clear F; rintro r O w T Φ ⟨rfl, rfl, rfl⟩ F0
  refine tidy F0 (fun F => ?_); clear F0
  refine r_nil ?_; refine e_afterF F (fun hS => ?_); refine go_look ?_
  refine rd_done ?_; refine go_on ?_
  by_cases hm : n.may
  · rw [if_pos hm]
    by_cases hz : n.none
    · have hz' := Ino.zero_of hz
      subst hz'
      rw [if_neg (fun h => h.2 hz)] at F ⊢
      refine go_on ?_
      refine f_call F rfl rfl (inoGet_c (b := [])) ?_
      clear F; rintro r O w T Φ ⟨x, rfl, rfl, rfl⟩ F0
      refine tidy F0 (fun F => ?_); clear F0
      refine go_on ?_
      rw [inoGet_nil] at F ⊢
      dsimp only at F ⊢
      obtain ⟨xa, xc, rfl, _⟩ := (F.sl (v := x) (cs := [])).form
      refine go_on ?_
      (first | refine f_alloc1 F rfl (fun p w F => ?_) | refine f_allocN F rfl (fun p w F => ?_)); refine go_on ?_
      refine f_storeAll F rfl rfl rfl (fun w F => ?_); refine go_on ?_
      refine f_drawA F [] [(0, true), (1, true), (2, true), (3, true), (5, true), (4, false), (6, false), (7, false), (8, true), (9, true), (10, true), (11, true), (12, true), (13, true), (14, true)] (by kernel_rfl) (by kernel_rfl) (fun w F hS => ?_); refine go_look ?_
      refine rd_do rfl ?_
      (try refine r_go rfl rfl ?_)
      refine f_call F rfl rfl (inodeOf_c (n := .zero)) ?_
      clear F; rintro r O w T Φ ⟨rfl, rfl, rfl⟩ F0
      refine tidy F0 (fun F => ?_); clear F0
      refine r_nil ?_; refine e_afterF F (fun hS => ?_); refine go_look ?_
      refine rd_do rfl ?_
      (try refine r_go rfl rfl ?_)
      refine f_call F rfl rfl (inodeOf_c (n := .zero)) ?_
      clear F; rintro r O w T Φ ⟨rfl, rfl, rfl⟩ F0
      refine tidy F0 (fun F => ?_); clear F0
      refine r_nil ?_; refine e_afterF F (fun hS => ?_); refine go_look ?_
      refine rd_do rfl ?_
      (try refine r_go rfl rfl ?_)
      refine f_call F rfl rfl (rSame_c (n := .zero) (m := .zero)) ?_
      clear F; rintro r O w T Φ ⟨rfl, rfl, rfl⟩ F0
      refine tidy F0 (fun F => ?_); clear F0
      refine r_nil ?_; refine e_afterF F (fun hS => ?_); refine go_look ?_
      refine rd_done ?_; refine go_on ?_
      refine go_back ?_
      exact F.lawb (by simp)
    · have hmz : n.may ∧ ¬ n.none := ⟨hm, hz⟩
      rw [if_pos hmz] at F ⊢
      have hg := inoGet_bytes hf hm hz
      have h8 := hm.2.1
      generalize n.bytes = bs at hg hlen F ⊢
      refine go_on ?_
      refine f_call F rfl rfl (inoGet_c (b := bs)) ?_
      clear F; rintro r O w T Φ ⟨x, rfl, rfl, rfl⟩ F0
      refine tidy F0 (fun F => ?_); clear F0
      refine go_on ?_
      rw [hg] at F ⊢
      dsimp only at F ⊢
      obtain ⟨xa, xc, rfl, _⟩ := (F.sl (v := x) (cs := n.blocks.map u32V)).form
      refine go_on ?_
      (first | refine f_alloc1 F rfl (fun p w F => ?_) | refine f_allocN F rfl (fun p w F => ?_)); refine go_on ?_
      refine f_storeAll F rfl rfl rfl (fun w F => ?_); refine go_on ?_
      refine f_drawA F [] [(0, true), (1, true), (2, true), (3, true), (5, true), (4, false), (6, false), (7, false), (8, true), (9, true), (10, true), (11, true), (12, true), (13, true), (14, true)] (by kernel_rfl) (by kernel_rfl) (fun w F hS => ?_); refine go_look ?_
      refine rd_do rfl ?_
      (try refine r_go rfl rfl ?_)
      refine f_call F rfl rfl (inodeOf_c (n := n)) ?_
      clear F; rintro r O w T Φ ⟨rfl, rfl, rfl⟩ F0
      refine tidy F0 (fun F => ?_); clear F0
      refine r_nil ?_; refine e_afterF F (fun hS => ?_); refine go_look ?_
      refine rd_do rfl ?_
      (try refine r_go rfl rfl ?_)
      refine f_call F rfl rfl (inodeOf_c (n := n)) ?_
      clear F; rintro r O w T Φ ⟨rfl, rfl, rfl⟩ F0
      refine tidy F0 (fun F => ?_); clear F0
      refine r_nil ?_; refine e_afterF F (fun hS => ?_); refine go_look ?_
      refine rd_do rfl ?_
      (try refine r_go rfl rfl ?_)
      refine f_call F rfl rfl (rSame_c (n := n) (m := n)) ?_
      clear F; rintro r O w T Φ ⟨rfl, rfl, rfl⟩ F0
      refine tidy F0 (fun F => ?_); clear F0
      refine r_nil ?_; refine e_afterF F (fun hS => ?_); refine go_look ?_
      refine rd_done ?_; refine go_on ?_
      refine go_back ?_
      exact F.lawb (by simp; omega)
  · rw [if_neg hm]
    refine go_on ?_
    refine go_back ?_
    exact F.law
theorem InodePuts_true {w : World} {l : List Value} {v1 : Value} (r0 : Reads Try.prog w 69 l) (r1 : Reads Try.prog w 3 [v1]) :
    FnC Try.prog 11 [.agg l.toArray, v1] [] [] w fun r O' w' => r = .bool true := by
  obtain ⟨n, v, e, hv, hf⟩ := reads_ino r0
  obtain ⟨x, h, hw⟩ := reads_int (k := .i64) r1
  injection h with h
  subst h
  rw [e]
  refine InodePuts_ok hf ?_ ((Fr.start OK_nil).fact (f := Fact.u32s v n.blocks) hv)
  simpa [Lit.wf, IntKind.min, IntKind.max, IntKind.signed, IntKind.bits] using hw
end Go.Proofs.Ytejkpngghbcbbaa
