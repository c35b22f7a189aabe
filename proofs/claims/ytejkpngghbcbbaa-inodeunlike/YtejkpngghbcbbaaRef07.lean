/- What the reference of layer 7 answers. -/
import Derived.Test.YtejkpngghbcbbaaInodeg
import Derived.Test.YtejkpngghbcbbaaRef01
namespace Go.Proofs.Ytejkpngghbcbbaa
open Gk Go
set_option linter.unusedVariables false
set_option maxHeartbeats 4000000
set_option linter.unusedSimpArgs false
attribute [local irreducible] Int.decLt Int.decLe Int.decEq Int.instDecidableEq Gk.Rnds Gk.E Gk.G Gk.R Gk.RD Gk.RX Gk.RO Gk.Y Gk.Ent Gk.Sat Gk.Round Gk.After Gk.Cell Gk.Sl Gk.SlA Gk.CB Gk.OK Gk.FnC Gk.Bytes Gk.BytesL Gk.StrL Gk.Buf Gk.MapI
theorem rNeed_c {size : Int} (h : -9223372036854775808 ≤ size ∧ size ≤ 1000000) : Con Try.prog 48 [.int .i64 size] [] [] [] fun r T Φ => r = .int .i64 (needN size) ∧ T = [] ∧ Φ = [] := by
  refine con_of (fun O0 w0 F => ?_)
  refine tidy F (fun F => ?_)
  refine fn_of _ Try.func48 rfl (by kernel_rfl) Try.ntmps48 rfl ?_
  refine go_on ?_
  refine g_loop (X := Nat) (fun y => [(0, .int .i64 size), (3, .int .i64 y)]) (fun y wr => ∃ O, Fr [] O0 w0 O wr [] [] ∧ y ≤ needN size) (fun y => needN size - y) 0 (sub_cons rfl rfl (sub_cons rfl rfl (sub_nil))) ⟨_, F, Nat.zero_le _⟩ ?_
  clear F
  rintro i w ⟨O, F, hi⟩
  have hN : needN size ≤ 20000 := by unfold needN; omega
  refine go_on ?_
  refine r_y (y_mul64 rfl rfl (by omega)) rfl ?_
  by_cases g : i < needN size
  · have : (i : Int) * 96 < size := by unfold needN at g; omega
    refine go_on ?_
    exact e_round (i + 1) (sub_cons rfl rfl (sub_cons rfl rfl (sub_nil))) ⟨_, F, g⟩ (by omega)
  · have : ¬ (i : Int) * 96 < size := by unfold needN at g hi; omega
    have e : i = needN size := by omega
    subst e
    refine go_on ?_
    refine go_back ?_
    exact F.fin ⟨rfl, rfl, rfl⟩

theorem rEmpty_c {n : Ino} {v : Value} (h : True) : Con Try.prog 66 [inoV n v] [] [] [] fun r T Φ => r = .bool (decide (n.kind = 0 ∧ n.gen = 0 ∧ n.change = 0)) ∧ T = [] ∧ Φ = [] := by
  refine con_of (fun O0 w0 F => ?_)
  refine tidy F (fun F => ?_)
  refine fn_of _ Try.func66 rfl (by kernel_rfl) Try.ntmps66 rfl ?_
  refine go_on ?_
  (first | refine f_box1 F rfl rfl (fun q w F => ?_) | refine f_boxN F rfl rfl (fun q w F => ?_)); refine go_on ?_
  apply f_and 4 10 6 F
  · exact rfl
  · intro e; have e' := e; (try simp only [Bool.and_eq_true, Bool.or_eq_true, decide_eq_true_eq, decide_eq_false_iff_not, Bool.not_eq_true', Bool.or_eq_false_iff, Bool.not_eq_false', Bool.and_eq_false_iff] at e'); refine go_on ?_; refine e_cut rfl rfl (by (repeat (first | exact sub_refl | refine sub_new rfl ?_ | refine sub_bool rfl (by assumption) ?_))) (by (first | exact ⟨_, F⟩ | exact ⟨_, F.wk⟩))
  · intro e; have e' := e; (try simp only [Bool.and_eq_true, Bool.or_eq_true, decide_eq_true_eq, decide_eq_false_iff_not, Bool.not_eq_true', Bool.or_eq_false_iff, Bool.not_eq_false', Bool.and_eq_false_iff] at e'); refine go_on ?_; refine e_cut rfl rfl (by (repeat (first | exact sub_refl | refine sub_new rfl ?_ | refine sub_bool rfl (by assumption) ?_))) (by (first | exact ⟨_, F⟩ | exact ⟨_, F.wk⟩))
  intro O w F; refine go_on ?_
  apply f_and 4 15 11 F
  · exact rfl
  · intro e; have e' := e; (try simp only [Bool.and_eq_true, Bool.or_eq_true, decide_eq_true_eq, decide_eq_false_iff_not, Bool.not_eq_true', Bool.or_eq_false_iff, Bool.not_eq_false', Bool.and_eq_false_iff] at e'); refine go_on ?_; refine e_cut rfl rfl (by (repeat (first | exact sub_refl | refine sub_new rfl ?_ | refine sub_bool rfl (by assumption) ?_))) (by (first | exact ⟨_, F⟩ | exact ⟨_, F.wk⟩))
  · intro e; have e' := e; (try simp only [Bool.and_eq_true, Bool.or_eq_true, decide_eq_true_eq, decide_eq_false_iff_not, Bool.not_eq_true', Bool.or_eq_false_iff, Bool.not_eq_false', Bool.and_eq_false_iff] at e'); refine go_on ?_; refine e_cut rfl rfl (by (repeat (first | exact sub_refl | refine sub_new rfl ?_ | refine sub_bool rfl (by assumption) ?_))) (by (first | exact ⟨_, F⟩ | exact ⟨_, F.wk⟩))
  intro O w F; refine go_on ?_
  refine go_back ?_
  exact F.fin ⟨by congr 1; rw [Bool.eq_iff_iff]; simp; omega, rfl, rfl⟩

theorem rSame_c {n m : Ino} {u v : Value} (h : n.fit ∧ m.fit) : Con Try.prog 50 [inoV n u, inoV m v] [] [] [Fact.u32s u n.blocks, Fact.u32s v m.blocks] fun r T Φ => r = .bool (decide (n = m)) ∧ T = [] ∧ Φ = [] := by
  obtain ⟨hn, hm⟩ := h
  have hnl : n.blocks.length ≤ 1000000 := hn.2.2.2.2.2.2.2.2.2
  refine con_of (fun O0 w0 F => ?_)
  refine tidy F (fun F => ?_)
  refine fn_of _ Try.func50 rfl (by kernel_rfl) Try.ntmps50 rfl ?_
  obtain ⟨ua, uc, rfl, _⟩ := (F.sl (v := u) (cs := n.blocks.map u32V)).form
  obtain ⟨va, vc, rfl, _⟩ := (F.sl (v := v) (cs := m.blocks.map u32V)).form
  refine go_on ?_
  (first | refine f_box1 F rfl rfl (fun p w F => ?_) | refine f_boxN F rfl rfl (fun p w F => ?_)); refine go_on ?_
  (first | refine f_box1 F rfl rfl (fun q w F => ?_) | refine f_boxN F rfl rfl (fun q w F => ?_)); refine go_on ?_
  apply f_or 6 17 11 F
  · exact rfl
  · intro e; have e' := e; (try simp only [Bool.and_eq_true, Bool.or_eq_true, decide_eq_true_eq, decide_eq_false_iff_not, Bool.not_eq_true', Bool.or_eq_false_iff, Bool.not_eq_false', Bool.and_eq_false_iff] at e'); refine go_on ?_; refine e_cut rfl rfl (by (repeat (first | exact sub_refl | refine sub_new rfl ?_ | refine sub_bool rfl (by assumption) ?_))) (by (first | exact ⟨_, F⟩ | exact ⟨_, F.wk⟩))
  · intro e; have e' := e; (try simp only [Bool.and_eq_true, Bool.or_eq_true, decide_eq_true_eq, decide_eq_false_iff_not, Bool.not_eq_true', Bool.or_eq_false_iff, Bool.not_eq_false', Bool.and_eq_false_iff] at e'); refine go_on ?_; refine e_cut rfl rfl (by (repeat (first | exact sub_refl | refine sub_new rfl ?_ | refine sub_bool rfl (by assumption) ?_))) (by (first | exact ⟨_, F⟩ | exact ⟨_, F.wk⟩))
  intro O w F; refine go_on ?_
  apply f_or 6 24 18 F
  · exact rfl
  · intro e; have e' := e; (try simp only [Bool.and_eq_true, Bool.or_eq_true, decide_eq_true_eq, decide_eq_false_iff_not, Bool.not_eq_true', Bool.or_eq_false_iff, Bool.not_eq_false', Bool.and_eq_false_iff] at e'); refine go_on ?_; refine e_cut rfl rfl (by (repeat (first | exact sub_refl | refine sub_new rfl ?_ | refine sub_bool rfl (by assumption) ?_))) (by (first | exact ⟨_, F⟩ | exact ⟨_, F.wk⟩))
  · intro e; have e' := e; (try simp only [Bool.and_eq_true, Bool.or_eq_true, decide_eq_true_eq, decide_eq_false_iff_not, Bool.not_eq_true', Bool.or_eq_false_iff, Bool.not_eq_false', Bool.and_eq_false_iff] at e'); refine go_on ?_; refine e_cut rfl rfl (by (repeat (first | exact sub_refl | refine sub_new rfl ?_ | refine sub_bool rfl (by assumption) ?_))) (by (first | exact ⟨_, F⟩ | exact ⟨_, F.wk⟩))
  intro O w F; refine go_on ?_
  apply f_or 6 31 25 F
  · exact rfl
  · intro e; have e' := e; (try simp only [Bool.and_eq_true, Bool.or_eq_true, decide_eq_true_eq, decide_eq_false_iff_not, Bool.not_eq_true', Bool.or_eq_false_iff, Bool.not_eq_false', Bool.and_eq_false_iff] at e'); refine go_on ?_; refine e_cut rfl rfl (by (repeat (first | exact sub_refl | refine sub_new rfl ?_ | refine sub_bool rfl (by assumption) ?_))) (by (first | exact ⟨_, F⟩ | exact ⟨_, F.wk⟩))
  · intro e; have e' := e; (try simp only [Bool.and_eq_true, Bool.or_eq_true, decide_eq_true_eq, decide_eq_false_iff_not, Bool.not_eq_true', Bool.or_eq_false_iff, Bool.not_eq_false', Bool.and_eq_false_iff] at e'); refine go_on ?_; refine e_cut rfl rfl (by (repeat (first | exact sub_refl | refine sub_new rfl ?_ | refine sub_bool rfl (by assumption) ?_))) (by (first | exact ⟨_, F⟩ | exact ⟨_, F.wk⟩))
  intro O w F; refine go_on ?_
  apply f_or 6 38 32 F
  · exact rfl
  · intro e; have e' := e; (try simp only [Bool.and_eq_true, Bool.or_eq_true, decide_eq_true_eq, decide_eq_false_iff_not, Bool.not_eq_true', Bool.or_eq_false_iff, Bool.not_eq_false', Bool.and_eq_false_iff] at e'); refine go_on ?_; refine e_cut rfl rfl (by (repeat (first | exact sub_refl | refine sub_new rfl ?_ | refine sub_bool rfl (by assumption) ?_))) (by (first | exact ⟨_, F⟩ | exact ⟨_, F.wk⟩))
  · intro e; have e' := e; (try simp only [Bool.and_eq_true, Bool.or_eq_true, decide_eq_true_eq, decide_eq_false_iff_not, Bool.not_eq_true', Bool.or_eq_false_iff, Bool.not_eq_false', Bool.and_eq_false_iff] at e'); refine go_on ?_; refine e_cut rfl rfl (by (repeat (first | exact sub_refl | refine sub_new rfl ?_ | refine sub_bool rfl (by assumption) ?_))) (by (first | exact ⟨_, F⟩ | exact ⟨_, F.wk⟩))
  intro O w F; refine go_on ?_
  apply f_or 6 45 39 F
  · exact rfl
  · intro e; have e' := e; (try simp only [Bool.and_eq_true, Bool.or_eq_true, decide_eq_true_eq, decide_eq_false_iff_not, Bool.not_eq_true', Bool.or_eq_false_iff, Bool.not_eq_false', Bool.and_eq_false_iff] at e'); refine go_on ?_; refine e_cut rfl rfl (by (repeat (first | exact sub_refl | refine sub_new rfl ?_ | refine sub_bool rfl (by assumption) ?_))) (by (first | exact ⟨_, F⟩ | exact ⟨_, F.wk⟩))
  · intro e; have e' := e; (try simp only [Bool.and_eq_true, Bool.or_eq_true, decide_eq_true_eq, decide_eq_false_iff_not, Bool.not_eq_true', Bool.or_eq_false_iff, Bool.not_eq_false', Bool.and_eq_false_iff] at e'); refine go_on ?_; refine e_cut rfl rfl (by (repeat (first | exact sub_refl | refine sub_new rfl ?_ | refine sub_bool rfl (by assumption) ?_))) (by (first | exact ⟨_, F⟩ | exact ⟨_, F.wk⟩))
  intro O w F; refine go_on ?_
  apply f_or 6 52 46 F
  · exact rfl
  · intro e; have e' := e; (try simp only [Bool.and_eq_true, Bool.or_eq_true, decide_eq_true_eq, decide_eq_false_iff_not, Bool.not_eq_true', Bool.or_eq_false_iff, Bool.not_eq_false', Bool.and_eq_false_iff] at e'); refine go_on ?_; refine e_cut rfl rfl (by (repeat (first | exact sub_refl | refine sub_new rfl ?_ | refine sub_bool rfl (by assumption) ?_))) (by (first | exact ⟨_, F⟩ | exact ⟨_, F.wk⟩))
  · intro e; have e' := e; (try simp only [Bool.and_eq_true, Bool.or_eq_true, decide_eq_true_eq, decide_eq_false_iff_not, Bool.not_eq_true', Bool.or_eq_false_iff, Bool.not_eq_false', Bool.and_eq_false_iff] at e'); refine go_on ?_; refine e_cut rfl rfl (by (repeat (first | exact sub_refl | refine sub_new rfl ?_ | refine sub_bool rfl (by assumption) ?_))) (by (first | exact ⟨_, F⟩ | exact ⟨_, F.wk⟩))
  intro O w F; refine go_on ?_
  apply f_or 6 59 53 F
  · exact rfl
  · intro e; have e' := e; (try simp only [Bool.and_eq_true, Bool.or_eq_true, decide_eq_true_eq, decide_eq_false_iff_not, Bool.not_eq_true', Bool.or_eq_false_iff, Bool.not_eq_false', Bool.and_eq_false_iff] at e'); refine go_on ?_; refine e_cut rfl rfl (by (repeat (first | exact sub_refl | refine sub_new rfl ?_ | refine sub_bool rfl (by assumption) ?_))) (by (first | exact ⟨_, F⟩ | exact ⟨_, F.wk⟩))
  · intro e; have e' := e; (try simp only [Bool.and_eq_true, Bool.or_eq_true, decide_eq_true_eq, decide_eq_false_iff_not, Bool.not_eq_true', Bool.or_eq_false_iff, Bool.not_eq_false', Bool.and_eq_false_iff] at e'); refine go_on ?_; refine e_cut rfl rfl (by (repeat (first | exact sub_refl | refine sub_new rfl ?_ | refine sub_bool rfl (by assumption) ?_))) (by (first | exact ⟨_, F⟩ | exact ⟨_, F.wk⟩))
  intro O w F; refine go_on ?_
  apply f_or 8 68 60 F
  · exact rfl
  · intro e; have e' := e; (try simp only [Bool.and_eq_true, Bool.or_eq_true, decide_eq_true_eq, decide_eq_false_iff_not, Bool.not_eq_true', Bool.or_eq_false_iff, Bool.not_eq_false', Bool.and_eq_false_iff] at e'); refine go_on ?_; refine e_cut rfl rfl (by (repeat (first | exact sub_refl | refine sub_new rfl ?_ | refine sub_bool rfl (by assumption) ?_))) (by (first | exact ⟨_, F⟩ | exact ⟨_, F.wk⟩))
  · intro e; have e' := e; (try simp only [Bool.and_eq_true, Bool.or_eq_true, decide_eq_true_eq, decide_eq_false_iff_not, Bool.not_eq_true', Bool.or_eq_false_iff, Bool.not_eq_false', Bool.and_eq_false_iff] at e'); refine go_on ?_; refine e_cut rfl rfl (by (repeat (first | exact sub_refl | refine sub_new rfl ?_ | refine sub_bool rfl (by assumption) ?_))) (by (first | exact ⟨_, F⟩ | exact ⟨_, F.wk⟩))
  intro O w F; refine go_on ?_
  refine g_cond rfl (fun e => ?_) (fun e => ?_)
  · have hne : n ≠ m := by rintro rfl; simp at e
    refine go_on ?_
    refine go_back ?_
    exact F.fin ⟨by rw [decide_eq_false hne], rfl, rfl⟩
  simp only [Bool.or_eq_false_iff, Bool.not_eq_false', decide_eq_true_eq] at e
  obtain ⟨⟨⟨⟨⟨⟨⟨⟨e1, e2⟩, e3⟩, e4⟩, e5⟩, e6⟩, e7⟩, e8⟩, e9⟩ := e
  have hl : n.blocks.length = m.blocks.length := by omega
  refine go_on ?_
  refine g_loop (X := Nat) (fun y => [(2, ptr p), (3, ptr q), (5, .int .i64 y)])
    (fun y wr => ∃ O, Fr [] O0 w0 O wr [(2, Thing.cells p [.int .u32 n.kind, .int .u32 n.gen, .int .u32 n.links, .int .u32 n.mode, .int .u32 n.size, .int .u64 n.change, .int .u64 n.cookie, .int .u64 n.verf, .slice ua n.blocks.length uc]), (2, Thing.cells q [.int .u32 m.kind, .int .u32 m.gen, .int .u32 m.links, .int .u32 m.mode, .int .u32 m.size, .int .u64 m.change, .int .u64 m.cookie, .int .u64 m.verf, .slice va m.blocks.length vc])] [Fact.u32s (.slice ua n.blocks.length uc) n.blocks, Fact.u32s (.slice va m.blocks.length vc) m.blocks] ∧ y ≤ n.blocks.length ∧ n.blocks.take y = m.blocks.take y) (fun y => n.blocks.length - y) 0 (sub_cons rfl rfl (sub_cons rfl rfl (sub_cons rfl rfl (sub_nil)))) ⟨_, F.wk, Nat.zero_le _, by simp⟩ ?_
  clear F
  rintro i w ⟨O, F, hi, he⟩
  refine go_on ?_
  refine g_dec rfl (fun g => ?_) (fun g => ?_)
  · have hi' : i < n.blocks.length := by omega
    have hj' : i < m.blocks.length := by omega
    refine go_on ?_
    obtain ⟨x, rfl, hc⟩ := ((F.sl (cs := n.blocks.map u32V))).atm hi'
    have F := F.fact (f := Fact.cell _ _) hc
    refine go_on ?_
    obtain ⟨x, rfl, hc⟩ := ((F.sl (cs := m.blocks.map u32V))).atm hj'
    have F := F.fact (f := Fact.cell _ _) hc
    refine go_on ?_
    refine f_drawA F [] [(0, true), (1, true), (2, true), (3, true), (4, true), (5, true), (6, true), (7, true), (8, true), (9, true), (10, true)] (by kernel_rfl) (by kernel_rfl) (fun w F hS => ?_); refine go_look ?_
    refine rd_done ?_; refine go_on ?_
    refine g_ndec rfl (fun g2 => ?_) (fun g2 => ?_)
    · have hne : n ≠ m := by rintro rfl; exact g2 rfl
      refine go_on ?_
      refine go_back ?_
      exact F.fin ⟨by rw [decide_eq_false hne], rfl, rfl⟩
    · refine go_on ?_
      refine e_round (i + 1) (sub_cons rfl rfl (sub_cons rfl rfl (sub_cons rfl rfl (sub_nil)))) ⟨_, F.wk, by omega, ?_⟩ (by omega)
      rw [List.take_succ_eq_append_getElem hi', List.take_succ_eq_append_getElem hj', he]
      congr 2; omega
  · have hi' : i = n.blocks.length := by omega
    have hb : n.blocks = m.blocks := by
      subst hi'
      rw [List.take_length, hl, List.take_length] at he
      exact he
    have hnm : n = m := by
      obtain ⟨k1, k2, k3, k4, k5, k6, k7, k8, k9⟩ := n
      obtain ⟨l1, l2, l3, l4, l5, l6, l7, l8, l9⟩ := m
      simp only at e1 e2 e3 e4 e5 e6 e7 e8 hb
      congr 1 <;> omega
    refine go_on ?_
    refine go_back ?_
    exact F.fin ⟨by rw [decide_eq_true hnm], rfl, rfl⟩

theorem rCheck_c {n : Ino} {v : Value} (h : n.fit) : Con Try.prog 46 [inoV n v] [] [] [Fact.u32s v n.blocks] fun r T Φ => r = errV (if n.may then 0 else 1) ∧ T = [] ∧ Φ = [] := by
  obtain ⟨h1, h2, h3, h4, h5, h6, h7, h8, h9, h10⟩ := h
  refine con_of (fun O0 w0 F => ?_)
  refine tidy F (fun F => ?_)
  refine fn_of _ Try.func46 rfl (by kernel_rfl) Try.ntmps46 rfl ?_
  obtain ⟨a, c, rfl, _⟩ := (F.sl (v := v) (cs := n.blocks.map u32V)).form
  refine go_on ?_
  (first | refine f_box1 F rfl rfl (fun q w F => ?_) | refine f_boxN F rfl rfl (fun q w F => ?_)); refine go_on ?_
  by_cases g : n.kind ≤ 3 ∧ n.blocks.length ≤ 8 ∧ n.size ≤ 768
  · obtain ⟨g1, g2, g3⟩ := g
    refine f_drawA F [] [(0, true), (1, true), (2, true), (3, true), (4, true), (5, true), (6, true), (7, true), (8, true), (9, true), (10, true), (11, true), (12, true), (13, true), (14, true), (15, true), (16, true), (17, true), (18, true), (19, true), (20, true), (21, false), (22, true), (23, true)] (by kernel_rfl) (by kernel_rfl) (fun w F hS => ?_); refine go_look ?_
    refine rd_do rfl ?_
    (try refine r_go rfl rfl ?_)
    refine f_call F rfl rfl rNeed_c ?_
    clear F; rintro r O w T Φ ⟨rfl, rfl, rfl⟩ F0
    refine tidy F0 (fun F => ?_); clear F0
    refine r_nil ?_; refine e_afterF F (fun hS => ?_); refine go_look ?_
    refine rd_done ?_; refine go_on ?_
    by_cases g4 : n.blocks.length = needN n.size
    · refine go_on ?_
      refine g_loop (X := Nat) (fun y => [(1, ptr q), (3, .int .i64 y)])
        (fun y wr => ∃ O, Fr [] O0 w0 O wr [(2, Thing.cells q [.int .u32 n.kind, .int .u32 n.gen, .int .u32 n.links, .int .u32 n.mode, .int .u32 n.size, .int .u64 n.change, .int .u64 n.cookie, .int .u64 n.verf, .slice a n.blocks.length c])] [Fact.u32s (.slice a n.blocks.length c) n.blocks] ∧ y ≤ n.blocks.length ∧ (n.blocks.take y).Nodup) (fun y => n.blocks.length - y) 0 (sub_cons rfl rfl (sub_cons rfl rfl (sub_nil))) ⟨_, F.wk, Nat.zero_le _, by simp⟩ ?_
      clear F
      rintro i w ⟨O, F, hi, he⟩
      refine go_on ?_
      refine g_dec rfl (fun g => ?_) (fun g => ?_)
      · have hi' : i < n.blocks.length := by omega
        refine go_on ?_
        refine g_loop (X := Nat) (fun y => [(1, ptr q), (3, .int .i64 i), (4, .int .i64 y)])
          (fun y wr => ∃ O, Fr [] O0 w0 O wr [(2, Thing.cells q [.int .u32 n.kind, .int .u32 n.gen, .int .u32 n.links, .int .u32 n.mode, .int .u32 n.size, .int .u64 n.change, .int .u64 n.cookie, .int .u64 n.verf, .slice a n.blocks.length c])] [Fact.u32s (.slice a n.blocks.length c) n.blocks] ∧ y ≤ i ∧ n.blocks[i] ∉ n.blocks.take y) (fun y => i - y) 0 (sub_cons rfl rfl (sub_cons rfl rfl (sub_cons rfl rfl (sub_nil)))) ⟨_, F.wk, Nat.zero_le _, by simp⟩ ?_
        clear F
        rintro k w ⟨O, F, hk, hne⟩
        refine go_on ?_
        refine g_dec rfl (fun g5 => ?_) (fun g5 => ?_)
        · have hk' : k < n.blocks.length := by omega
          refine go_on ?_
          obtain ⟨x, rfl, hc⟩ := ((F.sl (cs := n.blocks.map u32V))).atm hi'
          have F := F.fact (f := Fact.cell _ _) hc
          refine go_on ?_
          obtain ⟨y, hy, hc2⟩ := (F.sl (cs := n.blocks.map u32V)).atm hk'
          injection hy with hy
          subst hy
          have F := F.fact (f := Fact.cell _ _) hc2
          refine f_drawA F [] [(0, true), (1, true), (2, true), (3, true), (4, true), (5, true), (6, true), (7, true), (8, true), (9, true), (10, true)] (by kernel_rfl) (by kernel_rfl) (fun w F hS => ?_); refine go_look ?_
          refine rd_done ?_; refine go_on ?_
          refine g_dec rfl (fun g6 => ?_) (fun g6 => ?_)
          · have hm : ¬ n.may := by
              rintro ⟨_, _, _, hd, _⟩
              have := (List.nodup_iff_pairwise_ne.1 hd)
              have := List.pairwise_iff_getElem.1 this k i hk' hi' (by omega)
              omega
            rw [if_neg hm]
            refine go_on ?_
            refine go_back ?_
            exact F.fin ⟨rfl, rfl, rfl⟩
          · refine go_on ?_
            refine e_round (k + 1) (sub_cons rfl rfl (sub_cons rfl rfl (sub_cons rfl rfl (sub_nil)))) ⟨_, F.wk, by omega, ?_⟩ (by omega)
            rw [List.take_succ_eq_append_getElem hk']
            simp only [List.mem_append, List.mem_singleton, not_or]
            exact ⟨hne, by omega⟩
        · have hk' : k = i := by omega
          subst hk'
          refine go_on ?_
          refine e_round (k + 1) (sub_cons rfl rfl (sub_cons rfl rfl (sub_nil))) ⟨_, F.wk, by omega, ?_⟩ (by omega)
          rw [List.take_succ_eq_append_getElem hi', List.nodup_append]
          exact ⟨he, by simp, fun x hx y hy => by simp at hy; subst hy; intro e; subst e; exact hne hx⟩
      · have hi' : i = n.blocks.length := by omega
        subst hi'
        rw [List.take_length] at he
        by_cases g5 : n.kind = 0
        · refine go_on ?_
          apply f_or 4 63 59 F
          · exact rfl
          · intro e; have e' := e; (try simp only [Bool.and_eq_true, Bool.or_eq_true, decide_eq_true_eq, decide_eq_false_iff_not, Bool.not_eq_true', Bool.or_eq_false_iff, Bool.not_eq_false', Bool.and_eq_false_iff] at e'); refine go_on ?_; refine e_cut rfl rfl (by (repeat (first | exact sub_refl | refine sub_new rfl ?_ | refine sub_bool rfl (by assumption) ?_))) (by (first | exact ⟨_, F⟩ | exact ⟨_, F.wk⟩))
          · intro e; have e' := e; (try simp only [Bool.and_eq_true, Bool.or_eq_true, decide_eq_true_eq, decide_eq_false_iff_not, Bool.not_eq_true', Bool.or_eq_false_iff, Bool.not_eq_false', Bool.and_eq_false_iff] at e'); refine go_on ?_; refine e_cut rfl rfl (by (repeat (first | exact sub_refl | refine sub_new rfl ?_ | refine sub_bool rfl (by assumption) ?_))) (by (first | exact ⟨_, F⟩ | exact ⟨_, F.wk⟩))
          intro O w F; refine go_on ?_
          apply f_or 4 68 64 F
          · exact rfl
          · intro e; have e' := e; (try simp only [Bool.and_eq_true, Bool.or_eq_true, decide_eq_true_eq, decide_eq_false_iff_not, Bool.not_eq_true', Bool.or_eq_false_iff, Bool.not_eq_false', Bool.and_eq_false_iff] at e'); refine go_on ?_; refine e_cut rfl rfl (by (repeat (first | exact sub_refl | refine sub_new rfl ?_ | refine sub_bool rfl (by assumption) ?_))) (by (first | exact ⟨_, F⟩ | exact ⟨_, F.wk⟩))
          · intro e; have e' := e; (try simp only [Bool.and_eq_true, Bool.or_eq_true, decide_eq_true_eq, decide_eq_false_iff_not, Bool.not_eq_true', Bool.or_eq_false_iff, Bool.not_eq_false', Bool.and_eq_false_iff] at e'); refine go_on ?_; refine e_cut rfl rfl (by (repeat (first | exact sub_refl | refine sub_new rfl ?_ | refine sub_bool rfl (by assumption) ?_))) (by (first | exact ⟨_, F⟩ | exact ⟨_, F.wk⟩))
          intro O w F; refine go_on ?_
          apply f_or 4 73 69 F
          · exact rfl
          · intro e; have e' := e; (try simp only [Bool.and_eq_true, Bool.or_eq_true, decide_eq_true_eq, decide_eq_false_iff_not, Bool.not_eq_true', Bool.or_eq_false_iff, Bool.not_eq_false', Bool.and_eq_false_iff] at e'); refine go_on ?_; refine e_cut rfl rfl (by (repeat (first | exact sub_refl | refine sub_new rfl ?_ | refine sub_bool rfl (by assumption) ?_))) (by (first | exact ⟨_, F⟩ | exact ⟨_, F.wk⟩))
          · intro e; have e' := e; (try simp only [Bool.and_eq_true, Bool.or_eq_true, decide_eq_true_eq, decide_eq_false_iff_not, Bool.not_eq_true', Bool.or_eq_false_iff, Bool.not_eq_false', Bool.and_eq_false_iff] at e'); refine go_on ?_; refine e_cut rfl rfl (by (repeat (first | exact sub_refl | refine sub_new rfl ?_ | refine sub_bool rfl (by assumption) ?_))) (by (first | exact ⟨_, F⟩ | exact ⟨_, F.wk⟩))
          intro O w F; refine go_on ?_
          apply f_or 4 78 74 F
          · exact rfl
          · intro e; have e' := e; (try simp only [Bool.and_eq_true, Bool.or_eq_true, decide_eq_true_eq, decide_eq_false_iff_not, Bool.not_eq_true', Bool.or_eq_false_iff, Bool.not_eq_false', Bool.and_eq_false_iff] at e'); refine go_on ?_; refine e_cut rfl rfl (by (repeat (first | exact sub_refl | refine sub_new rfl ?_ | refine sub_bool rfl (by assumption) ?_))) (by (first | exact ⟨_, F⟩ | exact ⟨_, F.wk⟩))
          · intro e; have e' := e; (try simp only [Bool.and_eq_true, Bool.or_eq_true, decide_eq_true_eq, decide_eq_false_iff_not, Bool.not_eq_true', Bool.or_eq_false_iff, Bool.not_eq_false', Bool.and_eq_false_iff] at e'); refine go_on ?_; refine e_cut rfl rfl (by (repeat (first | exact sub_refl | refine sub_new rfl ?_ | refine sub_bool rfl (by assumption) ?_))) (by (first | exact ⟨_, F⟩ | exact ⟨_, F.wk⟩))
          intro O w F; refine go_on ?_
          apply f_or 9 89 80 F
          · exact rfl
          · intro e; have e' := e; (try simp only [Bool.and_eq_true, Bool.or_eq_true, decide_eq_true_eq, decide_eq_false_iff_not, Bool.not_eq_true', Bool.or_eq_false_iff, Bool.not_eq_false', Bool.and_eq_false_iff] at e'); refine go_on ?_; refine e_cut rfl rfl (by (repeat (first | exact sub_refl | refine sub_new rfl ?_ | refine sub_bool rfl (by assumption) ?_))) (by (first | exact ⟨_, F⟩ | exact ⟨_, F.wk⟩))
          · intro e; have e' := e; (try simp only [Bool.and_eq_true, Bool.or_eq_true, decide_eq_true_eq, decide_eq_false_iff_not, Bool.not_eq_true', Bool.or_eq_false_iff, Bool.not_eq_false', Bool.and_eq_false_iff] at e'); refine go_on ?_; refine e_cut rfl rfl (by (repeat (first | exact sub_refl | refine sub_new rfl ?_ | refine sub_bool rfl (by assumption) ?_))) (by (first | exact ⟨_, F⟩ | exact ⟨_, F.wk⟩))
          intro O w F; refine go_on ?_
          refine g_cond rfl (fun e => ?_) (fun e => ?_)
          · have hm : ¬ n.may := by
              rintro ⟨_, _, _, _, hd⟩
              rw [if_pos g5] at hd
              simp only [Bool.or_eq_true, decide_eq_true_eq, Bool.or_false] at e
              omega
            rw [if_neg hm]
            refine go_on ?_
            refine go_back ?_
            exact F.fin ⟨rfl, rfl, rfl⟩
          · have hm : n.may := by
              simp only [Bool.or_eq_false_iff, decide_eq_false_iff_not, Bool.or_false] at e
              exact ⟨g1, g2, g4, he, by rw [if_pos g5]; omega⟩
            rw [if_pos hm]
            refine go_on ?_
            refine go_back ?_
            exact F.fin ⟨rfl, rfl, rfl⟩
        · by_cases g6 : n.links = 0
          · have hm : ¬ n.may := by
              rintro ⟨_, _, _, _, hd⟩
              rw [if_neg g5] at hd
              omega
            rw [if_neg hm]
            refine go_on ?_
            refine go_back ?_
            exact F.fin ⟨rfl, rfl, rfl⟩
          · have hm : n.may := ⟨g1, g2, g4, he, by rw [if_neg g5]; omega⟩
            rw [if_pos hm]
            refine go_on ?_
            refine go_back ?_
            exact F.fin ⟨rfl, rfl, rfl⟩
    · have hm : ¬ n.may := fun ⟨_, _, hm, _⟩ => g4 hm
      rw [if_neg hm]
      refine go_on ?_
      refine go_back ?_
      exact F.fin ⟨rfl, rfl, rfl⟩
  · have hm : ¬ n.may := by
      rintro ⟨g1, g2, g3, _⟩
      refine g ⟨g1, g2, ?_⟩
      unfold needN at g3; omega
    rw [if_neg hm]
    refine f_drawA F [] [(0, true), (1, true), (2, true), (3, true), (4, true), (5, true), (6, true), (7, true), (8, true), (9, true), (10, true), (11, true), (12, true), (13, true), (14, true), (15, true), (16, true), (17, true), (18, true), (19, true), (20, true), (21, false), (22, true), (23, true)] (by kernel_rfl) (by kernel_rfl) (fun w F hS => ?_); refine go_look ?_
    apply rd_or 5 13 8
    · exact rfl
    · intro e K; have e' := e; (try simp only [Bool.and_eq_true, Bool.or_eq_true, decide_eq_true_eq, decide_eq_false_iff_not, Bool.not_eq_true', Bool.or_eq_false_iff, Bool.not_eq_false', Bool.and_eq_false_iff] at e'); refine go_look1 ?_; refine go_look1 ?_; refine go_look1 ?_; refine go_look1 ?_; refine go_look1 ?_; exact K _ (by exact rfl) (by (repeat (first | exact sub_refl | refine sub_new rfl ?_ | refine sub_bool rfl (by assumption) ?_)))
    · intro e K; have e' := e; (try simp only [Bool.and_eq_true, Bool.or_eq_true, decide_eq_true_eq, decide_eq_false_iff_not, Bool.not_eq_true', Bool.or_eq_false_iff, Bool.not_eq_false', Bool.and_eq_false_iff] at e'); refine go_look1 ?_; refine go_look1 ?_; refine go_look1 ?_; refine go_look1 ?_; refine go_look1 ?_; exact K _ (by exact rfl) (by (repeat (first | exact sub_refl | refine sub_new rfl ?_ | refine sub_bool rfl (by assumption) ?_)))
    refine go_look ?_
    apply rd_or 4 18 14
    · exact rfl
    · intro e K; have e' := e; (try simp only [Bool.and_eq_true, Bool.or_eq_true, decide_eq_true_eq, decide_eq_false_iff_not, Bool.not_eq_true', Bool.or_eq_false_iff, Bool.not_eq_false', Bool.and_eq_false_iff] at e'); refine go_look1 ?_; refine go_look1 ?_; refine go_look1 ?_; refine go_look1 ?_; exact K _ (by exact rfl) (by (repeat (first | exact sub_refl | refine sub_new rfl ?_ | refine sub_bool rfl (by assumption) ?_)))
    · intro e K; have e' := e; (try simp only [Bool.and_eq_true, Bool.or_eq_true, decide_eq_true_eq, decide_eq_false_iff_not, Bool.not_eq_true', Bool.or_eq_false_iff, Bool.not_eq_false', Bool.and_eq_false_iff] at e'); refine go_look1 ?_; refine go_look1 ?_; refine go_look1 ?_; refine go_look1 ?_; exact K _ (by exact rfl) (by (repeat (first | exact sub_refl | refine sub_new rfl ?_ | refine sub_bool rfl (by assumption) ?_)))
    refine go_look ?_
    have hb : (decide ((3 : Int) < ↑n.kind) || decide ((8 : Int) < ↑n.blocks.length) || decide ((768 : Int) < ↑n.size)) = true := by simp only [Bool.or_eq_true, decide_eq_true_eq]; omega
    rw [hb]
    refine go_look ?_
    refine rd_do rfl ?_; (first | refine r_pass rfl rfl rfl ?_ | refine r_passu rfl rfl rfl ?_); refine r_nil ?_; refine e_afterF F (fun hS => ?_); refine go_look ?_
    refine rd_done ?_; refine go_on ?_
    refine go_back ?_
    exact F.fin ⟨rfl, rfl, rfl⟩
end Go.Proofs.Ytejkpngghbcbbaa
