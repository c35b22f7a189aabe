/- InodeUnlike answers true. -/
import Derived.Test.YtejkpngghbcbbaaInodel
namespace Go.Proofs.Ytejkpngghbcbbaa
open Gk Go
set_option linter.unusedVariables false
set_option maxHeartbeats 4000000
set_option linter.unusedSimpArgs false
attribute [local irreducible] Int.decLt Int.decLe Int.decEq Int.instDecidableEq Gk.Rnds Gk.E Gk.G Gk.R Gk.RD Gk.RX Gk.RO Gk.Y Gk.Ent Gk.Sat Gk.Round Gk.After Gk.Cell Gk.Sl Gk.SlA Gk.CB Gk.OK Gk.FnC Gk.Bytes Gk.BytesL Gk.StrL Gk.Buf Gk.MapI
theorem InodeUnlike_ok {w0 : World} {n m : Ino} {u v : Value} {s : Bool} (hf : n.blocks.length ≤ 1000000 → n.fit) (hg : m.blocks.length ≤ 1000000 → m.fit) (F : Fr [] [] w0 [] w0 [] [Fact.u32s u n.blocks, Fact.u32s v m.blocks]) :
    FnC Try.prog 16 [inoV n u, inoV m v, .bool s] [] [] w0 fun r O' w' => r = .bool true := by
  obtain ⟨ua, uc, rfl, _⟩ := (F.sl (v := u) (cs := n.blocks.map u32V)).form
  obtain ⟨va, vc, rfl, _⟩ := (F.sl (v := v) (cs := m.blocks.map u32V)).form
  refine fn_of _ Try.func16 rfl (by kernel_rfl) Try.ntmps16 rfl ?_
  refine go_on ?_
  (first | refine f_box1 F rfl rfl (fun p w F => ?_) | refine f_boxN F rfl rfl (fun p w F => ?_)); refine go_on ?_
  (first | refine f_box1 F rfl rfl (fun q w F => ?_) | refine f_boxN F rfl rfl (fun q w F => ?_)); refine go_on ?_
  refine f_call F rfl rfl awake07_c ?_
  clear F; rintro r O w T Φ ⟨rfl, rfl, rfl⟩ F0
  refine tidy F0 (fun F => ?_); clear F0
  refine go_on ?_
  by_cases g : 20 < n.blocks.length ∨ 20 < m.blocks.length
  · apply f_or 5 24 19 F
    · exact rfl
    · intro e; have e' := e; (try simp only [Bool.and_eq_true, Bool.or_eq_true, decide_eq_true_eq, decide_eq_false_iff_not, Bool.not_eq_true', Bool.or_eq_false_iff, Bool.not_eq_false', Bool.and_eq_false_iff] at e'); refine go_on ?_; refine e_cut rfl rfl (by (repeat (first | exact sub_refl | refine sub_new rfl ?_ | refine sub_bool rfl (by assumption) ?_))) (by (first | exact ⟨_, F⟩ | exact ⟨_, F.wk⟩))
    · intro e; have e' := e; (try simp only [Bool.and_eq_true, Bool.or_eq_true, decide_eq_true_eq, decide_eq_false_iff_not, Bool.not_eq_true', Bool.or_eq_false_iff, Bool.not_eq_false', Bool.and_eq_false_iff] at e'); refine go_on ?_; refine e_cut rfl rfl (by (repeat (first | exact sub_refl | refine sub_new rfl ?_ | refine sub_bool rfl (by assumption) ?_))) (by (first | exact ⟨_, F⟩ | exact ⟨_, F.wk⟩))
    intro O w F; refine go_on ?_
    have e : (decide ((20 : Int) < ↑n.blocks.length) || decide ((20 : Int) < ↑m.blocks.length)) = true := by simp only [Bool.or_eq_true, decide_eq_true_eq]; omega
    rw [e]
    refine go_on ?_
    refine go_back ?_
    exact F.law
  have hf := hf (by omega)
  have hg := hg (by omega)
  refine go_on ?_
  refine g_mid (X := Ino × Option Addr × Nat) (fun _ => [(3, .pointer (some ⟨p, 0, none⟩)), (4, .pointer (some ⟨q, 0, none⟩))])
    (fun y wr => ∃ O, Fr [] [] w0 O wr [(2, Thing.cells p [.int .u32 n.kind, .int .u32 n.gen, .int .u32 n.links, .int .u32 n.mode, .int .u32 n.size, .int .u64 n.change, .int .u64 n.cookie, .int .u64 n.verf, .slice ua n.blocks.length uc]), (2, Thing.cells q [.int .u32 y.1.kind, .int .u32 y.1.gen, .int .u32 y.1.links, .int .u32 y.1.mode, .int .u32 y.1.size, .int .u64 y.1.change, .int .u64 y.1.cookie, .int .u64 y.1.verf, .slice y.2.1 y.1.blocks.length y.2.2])] [Fact.u32s (.slice ua n.blocks.length uc) n.blocks, Fact.u32s (.slice y.2.1 y.1.blocks.length y.2.2) y.1.blocks] ∧ y.1.fit) ?_ ?_
  · cases s
    · refine go_on ?_
      exact e_round (m, va, vc) (sub_cons rfl rfl (sub_cons rfl rfl (sub_nil))) ⟨_, F.wk, hg⟩ (by decide)
    · refine go_on ?_
      refine f_storeAll F rfl rfl rfl (fun w F => ?_); refine go_on ?_
      exact e_round (n, ua, uc) (sub_cons rfl rfl (sub_cons rfl rfl (sub_nil))) ⟨_, F.wk, hf⟩ (by decide)
  clear F g hg
  rintro ⟨m, va, vc⟩ w ⟨O, F, hg⟩
  dsimp only at F hg ⊢
  refine go_on ?_
  refine f_call F rfl rfl (inoPut_c (n := n)) ?_
  clear F; rintro r O w T Φ ⟨x, rfl, rfl, rfl⟩ F0
  refine tidy F0 (fun F => ?_); clear F0
  refine go_on ?_
  refine f_call F rfl rfl (inoPut_c (n := m)) ?_
  clear F; rintro r O w T Φ ⟨y, rfl, rfl, rfl⟩ F0
  refine tidy F0 (fun F => ?_); clear F0
  refine go_on ?_
  have ha := Ino.alike hf hg
  change Fr _ _ _ _ _ _ [Fact.bytes _ m.out, Fact.bytes _ n.out, _, _] at F
  generalize n.out = xs at ha F
  generalize m.out = ys at ha F
  by_cases hn : n.may
  · rw [if_pos hn]
    by_cases hm : m.may
    · rw [if_pos hm]
      have ha := ha hn hm
      refine go_on ?_
      refine f_drawA F [] [(0, true), (1, true), (2, true), (3, true), (4, true), (5, true), (7, true), (6, false), (8, false), (9, false), (10, true), (11, true)] (by kernel_rfl) (by kernel_rfl) (fun w F hS => ?_); refine go_look ?_
      refine rd_do rfl ?_
      (try refine r_go rfl rfl ?_)
      refine f_call F rfl rfl (inodeOf_c (n := n)) ?_
      clear F; rintro r O w T Φ ⟨rfl, rfl, rfl⟩ F0
      refine tidy F0 (fun F => ?_); clear F0
      refine r_nil ?_; refine e_afterF F (fun hS => ?_); refine go_look ?_
      refine rd_do rfl ?_
      (try refine r_go rfl rfl ?_)
      refine f_call F rfl rfl (inodeOf_c (n := m)) ?_
      clear F; rintro r O w T Φ ⟨rfl, rfl, rfl⟩ F0
      refine tidy F0 (fun F => ?_); clear F0
      refine r_nil ?_; refine e_afterF F (fun hS => ?_); refine go_look ?_
      refine rd_do rfl ?_
      (try refine r_go rfl rfl ?_)
      refine f_call F rfl rfl (rSame_c (n := n) (m := m)) ?_
      clear F; rintro r O w T Φ ⟨rfl, rfl, rfl⟩ F0
      refine tidy F0 (fun F => ?_); clear F0
      refine r_nil ?_; refine e_afterF F (fun hS => ?_); refine go_look ?_
      refine rd_open rfl ?_; (first | refine ro_n ?_ | refine ro_g rfl rfl ?_); refine rx_y rfl (fun _ hw => y_beq true rfl rfl (by simp [ha])) (by assumption) ?_; refine go_look ?_
      refine rd_done ?_; refine go_on ?_
      refine go_back ?_
      exact F.law
    · rw [if_neg hm]
      refine go_on ?_
      refine go_back ?_
      exact F.law
  · rw [if_neg hn]
    refine go_on ?_
    refine go_back ?_
    exact F.law
theorem InodeUnlike_true {w : World} {l k : List Value} {v2 : Value} (r0 : Reads Try.prog w 69 l) (r1 : Reads Try.prog w 69 k) (r2 : Reads Try.prog w 4 [v2]) :
    FnC Try.prog 16 [.agg l.toArray, .agg k.toArray, v2] [] [] w fun r O' w' => r = .bool true := by
  obtain ⟨n, v, e, hv, hf⟩ := reads_ino r0
  obtain ⟨m, u, e2, hu, hg⟩ := reads_ino r1
  obtain ⟨s, h⟩ := reads_bool r2
  injection h with h
  subst h
  rw [e, e2]
  exact InodeUnlike_ok hf hg (((Fr.start OK_nil).fact (f := Fact.u32s u m.blocks) hu).fact (f := Fact.u32s v n.blocks) hv)
end Go.Proofs.Ytejkpngghbcbbaa
