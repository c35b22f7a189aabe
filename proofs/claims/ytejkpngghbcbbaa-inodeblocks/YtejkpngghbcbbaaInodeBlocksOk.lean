/- InodeBlocks answers true. -/
import Derived.Test.YtejkpngghbcbbaaInodel
namespace Go.Proofs.Ytejkpngghbcbbaa
open Gk Go
set_option linter.unusedVariables false
set_option maxHeartbeats 4000000
set_option linter.unusedSimpArgs false
attribute [local irreducible] Int.decLt Int.decLe Int.decEq Int.instDecidableEq Gk.Rnds Gk.E Gk.G Gk.R Gk.RD Gk.RX Gk.RO Gk.Y Gk.Ent Gk.Sat Gk.Round Gk.After Gk.Cell Gk.Sl Gk.SlA Gk.CB Gk.OK Gk.FnC Gk.Bytes Gk.BytesL Gk.StrL Gk.Buf Gk.MapI
theorem InodeBlocks_ok {w0 : World} {bl : List Nat} {size : Nat} {v : Value} (hb : ∀ x, x ∈ bl → x < 4294967296) (hs : size < 65536) (F : Fr [] [] w0 [] w0 [] [Fact.u32s v bl]) :
    FnC Try.prog 15 [.int .u16 size, v] [] [] w0 fun r O' w' => r = .bool true := by
  obtain ⟨a, c, rfl, _⟩ := (F.sl (v := v) (cs := bl.map u32V)).form
  refine fn_of _ Try.func15 rfl (by kernel_rfl) Try.ntmps15 rfl ?_
  refine go_on ?_
  refine f_call F rfl rfl awake07_c ?_
  clear F; rintro r O w T Φ ⟨rfl, rfl, rfl⟩ F0
  refine tidy F0 (fun F => ?_); clear F0
  refine go_on ?_
  by_cases g : 20 < bl.length
  · refine go_on ?_
    refine go_back ?_
    exact F.law
  have hf : Ino.fit ⟨1, 0, 1, 0, size, 0, 0, 0, bl⟩ := ⟨(by decide : 1 < 4294967296), (by decide : 0 < 4294967296), (by decide : 1 < 4294967296), (by decide : 0 < 4294967296), by dsimp only; omega, (by decide : 0 < 18446744073709551616), (by decide : 0 < 18446744073709551616), (by decide : 0 < 18446744073709551616), hb, by dsimp only; omega⟩
  refine go_on ?_
  (first | refine f_alloc1 F rfl (fun q w F => ?_) | refine f_allocN F rfl (fun q w F => ?_)); refine go_on ?_
  refine f_storeAll F rfl rfl rfl (fun w F => ?_); refine go_on ?_
  refine r_y (y_quo64 rfl rfl ⟨by omega, by omega, by omega⟩) rfl ?_
  refine go_on ?_
  apply f_and 4 31 27 F
  · exact rfl
  · intro e; have e' := e; (try simp only [Bool.and_eq_true, Bool.or_eq_true, decide_eq_true_eq, decide_eq_false_iff_not, Bool.not_eq_true', Bool.or_eq_false_iff, Bool.not_eq_false', Bool.and_eq_false_iff] at e'); refine go_on ?_; refine e_cut rfl rfl (by (repeat (first | exact sub_refl | refine sub_new rfl ?_ | refine sub_bool rfl (by assumption) ?_))) (by (first | exact ⟨_, F⟩ | exact ⟨_, F.wk⟩))
  · intro e; have e' := e; (try simp only [Bool.and_eq_true, Bool.or_eq_true, decide_eq_true_eq, decide_eq_false_iff_not, Bool.not_eq_true', Bool.or_eq_false_iff, Bool.not_eq_false', Bool.and_eq_false_iff] at e'); refine go_on ?_; refine e_cut rfl rfl (by (repeat (first | exact sub_refl | refine sub_new rfl ?_ | refine sub_bool rfl (by assumption) ?_))) (by (first | exact ⟨_, F⟩ | exact ⟨_, F.wk⟩))
  intro O w F; refine go_on ?_
  obtain ⟨c0, hc0⟩ : ∃ c0, c0 = (decide ((bl.length : Int) = ((size : Int) + 95) / 96) && decide ((bl.length : Int) ≤ 8)) := ⟨_, rfl⟩
  rw [← hc0]
  refine g_loop (X := Nat × Bool) (fun y => [(1, .slice a bl.length c), (6, .pointer (some ⟨q, 0, none⟩)), (7, .bool y.2), (8, .int .i64 y.1)])
    (fun y wr => ∃ O, Fr [] [] w0 O wr [(2, Thing.cells q [.int .u32 1, .int .u32 0, .int .u32 1, .int .u32 0, .int .u32 size, .int .u64 0, .int .u64 0, .int .u64 0, .slice a bl.length c])] [Fact.u32s (.slice a bl.length c) bl] ∧ y.1 ≤ bl.length ∧ y.2 = (c0 && decide ((bl.take y.1).Nodup))) (fun y => bl.length - y.1) (0, c0) (sub_cons rfl rfl (sub_cons rfl rfl (sub_cons rfl rfl (sub_cons rfl rfl (sub_nil))))) ⟨_, F.wk, Nat.zero_le _, by simp⟩ ?_
  clear F
  rintro ⟨i, m⟩ w ⟨O, F, hi, hm⟩
  dsimp only at F hi hm ⊢
  refine go_on ?_
  refine g_dec rfl (fun g => ?_) (fun g => ?_)
  · have hi' : i < bl.length := by omega
    refine go_on ?_
    refine g_loop (X := Nat × Bool) (fun y => [(1, .slice a bl.length c), (6, .pointer (some ⟨q, 0, none⟩)), (7, .bool y.2), (8, .int .i64 i), (9, .int .i64 y.1)])
      (fun y wr => ∃ O, Fr [] [] w0 O wr [(2, Thing.cells q [.int .u32 1, .int .u32 0, .int .u32 1, .int .u32 0, .int .u32 size, .int .u64 0, .int .u64 0, .int .u64 0, .slice a bl.length c])] [Fact.u32s (.slice a bl.length c) bl] ∧ y.1 ≤ i ∧ y.2 = (c0 && decide ((bl.take i).Nodup) && decide (bl[i] ∉ bl.take y.1))) (fun y => i - y.1) (0, m) (sub_cons rfl rfl (sub_cons rfl rfl (sub_cons rfl rfl (sub_cons rfl rfl (sub_cons rfl rfl (sub_nil)))))) ⟨_, F.wk, Nat.zero_le _, by simp [hm]⟩ ?_
    clear F
    rintro ⟨k, m2⟩ w ⟨O, F, hk, hm2⟩
    dsimp only at F hk hm2 ⊢
    refine go_on ?_
    refine g_dec rfl (fun g2 => ?_) (fun g2 => ?_)
    · have hk' : k < bl.length := by omega
      refine go_on ?_
      obtain ⟨x, rfl, hc⟩ := ((F.sl (cs := bl.map u32V))).atm hi'
      have F := F.fact (f := Fact.cell _ _) hc
      refine go_on ?_
      obtain ⟨y, hy, hc2⟩ := (F.sl (cs := bl.map u32V)).atm hk'
      injection hy with hy
      subst hy
      have F := F.fact (f := Fact.cell _ _) hc2
      refine f_drawA F [] [(0, true), (1, true), (2, true), (3, true), (4, true), (5, true), (6, true), (7, true), (8, true), (9, true), (10, true), (11, true), (12, true)] (by kernel_rfl) (by kernel_rfl) (fun w F hS => ?_); refine go_look ?_
      apply rd_and 10 54 44
      · exact rfl
      · intro e K; have e' := e; (try simp only [Bool.and_eq_true, Bool.or_eq_true, decide_eq_true_eq, decide_eq_false_iff_not, Bool.not_eq_true', Bool.or_eq_false_iff, Bool.not_eq_false', Bool.and_eq_false_iff] at e'); refine go_look1 ?_; refine go_look1 ?_; refine go_look1 ?_; refine go_look1 ?_; refine go_look1 ?_; refine go_look1 ?_; refine go_look1 ?_; refine go_look1 ?_; refine go_look1 ?_; refine go_look1 ?_; exact K _ (by exact rfl) (by (repeat (first | exact sub_refl | refine sub_new rfl ?_ | refine sub_bool rfl (by assumption) ?_)))
      · intro e K; have e' := e; (try simp only [Bool.and_eq_true, Bool.or_eq_true, decide_eq_true_eq, decide_eq_false_iff_not, Bool.not_eq_true', Bool.or_eq_false_iff, Bool.not_eq_false', Bool.and_eq_false_iff] at e'); refine go_look1 ?_; refine go_look1 ?_; refine go_look1 ?_; refine go_look1 ?_; refine go_look1 ?_; refine go_look1 ?_; refine go_look1 ?_; refine go_look1 ?_; refine go_look1 ?_; refine go_look1 ?_; exact K _ (by exact rfl) (by (repeat (first | exact sub_refl | refine sub_new rfl ?_ | refine sub_bool rfl (by assumption) ?_)))
      refine go_look ?_
      refine rd_done ?_; refine go_on ?_
      refine e_round (k + 1, m2 && !decide ((bl[k] : Int) = bl[i])) (sub_cons rfl rfl (sub_cons rfl rfl (sub_cons rfl rfl (sub_cons rfl rfl (sub_cons rfl rfl (sub_nil)))))) ⟨_, F.wk, by simp only; omega, ?_⟩ (by simp only; omega)
      dsimp only
      rw [hm2, List.take_succ_eq_append_getElem hk', Bool.and_assoc (c0 && _)]
      congr 1
      rw [Bool.eq_iff_iff]
      simp only [List.mem_append, List.mem_singleton, not_or, decide_eq_true_eq, Bool.and_eq_true, Bool.not_eq_true', decide_eq_false_iff_not]
      exact ⟨fun ⟨h1, h2⟩ => ⟨h1, by omega⟩, fun ⟨h1, h2⟩ => ⟨h1, by omega⟩⟩
    · have hk' : k = i := by omega
      subst hk'
      refine go_on ?_
      refine e_round (k + 1, m2) (sub_cons rfl rfl (sub_cons rfl rfl (sub_cons rfl rfl (sub_cons rfl rfl (sub_nil))))) ⟨_, F.wk, by simp only; omega, ?_⟩ (by simp only; omega)
      dsimp only
      rw [hm2, Bool.and_assoc]
      congr 1
      rw [Bool.eq_iff_iff]
      simp only [decide_eq_true_eq, Bool.and_eq_true]
      rw [List.take_succ_eq_append_getElem hi', List.nodup_append]
      constructor
      · rintro ⟨h1, h2⟩
        exact ⟨h1, by simp, fun x hx y hy => by simp at hy; subst hy; intro e; subst e; exact h2 hx⟩
      · rintro ⟨h1, _, h2⟩
        exact ⟨h1, fun hx => h2 _ hx _ (by simp) rfl⟩
  · have hi' : i = bl.length := by omega
    subst hi'
    rw [List.take_length] at hm
    refine go_on ?_
    refine f_call F rfl rfl (check_c (n := ⟨1, 0, 1, 0, size, 0, 0, 0, bl⟩)) ?_
    clear F; rintro r O w T Φ ⟨rfl, rfl, rfl⟩ F0
    refine tidy F0 (fun F => ?_); clear F0
    refine go_on ?_
    have hmay : Ino.may ⟨1, 0, 1, 0, size, 0, 0, 0, bl⟩ ↔ m = true := by
      rw [hm, hc0]
      simp only [Bool.and_eq_true, decide_eq_true_eq]
      constructor
      · rintro ⟨_, h1, h2, h3, _⟩
        dsimp only at h1 h2 h3
        unfold needN at h2
        exact ⟨⟨by omega, by omega⟩, h3⟩
      · rintro ⟨⟨h1, h2⟩, h3⟩
        refine ⟨(by decide : 1 ≤ 3), by dsimp only; omega, ?_, h3, by simp⟩
        dsimp only
        unfold needN
        omega
    by_cases hq : Ino.may ⟨1, 0, 1, 0, size, 0, 0, 0, bl⟩
    · rw [if_pos hq]
      refine r_y (y_beq true rfl rfl (by rw [hmay.1 hq]; simp)) rfl ?_
      refine go_on ?_
      refine go_back ?_
      exact F.law
    · rw [if_neg hq]
      have hmf : m = false := by cases m <;> simp_all
      refine r_y (y_beq true rfl rfl (by rw [hmf]; simp)) rfl ?_
      refine go_on ?_
      refine go_back ?_
      exact F.law
theorem InodeBlocks_true {w : World} {v0 v1 : Value} (r0 : Reads Try.prog w 34 [v0]) (r1 : Reads Try.prog w 36 [v1]) :
    FnC Try.prog 15 [v0, v1] [] [] w fun r O' w' => r = .bool true := by
  obtain ⟨x, h, hlt⟩ := reads_nat (k := .u16) rfl r0
  injection h with h
  subst h
  obtain ⟨l, hl, _, hx⟩ := reads_nats (k := .u32) rfl r1
  exact InodeBlocks_ok hx hlt ((Fr.start OK_nil).fact (f := Fact.u32s v1 l) hl)
end Go.Proofs.Ytejkpngghbcbbaa
