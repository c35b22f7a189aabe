/- TxnPlays answers true. -/
import Derived.Test.YtgmfgejckinocaaRef10
import Derived.Test.YtgmfgejckinocaaAwake10
namespace Go.Proofs.Ytgmfgejckinocaa
open Gk Go
set_option linter.unusedVariables false
set_option maxHeartbeats 4000000
set_option maxRecDepth 4000
set_option linter.unusedSimpArgs false
attribute [local irreducible] Int.decLt Int.decLe Int.decEq Int.instDecidableEq Gk.Rnds Gk.E Gk.G Gk.R Gk.RD Gk.RX Gk.RO Gk.Y Gk.Ent Gk.Sat Gk.Round Gk.After Gk.Cell Gk.Sl Gk.SlA Gk.CB Gk.OK Gk.FnC Gk.Bytes Gk.BytesL Gk.StrL Gk.Buf Gk.MapI
theorem awake10_c (h : True) : Con Try.prog 7 [] [] [] [] fun r T Φ => r = .bool true ∧ T = [] ∧ Φ = [] :=
  con0 (fun O w hO _ => awake10_ok hO) fun O w r O' w' hO s ⟨_, _, h⟩ => ⟨_, _, ⟨h, rfl, rfl⟩, left0⟩

abbrev Act := Int × Int × List UInt8
def ActR : Rel Act := ⟨fun O w row y => ∃ v, row = [.int .i64 y.1, .int .i64 y.2.1, v] ∧ Bytes O w v y.2.2, fun s ⟨v, h1, h2⟩ => ⟨v, h1, h2.step s⟩, fun hs ⟨v, h1, h2⟩ => ⟨v, h1, h2.sub hs⟩⟩

structure PS where
  ta : Tx
  ma : Nat
  q : Nat
  mb : Nat
  tb : Tx
  na : Value
  nb : Value

theorem TxnPlays_ok {w0 : World} {vl vs : Value} {l : List (List UInt8)} {sc : List Act} (F : Fr [] [] w0 [] w0 [] [Fact.bytesL vl l, Fact.rel 3 ActR vs sc]) :
    FnC Try.prog 5 [vl, vs] [] [] w0 fun r O' w' => r = .bool true := by
  obtain ⟨la, lc, rfl, _⟩ := (F.bytesL (v := vl)).form
  obtain ⟨sa, sd, rfl, _⟩ := (F.rel (v := vs) (R := ActR)).form
  refine fn_of _ Try.func5 rfl (by kernel_rfl) Try.ntmps5 rfl ?_
  refine go_on ?_
  refine f_call F rfl rfl awake10_c ?_
  clear F; rintro r O w T Φ ⟨rfl, rfl, rfl⟩ F0
  refine tidy F0 (fun F => ?_); clear F0
  refine go_on ?_
  by_cases g : 20 < l.length
  · refine go_on ?_
    refine go_back ?_
    exact F.law
  refine go_on ?_
  refine g_loop (X := Nat) (fun y => [(0, .slice la l.length lc), (1, .slice sa sc.length sd), (6, .int .i64 y)])
    (fun y wr => ∃ O, Fr [] [] w0 O wr [] [Fact.bytesL (.slice la l.length lc) l, Fact.rel 3 ActR (.slice sa sc.length sd) sc] ∧ y ≤ l.length ∧ ∀ b, b ∈ l.take y → b.length ≤ 200) (fun y => l.length - y) 0 (sub_cons rfl rfl (sub_cons rfl rfl (sub_cons rfl rfl (sub_nil)))) ⟨_, F.wk, Nat.zero_le _, by simp⟩ ?_
  clear F
  rintro i w ⟨O, F, hi, hb⟩
  refine go_on ?_
  refine g_dec rfl (fun g2 => ?_) (fun g2 => ?_)
  · have hi' : i < l.length := by omega
    obtain ⟨x, u, rfl, _, F⟩ := F.bytesAt hi'
    obtain ⟨ua, uc, rfl, _⟩ := (F.bytes (v := u)).form
    refine go_on ?_
    by_cases g3 : 200 < l[i].length
    · refine go_on ?_
      refine go_back ?_
      exact F.law
    · refine go_on ?_
      refine e_round (i + 1) (sub_cons rfl rfl (sub_cons rfl rfl (sub_cons rfl rfl (sub_nil)))) ⟨_, F.wk, by omega, fun b hm => ?_⟩ (by omega)
      rw [List.take_succ_eq_append_getElem hi'] at hm
      rcases List.mem_append.1 hm with hm | hm
      · exact hb b hm
      · simp at hm; subst hm; omega
  have hi' : i = l.length := by omega
  subst hi'
  rw [List.take_length] at hb
  clear hi g2
  refine go_on ?_
  refine f_call F rfl rfl txnNew_c ?_ (hp := ⟨by omega, fun b hm => Nat.le_trans (hb b hm) (by decide)⟩)
  clear F; rintro r O w T Φ ⟨p, ma, rfl, rfl, rfl⟩ F0
  refine tidy F0 (fun F => ?_); clear F0
  refine go_on ?_
  refine f_call F rfl rfl txnFork_c ?_
  clear F; rintro r O w T Φ ⟨q, mb, rfl, rfl, rfl⟩ F0
  refine tidy F0 (fun F => ?_); clear F0
  refine go_on ?_
  refine f_call F rfl rfl texts_c ?_
  clear F; rintro r O w T Φ ⟨rfl, rfl⟩ F0
  refine tidy F0 (fun F => ?_); clear F0
  refine go_on ?_
  obtain ⟨wa, wc, rfl, _⟩ := (F.sl (v := r) (cs := l.map str)).form
  refine f_call F rfl rfl rNew_c ?_
  clear F; rintro r O w T Φ ⟨rfl, rfl, rfl⟩ F0
  refine tidy F0 (fun F => ?_); clear F0
  refine go_on ?_
  (first | refine f_alloc1 F rfl (fun c9 w F => ?_) | refine f_allocN F rfl (fun c9 w F => ?_)); refine go_on ?_
  refine f_storeAll F rfl rfl rfl (fun w F => ?_); refine go_on ?_
  (first | refine f_alloc1 F rfl (fun c10 w F => ?_) | refine f_allocN F rfl (fun c10 w F => ?_)); refine go_on ?_
  refine f_storeAll F rfl rfl rfl (fun w F => ?_); refine go_on ?_
  have hall : l = (Tx.mk l []).all := by
    refine List.ext_getElem (by simp [Tx.all]) (fun j h1 h2 => ?_)
    rw [Tx.all_at]
    unfold Tx.now
    simp only [lookI, Option.getD_none]
    rw [List.getD_eq_getElem?_getD, List.getElem?_eq_getElem h1]; rfl
  have F := F.fact (f := Fact.strs (.slice wa l.length wc) (Tx.mk l []).all) (by rw [← hall]; exact F.sl (v := .slice wa l.length wc) (cs := l.map str))
  refine g_loop (X := Nat × PS) (fun y => [(0, .slice la l.length lc), (1, .slice sa sc.length sd), (7, tptr p), (8, tptr y.2.q), (9, tptr c9), (10, tptr c10), (11, .int .i64 y.1)])
    (fun y wr => ∃ O, Fr [] [] w0 O wr [(2, Tn p y.2.ma y.2.ta), (2, Tn y.2.q y.2.mb y.2.tb), (2, Thing.cells c9 [.slice wa l.length wc, y.2.na]), (2, Thing.cells c10 [.slice wa l.length wc, y.2.nb])]
      [Fact.rel 3 ActR (.slice sa sc.length sd) sc, Fact.strs (.slice wa l.length wc) l, Fact.strs y.2.na y.2.ta.all, Fact.strs y.2.nb y.2.tb.all] ∧ y.1 ≤ sc.length ∧ y.2.ta.was = l ∧ y.2.tb.was = l) (fun y => sc.length - y.1)
    (0, ⟨⟨l, []⟩, ma, q, mb, ⟨l, []⟩, .slice wa l.length wc, .slice wa l.length wc⟩) (sub_cons rfl rfl (sub_cons rfl rfl (sub_cons rfl rfl (sub_cons rfl rfl (sub_cons rfl rfl (sub_cons rfl rfl (sub_cons rfl rfl (sub_nil)))))))) ⟨_, F.wk, Nat.zero_le _, rfl, rfl⟩ ?_
  clear F hall
  rintro ⟨i, ta, ma, q, mb, tb, na, nb⟩ w ⟨O, F, hi, hta, htb⟩
  dsimp only at F hi hta htb ⊢
  obtain ⟨naa, nac, rfl, _⟩ := (F.sl (v := na) (cs := ta.all.map str)).form
  obtain ⟨nba, nbc, rfl, _⟩ := (F.sl (v := nb) (cs := tb.all.map str)).form
  have hla : ta.all.length = l.length := by rw [Tx.all_len, hta]
  have hlb : tb.all.length = l.length := by rw [Tx.all_len, htb]
  refine go_on ?_
  apply f_and 3 49 46 F
  · exact rfl
  · intro e; have e' := e; (try simp only [Bool.and_eq_true, Bool.or_eq_true, decide_eq_true_eq, decide_eq_false_iff_not, Bool.not_eq_true', Bool.or_eq_false_iff, Bool.not_eq_false', Bool.and_eq_false_iff] at e'); refine go_on ?_; refine e_cut rfl rfl (by (repeat (first | exact sub_refl | refine sub_new rfl ?_ | refine sub_bool rfl (by assumption) ?_))) (by (first | exact ⟨_, F⟩ | exact ⟨_, F.wk⟩))
  · intro e; have e' := e; (try simp only [Bool.and_eq_true, Bool.or_eq_true, decide_eq_true_eq, decide_eq_false_iff_not, Bool.not_eq_true', Bool.or_eq_false_iff, Bool.not_eq_false', Bool.and_eq_false_iff] at e'); refine go_on ?_; refine e_cut rfl rfl (by (repeat (first | exact sub_refl | refine sub_new rfl ?_ | refine sub_bool rfl (by assumption) ?_))) (by (first | exact ⟨_, F⟩ | exact ⟨_, F.wk⟩))
  intro O w F; refine go_on ?_
  refine g_cond rfl (fun e => ?_) (fun e => ?_)
  · simp only [Bool.and_eq_true, decide_eq_true_eq] at e
    have hi' : i < sc.length := by omega
    obtain ⟨x, row, rfl, hrl, ⟨bv, rfl, hbv⟩, hrow⟩ := (F.rel (R := ActR) (ys := sc)).elem hi'
    generalize sc[i] = act at hbv hrow
    obtain ⟨k, j, xs⟩ := act
    dsimp only at hbv hrow
    have F := (F.factB hbv).fact hrow
    obtain ⟨ba, bc, rfl, _⟩ := (F.bytes (v := bv)).form
    refine go_on ?_
    (first | refine f_alloc1 F rfl (fun c12 w F => ?_) | refine f_allocN F rfl (fun c12 w F => ?_)); refine go_on ?_
    refine f_storeAll F rfl rfl rfl (fun w F => ?_); refine go_on ?_
    by_cases g3 : 120 < xs.length
    · refine go_on ?_
      refine go_back ?_
      exact F.law
    refine go_on ?_
    refine r_y (y_andI rfl rfl) rfl ?_
    generalize andI .i64 k 7 = n
    refine go_on ?_
    refine g_midB (X := PS × Nat) (fun y => [(0, .slice la l.length lc), (1, .slice (some x) sc.length sd), (7, tptr p), (8, tptr y.1.q), (9, tptr c9), (10, tptr c10), (11, .int .i64 i), (12, tptr c12), (13, errT y.2), (14, errT y.2)])
      (fun y wr => ∃ O, Fr [] [] w0 O wr [(2, Tn p y.1.ma y.1.ta), (2, Tn y.1.q y.1.mb y.1.tb), (2, Thing.cells c9 [.slice wa l.length wc, y.1.na]), (2, Thing.cells c10 [.slice wa l.length wc, y.1.nb]), (2, Thing.cells c12 [.int .i64 k, .int .i64 j, .slice ba xs.length bc])]
        [Fact.rel 3 ActR (.slice (some x) sc.length sd) sc, Fact.strs (.slice wa l.length wc) l, Fact.strs y.1.na y.1.ta.all, Fact.strs y.1.nb y.1.tb.all] ∧ y.1.ta.was = l ∧ y.1.tb.was = l) ?_ ?_
    · have hpa : putEL ta.all.length j xs = ta.putE j xs := by rw [Tx.all_len]; rfl
      have hpb : putEL tb.all.length j xs = tb.putE j xs := by rw [Tx.all_len]; rfl
      have hqa : putL ta.all j xs = (ta.put1 j xs).all := by unfold putL; rw [Tx.all_put, Tx.all_len]
      have hqb : putL tb.all j xs = (tb.put1 j xs).all := by unfold putL; rw [Tx.all_put, Tx.all_len]
      by_cases n3 : n = 3
      · refine go_on ?_
        refine f_call F rfl rfl (txnPut_c (xs := xs)) ?_
        clear F; rintro r O w T Φ ⟨rfl, rfl, rfl⟩ F0
        refine tidy F0 (fun F => ?_); clear F0
        refine go_on ?_
        refine f_call F rfl rfl (rPut_c (l := tb.all) (xs := xs)) ?_
        clear F; rintro r O w T Φ ⟨nv, rfl, rfl, rfl⟩ F0
        refine tidy F0 (fun F => ?_); clear F0
        refine go_on ?_
        rw [hqb] at F
        rw [hpb]
        obtain ⟨nva, nvc, rfl, _⟩ := (F.sl (v := nv) (cs := (tb.put1 j xs).all.map str)).form
        refine go_on ?_
        refine f_storeAll F rfl rfl rfl (fun w F => ?_); refine go_on ?_
        exact e_round (⟨ta, ma, q, mb, tb.put1 j xs, _, _⟩, tb.putE j xs) (sub_cons rfl rfl (sub_cons rfl rfl (sub_cons rfl rfl (sub_cons rfl rfl (sub_cons rfl rfl (sub_cons rfl rfl (sub_cons rfl rfl (sub_cons rfl rfl (sub_cons rfl rfl (sub_cons rfl rfl sub_nil)))))))))) ⟨_, F.wk, hta, by rw [Tx.put_was]; exact htb⟩ (by decide)
      by_cases n4 : n = 4
      · refine go_on ?_
        refine f_call F rfl rfl txnFork_c ?_
        clear F; rintro r O w T Φ ⟨q2, mb2, rfl, rfl, rfl⟩ F0
        refine tidy F0 (fun F => ?_); clear F0
        refine go_on ?_
        refine f_storeAll F rfl rfl rfl (fun w F => ?_); refine go_on ?_
        exact e_round (⟨ta, ma, q2, mb2, ta, _, _⟩, 0) (sub_cons rfl rfl (sub_cons rfl rfl (sub_cons rfl rfl (sub_cons rfl rfl (sub_cons rfl rfl (sub_cons rfl rfl (sub_cons rfl rfl (sub_cons rfl rfl (sub_cons rfl rfl (sub_cons rfl rfl sub_nil)))))))))) ⟨_, F.wk, hta, hta⟩ (by decide)
      by_cases n5 : n = 5
      · have hte : (⟨ta.was, tb.put⟩ : Tx) = tb := by rw [hta, ← htb]
        refine go_on ?_
        refine f_call F rfl rfl (txnTake_c (t := ta) (u := tb)) ?_ (hp := (by rw [hta, htb]))
        clear F; rintro r O w T Φ ⟨m2, rfl, rfl⟩ F0
        refine tidy F0 (fun F => ?_); clear F0
        refine go_on ?_
        rw [hte] at F
        refine go_on ?_
        refine f_storeAll F rfl rfl rfl (fun w F => ?_); refine go_on ?_
        exact e_round (⟨tb, m2, q, mb, tb, _, _⟩, 0) (sub_cons rfl rfl (sub_cons rfl rfl (sub_cons rfl rfl (sub_cons rfl rfl (sub_cons rfl rfl (sub_cons rfl rfl (sub_cons rfl rfl (sub_cons rfl rfl (sub_cons rfl rfl (sub_cons rfl rfl sub_nil)))))))))) ⟨_, F.wk, htb, htb⟩ (by decide)
      · refine go_on ?_
        refine f_call F rfl rfl (txnPut_c (xs := xs)) ?_
        clear F; rintro r O w T Φ ⟨rfl, rfl, rfl⟩ F0
        refine tidy F0 (fun F => ?_); clear F0
        refine go_on ?_
        refine f_call F rfl rfl (rPut_c (l := ta.all) (xs := xs)) ?_
        clear F; rintro r O w T Φ ⟨nv, rfl, rfl, rfl⟩ F0
        refine tidy F0 (fun F => ?_); clear F0
        refine go_on ?_
        rw [hqa] at F
        rw [hpa]
        obtain ⟨nva, nvc, rfl, _⟩ := (F.sl (v := nv) (cs := (ta.put1 j xs).all.map str)).form
        refine go_on ?_
        refine f_storeAll F rfl rfl rfl (fun w F => ?_); refine go_on ?_
        exact e_round (⟨ta.put1 j xs, ma, q, mb, tb, _, _⟩, ta.putE j xs) (sub_cons rfl rfl (sub_cons rfl rfl (sub_cons rfl rfl (sub_cons rfl rfl (sub_cons rfl rfl (sub_cons rfl rfl (sub_cons rfl rfl (sub_cons rfl rfl (sub_cons rfl rfl (sub_cons rfl rfl sub_nil)))))))))) ⟨_, F.wk, by rw [Tx.put_was]; exact hta, htb⟩ (by decide)
    · clear F hta htb hla hlb
      rintro ⟨⟨ta, ma, q, mb, tb, na, nb⟩, e⟩ w ⟨O, F, hta, htb⟩
      dsimp only at F hta htb ⊢
      have hla : ta.all.length = l.length := by rw [Tx.all_len, hta]
      have hlb : tb.all.length = l.length := by rw [Tx.all_len, htb]
      have hga : ta.get j = getL ta.all j := Tx.get_all ta j
      have hgb : tb.get j = getL tb.all j := Tx.get_all tb j
      have hca : ta.changes = chgL l ta.all l.length := by rw [Tx.changes_all, hta]
      have hcb : tb.changes = chgL l tb.all l.length := by rw [Tx.changes_all, htb]
      have hwl : ta.was.length = l.length := by rw [hta]
      have hcla : ta.changes.length ≤ 1000000 := by rw [hca]; have := chgL_len l ta.all l.length; omega
      have hclb : tb.changes.length ≤ 1000000 := by rw [hcb]; have := chgL_len l tb.all l.length; omega
      refine go_on ?_
      refine f_drawA F [] [(0, true), (1, true), (2, true), (3, true), (4, true), (5, true), (6, true), (9, true), (10, true), (11, true), (7, false), (8, true), (12, false), (13, true), (14, true), (15, true), (16, true), (17, true), (18, true), (21, true), (22, true), (23, true), (19, false), (20, true), (24, false), (25, true), (26, true), (27, true), (28, true), (30, true), (29, false), (31, false), (32, false), (33, true), (34, true), (35, true), (36, true), (38, true), (37, false), (39, false), (40, false), (41, true), (42, true), (43, true), (44, true), (46, true), (47, true), (45, false), (48, true), (49, true)] (by kernel_rfl) (by kernel_rfl) (fun w F hS => ?_); refine go_look ?_
      refine rd_do rfl ?_
      (try refine r_go rfl rfl ?_)
      refine f_call F rfl rfl txnGet_c ?_
      clear F; rintro r O w T Φ ⟨rfl, rfl⟩ F0
      refine tidy F0 (fun F => ?_); clear F0
      refine r_nil ?_; refine e_afterF F (fun hS => ?_); refine go_look ?_
      refine rd_do rfl ?_
      (try refine r_go rfl rfl ?_)
      refine f_call F rfl rfl (rGet_c (l := ta.all)) ?_
      clear F; rintro r O w T Φ ⟨rfl, rfl, rfl⟩ F0
      refine tidy F0 (fun F => ?_); clear F0
      refine r_nil ?_; refine e_afterF F (fun hS => ?_); refine go_look ?_
      refine rd_do rfl ?_
      (try refine r_go rfl rfl ?_)
      refine f_call F rfl rfl txnGet_c ?_
      clear F; rintro r O w T Φ ⟨rfl, rfl⟩ F0
      refine tidy F0 (fun F => ?_); clear F0
      refine r_nil ?_; refine e_afterF F (fun hS => ?_); refine go_look ?_
      refine rd_do rfl ?_
      (try refine r_go rfl rfl ?_)
      refine f_call F rfl rfl (rGet_c (l := tb.all)) ?_
      clear F; rintro r O w T Φ ⟨rfl, rfl, rfl⟩ F0
      refine tidy F0 (fun F => ?_); clear F0
      refine r_nil ?_; refine e_afterF F (fun hS => ?_); refine go_look ?_
      refine rd_do rfl ?_
      (try refine r_go rfl rfl ?_)
      refine f_call F rfl rfl txnChanges_c ?_
      clear F; rintro r O w T Φ ⟨rfl, rfl⟩ F0
      refine tidy F0 (fun F => ?_); clear F0
      refine r_nil ?_; refine e_afterF F (fun hS => ?_); refine go_look ?_
      refine rd_do rfl ?_
      (try refine r_go rfl rfl ?_)
      refine f_call F rfl rfl (rChanges_c (l := l) (m := ta.all)) ?_
      clear F; rintro r O w T Φ ⟨rfl, rfl⟩ F0
      refine tidy F0 (fun F => ?_); clear F0
      refine r_nil ?_; refine e_afterF F (fun hS => ?_); refine go_look ?_
      refine rd_do rfl ?_
      (try refine r_go rfl rfl ?_)
      refine f_call F rfl rfl (same_c (xs := ta.changes) (ys := chgL l ta.all l.length)) ?_
      clear F; rintro r O w T Φ ⟨rfl, rfl, rfl⟩ F0
      refine tidy F0 (fun F => ?_); clear F0
      refine r_nil ?_; refine e_afterF F (fun hS => ?_); refine go_look ?_
      refine rd_do rfl ?_
      (try refine r_go rfl rfl ?_)
      refine f_call F rfl rfl txnChanges_c ?_
      clear F; rintro r O w T Φ ⟨rfl, rfl⟩ F0
      refine tidy F0 (fun F => ?_); clear F0
      refine r_nil ?_; refine e_afterF F (fun hS => ?_); refine go_look ?_
      refine rd_do rfl ?_
      (try refine r_go rfl rfl ?_)
      refine f_call F rfl rfl (rChanges_c (l := l) (m := tb.all)) ?_
      clear F; rintro r O w T Φ ⟨rfl, rfl⟩ F0
      refine tidy F0 (fun F => ?_); clear F0
      refine r_nil ?_; refine e_afterF F (fun hS => ?_); refine go_look ?_
      refine rd_do rfl ?_
      (try refine r_go rfl rfl ?_)
      refine f_call F rfl rfl (same_c (xs := tb.changes) (ys := chgL l tb.all l.length)) ?_
      clear F; rintro r O w T Φ ⟨rfl, rfl, rfl⟩ F0
      refine tidy F0 (fun F => ?_); clear F0
      refine r_nil ?_; refine e_afterF F (fun hS => ?_); refine go_look ?_
      refine rd_do rfl ?_
      (try refine r_go rfl rfl ?_)
      refine f_call F rfl rfl txnLen_c ?_
      clear F; rintro r O w T Φ ⟨rfl, rfl, rfl⟩ F0
      refine tidy F0 (fun F => ?_); clear F0
      refine r_nil ?_; refine e_afterF F (fun hS => ?_); refine go_look ?_
      refine rd_done ?_; refine go_on ?_
      exact e_round (i + 1, ⟨ta, ma, q, mb, tb, na, nb⟩) (sub_cons rfl rfl (sub_cons rfl rfl (sub_cons rfl rfl (sub_cons rfl rfl (sub_cons rfl rfl (sub_cons rfl rfl (sub_cons rfl rfl (sub_nil)))))))) ⟨_, F.wk, by simp only; omega, hta, htb⟩ (by simp only; omega)
  · refine go_on ?_
    refine f_call F rfl rfl txnTaken1_c ?_
    clear F; rintro r O w T Φ ⟨rfl, rfl⟩ F0
    refine tidy F0 (fun F => ?_); clear F0
    refine go_on ?_
    refine f_call F rfl rfl txnTaken2_c ?_
    clear F; rintro r O w T Φ ⟨rfl, rfl⟩ F0
    refine tidy F0 (fun F => ?_); clear F0
    refine go_on ?_
    refine f_call F rfl rfl txnPutn_c ?_
    clear F; rintro r O w T Φ ⟨rfl, rfl, rfl⟩ F0
    refine tidy F0 (fun F => ?_); clear F0
    refine go_on ?_
    refine f_call F rfl rfl txnForkn_c ?_
    clear F; rintro r O w T Φ ⟨rfl, rfl, rfl⟩ F0
    refine tidy F0 (fun F => ?_); clear F0
    refine go_on ?_
    refine f_call F rfl rfl txnLenn_c ?_
    clear F; rintro r O w T Φ ⟨rfl, rfl, rfl⟩ F0
    refine tidy F0 (fun F => ?_); clear F0
    refine go_on ?_
    refine f_call F rfl rfl txnGetn_c ?_
    clear F; rintro r O w T Φ ⟨rfl, rfl, rfl⟩ F0
    refine tidy F0 (fun F => ?_); clear F0
    refine go_on ?_
    refine f_call F rfl rfl txnChangesn_c ?_
    clear F; rintro r O w T Φ ⟨rfl, rfl, rfl⟩ F0
    refine tidy F0 (fun F => ?_); clear F0
    refine go_on ?_
    refine go_back ?_
    exact F.lawb (by simp)

theorem reads_act {w : World} {row : List Value} (h : row.length = 3) (r : Reads Try.prog w 45 row) : ∃ y : Act, ActR.φ [] w row y := by
  match row, h with
  | [a0, a1, a2], _ =>
    obtain ⟨k, e0, _⟩ := reads_int (k := .i64) (reads_field (i := 0) r)
    obtain ⟨j, e1, _⟩ := reads_int (k := .i64) (reads_field (i := 1) r)
    obtain ⟨b, hb, _⟩ := reads_bytes (v := a2) (reads_field (i := 2) r)
    simp only [List.drop_zero, List.take_succ_cons, List.take_zero, List.drop_succ_cons, List.cons.injEq, and_true] at e0 e1
    subst e0 e1
    exact ⟨(k, j, b), a2, rfl, hb⟩

theorem TxnPlays_true {w : World} {v0 v1 : Value} (r0 : Reads Try.prog w 22 [v0]) (r1 : Reads Try.prog w 37 [v1]) :
    FnC Try.prog 5 [v0, v1] [] [] w fun r O' w' => r = .bool true := by
  obtain ⟨l, hl, _⟩ := reads_bytesL r0
  obtain ⟨sc, hs, _⟩ := reads_slR (r := ActR.φ [] w) r1 (fun row h hr => reads_act h hr)
  exact TxnPlays_ok (((Fr.start OK_nil).fact (f := Fact.rel 3 ActR v1 sc) hs).fact (f := Fact.bytesL v0 l) hl)
end Go.Proofs.Ytgmfgejckinocaa
