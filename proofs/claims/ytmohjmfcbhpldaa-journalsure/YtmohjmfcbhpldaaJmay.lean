/- May writes be a change? -/
import Derived.Test.YtmohjmfcbhpldaaJcheck
namespace Go.Proofs.Ytmohjmfcbhpldaa
open Gk Go
set_option linter.unusedVariables false
set_option maxHeartbeats 4000000
set_option maxRecDepth 4000
set_option linter.unusedSimpArgs false
attribute [local irreducible] Int.decLt Int.decLe Int.decEq Int.instDecidableEq Gk.Rnds Gk.E Gk.G Gk.R Gk.RD Gk.RX Gk.RO Gk.Y Gk.Ent Gk.Sat Gk.Round Gk.After Gk.Cell Gk.Sl Gk.SlA Gk.CB Gk.OK Gk.FnC Gk.Bytes Gk.BytesL Gk.StrL Gk.Buf Gk.MapI
def wAt (l : List (Int × List UInt8)) (i : Nat) : Int × List UInt8 := l.getD i (0, [])
theorem wAt_eq {l : List (Int × List UInt8)} {i : Nat} (h : i < l.length) : l[i] = wAt l i := by simp [wAt, h]
def goodAt (n : Nat) (l : List (Int × List UInt8)) (i : Nat) : Prop := 0 ≤ (wAt l i).1 ∧ (wAt l i).1 < n ∧ (0 < i → (wAt l (i - 1)).1 < (wAt l i).1) ∧ (wAt l i).2.length ≤ 96
instance goodAtDec (n : Nat) (l : List (Int × List UInt8)) (i : Nat) : Decidable (goodAt n l i) := by unfold goodAt; infer_instance
def mayW (n : Nat) (l : List (Int × List UInt8)) : Prop := (∀ i, i < l.length → goodAt n l i) ∧ 1 ≤ l.length ∧ l.length ≤ 100
instance mayWDec (n : Nat) (l : List (Int × List UInt8)) : Decidable (mayW n l) := by unfold mayW; infer_instance
attribute [local irreducible] wAt
theorem jmay_c {p q bq : Nat} {lv : Value} {j : Jr} {l : List (Int × List UInt8)} (h : l.length ≤ 1000000) : Con Try.prog 31 [dptr p, lv] [] [Jt p q bq j] [Fact.rel 2 WrR lv l] fun r T Φ => r = .bool (decide (mayW j.B.length l)) ∧ T = [] ∧ Φ = [] := by
  refine con_of (fun O0 w0 F => ?_)
  refine tidy F (fun F => ?_)
  refine fn_of _ Try.func31 rfl (by kernel_rfl) Try.ntmps31 rfl ?_
  obtain ⟨vs, hvl, hj, F⟩ := openJ F
  obtain ⟨h1, h2, h3, h4, h5, h6, h7, h8⟩ := id hj
  obtain ⟨la, lc, rfl, _⟩ := (F.rel (v := lv) (R := WrR) (ys := l)).form
  unfold jcells at F
  refine go_on ?_
  refine g_loop (X := Nat) (fun i => [(0, dptr p), (1, .slice la l.length lc), (7, .slice la l.length lc), (8, .int .i64 l.length), (9, .int .i64 i)])
    (fun i wr => ∃ O, Fr [] O0 w0 O wr [(0, Thing.cells p [dptr q, .int .i64 j.log, .slice (some ⟨bq, 0, none⟩) j.B.length j.B.length, .int .u64 j.seq, .int .i64 j.place, .int .i64 j.used, .int .i64 j.e])] [Fact.rel 2 WrR (.slice la l.length lc) l] ∧ i ≤ l.length ∧ ∀ k, k < i → goodAt j.B.length l k) (fun i => l.length - i) 0 (sub_cons rfl rfl (sub_cons rfl rfl (sub_cons rfl rfl (sub_cons rfl rfl (sub_cons rfl rfl (sub_nil)))))) ⟨_, F.wk, by simp, fun k hk => by omega⟩ ?_
  clear F
  rintro i w ⟨O, F, hi, hg⟩
  refine go_on ?_
  refine g_dec rfl (fun g => ?_) (fun g => ?_)
  · have hi' : i < l.length := by omega
    obtain ⟨x, row, rfl, hrl, ⟨bv, rfl, hbv⟩, hrow⟩ := (F.rel (R := WrR) (ys := l)).elem hi'
    obtain ⟨va, vc, rfl, _⟩ := hbv.form
    have F := (F.factB hbv).fact hrow
    rw [wAt_eq hi'] at F
    have bad : ¬ goodAt j.B.length l i → decide (mayW j.B.length l) = false := fun hn => decide_eq_false fun hm => hn (hm.1 i hi')
    refine go_on ?_
    (first | refine f_alloc1 F rfl (fun z w F => ?_) | refine f_allocN F rfl (fun z w F => ?_)); refine go_on ?_
    refine f_storeAll F rfl rfl rfl (fun w F => ?_); refine go_on ?_
    by_cases c1 : (wAt l i).1 < 0
    · rw [bad fun h => by have := h.1; omega]
      refine f_draw [(0, Thing.cells p _), (2, Thing.cells z _)] F [] [(0, true), (1, true), (2, true), (3, true), (4, true), (5, true), (6, true), (7, true), (8, true), (9, true), (10, true), (11, true), (12, true), (13, true), (14, true), (15, true), (16, true), (17, true), (18, true), (19, true), (20, true), (21, true), (22, true), (23, true), (24, true), (25, true), (26, true), (27, true), (28, true), (29, true), (30, true), (31, true), (32, true), (33, true)] (by kernel_rfl) (by kernel_rfl) (fun w F hS => ?_); refine go_look ?_
      refine rd_done ?_; refine go_on ?_
      refine go_back ?_
      exact F.fin ⟨rfl, rfl, rfl⟩
    by_cases c2 : (j.B.length : Int) ≤ (wAt l i).1
    · rw [bad fun h => by have := h.2.1; omega]
      refine f_draw [(0, Thing.cells p _), (2, Thing.cells z _)] F [] [(0, true), (1, true), (2, true), (3, true), (4, true), (5, true), (6, true), (7, true), (8, true), (9, true), (10, true), (11, true), (12, true), (13, true), (14, true), (15, true), (16, true), (17, true), (18, true), (19, true), (20, true), (21, true), (22, true), (23, true), (24, true), (25, true), (26, true), (27, true), (28, true), (29, true), (30, true), (31, true), (32, true), (33, true)] (by kernel_rfl) (by kernel_rfl) (fun w F hS => ?_); refine go_look ?_
      refine rd_done ?_; refine go_on ?_
      refine go_back ?_
      exact F.fin ⟨rfl, rfl, rfl⟩
    cases i with
    | zero =>
      by_cases c4 : 96 < (wAt l 0).2.length
      · rw [bad fun h => by have := h.2.2.2; omega]
        refine f_draw [(0, Thing.cells p _), (2, Thing.cells z _)] F [] [(0, true), (1, true), (2, true), (3, true), (4, true), (5, true), (6, true), (7, true), (8, true), (9, true), (10, true), (11, true), (12, true), (13, true), (14, true), (15, true), (16, true), (17, true), (18, true), (19, true), (20, true), (21, true), (22, true), (23, true), (24, true), (25, true), (26, true), (27, true), (28, true), (29, true), (30, true), (31, true), (32, true), (33, true)] (by kernel_rfl) (by kernel_rfl) (fun w F hS => ?_); refine go_look ?_
        refine rd_done ?_; refine go_on ?_
        refine go_back ?_
        exact F.fin ⟨rfl, rfl, rfl⟩
      · have ok : goodAt j.B.length l 0 := ⟨by omega, by omega, fun h => by omega, by omega⟩
        refine f_draw [(0, Thing.cells p _), (2, Thing.cells z _)] F [] [(0, true), (1, true), (2, true), (3, true), (4, true), (5, true), (6, true), (7, true), (8, true), (9, true), (10, true), (11, true), (12, true), (13, true), (14, true), (15, true), (16, true), (17, true), (18, true), (19, true), (20, true), (21, true), (22, true), (23, true), (24, true), (25, true), (26, true), (27, true), (28, true), (29, true), (30, true), (31, true), (32, true), (33, true)] (by kernel_rfl) (by kernel_rfl) (fun w F hS => ?_); refine go_look ?_
        refine rd_done ?_; refine go_on ?_
        exact e_round 1 (sub_cons rfl rfl (sub_cons rfl rfl (sub_cons rfl rfl (sub_cons rfl rfl (sub_cons rfl rfl (sub_nil)))))) ⟨_, F.wk, by omega, fun k hk => by (have : k = 0 := by omega); subst this; exact ok⟩ (by omega)
    | succ k =>
      have hk' : k < l.length := by omega
      obtain ⟨x2, row2, hx2, hrl2, ⟨bv2, rfl, hbv2⟩, hrow2⟩ := (F.rel (R := WrR) (ys := l)).elem hk'
      injection hx2 with hx2
      subst hx2
      rw [wAt_eq hk'] at hrow2
      have F := F.fact hrow2
      by_cases c3 : (wAt l (k + 1)).1 ≤ (wAt l k).1
      · rw [bad fun h => by have := h.2.2.1 (by omega); rw [Nat.add_sub_cancel] at this; omega]
        refine f_draw [(0, Thing.cells p _), (2, Thing.cells z _)] F [] [(0, true), (1, true), (2, true), (3, true), (4, true), (5, true), (6, true), (7, true), (8, true), (9, true), (10, true), (11, true), (12, true), (13, true), (14, true), (15, true), (16, true), (17, true), (18, true), (19, true), (20, true), (21, true), (22, true), (23, true), (24, true), (25, true), (26, true), (27, true), (28, true), (29, true), (30, true), (31, true), (32, true), (33, true)] (by kernel_rfl) (by kernel_rfl) (fun w F hS => ?_); refine go_look ?_
        refine rd_open rfl ?_; (first | refine ro_n ?_ | refine ro_g rfl rfl ?_); refine rx_y rfl (fun _ hw => y_indexR (m := l.length) (p := x) (i := k) rfl (by show some (Value.int .i64 (((k + 1 : Nat) : Int) - 1)) = some (Value.int .i64 (k : Nat)); rw [show (((k + 1 : Nat) : Int) - 1) = (k : Nat) from by omega]) (by omega)) (by assumption) ?_; refine go_look ?_
        refine rd_done ?_; refine go_on ?_
        refine go_back ?_
        exact F.fin ⟨rfl, rfl, rfl⟩
      by_cases c4 : 96 < (wAt l (k + 1)).2.length
      · rw [bad fun h => by have := h.2.2.2; omega]
        refine f_draw [(0, Thing.cells p _), (2, Thing.cells z _)] F [] [(0, true), (1, true), (2, true), (3, true), (4, true), (5, true), (6, true), (7, true), (8, true), (9, true), (10, true), (11, true), (12, true), (13, true), (14, true), (15, true), (16, true), (17, true), (18, true), (19, true), (20, true), (21, true), (22, true), (23, true), (24, true), (25, true), (26, true), (27, true), (28, true), (29, true), (30, true), (31, true), (32, true), (33, true)] (by kernel_rfl) (by kernel_rfl) (fun w F hS => ?_); refine go_look ?_
        refine rd_open rfl ?_; (first | refine ro_n ?_ | refine ro_g rfl rfl ?_); refine rx_y rfl (fun _ hw => y_indexR (m := l.length) (p := x) (i := k) rfl (by show some (Value.int .i64 (((k + 1 : Nat) : Int) - 1)) = some (Value.int .i64 (k : Nat)); rw [show (((k + 1 : Nat) : Int) - 1) = (k : Nat) from by omega]) (by omega)) (by assumption) ?_; refine go_look ?_
        refine rd_done ?_; refine go_on ?_
        refine go_back ?_
        exact F.fin ⟨rfl, rfl, rfl⟩
      · have ok : goodAt j.B.length l (k + 1) := ⟨by omega, by omega, fun h => by rw [Nat.add_sub_cancel]; omega, by omega⟩
        refine f_draw [(0, Thing.cells p _), (2, Thing.cells z _)] F [] [(0, true), (1, true), (2, true), (3, true), (4, true), (5, true), (6, true), (7, true), (8, true), (9, true), (10, true), (11, true), (12, true), (13, true), (14, true), (15, true), (16, true), (17, true), (18, true), (19, true), (20, true), (21, true), (22, true), (23, true), (24, true), (25, true), (26, true), (27, true), (28, true), (29, true), (30, true), (31, true), (32, true), (33, true)] (by kernel_rfl) (by kernel_rfl) (fun w F hS => ?_); refine go_look ?_
        refine rd_open rfl ?_; (first | refine ro_n ?_ | refine ro_g rfl rfl ?_); refine rx_y rfl (fun _ hw => y_indexR (m := l.length) (p := x) (i := k) rfl (by show some (Value.int .i64 (((k + 1 : Nat) : Int) - 1)) = some (Value.int .i64 (k : Nat)); rw [show (((k + 1 : Nat) : Int) - 1) = (k : Nat) from by omega]) (by omega)) (by assumption) ?_; refine go_look ?_
        refine rd_done ?_; refine go_on ?_
        exact e_round (k + 1 + 1) (sub_cons rfl rfl (sub_cons rfl rfl (sub_cons rfl rfl (sub_cons rfl rfl (sub_cons rfl rfl (sub_nil)))))) ⟨_, F.wk, by omega, fun k2 hk => by
          by_cases e : k2 = k + 1
          · subst e; exact ok
          · exact hg k2 (by omega)⟩ (by omega)
  · have hi' : i = l.length := by omega
    subst hi'
    by_cases c1 : 1 ≤ l.length
    · have e : decide (mayW j.B.length l) = decide ((l.length : Int) ≤ 100) := by
        rw [decide_eq_decide]
        exact ⟨fun h => by have := h.2.2; omega, fun h => ⟨hg, c1, by omega⟩⟩
      rw [e]
      refine go_on ?_
      refine go_back ?_
      exact F.fin ⟨rfl, rfl, rfl⟩
    · rw [decide_eq_false (show ¬ mayW j.B.length l from fun h => c1 h.2.1)]
      refine go_on ?_
      refine go_back ?_
      exact F.fin ⟨rfl, rfl, rfl⟩
end Go.Proofs.Ytmohjmfcbhpldaa
