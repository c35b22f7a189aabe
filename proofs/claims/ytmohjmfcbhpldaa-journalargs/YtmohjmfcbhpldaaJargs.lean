/- JournalArgs answers true. -/
import Derived.Test.YtmohjmfcbhpldaaJlive
namespace Go.Proofs.Ytmohjmfcbhpldaa
open Gk Go
set_option linter.unusedVariables false
set_option maxHeartbeats 4000000
set_option maxRecDepth 4000
set_option linter.unusedSimpArgs false
attribute [local irreducible] Int.decLt Int.decLe Int.decEq Int.instDecidableEq Gk.Rnds Gk.E Gk.G Gk.R Gk.RD Gk.RX Gk.RO Gk.Y Gk.Ent Gk.Sat Gk.Round Gk.After Gk.Cell Gk.Sl Gk.SlA Gk.CB Gk.OK Gk.FnC Gk.Bytes Gk.BytesL Gk.StrL Gk.Buf Gk.MapI
def FineTo (l : Chg) (i : Nat) : Prop := 0 < l.length ∧ ∀ k, k < i → goodAt 6 l k
theorem fine_bad {l : Chg} {i : Nat} (h : ¬ goodAt 6 l i) : ¬ FineTo l (i + 1) := fun g => h (g.2 i (by omega))
theorem fine_no {l : Chg} {i : Nat} (h : ¬ FineTo l i) : ¬ FineTo l (i + 1) := fun g => h ⟨g.1, fun k hk => g.2 k (by omega)⟩
theorem fine_go {l : Chg} {i : Nat} (h : FineTo l i) (hg : goodAt 6 l i) : FineTo l (i + 1) := ⟨h.1, fun k hk => by
  by_cases e : k = i
  · subst e; exact hg
  · exact h.2 k (by omega)⟩
attribute [local irreducible] wAt
theorem JournalArgs_ok {w0 : World} {lv : Value} {l : Chg} {lg nb : Int} (h1 : -9223372036854775808 ≤ lg ∧ lg ≤ 9223372036854775807) (h2 : -9223372036854775808 ≤ nb ∧ nb ≤ 9223372036854775807) (hln : l.length ≤ 9223372036854775807) (F : Fr [] [] w0 [] w0 [] [Fact.rel 2 WrR lv l]) :
    FnC Try.prog 7 [lv, .int .i64 lg, .int .i64 nb] [] [] w0 fun r O' w' => r = .bool true := by
  obtain ⟨la, lc, rfl, _⟩ := (F.rel (v := lv) (R := WrR) (ys := l)).form
  refine fn_of _ Try.func7 rfl (by kernel_rfl) Try.ntmps7 rfl ?_
  refine go_on ?_
  refine f_call F rfl rfl awake_c ?_ (hp := trivial)
  clear F; rintro r O w T Φ ⟨rfl, rfl, rfl⟩ F0
  refine tidy F0 (fun F => ?_); clear F0
  refine go_on ?_
  refine f_call F rfl rfl (few_c (l := l)) ?_ (hp := hln)
  clear F; rintro r O w T Φ ⟨fb, hfb, rfl, rfl, rfl⟩ F0
  refine tidy F0 (fun F => ?_); clear F0
  cases fb with
  | false =>
    refine go_on ?_
    refine go_back ?_
    exact F.law
  | true =>
    obtain ⟨hl20, hl120⟩ := hfb rfl
    refine go_on ?_
    refine f_call F rfl rfl (dnewK_c (n := 40)) ?_ (hp := ⟨by omega, by omega⟩)
    clear F; rintro r O w T Φ ⟨q, m, rfl, rfl, rfl⟩ F0
    refine tidy F0 (fun F => ?_); clear F0
    refine go_on ?_
    apply r_join (X := Value) (fun _ => [(0, .slice la l.length lc), (9, dptr q), (72, dptr q)])
      (fun v w => ∃ O, Fr [] [] w0 O w [(2, Dn q m v ⟨40, [], [], -1, false⟩)] [Fact.rel 2 WrR (.slice la l.length lc) l])
    · intro K
      by_cases c : openArgs ⟨40, [], [], -1, false⟩ lg nb
      · obtain ⟨g1, g2, g3, g4, g5⟩ := id c
        have g5 : 1 + lg + nb ≤ 40 := g5
        obtain ⟨K1, rfl⟩ : ∃ K1 : Nat, lg = K1 := ⟨lg.toNat, by omega⟩
        obtain ⟨N1, rfl⟩ : ∃ N1 : Nat, nb = N1 := ⟨nb.toNat, by omega⟩
        have F := F
        refine f_call F rfl rfl (jopenL_c (q := q) (m := m) (K := K1) (N := N1) (d := ⟨40, [], [], -1, false⟩)) ?_ (hp := (rdy_zero (by omega)))
        clear F; rintro r O w T Φ ⟨p, bq, v1, j1, d1, ⟨_, _, _, _, _, _, a7⟩, rfl, rfl, rfl⟩ F0
        refine tidy F0 (fun F => ?_); clear F0
        have a7 := a7 rfl
        subst a7
        refine go_on ?_
        rw [show decide (1 + (K1 : Int) + (N1 : Int) ≤ 40) = true from decide_eq_true g5]
        (first | rw [show (!(decide True == true)) = false from by simp] | rw [show (!(decide ((0 : Int) = 0) == true)) = false from by simp])
        refine go_on ?_
        exact K v1 _ _ ⟨_, F.wk⟩ (sub_cons rfl rfl (sub_cons rfl rfl (sub_cons rfl rfl (sub_nil))))
      · have F := F
        refine f_call F rfl rfl (jopenE_c (q := q) (m := m) (d := ⟨40, [], [], -1, false⟩) (log := lg) (n := nb)) ?_ (hp := c)
        clear F; rintro r O w T Φ ⟨rfl, rfl, rfl⟩ F0
        refine tidy F0 (fun F => ?_); clear F0
        have hc : ¬ (4 ≤ lg ∧ lg ≤ 200 ∧ 1 ≤ nb ∧ nb ≤ 400 ∧ 1 + lg + nb ≤ 40) := c
        by_cases g1 : lg < 4
        · refine go_on ?_
          (first | rw [show (!(decide False == false)) = false from by simp] | rw [show (!(decide ((1 : Int) = 0) == false)) = false from by simp])
          refine go_on ?_
          exact K _ _ _ ⟨_, F.wk⟩ (sub_cons rfl rfl (sub_cons rfl rfl (sub_cons rfl rfl (sub_nil))))
        by_cases g2 : 39 < lg
        · refine go_on ?_
          (first | rw [show (!(decide False == false)) = false from by simp] | rw [show (!(decide ((1 : Int) = 0) == false)) = false from by simp])
          refine go_on ?_
          exact K _ _ _ ⟨_, F.wk⟩ (sub_cons rfl rfl (sub_cons rfl rfl (sub_cons rfl rfl (sub_nil))))
        by_cases g3 : nb < 1
        · refine go_on ?_
          (first | rw [show (!(decide False == false)) = false from by simp] | rw [show (!(decide ((1 : Int) = 0) == false)) = false from by simp])
          refine go_on ?_
          exact K _ _ _ ⟨_, F.wk⟩ (sub_cons rfl rfl (sub_cons rfl rfl (sub_cons rfl rfl (sub_nil))))
        by_cases g4 : 39 < nb
        · refine go_on ?_
          (first | rw [show (!(decide False == false)) = false from by simp] | rw [show (!(decide ((1 : Int) = 0) == false)) = false from by simp])
          refine go_on ?_
          exact K _ _ _ ⟨_, F.wk⟩ (sub_cons rfl rfl (sub_cons rfl rfl (sub_cons rfl rfl (sub_nil))))
        have g5 : 40 < 1 + lg + nb := by omega
        refine go_on ?_
        rw [show decide (1 + lg + nb ≤ 40) = false from decide_eq_false (by omega)]
        (first | rw [show (!(decide False == false)) = false from by simp] | rw [show (!(decide ((1 : Int) = 0) == false)) = false from by simp])
        refine go_on ?_
        exact K _ _ _ ⟨_, F.wk⟩ (sub_cons rfl rfl (sub_cons rfl rfl (sub_cons rfl rfl (sub_nil))))
    clear F
    rintro v w ⟨O, F⟩
    refine f_call F rfl rfl (jopenL_c (q := q) (m := m) (K := 20) (N := 6) (v0 := v) (d := ⟨40, [], [], -1, false⟩)) ?_ (hp := (rdy_zero (by omega)))
    clear F; rintro r O w T Φ ⟨p, bq, v1, j1, d1, ⟨a1, a2, a3, a4, a5, a6, a7⟩, rfl, rfl, rfl⟩ F0
    refine tidy F0 (fun F => ?_); clear F0
    have a7 := a7 rfl
    subst a7
    refine go_on ?_
    refine g_loop (X := Nat × Bool) (fun y => [(0, .slice la l.length lc), (9, dptr q), (14, dptr p), (16, .bool y.2), (17, .int .i64 y.1)])
      (fun y wr => ∃ O, Fr [] [] w0 O wr [(1, Jt p q bq j1), (1, Dn q m v1 ⟨40, [], [], -1, false⟩)] [Fact.rel 2 WrR (.slice la l.length lc) l] ∧ y.1 ≤ l.length ∧ (y.2 = true ↔ FineTo l y.1)) (fun y => l.length - y.1) (0, decide ((0 : Int) < (l.length : Int))) (sub_cons rfl rfl (sub_cons rfl rfl (sub_cons rfl rfl (sub_cons rfl rfl (sub_cons rfl rfl (sub_nil)))))) ⟨_, (F.demote (t := Jt p q bq j1)).demote (t := Dn q m v1 ⟨40, [], [], -1, false⟩) |>.wk, Nat.zero_le _, ?_⟩ ?_
    · dsimp only
      rw [decide_eq_true_eq]
      exact ⟨fun h => ⟨by omega, fun k hk => by omega⟩, fun h => by have := h.1; omega⟩
    clear F
    rintro ⟨i, b⟩ w ⟨O, F, hi, hb⟩
    dsimp only at F hi hb ⊢
    refine go_on ?_
    refine g_dec rfl (fun g => ?_) (fun g => ?_)
    · have hi' : i < l.length := by omega
      refine go_on ?_
      cases b with
      | false =>
        have hbf : ¬ FineTo l i := fun h => by cases hb.2 h
        refine f_draw [] F [] [(0, true), (1, true), (2, true), (3, true), (4, true), (5, true), (6, true), (7, true), (8, true), (9, true), (10, true), (11, true), (12, true), (13, true), (14, true), (15, true), (16, true), (17, true), (18, true), (19, true), (20, true), (21, true), (22, true), (23, true), (24, true), (25, true), (26, true), (27, true), (28, true), (29, true), (30, true), (31, true), (32, true), (33, true), (34, true), (35, true), (36, true), (37, true), (38, true), (39, true), (40, true), (41, true), (42, true), (43, true), (44, true)] (by kernel_rfl) (by kernel_rfl) (fun w F hS => ?_); refine go_look ?_
        refine rd_done ?_; refine go_on ?_
        exact e_round (i + 1, false) (sub_cons rfl rfl (sub_cons rfl rfl (sub_cons rfl rfl (sub_cons rfl rfl (sub_cons rfl rfl (sub_nil)))))) ⟨_, F.wk, by dsimp only; omega, ⟨fun h => (by cases h), fun h => absurd h (fine_no hbf)⟩⟩ (by simp only; omega)
      | true =>
        have hbt : FineTo l i := hb.1 rfl
        obtain ⟨x, row, rfl, hrl, ⟨bv, rfl, hbv⟩, hrow⟩ := (F.rel (R := WrR) (ys := l)).elem hi'
        obtain ⟨va, vc, rfl, _⟩ := hbv.form
        have F := (F.factB hbv).fact hrow
        rw [wAt_eq hi'] at F
        have bad : ¬ goodAt 6 l i → (false = true ↔ FineTo l (i + 1)) := fun hn => ⟨fun h => (by cases h), fun h => absurd h (fine_bad hn)⟩
        by_cases c1 : (wAt l i).1 < 0
        · refine f_draw [] F [] [(0, true), (1, true), (2, true), (3, true), (4, true), (5, true), (6, true), (7, true), (8, true), (9, true), (10, true), (11, true), (12, true), (13, true), (14, true), (15, true), (16, true), (17, true), (18, true), (19, true), (20, true), (21, true), (22, true), (23, true), (24, true), (25, true), (26, true), (27, true), (28, true), (29, true), (30, true), (31, true), (32, true), (33, true), (34, true), (35, true), (36, true), (37, true), (38, true), (39, true), (40, true), (41, true), (42, true), (43, true), (44, true)] (by kernel_rfl) (by kernel_rfl) (fun w F hS => ?_); refine go_look ?_
          refine rd_done ?_; refine go_on ?_
          exact e_round (i + 1, false) (sub_cons rfl rfl (sub_cons rfl rfl (sub_cons rfl rfl (sub_cons rfl rfl (sub_cons rfl rfl (sub_nil)))))) ⟨_, F.wk, by dsimp only; omega, bad fun h => by have := h.1; omega⟩ (by simp only; omega)
        by_cases c2 : 6 ≤ (wAt l i).1
        · refine f_draw [] F [] [(0, true), (1, true), (2, true), (3, true), (4, true), (5, true), (6, true), (7, true), (8, true), (9, true), (10, true), (11, true), (12, true), (13, true), (14, true), (15, true), (16, true), (17, true), (18, true), (19, true), (20, true), (21, true), (22, true), (23, true), (24, true), (25, true), (26, true), (27, true), (28, true), (29, true), (30, true), (31, true), (32, true), (33, true), (34, true), (35, true), (36, true), (37, true), (38, true), (39, true), (40, true), (41, true), (42, true), (43, true), (44, true)] (by kernel_rfl) (by kernel_rfl) (fun w F hS => ?_); refine go_look ?_
          refine rd_done ?_; refine go_on ?_
          exact e_round (i + 1, false) (sub_cons rfl rfl (sub_cons rfl rfl (sub_cons rfl rfl (sub_cons rfl rfl (sub_cons rfl rfl (sub_nil)))))) ⟨_, F.wk, by dsimp only; omega, bad fun h => by have := h.2.1; omega⟩ (by simp only; omega)
        by_cases c4 : 96 < (wAt l i).2.length
        · refine f_draw [] F [] [(0, true), (1, true), (2, true), (3, true), (4, true), (5, true), (6, true), (7, true), (8, true), (9, true), (10, true), (11, true), (12, true), (13, true), (14, true), (15, true), (16, true), (17, true), (18, true), (19, true), (20, true), (21, true), (22, true), (23, true), (24, true), (25, true), (26, true), (27, true), (28, true), (29, true), (30, true), (31, true), (32, true), (33, true), (34, true), (35, true), (36, true), (37, true), (38, true), (39, true), (40, true), (41, true), (42, true), (43, true), (44, true)] (by kernel_rfl) (by kernel_rfl) (fun w F hS => ?_); refine go_look ?_
          refine rd_done ?_; refine go_on ?_
          exact e_round (i + 1, false) (sub_cons rfl rfl (sub_cons rfl rfl (sub_cons rfl rfl (sub_cons rfl rfl (sub_cons rfl rfl (sub_nil)))))) ⟨_, F.wk, by dsimp only; omega, bad fun h => by have := h.2.2.2; omega⟩ (by simp only; omega)
        by_cases h0 : i = 0
        · have ok : goodAt 6 l i := ⟨by omega, by omega, fun h => by omega, by omega⟩
          refine f_draw [] F [] [(0, true), (1, true), (2, true), (3, true), (4, true), (5, true), (6, true), (7, true), (8, true), (9, true), (10, true), (11, true), (12, true), (13, true), (14, true), (15, true), (16, true), (17, true), (18, true), (19, true), (20, true), (21, true), (22, true), (23, true), (24, true), (25, true), (26, true), (27, true), (28, true), (29, true), (30, true), (31, true), (32, true), (33, true), (34, true), (35, true), (36, true), (37, true), (38, true), (39, true), (40, true), (41, true), (42, true), (43, true), (44, true)] (by kernel_rfl) (by kernel_rfl) (fun w F hS => ?_); refine go_look ?_
          refine rd_done ?_; refine go_on ?_
          exact e_round (i + 1, true) (sub_cons rfl rfl (sub_cons rfl rfl (sub_cons rfl rfl (sub_cons rfl rfl (sub_cons rfl rfl (sub_nil)))))) ⟨_, F.wk, by dsimp only; omega, ⟨fun _ => fine_go hbt ok, fun _ => rfl⟩⟩ (by simp only; omega)
        · obtain ⟨k, hk⟩ : ∃ k, i = k + 1 := ⟨i - 1, by omega⟩
          have hk' : k < l.length := by omega
          have hk1 : i - 1 = k := by omega
          obtain ⟨x2, row2, hx2, hrl2, ⟨bv2, rfl, hbv2⟩, hrow2⟩ := (F.rel (R := WrR) (ys := l)).elem hk'
          injection hx2 with hx2
          subst hx2
          rw [wAt_eq hk'] at hrow2
          have F := F.fact hrow2
          refine f_draw [] F [] [(0, true), (1, true), (2, true), (3, true), (4, true), (5, true), (6, true), (7, true), (8, true), (9, true), (10, true), (11, true), (12, true), (13, true), (14, true), (15, true), (16, true), (17, true), (18, true), (19, true), (20, true), (21, true), (22, true), (23, true), (24, true), (25, true), (26, true), (27, true), (28, true), (29, true), (30, true), (31, true), (32, true), (33, true), (34, true), (35, true), (36, true), (37, true), (38, true), (39, true), (40, true), (41, true), (42, true), (43, true), (44, true)] (by kernel_rfl) (by kernel_rfl) (fun w F hS => ?_); refine go_look ?_
          refine rd_open rfl ?_; (first | refine ro_n ?_ | refine ro_g rfl rfl ?_); refine rx_y rfl (fun _ hw => y_indexR (m := l.length) (p := x) (i := k) rfl (by show some (Value.int .i64 ((i : Int) - 1)) = some (Value.int .i64 (k : Nat)); rw [show ((i : Int) - 1) = (k : Nat) from by omega]) (by omega)) (by assumption) ?_; refine go_look ?_
          refine rd_done ?_; refine go_on ?_
          refine e_round (i + 1, decide ((wAt l k).1 < (wAt l i).1)) (sub_cons rfl rfl (sub_cons rfl rfl (sub_cons rfl rfl (sub_cons rfl rfl (sub_cons rfl rfl (sub_nil)))))) ⟨_, F.wk, by dsimp only; omega, ?_⟩ (by simp only; omega)
          dsimp only
          rw [decide_eq_true_eq]
          exact ⟨fun h => fine_go hbt ⟨by omega, by omega, fun _ => by rw [hk1]; exact h, by omega⟩, fun h => by have := (h.2 i (by omega)).2.2.1 (by omega); rw [hk1] at this; exact this⟩
    · obtain rfl : l.length = i := by omega
      have hm : FineTo l l.length ↔ mayW 6 l := ⟨fun h => ⟨h.2, h.1, by omega⟩, fun h => ⟨h.2.1, h.1⟩⟩
      rw [hm] at hb
      refine go_on ?_
      refine f_call F rfl rfl (jcommit_c (p := p) (q := q) (bq := bq) (m := m) (v0 := v1) (j := j1) (d := ⟨40, [], [], -1, false⟩) (l := l)) ?_ (hp := ⟨Nat.zero_le _, by omega⟩)
      clear F; rintro r O w T Φ ⟨v2, rfl, rfl, rfl⟩ F0
      refine tidy F0 (fun F => ?_); clear F0
      cases b with
      | true =>
        have hmay := hb.1 rfl
        have hsh := may_short hmay
        have hc := commit_goes a1 l (by rw [a4]; decide) a2 hmay (by omega)
        rw [a4] at hc
        obtain ⟨⟨⟨j2, d2⟩, e2⟩, hx⟩ : ∃ x, j1.commit ⟨40, [], [], -1, false⟩ l = x := ⟨_, rfl⟩
        rw [hx] at hc F ⊢
        dsimp only at hc F ⊢
        obtain ⟨rfl, b1, b2, b3, b4, b5, b6, b7⟩ := hc
        refine go_on ?_
        refine f_call F rfl rfl (jseq_c (p := p) (q := q) (bq := bq) (j := j2)) ?_ (hp := trivial)
        clear F; rintro r O w T Φ ⟨rfl, rfl, rfl⟩ F0
        refine tidy F0 (fun F => ?_); clear F0
        rw [b4]
        refine go_on ?_
        refine go_back ?_
        exact F.lawb (by simp)
      | false =>
        have hno : ¬ mayW 6 l := fun h => by cases hb.2 h
        rcases commit_alive a1 l (by rw [a4]; decide) with ⟨_, hx⟩ | ⟨h, _⟩ | ⟨h, _⟩ | ⟨h, _⟩
        · rw [hx] at F ⊢
          dsimp only at F ⊢
          refine go_on ?_
          refine g_loop (X := Nat) (fun k => [(9, dptr q), (14, dptr p), (18, .int .i64 (1 : Nat)), (19, .int .i64 k)])
            (fun k wr => ∃ O, Fr [] [] w0 O wr [(1, Jt p q bq j1), (1, Dn q m v2 ⟨40, [], [], -1, false⟩)] [] ∧ k ≤ 6) (fun k => 6 - k) 0 (sub_cons rfl rfl (sub_cons rfl rfl (sub_cons rfl rfl (sub_cons rfl rfl (sub_nil))))) ⟨_, F.wk, Nat.zero_le _⟩ ?_
          clear F
          rintro k w ⟨O, F, hk⟩
          refine go_on ?_
          refine g_dec rfl (fun g4 => ?_) (fun g4 => ?_)
          · have hk' : k < 6 := by omega
            refine go_on ?_
            refine f_call F rfl rfl (jread_c (p := p) (q := q) (bq := bq) (j := j1) (i := ((k : Nat) : Int))) ?_ (hp := trivial)
            clear F; rintro r O w T Φ ⟨rfl, rfl⟩ F0
            refine tidy F0 (fun F => ?_); clear F0
            have h0 : j1.rdB ((k : Nat) : Int) = [] := by
              rw [rdB_nat (by rw [a3]; exact hk'), a3, List.getD_eq_getElem?_getD, List.getElem?_replicate, if_pos hk']
              rfl
            rw [h0] at F
            obtain ⟨O, F⟩ := F.frzB
            obtain ⟨ra, rc, hr9, _⟩ := (F.bytes (v := r) (xs := [])).form
            have hr9 : r = .slice ra 0 rc := hr9
            subst hr9
            refine go_on ?_
            exact e_round (k + 1) (sub_cons rfl rfl (sub_cons rfl rfl (sub_cons rfl rfl (sub_cons rfl rfl (sub_nil))))) ⟨_, F.wk, by omega⟩ (by omega)
          · refine go_on ?_
            refine f_call F rfl rfl (jseq_c (p := p) (q := q) (bq := bq) (j := j1)) ?_ (hp := trivial)
            clear F; rintro r O w T Φ ⟨rfl, rfl, rfl⟩ F0
            refine tidy F0 (fun F => ?_); clear F0
            rw [a4]
            refine go_on ?_
            refine f_call F rfl rfl (jused_c (p := p) (q := q) (bq := bq) (j := j1)) ?_ (hp := trivial)
            clear F; rintro r O w T Φ ⟨rfl, rfl, rfl⟩ F0
            refine tidy F0 (fun F => ?_); clear F0
            rw [a5]
            refine go_on ?_
            refine f_call F rfl rfl (jerr_c (p := p) (q := q) (bq := bq) (j := j1)) ?_ (hp := trivial)
            clear F; rintro r O w T Φ ⟨rfl, rfl, rfl⟩ F0
            refine tidy F0 (fun F => ?_); clear F0
            rw [alive_e a1]
            refine go_on ?_
            refine f_call F rfl rfl (dwaits_c (p := q) (m := m) (v := v2) (d := ⟨40, [], [], -1, false⟩)) ?_ (hp := trivial)
            clear F; rintro r O w T Φ ⟨rfl, rfl, rfl⟩ F0
            refine tidy F0 (fun F => ?_); clear F0
            refine go_on ?_
            refine go_back ?_
            exact F.lawb (by simp)
        · exact absurd h hno
        · exact absurd h hno
        · exact absurd h hno
theorem wf_i64 {n : Int} (hw : (Lit.int .i64 n).wf = true) : -9223372036854775808 ≤ n ∧ n ≤ 9223372036854775807 := by
  simpa [Lit.wf, IntKind.min, IntKind.max, IntKind.signed, IntKind.bits] using hw
theorem JournalArgs_true {w : World} {v0 v1 v2 : Value} (r0 : Reads Try.prog w 32 [v0]) (r1 : Reads Try.prog w 3 [v1]) (r2 : Reads Try.prog w 3 [v2]) :
    FnC Try.prog 7 [v0, v1, v2] [] [] w fun r O' w' => r = .bool true := by
  obtain ⟨l, hl, hn⟩ := reads_wrs r0
  obtain ⟨a, ha, fa⟩ := reads_int (k := .i64) r1
  obtain ⟨b, hb, fb⟩ := reads_int (k := .i64) r2
  injection ha with ha
  injection hb with hb
  subst ha hb
  exact JournalArgs_ok (wf_i64 fa) (wf_i64 fb) hn ((Fr.start OK_nil).fact (f := Fact.rel 2 WrR v0 l) hl)
end Go.Proofs.Ytmohjmfcbhpldaa
