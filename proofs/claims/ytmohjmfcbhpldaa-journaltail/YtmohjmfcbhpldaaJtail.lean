/- JournalTail answers true. -/
import Derived.Test.YtmohjmfcbhpldaaJwr
namespace Go.Proofs.Ytmohjmfcbhpldaa
open Gk Go
set_option linter.unusedVariables false
set_option maxHeartbeats 4000000
set_option maxRecDepth 4000
set_option linter.unusedSimpArgs false
attribute [local irreducible] Int.decLt Int.decLe Int.decEq Int.instDecidableEq Gk.Rnds Gk.E Gk.G Gk.R Gk.RD Gk.RX Gk.RO Gk.Y Gk.Ent Gk.Sat Gk.Round Gk.After Gk.Cell Gk.Sl Gk.SlA Gk.CB Gk.OK Gk.FnC Gk.Bytes Gk.BytesL Gk.StrL Gk.Buf Gk.MapI
theorem JournalTail_ok {w0 : World} {lv mv kv : Value} {l l2 : Chg} {pick : List UInt8} (hln : l.length ≤ 9223372036854775807) (hln2 : l2.length ≤ 9223372036854775807) (F : Fr [] [] w0 [] w0 [] [Fact.rel 2 WrR lv l, Fact.rel 2 WrR mv l2, Fact.bytes kv pick]) :
    FnC Try.prog 6 [lv, mv, kv] [] [] w0 fun r O' w' => r = .bool true := by
  obtain ⟨la, lc, rfl, _⟩ := (F.rel (v := lv) (R := WrR) (ys := l)).form
  obtain ⟨ma, mc, rfl, _⟩ := (F.rel (v := mv) (R := WrR) (ys := l2)).form
  obtain ⟨ka, kc, rfl, _⟩ := (F.bytes (v := kv)).form
  refine fn_of _ Try.func6 rfl (by kernel_rfl) Try.ntmps6 rfl ?_
  refine go_on ?_
  refine f_call F rfl rfl awake_c ?_ (hp := trivial)
  clear F; rintro r O w T Φ ⟨rfl, rfl, rfl⟩ F0
  refine tidy F0 (fun F => ?_); clear F0
  refine go_on ?_
  refine f_call F rfl rfl (few_c (l := l)) ?_ (hp := hln)
  clear F; rintro r O w T Φ ⟨fb, hfb, rfl, rfl, rfl⟩ F0
  refine tidy F0 (fun F => ?_); clear F0
  refine go_on ?_
  refine f_call F rfl rfl (few_c (l := l2)) ?_ (hp := hln2)
  clear F; rintro r O w T Φ ⟨fb2, hfb2, rfl, rfl, rfl⟩ F0
  refine tidy F0 (fun F => ?_); clear F0
  cases fb with
  | false =>
    refine go_on ?_
    refine go_back ?_
    exact F.law
  | true =>
  cases fb2 with
  | false =>
    refine go_on ?_
    refine go_back ?_
    exact F.law
  | true =>
  obtain ⟨hl20, hl120⟩ := hfb rfl
  obtain ⟨hm20, hm120⟩ := hfb2 rfl
  by_cases g1 : 20 < pick.length
  · refine go_on ?_
    refine go_back ?_
    exact F.law
  refine go_on ?_
  refine f_call F rfl rfl (dnewK_c (n := 40)) ?_ (hp := ⟨by omega, by omega⟩)
  clear F; rintro r O w T Φ ⟨q, m, rfl, rfl, rfl⟩ F0
  refine tidy F0 (fun F => ?_); clear F0
  refine go_on ?_
  refine f_call F rfl rfl (jopenL_c (q := q) (m := m) (K := 16) (N := 6) (d := ⟨40, [], [], -1, false⟩)) ?_ (hp := (rdy_zero (by omega)))
  clear F; rintro r O w T Φ ⟨p, bq, v1, j1, d1, ⟨a1, a2, a3, a4, a5, a6, a7⟩, rfl, rfl, rfl⟩ F0
  refine tidy F0 (fun F => ?_); clear F0
  have ha7 := a7 rfl
  refine go_on ?_
  refine f_buildSlice (cs := bytesV [97]) F rfl rfl rfl rfl (fun qa w F => ?_)
  (try refine r_go rfl rfl ?_)
  refine f_mark F rfl rfl (fun w F => ?_)
  obtain ⟨O, F⟩ := frzBy [97] F Sel.here
  refine go_on ?_
  refine f_buildSlice (cs := bytesV [102]) F rfl rfl rfl rfl (fun qb w F => ?_)
  (try refine r_go rfl rfl ?_)
  refine f_mark F rfl rfl (fun w F => ?_)
  obtain ⟨O, F⟩ := frzBy [102] F Sel.here
  refine go_on ?_
  refine f_buildSlice (cs := [.int .i64 0, .slice (some ⟨qa, 0, none⟩) 1 1, .int .i64 5, .slice (some ⟨qb, 0, none⟩) 1 1]) F rfl rfl rfl rfl (fun qc w F => ?_)
  obtain ⟨O, F⟩ := frzW2 (xs := [97]) (ys := [102]) F Sel.here (F.bytes (v := .slice (some ⟨qa, 0, none⟩) 1 1) (xs := [97])) (F.bytes (v := .slice (some ⟨qb, 0, none⟩) 1 1) (xs := [102]))
  refine go_on ?_
  refine f_call F rfl rfl (jcommit_c (p := p) (q := q) (bq := bq) (m := m) (v0 := v1) (j := j1) (d := d1) (l := [(0, [97]), (5, [102])])) ?_ (hp := ⟨by rw [ha7]; exact Nat.zero_le _, by decide⟩)
  clear F; rintro r O w T Φ ⟨v2, rfl, rfl, rfl⟩ F0
  refine tidy F0 (fun F => ?_); clear F0
  have hc := commit_goes a1 [(0, [97]), (5, [102])] (by rw [a4]; decide) a2 (may2 (by omega) (by omega) (by omega) (by decide) (by decide)) (by decide)
  rw [a3, a4, a5] at hc
  obtain ⟨⟨⟨j2, d2⟩, e2⟩, hx⟩ : ∃ x, j1.commit d1 [(0, [97]), (5, [102])] = x := ⟨_, rfl⟩
  rw [hx] at hc F ⊢
  dsimp only at hc F ⊢
  obtain ⟨rfl, b1, b2, b3, b4, b5, b6, b7⟩ := hc
  have b6 := b6 (by decide)
  have hw2 : d2.waits.length ≤ 300 := by rw [ha7] at b7; exact b7
  refine go_on ?_
  refine f_call F rfl rfl (dstop_c (p := q) (m := m) (v := v2) (d := d2) (a := (l.length : Int))) ?_ (hp := (by omega))
  clear F; rintro r O w T Φ ⟨rfl, rfl⟩ F0
  refine tidy F0 (fun F => ?_); clear F0
  obtain ⟨ds, hds⟩ : ∃ ds, d2.stop (l.length : Int) = ds := ⟨_, rfl⟩
  have hdl : ds.left = (l.length : Int) := by
    rw [← hds]
    unfold Dk.stop
    exact if_neg (by omega)
  have hdw : ds.waits = d2.waits := by rw [← hds]; rfl
  have bs : Alive 16 6 j2 ds := alive_stop b1 (by omega) hds
  rw [hds] at F
  refine go_on ?_
  refine f_call F rfl rfl (jcommit_c (p := p) (q := q) (bq := bq) (m := m) (v0 := v2) (j := j2) (d := ds) (l := l)) ?_ (hp := ⟨by rw [hdw]; omega, by omega⟩)
  clear F; rintro r O w T Φ ⟨v3, rfl, rfl, rfl⟩ F0
  refine tidy F0 (fun F => ?_); clear F0
  have hcs := commit_alive bs l (by rw [b4]; decide)
  obtain ⟨⟨⟨j3, d3⟩, e3⟩, hx3⟩ : ∃ x, j2.commit ds l = x := ⟨_, rfl⟩
  have hn3 := commit_n j2 ds l
  rw [hx3] at hcs F hn3 ⊢
  dsimp only at hcs F hn3 ⊢
  have hdn : ds.n = d2.n := by rw [← hds]; rfl
  rcases hcs with ⟨h1, h2⟩ | ⟨h1, h2, _⟩ | ⟨h1, h2, h3, _, _, _, _, _, h9⟩ | ⟨h1, h2, rfl, h4, h5, h6, h7⟩
  · injection h2 with h2 h3
    subst h3
    refine go_on ?_
    refine go_back ?_
    exact F.lawb (by simp)
  · exfalso
    have := may_short h1
    omega
  · exfalso
    have := may_short h1
    have := h9 (by rw [b6]; show 0 + (2 + 1) + l.length < 16; omega)
    omega
  · have hlen := may_short h1
    have hrec := h7 (by rw [b6]; show 0 + (2 + 1) + l.length < 16; omega) (by omega)
    have hn : 1 + 16 + 6 ≤ d3.n := by rw [hn3]; obtain ⟨_, _, _, U, _⟩ := bs; exact U.n
    obtain ⟨u, hrdy⟩ := rdy_rec (pick := pick) hn ⟨by omega, by omega, by omega, by omega⟩ (by rw [b4]; decide) (hrec _ (crash_choice d3 pick))
    have hw3 := commit_waits j2 ds l
    rw [hx3] at hw3
    dsimp only at hw3
    refine go_on ?_
    refine f_call F rfl rfl (dcrash_c (p := q) (m := m) (v := v3) (d := d3) (pick := pick)) ?_ (hp := ⟨by rw [hdw] at hw3; omega, by omega⟩)
    clear F; rintro r O w T Φ ⟨rfl, rfl⟩ F0
    refine tidy F0 (fun F => ?_); clear F0
    refine go_on ?_
    refine f_call F rfl rfl (jopenL_c (q := q) (m := m) (K := 16) (N := 6) (d := d3.crash pick)) ?_ (hp := hrdy)
    clear F; rintro r O w T Φ ⟨p4, bq4, v4, j4, d4, ⟨c1, c2, c3, c4, c5, c6, c7⟩, rfl, rfl, rfl⟩ F0
    refine tidy F0 (fun F => ?_); clear F0
    refine r_weak (ρ' := [(1, _), (10, _), (74, _)]) (sub_cons rfl rfl (sub_cons rfl rfl (sub_cons rfl rfl (sub_nil)))) ?_
    have F := F.wk (L2 := [(2, Jt p4 q bq4 j4), (2, Dn q m v4 d4)]) (Φ2 := [Fact.rel 2 WrR (.slice ma l2.length mc) l2])
    rw [b3] at c3
    rw [b4] at c4
    have hr0 : j4.rdB ((0 : Nat) : Int) = [97] := by rw [rdB_nat (by rw [c3]; decide), c3]; rfl
    have hr1 : j4.rdB ((1 : Nat) : Int) = [] := by rw [rdB_nat (by rw [c3]; decide), c3]; rfl
    have hr2 : j4.rdB ((2 : Nat) : Int) = [] := by rw [rdB_nat (by rw [c3]; decide), c3]; rfl
    have hr3 : j4.rdB ((3 : Nat) : Int) = [] := by rw [rdB_nat (by rw [c3]; decide), c3]; rfl
    have hr4 : j4.rdB ((4 : Nat) : Int) = [] := by rw [rdB_nat (by rw [c3]; decide), c3]; rfl
    have hr5 : j4.rdB ((5 : Nat) : Int) = [102] := by rw [rdB_nat (by rw [c3]; decide), c3]; rfl
    refine go_on ?_
    refine f_call F rfl rfl (jseq_c (p := p4) (q := q) (bq := bq4) (j := j4)) ?_ (hp := trivial)
    clear F; rintro r O w T Φ ⟨rfl, rfl, rfl⟩ F0
    refine tidy F0 (fun F => ?_); clear F0
    refine r_weak (ρ' := [(1, _), (10, _), (12, _), (79, _), (81, _)]) (sub_cons rfl rfl (sub_cons rfl rfl (sub_cons rfl rfl (sub_cons rfl rfl (sub_cons rfl rfl (sub_nil)))))) ?_
    rw [c4]
    refine go_on ?_
    refine f_call F rfl rfl (jread_c (p := p4) (q := q) (bq := bq4) (j := j4) (i := ((0 : Nat) : Int))) ?_ (hp := trivial)
    clear F; rintro r O w T Φ ⟨rfl, rfl⟩ F0
    refine tidy F0 (fun F => ?_); clear F0
    refine r_weak (ρ' := [(1, _), (10, _), (12, _), (84, _), (86, _)]) (sub_cons rfl rfl (sub_cons rfl rfl (sub_cons rfl rfl (sub_cons rfl rfl (sub_cons rfl rfl (sub_nil)))))) ?_
    rw [hr0] at F
    obtain ⟨O, F⟩ := F.frzB
    refine go_on ?_
    refine f_call F rfl rfl (jread_c (p := p4) (q := q) (bq := bq4) (j := j4) (i := ((5 : Nat) : Int))) ?_ (hp := trivial)
    clear F; rintro r O w T Φ ⟨rfl, rfl⟩ F0
    refine tidy F0 (fun F => ?_); clear F0
    refine r_weak (ρ' := [(1, _), (10, _), (12, _), (90, _), (92, _)]) (sub_cons rfl rfl (sub_cons rfl rfl (sub_cons rfl rfl (sub_cons rfl rfl (sub_cons rfl rfl (sub_nil)))))) ?_
    rw [hr5] at F
    obtain ⟨O, F⟩ := F.frzB
    refine go_on ?_
    refine f_call F rfl rfl (jread_c (p := p4) (q := q) (bq := bq4) (j := j4) (i := ((1 : Nat) : Int))) ?_ (hp := trivial)
    clear F; rintro r O w T Φ ⟨rfl, rfl⟩ F0
    refine tidy F0 (fun F => ?_); clear F0
    refine r_weak (ρ' := [(1, _), (10, _), (12, _), (96, _), (98, _)]) (sub_cons rfl rfl (sub_cons rfl rfl (sub_cons rfl rfl (sub_cons rfl rfl (sub_cons rfl rfl (sub_nil)))))) ?_
    rw [hr1] at F
    obtain ⟨O, F⟩ := F.frzB
    obtain ⟨y1, z1, hr19, _⟩ := (F.bytes (v := r) (xs := [])).form
    have hr19 : r = .slice y1 0 z1 := hr19
    subst hr19
    refine go_on ?_
    refine f_call F rfl rfl (jread_c (p := p4) (q := q) (bq := bq4) (j := j4) (i := ((2 : Nat) : Int))) ?_ (hp := trivial)
    clear F; rintro r O w T Φ ⟨rfl, rfl⟩ F0
    refine tidy F0 (fun F => ?_); clear F0
    refine r_weak (ρ' := [(1, _), (10, _), (12, _), (96, _), (99, _), (101, _)]) (sub_cons rfl rfl (sub_cons rfl rfl (sub_cons rfl rfl (sub_cons rfl rfl (sub_cons rfl rfl (sub_cons rfl rfl (sub_nil))))))) ?_
    rw [hr2] at F
    obtain ⟨O, F⟩ := F.frzB
    obtain ⟨y2, z2, hr29, _⟩ := (F.bytes (v := r) (xs := [])).form
    have hr29 : r = .slice y2 0 z2 := hr29
    subst hr29
    refine go_on ?_
    refine f_call F rfl rfl (jread_c (p := p4) (q := q) (bq := bq4) (j := j4) (i := ((3 : Nat) : Int))) ?_ (hp := trivial)
    clear F; rintro r O w T Φ ⟨rfl, rfl⟩ F0
    refine tidy F0 (fun F => ?_); clear F0
    refine r_weak (ρ' := [(1, _), (10, _), (12, _), (96, _), (103, _), (105, _)]) (sub_cons rfl rfl (sub_cons rfl rfl (sub_cons rfl rfl (sub_cons rfl rfl (sub_cons rfl rfl (sub_cons rfl rfl (sub_nil))))))) ?_
    rw [hr3] at F
    obtain ⟨O, F⟩ := F.frzB
    obtain ⟨y3, z3, hr39, _⟩ := (F.bytes (v := r) (xs := [])).form
    have hr39 : r = .slice y3 0 z3 := hr39
    subst hr39
    refine go_on ?_
    refine f_call F rfl rfl (jread_c (p := p4) (q := q) (bq := bq4) (j := j4) (i := ((4 : Nat) : Int))) ?_ (hp := trivial)
    clear F; rintro r O w T Φ ⟨rfl, rfl⟩ F0
    refine tidy F0 (fun F => ?_); clear F0
    refine r_weak (ρ' := [(1, _), (10, _), (12, _), (96, _), (107, _), (109, _)]) (sub_cons rfl rfl (sub_cons rfl rfl (sub_cons rfl rfl (sub_cons rfl rfl (sub_cons rfl rfl (sub_cons rfl rfl (sub_nil))))))) ?_
    rw [hr4] at F
    obtain ⟨O, F⟩ := F.frzB
    obtain ⟨y4, z4, hr49, _⟩ := (F.bytes (v := r) (xs := [])).form
    have hr49 : r = .slice y4 0 z4 := hr49
    subst hr49
    refine go_on ?_
    refine f_call F rfl rfl (jcommit_c (p := p4) (q := q) (bq := bq4) (m := m) (v0 := v4) (j := j4) (d := d4) (l := l2)) ?_ (hp := ⟨by show d4.waits.length ≤ 990000; have : d4.waits.length ≤ 0 + 200 := c6; omega, by omega⟩)
    clear F; rintro r O w T Φ ⟨v5, rfl, rfl, rfl⟩ F0
    refine tidy F0 (fun F => ?_); clear F0
    refine r_weak (ρ' := [(1, _), (10, _), (12, _), (116, _)]) (sub_cons rfl rfl (sub_cons rfl rfl (sub_cons rfl rfl (sub_cons rfl rfl (sub_nil))))) ?_
    have hw4 : d4.waits.length ≤ 200 := c6
    have hBl := alive_len c1
    have F := F.factB (xs := []) Bytes.nil
    rcases commit_alive c1 l2 (by rw [c4]; decide) with ⟨n1, n2⟩ | ⟨n1, n2, _⟩ | ⟨n1, n2, n3, n4, n5, _, n6, _⟩ | ⟨_, _, _, n1, _⟩
    · rw [n2] at F ⊢
      dsimp only at F ⊢
      refine go_on ?_
      refine f_call F rfl rfl (dcrash_c (p := q) (m := m) (v := v5) (d := d4) (pick := [])) ?_ (hp := ⟨by omega, by decide⟩)
      clear F; rintro r O w T Φ ⟨rfl, rfl⟩ F0
      refine tidy F0 (fun F => ?_); clear F0
      refine go_on ?_
      refine f_call F rfl rfl (jopenL_c (q := q) (m := m) (K := 16) (N := 6) (d := d4.crash [])) ?_ (hp := (rdy_crash c1 (by omega) []))
      clear F; rintro r O w T Φ ⟨p6, bq6, v6, j6, d6, ⟨k1, k2, k3, k4, k5, k6, k7⟩, rfl, rfl, rfl⟩ F0
      refine tidy F0 (fun F => ?_); clear F0
      refine r_weak (ρ' := [(1, _), (10, _), (15, _), (121, _)]) (sub_cons rfl rfl (sub_cons rfl rfl (sub_cons rfl rfl (sub_cons rfl rfl (sub_nil))))) ?_
      rw [c4] at k4
      refine go_on ?_
      refine g_unroll 1 ?_; refine go_on ?_
      apply f_and 3 141 138 F
      · exact rfl
      · intro e; have e' := e; (try simp only [Bool.and_eq_true, Bool.or_eq_true, decide_eq_true_eq, decide_eq_false_iff_not, Bool.not_eq_true', Bool.or_eq_false_iff, Bool.not_eq_false', Bool.and_eq_false_iff] at e'); refine go_on ?_; refine e_cut rfl rfl (by (repeat (first | exact sub_refl | refine sub_new rfl ?_ | refine sub_bool rfl (by assumption) ?_))) (by (first | exact ⟨_, F⟩ | exact ⟨_, F.wk⟩))
      · intro e; have e' := e; (try simp only [Bool.and_eq_true, Bool.or_eq_true, decide_eq_true_eq, decide_eq_false_iff_not, Bool.not_eq_true', Bool.or_eq_false_iff, Bool.not_eq_false', Bool.and_eq_false_iff] at e'); refine go_on ?_; refine e_cut rfl rfl (by (repeat (first | exact sub_refl | refine sub_new rfl ?_ | refine sub_bool rfl (by assumption) ?_))) (by (first | exact ⟨_, F⟩ | exact ⟨_, F.wk⟩))
      intro O w F; refine go_on ?_
      refine g_cond rfl (fun e => ?_) (fun e => ?_)
      · exfalso
        simp at e
      · refine go_on ?_
        refine f_call F rfl rfl (jseq_c (p := p6) (q := q) (bq := bq6) (j := j6)) ?_ (hp := trivial)
        clear F; rintro r O w T Φ ⟨rfl, rfl, rfl⟩ F0
        refine tidy F0 (fun F => ?_); clear F0
        rw [k4]
        refine go_on ?_
        refine go_back ?_
        exact F.lawb (by simp)
    · exfalso
      have := may_short n1
      omega
    · have hw5 := commit_waits j4 d4 l2
      obtain ⟨⟨⟨j5, d5⟩, e5⟩, hx5⟩ : ∃ x, j4.commit d4 l2 = x := ⟨_, rfl⟩
      rw [hx5] at F n3 n4 n5 n6 hw5 ⊢
      dsimp only at F n3 n4 n5 n6 hw5 ⊢
      subst n3
      obtain ⟨n7, n8⟩ := n6 c2
      refine go_on ?_
      refine f_call F rfl rfl (dcrash_c (p := q) (m := m) (v := v5) (d := d5) (pick := [])) ?_ (hp := ⟨by omega, by decide⟩)
      clear F; rintro r O w T Φ ⟨rfl, rfl⟩ F0
      refine tidy F0 (fun F => ?_); clear F0
      refine go_on ?_
      refine f_call F rfl rfl (jopenL_c (q := q) (m := m) (K := 16) (N := 6) (d := d5.crash [])) ?_ (hp := (rdy_crash n7 (by omega) []))
      clear F; rintro r O w T Φ ⟨p6, bq6, v6, j6, d6, ⟨k1, k2, k3, k4, k5, k6, k7⟩, rfl, rfl, rfl⟩ F0
      refine tidy F0 (fun F => ?_); clear F0
      refine r_weak (ρ' := [(1, _), (10, _), (15, _), (121, _)]) (sub_cons rfl rfl (sub_cons rfl rfl (sub_cons rfl rfl (sub_cons rfl rfl (sub_nil))))) ?_
      rw [n5, c4] at k4
      rw [n4] at k3
      refine go_on ?_
      refine g_loop (X := Nat) (fun i => [(1, .slice ma l2.length mc), (12, dptr p6), (15, .int .i64 (0 : Nat)), (16, .int .i64 i)])
        (fun i wr => ∃ O, Fr [] [] w0 O wr [(2, Jt p6 q bq6 j6)] [Fact.rel 2 WrR (.slice ma l2.length mc) l2] ∧ i ≤ l2.length) (fun i => l2.length - i) 0 (sub_cons rfl rfl (sub_cons rfl rfl (sub_cons rfl rfl (sub_cons rfl rfl (sub_nil))))) ⟨_, F.wk, Nat.zero_le _⟩ ?_
      clear F
      rintro i w ⟨O, F, hi⟩
      refine go_on ?_
      apply f_and 3 141 138 F
      · exact rfl
      · intro e; have e' := e; (try simp only [Bool.and_eq_true, Bool.or_eq_true, decide_eq_true_eq, decide_eq_false_iff_not, Bool.not_eq_true', Bool.or_eq_false_iff, Bool.not_eq_false', Bool.and_eq_false_iff] at e'); refine go_on ?_; refine e_cut rfl rfl (by (repeat (first | exact sub_refl | refine sub_new rfl ?_ | refine sub_bool rfl (by assumption) ?_))) (by (first | exact ⟨_, F⟩ | exact ⟨_, F.wk⟩))
      · intro e; have e' := e; (try simp only [Bool.and_eq_true, Bool.or_eq_true, decide_eq_true_eq, decide_eq_false_iff_not, Bool.not_eq_true', Bool.or_eq_false_iff, Bool.not_eq_false', Bool.and_eq_false_iff] at e'); refine go_on ?_; refine e_cut rfl rfl (by (repeat (first | exact sub_refl | refine sub_new rfl ?_ | refine sub_bool rfl (by assumption) ?_))) (by (first | exact ⟨_, F⟩ | exact ⟨_, F.wk⟩))
      intro O w F; refine go_on ?_
      refine g_cond rfl (fun e => ?_) (fun e => ?_)
      · have hi' : i < l2.length := by
          simp only [Bool.and_eq_true, decide_eq_true_eq] at e
          omega
        obtain ⟨f1, f2, f3⟩ := may_at n1 hi'
        obtain ⟨k9, hk9⟩ : ∃ k9 : Nat, (wAt l2 i).1 = k9 := ⟨(wAt l2 i).1.toNat, by omega⟩
        have hrd : j6.rdB ((k9 : Nat) : Int) = (wAt l2 i).2 := by
          rw [rdB_nat (by rw [k3, setAll_len, hBl]; omega), k3, ← set_may hBl n1 hi', hk9, Int.toNat_natCast]
        obtain ⟨x, row, rfl, hrl, ⟨bv, rfl, hbv⟩, hrow⟩ := (F.rel (R := WrR) (ys := l2)).elem hi'
        rw [wAt_eq hi'] at hrow hbv
        rw [hk9] at hrow
        obtain ⟨va, vc, rfl, _⟩ := hbv.form
        have F := (F.factB hbv).fact hrow
        refine go_on ?_
        refine f_draw [(2, Jt p6 q bq6 j6)] F [] [(0, true), (1, true), (2, true), (3, true), (4, true), (5, true), (8, true), (9, true), (10, true), (11, true), (12, true), (13, true), (6, false), (7, true), (14, true)] (by kernel_rfl) (by kernel_rfl) (fun w F hS => ?_); refine go_look ?_
        refine rd_do rfl ?_; (try refine r_go rfl rfl ?_)
        refine f_call F rfl rfl (jread_c (p := p6) (q := q) (bq := bq6) (j := j6) (i := ((k9 : Nat) : Int))) ?_ (hp := trivial)
        clear F; rintro r O w T Φ ⟨rfl, rfl⟩ F0
        refine tidy F0 (fun F => ?_); clear F0
        rw [hrd] at F
        obtain ⟨O, F⟩ := F.frzB
        (try refine r_nil ?_); refine e_afterF F (fun hS => ?_); refine go_look ?_
        refine rd_done ?_; refine go_on ?_
        exact e_round (i + 1) (sub_cons rfl rfl (sub_cons rfl rfl (sub_cons rfl rfl (sub_cons rfl rfl (sub_nil))))) ⟨_, F.wk, by omega⟩ (by omega)
      · refine go_on ?_
        refine f_call F rfl rfl (jseq_c (p := p6) (q := q) (bq := bq6) (j := j6)) ?_ (hp := trivial)
        clear F; rintro r O w T Φ ⟨rfl, rfl, rfl⟩ F0
        refine tidy F0 (fun F => ?_); clear F0
        rw [k4]
        refine go_on ?_
        refine go_back ?_
        exact F.lawb (by simp)
    · exact absurd c2 n1
theorem JournalTail_true {w : World} {v0 v1 v2 : Value} (r0 : Reads Try.prog w 32 [v0]) (r1 : Reads Try.prog w 32 [v1]) (r2 : Reads Try.prog w 22 [v2]) :
    FnC Try.prog 6 [v0, v1, v2] [] [] w fun r O' w' => r = .bool true := by
  obtain ⟨l, hl, hn⟩ := reads_wrs r0
  obtain ⟨l2, hl2, hn2⟩ := reads_wrs r1
  obtain ⟨b, hb, _⟩ := reads_bytes r2
  exact JournalTail_ok hn hn2 ((((Fr.start OK_nil).fact (f := Fact.bytes v2 b) hb).fact (f := Fact.rel 2 WrR v1 l2) hl2).fact (f := Fact.rel 2 WrR v0 l) hl)
end Go.Proofs.Ytmohjmfcbhpldaa
