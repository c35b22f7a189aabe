/- JournalAgain answers true. -/
import Derived.Test.YtmohjmfcbhpldaaJlive
namespace Go.Proofs.Ytmohjmfcbhpldaa
open Gk Go
set_option linter.unusedVariables false
set_option maxHeartbeats 4000000
set_option maxRecDepth 4000
set_option linter.unusedSimpArgs false
attribute [local irreducible] Int.decLt Int.decLe Int.decEq Int.instDecidableEq Gk.Rnds Gk.E Gk.G Gk.R Gk.RD Gk.RX Gk.RO Gk.Y Gk.Ent Gk.Sat Gk.Round Gk.After Gk.Cell Gk.Sl Gk.SlA Gk.CB Gk.OK Gk.FnC Gk.Bytes Gk.BytesL Gk.StrL Gk.Buf Gk.MapI
attribute [local irreducible] wAt
theorem map_set_str {B : List (List UInt8)} {k : Nat} {x : List UInt8} : (B.map str).set k (str x) = (B.set k x).map str := by rw [List.map_set]
theorem str_at {B : List (List UInt8)} {k : Nat} (h : k < B.length) : (B.map str)[k]? = some (str (B.getD k [])) := by simp [List.getD_eq_getElem?_getD, h]
theorem JournalAgain_ok {w0 : World} {cv av : Value} {chs : List Chg} {again : List UInt8} (F : Fr [] [] w0 [] w0 [] [Fact.rel 1 ChR cv chs, Fact.bytes av again]) :
    FnC Try.prog 8 [cv, av] [] [] w0 fun r O' w' => r = .bool true := by
  obtain ⟨ca, cc, rfl, _⟩ := (F.rel (v := cv) (R := ChR) (ys := chs)).form
  obtain ⟨aa, ac, rfl, _⟩ := (F.bytes (v := av)).form
  refine fn_of _ Try.func8 rfl (by kernel_rfl) Try.ntmps8 rfl ?_
  refine go_on ?_
  refine f_call F rfl rfl awake_c ?_ (hp := trivial)
  clear F; rintro r O w T Φ ⟨rfl, rfl, rfl⟩ F0
  refine tidy F0 (fun F => ?_); clear F0
  refine go_on ?_
  by_cases g1 : 16 < chs.length
  · refine go_on ?_
    refine go_back ?_
    exact F.law
  by_cases g2 : again.length < chs.length
  · refine go_on ?_
    refine go_back ?_
    exact F.law
  refine go_on ?_
  refine f_call F rfl rfl (dnewK_c (n := 40)) ?_ (hp := ⟨by omega, by omega⟩)
  clear F; rintro r O w T Φ ⟨q, m, rfl, rfl, rfl⟩ F0
  refine tidy F0 (fun F => ?_); clear F0
  refine go_on ?_
  refine f_call F rfl rfl (jopenL_c (q := q) (m := m) (K := 16) (N := 6) (d := ⟨40, [], [], -1, false⟩)) ?_ (hp := (rdy_zero (by omega)))
  clear F; rintro r O w T Φ ⟨p, bq, v1, j1, d1, ⟨a1, a2, a3, a4, a5, a6, a7⟩, rfl, rfl, rfl⟩ F0
  refine tidy F0 (fun F => ?_); clear F0
  have a7 := a7 rfl
  subst a7
  refine go_on ?_
  refine f_make (l := 6) (c := 6) F rfl rfl rfl (fun qw w F => ?_)
  have ews : List.replicate 6 (Value.string ⟨#[]⟩) = j1.B.map str := by rw [a3]; rfl
  rw [ews] at F
  refine go_on ?_
  refine g_loop (X := Nat × Jr × Dk × Value × Nat × Nat × Nat) (fun y => [(0, .slice ca chs.length cc), (1, .slice aa again.length ac), (6, dptr q), (8, dptr y.2.2.2.2.1), (10, .slice (some ⟨qw, 0, none⟩) 6 6), (11, .int .u64 y.2.2.2.2.2.2), (12, .int .i64 y.1)])
    (fun y wr => ∃ O, Fr [] [] w0 O wr [(1, Jt y.2.2.2.2.1 q y.2.2.2.2.2.1 y.2.1), (1, Dn q m y.2.2.2.1 y.2.2.1), (1, Thing.cells qw (y.2.1.B.map str))] [Fact.rel 1 ChR (.slice ca chs.length cc) chs, Fact.bytes (.slice aa again.length ac) again] ∧ y.1 ≤ chs.length ∧ Alive 16 6 y.2.1 y.2.2.1 ∧ y.2.2.1.left = -1 ∧ y.2.1.seq ≤ y.1 ∧ y.2.2.1.waits.length ≤ 600 * y.1 ∧ y.2.1.seq = y.2.2.2.2.2.2) (fun y => chs.length - y.1) (0, j1, ⟨40, [], [], -1, false⟩, v1, p, bq, 0) (sub_cons rfl rfl (sub_cons rfl rfl (sub_cons rfl rfl (sub_cons rfl rfl (sub_cons rfl rfl (sub_cons rfl rfl (sub_cons rfl rfl (sub_nil)))))))) ⟨_, ((F.demote (t := Jt p q bq j1)).demote (t := Dn q m v1 ⟨40, [], [], -1, false⟩)).demote (t := Thing.cells qw (j1.B.map str)) |>.wk, Nat.zero_le _, a1, a2, by dsimp only; omega, Nat.zero_le _, a4⟩ ?_
  clear F
  rintro ⟨i, j, d, v, p, bq, n⟩ w ⟨O, F, hi, A, hl, hsq, hwt, hn⟩
  dsimp only at F hi A hl hsq hwt hn ⊢
  subst hn
  have hBl := alive_len A
  refine go_on ?_
  refine g_dec rfl (fun g => ?_) (fun g => ?_)
  · have hi' : i < chs.length := by omega
    have hia : i < again.length := by omega
    obtain ⟨xc, ua, uc, rfl, hcl, F⟩ := chAt F hi'
    obtain ⟨xa, rfl, hca⟩ := (F.bytes (xs := again)).atm hia
    have F := F.fact (f := Fact.cell _ _) hca
    generalize chs[i] = l at F hcl
    generalize again[i] = ag at F
    refine go_on ?_
    refine f_call F rfl rfl (few_c (l := l)) ?_ (hp := hcl)
    clear F; rintro r O w T Φ ⟨fb, hfb, rfl, rfl, rfl⟩ F0
    refine tidy F0 (fun F => ?_); clear F0
    cases fb with
    | false =>
      refine go_on ?_
      refine go_back ?_
      exact F.law
    | true =>
    obtain ⟨hl20, hl120⟩ := hfb rfl
    refine go_on ?_
    refine f_call F rfl rfl (jcommit_c (p := p) (q := q) (bq := bq) (m := m) (v0 := v) (j := j) (d := d) (l := l)) ?_ (hp := ⟨by omega, by omega⟩)
    clear F; rintro r O w T Φ ⟨v2, rfl, rfl, rfl⟩ F0
    refine tidy F0 (fun F => ?_); clear F0
    have hcw := commit_waits j d l
    have hco := commit_alive A l (by omega)
    obtain ⟨⟨⟨j2, d2⟩, e2⟩, hx⟩ : ∃ x, j.commit d l = x := ⟨_, rfl⟩
    rw [hx] at hco F hcw ⊢
    dsimp only at hco F hcw ⊢
    apply r_join (X := Unit) (fun _ => [(0, .slice (some xc) chs.length cc), (1, .slice (some xa) again.length ac), (6, dptr q), (8, dptr p), (10, .slice (some ⟨qw, 0, none⟩) 6 6), (11, .int .u64 j2.seq), (12, .int .i64 i), (96, byteV ag)])
      (fun _ w => ∃ O, Fr [] [] w0 O w [(1, Jt p q bq j2), (1, Dn q m v2 d2), (1, Thing.cells qw (j2.B.map str))] [Fact.rel 1 ChR (.slice (some xc) chs.length cc) chs, Fact.bytes (.slice (some xa) again.length ac) again, Fact.cell (xa.add i) (byteV ag)] ∧ Alive 16 6 j2 d2 ∧ d2.left = -1 ∧ j2.seq ≤ i + 1)
    · intro K
      rcases hco with ⟨h1, h2⟩ | ⟨h1, h2, _⟩ | ⟨h1, h2, rfl, h4, h5, _, h7, _⟩ | ⟨_, _, _, h, _⟩
      · injection h2 with h2 h3
        injection h2 with h2 h4
        have h2 := h2.symm
        have h4 := h4.symm
        subst h2 h3 h4
        refine go_on ?_
        exact K () _ _ ⟨_, F.wk, A, hl, by omega⟩ (sub_cons rfl rfl (sub_cons rfl rfl (sub_cons rfl rfl (sub_cons rfl rfl (sub_cons rfl rfl (sub_cons rfl rfl (sub_cons rfl rfl (sub_cons rfl rfl (sub_nil)))))))))
      · exfalso
        have := may_short h1
        omega
      · obtain ⟨A2, hl2⟩ := h7 hl
        refine go_on ?_
        refine r_y (y_addM (k := .u64) (a := j.seq) (b := 1) rfl rfl rfl) rfl ?_
        rw [show (j.seq + 1) % lim .u64 = j2.seq from by rw [h5]; exact Nat.mod_eq_of_lt (by simp only [lim]; omega)]
        refine go_on ?_
        refine g_loop (X := Nat) (fun b => [(0, .slice (some xc) chs.length cc), (1, .slice (some xa) again.length ac), (6, dptr q), (8, dptr p), (10, .slice (some ⟨qw, 0, none⟩) 6 6), (11, .int .u64 j2.seq), (12, .int .i64 i), (14, .int .i64 b)])
          (fun b wr => ∃ O, Fr [] [] w0 O wr [(1, Jt p q bq j2), (1, Dn q m v2 d2), (1, Thing.cells qw ((setAll j.B (l.take b)).map str))] [Fact.rel 1 ChR (.slice (some xc) chs.length cc) chs, Fact.bytes (.slice (some xa) again.length ac) again, Fact.cell (xa.add i) (byteV ag), Fact.cell (xc.add i) (.slice ua l.length uc), Fact.rel 2 WrR (.slice ua l.length uc) l] ∧ b ≤ l.length) (fun b => l.length - b) 0 (sub_cons rfl rfl (sub_cons rfl rfl (sub_cons rfl rfl (sub_cons rfl rfl (sub_cons rfl rfl (sub_cons rfl rfl (sub_cons rfl rfl (sub_cons rfl rfl (sub_nil))))))))) ⟨_, F.wk, Nat.zero_le _⟩ ?_
        have F := F
        clear F
        rintro b w ⟨O, F, hb⟩
        refine go_on ?_
        refine g_dec rfl (fun g6 => ?_) (fun g6 => ?_)
        · have hb' : b < l.length := by omega
          obtain ⟨x4, row, rfl, hrl, ⟨bv, rfl, hbv⟩, hrow⟩ := (F.rel (R := WrR) (ys := l)).elem hb'
          obtain ⟨va, vc, rfl, _⟩ := hbv.form
          have F := (F.factB hbv).fact hrow
          have hmb := (may_at h1 hb')
          rw [← wAt_eq hb'] at hmb
          have hns : setAll j.B (l.take (b + 1)) = (setAll j.B (l.take b)).set l[b].1.toNat l[b].2 := by rw [List.take_succ_eq_append_getElem hb', setAll_snoc]
          have hnl := setAll_len j.B (l.take b)
          generalize l[b] = y at F hns hmb
          obtain ⟨y1, ys⟩ := y
          dsimp only at F hns hmb
          obtain ⟨k9, rfl⟩ : ∃ k9 : Nat, y1 = k9 := ⟨y1.toNat, by omega⟩
          rw [Int.toNat_natCast] at hns
          refine go_on ?_
          refine f_draw [] F [] [(0, true), (1, true), (2, true), (3, true), (4, true), (5, true), (6, true), (7, true), (8, true), (9, true), (10, true), (11, true), (12, true), (13, true), (14, true), (15, true), (16, true), (17, true), (18, true), (19, false)] (by kernel_rfl) (by kernel_rfl) (fun w F hS => ?_); refine go_look ?_
          refine rd_do rfl ?_; (try refine r_go rfl rfl ?_)
          refine f_store1 (cs := (setAll j.B (l.take b)).map str) (i := k9) F rfl rfl rfl (fun w F => ?_) (hc := .any) (hi := by rw [List.length_map]; omega)
          have F : Fr _ _ _ _ _ ((1, Thing.cells qw (((setAll j.B (l.take b)).map str).set k9 (str ys))) :: _) _ := F
          rw [map_set_str, ← hns] at F
          (try refine r_nil ?_); refine e_afterF F (fun hS => ?_); refine go_look ?_
          refine rd_done ?_; refine go_on ?_
          exact e_round (b + 1) (sub_cons rfl rfl (sub_cons rfl rfl (sub_cons rfl rfl (sub_cons rfl rfl (sub_cons rfl rfl (sub_cons rfl rfl (sub_cons rfl rfl (sub_cons rfl rfl (sub_nil))))))))) ⟨_, F.wk, by omega⟩ (by omega)
        · obtain rfl : l.length = b := by omega
          rw [List.take_length, ← h4] at F
          refine go_on ?_
          exact K () _ _ ⟨_, F.wk, A2, hl2, by omega⟩ (sub_cons rfl rfl (sub_cons rfl rfl (sub_cons rfl rfl (sub_cons rfl rfl (sub_cons rfl rfl (sub_cons rfl rfl (sub_cons rfl rfl (sub_cons rfl rfl (sub_nil)))))))))
      · exact absurd hl h
    clear hco
    rintro - w ⟨O, F, A2, hl2, hs2⟩
    refine r_y (y_andI rfl rfl) rfl ?_
    generalize andI .u8 (ag.toNat : Int) 1 = c1
    apply r_join (X := Jr × Dk × Value) (fun z => [(0, .slice (some xc) chs.length cc), (1, .slice (some xa) again.length ac), (6, dptr q), (8, dptr p), (10, .slice (some ⟨qw, 0, none⟩) 6 6), (11, .int .u64 z.1.seq), (12, .int .i64 i), (107, byteV ag)])
      (fun z w => ∃ O, Fr [] [] w0 O w [(1, Jt p q bq z.1), (1, Dn q m z.2.2 z.2.1), (1, Thing.cells qw (z.1.B.map str))] [Fact.rel 1 ChR (.slice (some xc) chs.length cc) chs, Fact.bytes (.slice (some xa) again.length ac) again, Fact.cell (xa.add i) (byteV ag)] ∧ Alive 16 6 z.1 z.2.1 ∧ z.2.1.left = -1 ∧ z.1.seq ≤ i + 1 ∧ z.2.1.waits.length ≤ d.waits.length + 301)
    · intro K
      by_cases g5 : c1 = 1
      · refine go_on ?_
        have F := F
        refine f_call F rfl rfl (jcheck_c (p := p) (q := q) (bq := bq) (m := m) (j := j2) (d := d2)) ?_ (hp := (by omega))
        clear F; rintro r O w T Φ ⟨v3, rfl, rfl, rfl⟩ F0
        refine tidy F0 (fun F => ?_); clear F0
        obtain ⟨f1, f2, f3, f4, f5, f6⟩ := check_live A2 hl2
        rw [f1]
        rw [← f4] at F
        refine go_on ?_
        rw [← f5]
        exact K ((j2.check d2).1, (j2.check d2).2, v3) _ _ ⟨_, F.wk, f2, f3, by dsimp only; omega, by dsimp only; omega⟩ (sub_cons rfl rfl (sub_cons rfl rfl (sub_cons rfl rfl (sub_cons rfl rfl (sub_cons rfl rfl (sub_cons rfl rfl (sub_cons rfl rfl (sub_cons rfl rfl (sub_nil)))))))))
      · refine go_on ?_
        exact K (j2, d2, v2) _ _ ⟨_, F.wk, A2, hl2, hs2, by dsimp only; omega⟩ (sub_cons rfl rfl (sub_cons rfl rfl (sub_cons rfl rfl (sub_cons rfl rfl (sub_cons rfl rfl (sub_cons rfl rfl (sub_cons rfl rfl (sub_cons rfl rfl (sub_nil)))))))))
    rintro ⟨j3, d3, v3⟩ w ⟨O, F, A3, hl3, hs3, hw3⟩
    dsimp only at F A3 hl3 hs3 hw3 ⊢
    refine r_y (y_andI rfl rfl) rfl ?_
    have hb26 := andB6 ag
    generalize andI .u8 (ag.toNat : Int) 2 = c2 at hb26
    apply r_join (X := Jr × Dk × Value × Nat × Nat) (fun z => [(0, .slice (some xc) chs.length cc), (1, .slice (some xa) again.length ac), (6, dptr q), (8, dptr z.2.2.2.1), (10, .slice (some ⟨qw, 0, none⟩) 6 6), (11, .int .u64 z.1.seq), (12, .int .i64 i), (133, dptr z.2.2.2.1)])
      (fun z w => ∃ O, Fr [] [] w0 O w [(1, Jt z.2.2.2.1 q z.2.2.2.2 z.1), (1, Dn q m z.2.2.1 z.2.1), (1, Thing.cells qw (z.1.B.map str))] [Fact.rel 1 ChR (.slice (some xc) chs.length cc) chs, Fact.bytes (.slice (some xa) again.length ac) again] ∧ Alive 16 6 z.1 z.2.1 ∧ z.2.1.left = -1 ∧ z.1.seq ≤ i + 1 ∧ z.2.1.waits.length ≤ d.waits.length + 501)
    · intro K
      by_cases g7 : c2 = 2
      · have F := F.factB (xs := []) Bytes.nil
        refine go_on ?_
        refine f_call F rfl rfl (dcrash_c (p := q) (m := m) (v := v3) (d := d3) (pick := [])) ?_ (hp := ⟨by omega, by decide⟩)
        clear F; rintro r O w T Φ ⟨rfl, rfl⟩ F0
        refine tidy F0 (fun F => ?_); clear F0
        refine go_on ?_
        refine r_y (y_andI rfl rfl) rfl ?_
        have h6 := hb26 g7
        generalize andI .u8 (ag.toNat : Int) 6 = c6 at h6
        refine go_on ?_
        refine f_call F rfl rfl (jused_c (p := p) (q := q) (bq := bq) (j := j3)) ?_ (hp := trivial)
        clear F; rintro r O w T Φ ⟨rfl, rfl, rfl⟩ F0
        refine tidy F0 (fun F => ?_); clear F0
        refine go_on ?_
        refine f_call F rfl rfl (jopenL_c (q := q) (m := m) (K := 16) (N := 6) (d := d3.crash [])) ?_ (hp := (rdy_crash A3 (by omega) []))
        clear F; rintro r O w T Φ ⟨p4, bq4, v4, j4, d4, ⟨k1, k2, k3, k4, k5, k6, k7⟩, rfl, rfl, rfl⟩ F0
        refine tidy F0 (fun F => ?_); clear F0
        have k6 : d4.waits.length ≤ 0 + 200 := k6
        rw [← k3] at F
        refine go_on ?_
        refine f_call F rfl rfl (jused_c (p := p4) (q := q) (bq := bq4) (j := j4)) ?_ (hp := trivial)
        clear F; rintro r O w T Φ ⟨rfl, rfl, rfl⟩ F0
        refine tidy F0 (fun F => ?_); clear F0
        rw [k5]
        refine go_on ?_
        rw [← k4]
        exact K (j4, d4, v4, p4, bq4) _ _ ⟨_, F.wk, k1, k2, by dsimp only; omega, by dsimp only; omega⟩ (sub_cons rfl rfl (sub_cons rfl rfl (sub_cons rfl rfl (sub_cons rfl rfl (sub_cons rfl rfl (sub_cons rfl rfl (sub_cons rfl rfl (sub_cons rfl rfl (sub_nil)))))))))
      · have F := F
        refine go_on ?_
        refine r_y (y_andI rfl rfl) rfl ?_
        generalize andI .u8 (ag.toNat : Int) 6 = c6
        by_cases g8 : 0 < c6
        · refine go_on ?_
          refine f_call F rfl rfl (jused_c (p := p) (q := q) (bq := bq) (j := j3)) ?_ (hp := trivial)
          clear F; rintro r O w T Φ ⟨rfl, rfl, rfl⟩ F0
          refine tidy F0 (fun F => ?_); clear F0
          refine go_on ?_
          refine f_call F rfl rfl (jopenL_c (q := q) (m := m) (K := 16) (N := 6) (d := d3)) ?_ (hp := (rdy_same A3 (by omega) hl3 (by omega)))
          clear F; rintro r O w T Φ ⟨p4, bq4, v4, j4, d4, ⟨k1, k2, k3, k4, k5, k6, k7⟩, rfl, rfl, rfl⟩ F0
          refine tidy F0 (fun F => ?_); clear F0
          rw [← k3] at F
          refine go_on ?_
          refine f_call F rfl rfl (jused_c (p := p4) (q := q) (bq := bq4) (j := j4)) ?_ (hp := trivial)
          clear F; rintro r O w T Φ ⟨rfl, rfl, rfl⟩ F0
          refine tidy F0 (fun F => ?_); clear F0
          rw [k5]
          refine go_on ?_
          rw [← k4]
          exact K (j4, d4, v4, p4, bq4) _ _ ⟨_, F.wk, k1, k2, by dsimp only; omega, by dsimp only; omega⟩ (sub_cons rfl rfl (sub_cons rfl rfl (sub_cons rfl rfl (sub_cons rfl rfl (sub_cons rfl rfl (sub_cons rfl rfl (sub_cons rfl rfl (sub_cons rfl rfl (sub_nil)))))))))
        · refine go_on ?_
          exact K (j3, d3, v3, p, bq) _ _ ⟨_, F.wk, A3, hl3, hs3, by dsimp only; omega⟩ (sub_cons rfl rfl (sub_cons rfl rfl (sub_cons rfl rfl (sub_cons rfl rfl (sub_cons rfl rfl (sub_cons rfl rfl (sub_cons rfl rfl (sub_cons rfl rfl (sub_nil)))))))))
    rintro ⟨j5, d5, v5, p5, bq5⟩ w ⟨O, F, A5, hl5, hs5, hw5⟩
    dsimp only at F A5 hl5 hs5 hw5 ⊢
    have hB5 := alive_len A5
    refine f_call F rfl rfl (jseq_c (p := p5) (q := q) (bq := bq5) (j := j5)) ?_ (hp := trivial)
    clear F; rintro r O w T Φ ⟨rfl, rfl, rfl⟩ F0
    refine tidy F0 (fun F => ?_); clear F0
    refine go_on ?_
    refine g_loop (X := Nat) (fun k => [(0, .slice (some xc) chs.length cc), (1, .slice (some xa) again.length ac), (6, dptr q), (8, dptr p5), (10, .slice (some ⟨qw, 0, none⟩) 6 6), (11, .int .u64 j5.seq), (12, .int .i64 i), (16, .int .i64 k)])
      (fun k wr => ∃ O, Fr [] [] w0 O wr [(1, Jt p5 q bq5 j5), (1, Dn q m v5 d5), (1, Thing.cells qw (j5.B.map str))] [Fact.rel 1 ChR (.slice (some xc) chs.length cc) chs, Fact.bytes (.slice (some xa) again.length ac) again] ∧ k ≤ 6) (fun k => 6 - k) 0 (sub_cons rfl rfl (sub_cons rfl rfl (sub_cons rfl rfl (sub_cons rfl rfl (sub_cons rfl rfl (sub_cons rfl rfl (sub_cons rfl rfl (sub_cons rfl rfl (sub_nil))))))))) ⟨_, F.wk, Nat.zero_le _⟩ ?_
    have F := F
    clear F
    rintro k w ⟨O, F, hk⟩
    refine go_on ?_
    refine g_dec rfl (fun g9 => ?_) (fun g9 => ?_)
    · have hk' : k < 6 := by omega
      have hv : (j5.B.map str)[k]? = some (str (j5.B.getD k [])) := str_at (by omega)
      refine go_on ?_
      refine f_draw [(1, Jt p5 q bq5 j5), (1, Thing.cells qw _)] F [] [(0, true), (1, true), (4, true), (5, true), (6, true), (7, true), (2, false), (3, true), (8, true)] (by kernel_rfl) (by kernel_rfl) (fun w F hS => ?_); refine go_look ?_
      refine rd_open rfl ?_; (first | refine ro_n ?_ | refine ro_g rfl rfl ?_); refine rx_y rfl (fun _ hw => y_loadS rfl hw (Sel.there Sel.here) hv) (by assumption) ?_; refine go_look ?_
      refine rd_do rfl ?_; (try refine r_go rfl rfl ?_)
      refine f_call F rfl rfl (jread_c (p := p5) (q := q) (bq := bq5) (j := j5) (i := ((k : Nat) : Int))) ?_ (hp := trivial)
      clear F; rintro r O w T Φ ⟨rfl, rfl⟩ F0
      refine tidy F0 (fun F => ?_); clear F0
      rw [rdB_nat (by omega)] at F
      obtain ⟨O, F⟩ := F.frzB
      (try refine r_nil ?_); refine e_afterF F (fun hS => ?_); refine go_look ?_
      refine rd_done ?_; refine go_on ?_
      exact e_round (k + 1) (sub_cons rfl rfl (sub_cons rfl rfl (sub_cons rfl rfl (sub_cons rfl rfl (sub_cons rfl rfl (sub_cons rfl rfl (sub_cons rfl rfl (sub_cons rfl rfl (sub_nil))))))))) ⟨_, F.wk, by omega⟩ (by omega)
    · refine go_on ?_
      exact e_round (i + 1, j5, d5, v5, p5, bq5, j5.seq) (sub_cons rfl rfl (sub_cons rfl rfl (sub_cons rfl rfl (sub_cons rfl rfl (sub_cons rfl rfl (sub_cons rfl rfl (sub_cons rfl rfl (sub_nil)))))))) ⟨_, F.wk, by dsimp only; omega, A5, hl5, hs5, by dsimp only; omega, rfl⟩ (by simp only; omega)
  · have F := F.fact (f := Fact.rel 2 WrR (.slice none 0 0) ([] : Chg)) SlR.nil
    refine go_on ?_
    refine f_call F rfl rfl (jcommit0_c (lv := .slice none 0 0) (l := [])) ?_ (hp := trivial)
    clear F; rintro r O w T Φ ⟨rfl, rfl, rfl⟩ F0
    refine tidy F0 (fun F => ?_); clear F0
    refine go_on ?_
    refine f_call F rfl rfl jcheck0_c ?_ (hp := trivial)
    clear F; rintro r O w T Φ ⟨rfl, rfl, rfl⟩ F0
    refine tidy F0 (fun F => ?_); clear F0
    refine go_on ?_
    refine f_call F rfl rfl jread0_c ?_ (hp := trivial)
    clear F; rintro r O w T Φ ⟨rfl, rfl, rfl⟩ F0
    refine tidy F0 (fun F => ?_); clear F0
    refine go_on ?_
    refine f_call F rfl rfl jall0_c ?_ (hp := trivial)
    clear F; rintro r O w T Φ ⟨rfl, rfl, rfl⟩ F0
    refine tidy F0 (fun F => ?_); clear F0
    refine go_on ?_
    refine f_call F rfl rfl jused0_c ?_ (hp := trivial)
    clear F; rintro r O w T Φ ⟨rfl, rfl, rfl⟩ F0
    refine tidy F0 (fun F => ?_); clear F0
    refine go_on ?_
    refine f_call F rfl rfl jseq0_c ?_ (hp := trivial)
    clear F; rintro r O w T Φ ⟨rfl, rfl, rfl⟩ F0
    refine tidy F0 (fun F => ?_); clear F0
    refine go_on ?_
    refine f_call F rfl rfl jerr0_c ?_ (hp := trivial)
    clear F; rintro r O w T Φ ⟨rfl, rfl, rfl⟩ F0
    refine tidy F0 (fun F => ?_); clear F0
    refine go_on ?_
    refine go_back ?_
    exact F.lawb (by simp)
theorem JournalAgain_true {w : World} {v0 v1 : Value} (r0 : Reads Try.prog w 44 [v0]) (r1 : Reads Try.prog w 22 [v1]) :
    FnC Try.prog 8 [v0, v1] [] [] w fun r O' w' => r = .bool true := by
  obtain ⟨l, hl⟩ := reads_chs r0
  obtain ⟨s, hs, _⟩ := reads_bytes r1
  exact JournalAgain_ok (((Fr.start OK_nil).fact (f := Fact.bytes v1 s) hs).fact (f := Fact.rel 1 ChR v0 l) hl)
end Go.Proofs.Ytmohjmfcbhpldaa
