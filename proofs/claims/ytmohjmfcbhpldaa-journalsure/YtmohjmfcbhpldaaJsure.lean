/- JournalSure answers true. -/
import Derived.Test.YtmohjmfcbhpldaaJlive
namespace Go.Proofs.Ytmohjmfcbhpldaa
open Gk Go
set_option linter.unusedVariables false
set_option maxHeartbeats 4000000
set_option maxRecDepth 4000
set_option linter.unusedSimpArgs false
attribute [local irreducible] Int.decLt Int.decLe Int.decEq Int.instDecidableEq Gk.Rnds Gk.E Gk.G Gk.R Gk.RD Gk.RX Gk.RO Gk.Y Gk.Ent Gk.Sat Gk.Round Gk.After Gk.Cell Gk.Sl Gk.SlA Gk.CB Gk.OK Gk.FnC Gk.Bytes Gk.BytesL Gk.StrL Gk.Buf Gk.MapI
attribute [local irreducible] wAt
theorem map_set_str {B : List (List UInt8)} {k : Nat} {x : List UInt8} : (B.map str).set k (str x) = (B.set k x).map str := by rw [List.map_set]
theorem str_at {B : List (List UInt8)} {k : Nat} (h : k < (B.map str).length) : (B.map str)[k] = str (B.getD k []) := by
  have h2 : k < B.length := by simpa using h
  simp [List.getD_eq_getElem?_getD, h2]
theorem set_upto {B C : List (List UInt8)} {b : Nat} (hb : b < C.length) (h : ∀ k, k < b → C.getD k [] = B.getD k []) : ∀ k, k < b + 1 → (C.set b (B.getD b [])).getD k [] = B.getD k [] := by
  intro k hk
  by_cases e : b = k
  · subst e
    simp [List.getD_eq_getElem?_getD, hb]
  · rw [show (C.set b (B.getD b [])).getD k [] = C.getD k [] from by simp [List.getD_eq_getElem?_getD, List.getElem?_set, e]]
    exact h k (by omega)
theorem now_step {B : List (List UInt8)} {l : Chg} {b : Nat} (hb : b < l.length) : nowAll B (l.take (b + 1)) = nowSet (nowAll B (l.take b)) l[b] := by
  rw [List.take_succ_eq_append_getElem hb, nowAll_snoc]
theorem eq_step {A W : List (List UInt8)} {k : Nat} {s : List UInt8} (b : Bool) (hs : A.getD k [] = s) (hk : k < W.length) (h : b = true ↔ ∀ i, i < k → A.getD i [] = W.getD i []) : ((b && decide (s = W[k])) = true ↔ ∀ i, i < k + 1 → A.getD i [] = W.getD i []) := by
  have e : W.getD k [] = W[k] := by simp [List.getD_eq_getElem?_getD, hk]
  rw [Bool.and_eq_true, h, decide_eq_true_eq, ← e, ← hs]
  constructor
  · rintro ⟨h1, h2⟩ i hi
    by_cases c : i = k
    · subst c; exact h2
    · exact h1 i (by omega)
  · intro h1
    exact ⟨fun i hi => h1 i (by omega), h1 k (by omega)⟩
theorem addr0 (q b : Nat) : Addr.add ⟨q, 0, none⟩ b = ⟨q, b, none⟩ := by rw [Addr.add_lit, Nat.zero_add]
theorem JournalSure_ok {w0 : World} {lg : UInt8} {cv sv pv : Value} {chs : List Chg} {stops : List UInt8} {picks : List (List UInt8)} (F : Fr [] [] w0 [] w0 [] [Fact.rel 1 ChR cv chs, Fact.bytes sv stops, Fact.bytesL pv picks]) :
    FnC Try.prog 5 [byteV lg, cv, sv, pv] [] [] w0 fun r O' w' => r = .bool true := by
  obtain ⟨ca, cc, rfl, _⟩ := (F.rel (v := cv) (R := ChR) (ys := chs)).form
  obtain ⟨sa, sc, rfl, _⟩ := (F.bytes (v := sv)).form
  obtain ⟨pa, pc, rfl, _⟩ := (F.bytesL (v := pv)).form
  refine fn_of _ Try.func5 rfl (by kernel_rfl) Try.ntmps5 rfl ?_
  refine go_on ?_
  refine f_call F rfl rfl awake_c ?_ (hp := trivial)
  clear F; rintro r O w T Φ ⟨rfl, rfl, rfl⟩ F0
  refine tidy F0 (fun F => ?_); clear F0
  refine go_on ?_
  by_cases g1 : 12 < chs.length
  · refine go_on ?_
    refine go_back ?_
    exact F.law
  by_cases g2 : stops.length < chs.length
  · refine go_on ?_
    refine go_back ?_
    exact F.law
  by_cases g3 : picks.length < chs.length
  · refine go_on ?_
    refine go_back ?_
    exact F.law
  have hlg : lg.toNat % 12 < 12 := Nat.mod_lt _ (by omega)
  refine go_on ?_
  refine r_y (y_remN (b := 12) rfl rfl (by omega)) rfl ?_
  obtain ⟨k0, hk⟩ : ∃ k0, lg.toNat % 12 = k0 := ⟨_, rfl⟩
  rw [hk] at hlg ⊢
  refine go_on ?_
  obtain ⟨K, hK⟩ : ∃ k, k0 + 8 = k := ⟨_, rfl⟩
  rw [show ((k0 : Int) + 8) = ((K : Nat) : Int) from by omega]
  refine f_call F rfl rfl (dnewK_c (n := 40)) ?_ (hp := ⟨by omega, by omega⟩)
  clear F; rintro r O w T Φ ⟨q, m, rfl, rfl, rfl⟩ F0
  refine tidy F0 (fun F => ?_); clear F0
  refine go_on ?_
  refine f_call F rfl rfl (jopenL_c (q := q) (m := m) (K := K) (N := 6) (d := ⟨40, [], [], -1, false⟩)) ?_ (hp := (rdy_zero (by omega)))
  clear F; rintro r O w T Φ ⟨p, bq, v1, j1, d1, ⟨a1, a2, a3, a4, a5, a6, a7⟩, rfl, rfl, rfl⟩ F0
  refine tidy F0 (fun F => ?_); clear F0
  have a7 := a7 rfl
  subst a7
  refine go_on ?_
  refine f_make (l := 6) (c := 6) F rfl rfl rfl (fun qs w F => ?_)
  have ews : List.replicate 6 (Value.string ⟨#[]⟩) = j1.B.map str := by rw [a3]; rfl
  rw [ews] at F
  obtain ⟨O, F⟩ := F.frzSl (q := qs) (n := 6) (cap := 6) (cs := j1.B.map str) (by omega)
  refine go_on ?_
  refine g_loop (X := Nat × Jr × Dk × Value × Nat × Nat × Nat) (fun y => [(1, .slice ca chs.length cc), (2, .slice sa stops.length sc), (3, .slice pa picks.length pc), (10, .int .i64 K), (11, dptr q), (13, dptr y.2.2.2.2.1), (15, .slice (some ⟨y.2.2.2.2.2.2, 0, none⟩) 6 6), (16, .int .i64 y.1)])
    (fun y wr => ∃ O, Fr [] [] w0 O wr [(1, Jt y.2.2.2.2.1 q y.2.2.2.2.2.1 y.2.1), (1, Dn q m y.2.2.2.1 y.2.2.1)] [Fact.rel 1 ChR (.slice ca chs.length cc) chs, Fact.bytes (.slice sa stops.length sc) stops, Fact.bytesL (.slice pa picks.length pc) picks, Fact.sl (.slice (some ⟨y.2.2.2.2.2.2, 0, none⟩) 6 6) 6 (y.2.1.B.map str)] ∧ y.1 ≤ chs.length ∧ Live K y.2.1 y.2.2.1 ∧ y.2.1.seq ≤ y.1 ∧ y.2.2.1.waits.length ≤ 600 * y.1) (fun y => chs.length - y.1) (0, j1, ⟨40, [], [], -1, false⟩, v1, p, bq, qs) (sub_cons rfl rfl (sub_cons rfl rfl (sub_cons rfl rfl (sub_cons rfl rfl (sub_cons rfl rfl (sub_cons rfl rfl (sub_cons rfl rfl (sub_cons rfl rfl (sub_nil))))))))) ⟨_, ((F.demote (t := Jt p q bq j1)).demote (t := Dn q m v1 ⟨40, [], [], -1, false⟩)) |>.wk, Nat.zero_le _, alive_live a1, by dsimp only; omega, Nat.zero_le _⟩ ?_
  clear F
  rintro ⟨i, j, d, v, p, bq, qs⟩ w ⟨O, F, hi, A, hsq, hwt⟩
  dsimp only at F hi A hsq hwt ⊢
  have hBl : j.B.length = 6 := A.2.1
  refine go_on ?_
  refine g_dec rfl (fun g => ?_) (fun g => ?_)
  · have hi' : i < chs.length := by omega
    have his : i < stops.length := by omega
    have hip : i < picks.length := by omega
    obtain ⟨xc, ua, uc, rfl, hcl, F⟩ := chAt F hi'
    obtain ⟨xp, u3, rfl, hu3, F⟩ := F.bytesAt hip
    obtain ⟨pa3, pc3, rfl, _⟩ := (F.bytes (v := u3) (xs := picks[i])).form
    generalize chs[i] = l at F hcl
    generalize picks[i] = pk at F
    refine go_on ?_
    refine f_call F rfl rfl (few_c (l := l)) ?_ (hp := hcl)
    clear F; rintro r O w T Φ ⟨fb, hfb, rfl, rfl, rfl⟩ F0
    refine tidy F0 (fun F => ?_); clear F0
    cases fb with
    | false =>
      refine go_on ?_
      refine go_back ?_
      exact F.law
    | true =>
    obtain ⟨hl20, hl120⟩ := hfb rfl
    by_cases g4 : 20 < pk.length
    · refine go_on ?_
      refine go_back ?_
      exact F.law
    refine go_on ?_
    refine f_make (l := 6) (c := 6) F rfl rfl rfl (fun qn w F => ?_)
    have ewn : List.replicate 6 (Value.string ⟨#[]⟩) = (List.replicate 6 ([] : List UInt8)).map str := rfl
    rw [ewn] at F
    refine go_on ?_
    refine g_loop (X := Nat × List (List UInt8)) (fun y => [(1, .slice (some xc) chs.length cc), (2, .slice sa stops.length sc), (3, .slice (some xp) picks.length pc), (10, .int .i64 K), (11, dptr q), (13, dptr p), (15, .slice (some ⟨qs, 0, none⟩) 6 6), (16, .int .i64 i), (18, .slice (some ⟨qn, 0, none⟩) 6 6), (19, .int .i64 y.1)])
      (fun y wr => ∃ O, Fr [] [] w0 O wr [(1, Jt p q bq j), (1, Dn q m v d), (2, Thing.cells qn (y.2.map str))] [Fact.rel 1 ChR (.slice (some xc) chs.length cc) chs, Fact.bytes (.slice sa stops.length sc) stops, Fact.bytesL (.slice (some xp) picks.length pc) picks, Fact.cell (xc.add i) (.slice ua l.length uc), Fact.rel 2 WrR (.slice ua l.length uc) l, Fact.cell (xp.add i) (.slice pa3 pk.length pc3), Fact.bytes (.slice pa3 pk.length pc3) pk, Fact.sl (.slice (some ⟨qs, 0, none⟩) 6 6) 6 (j.B.map str)] ∧ y.1 ≤ 6 ∧ y.2.length = 6 ∧ ∀ k, k < y.1 → y.2.getD k [] = j.B.getD k []) (fun y => 6 - y.1) (0, List.replicate 6 []) (sub_cons rfl rfl (sub_cons rfl rfl (sub_cons rfl rfl (sub_cons rfl rfl (sub_cons rfl rfl (sub_cons rfl rfl (sub_cons rfl rfl (sub_cons rfl rfl (sub_cons rfl rfl (sub_cons rfl rfl (sub_nil))))))))))) ⟨_, F.wk, Nat.zero_le _, rfl, fun k hk => absurd hk (Nat.not_lt_zero _)⟩ ?_
    clear F
    rintro ⟨b, C⟩ w ⟨O, F, hb, hC, hCB⟩
    dsimp only at F hb hC hCB ⊢
    refine go_on ?_
    refine g_dec rfl (fun g5 => ?_) (fun g5 => ?_)
    · have hb' : b < 6 := by omega
      have hbB : b < j.B.length := by omega
      have eB : j.B[b] = j.B.getD b [] := by simp [List.getD_eq_getElem?_getD, hbB]
      refine go_on ?_
      obtain ⟨x, hx9, hc⟩ := (F.sl (cs := j.B.map str)).atm hbB
      injection hx9 with hx9
      subst hx9
      rw [addr0] at hc
      have F := F.fact (f := Fact.cell _ _) hc
      refine go_on ?_
      refine f_store1 (cs := C.map str) (i := b) F rfl rfl rfl (fun w F => ?_) (hc := .any) (hi := by rw [List.length_map]; omega)
      have F : Fr _ _ _ _ _ ((2, Thing.cells qn ((C.map str).set b (str j.B[b]))) :: _) _ := F
      rw [map_set_str, eB] at F
      refine go_on ?_
      exact e_round (b + 1, C.set b (j.B.getD b [])) (sub_cons rfl rfl (sub_cons rfl rfl (sub_cons rfl rfl (sub_cons rfl rfl (sub_cons rfl rfl (sub_cons rfl rfl (sub_cons rfl rfl (sub_cons rfl rfl (sub_cons rfl rfl (sub_cons rfl rfl (sub_nil))))))))))) ⟨_, F.wk, by dsimp only; omega, by dsimp only; rw [List.length_set]; exact hC, set_upto (by omega) hCB⟩ (by simp only; omega)
    · obtain rfl : 6 = b := by omega
      obtain rfl : C = j.B := (same6 hC hBl).1 hCB
      refine go_on ?_
      refine g_loop (X := Nat) (fun b => [(1, .slice (some xc) chs.length cc), (2, .slice sa stops.length sc), (3, .slice (some xp) picks.length pc), (10, .int .i64 K), (11, dptr q), (13, dptr p), (15, .slice (some ⟨qs, 0, none⟩) 6 6), (16, .int .i64 i), (18, .slice (some ⟨qn, 0, none⟩) 6 6), (20, .int .i64 b)])
        (fun b wr => ∃ O, Fr [] [] w0 O wr [(1, Jt p q bq j), (1, Dn q m v d), (2, Thing.cells qn ((nowAll j.B (l.take b)).map str))] [Fact.rel 1 ChR (.slice (some xc) chs.length cc) chs, Fact.bytes (.slice sa stops.length sc) stops, Fact.bytesL (.slice (some xp) picks.length pc) picks, Fact.cell (xc.add i) (.slice ua l.length uc), Fact.rel 2 WrR (.slice ua l.length uc) l, Fact.cell (xp.add i) (.slice pa3 pk.length pc3), Fact.bytes (.slice pa3 pk.length pc3) pk, Fact.sl (.slice (some ⟨qs, 0, none⟩) 6 6) 6 (j.B.map str)] ∧ b ≤ l.length) (fun b => l.length - b) 0 (sub_cons rfl rfl (sub_cons rfl rfl (sub_cons rfl rfl (sub_cons rfl rfl (sub_cons rfl rfl (sub_cons rfl rfl (sub_cons rfl rfl (sub_cons rfl rfl (sub_cons rfl rfl (sub_cons rfl rfl (sub_nil))))))))))) ⟨_, F.wk, Nat.zero_le _⟩ ?_
      clear F
      rintro b w ⟨O, F, hb⟩
      refine go_on ?_
      refine g_dec rfl (fun g6 => ?_) (fun g6 => ?_)
      · have hb' : b < l.length := by omega
        obtain ⟨x4, row, rfl, hrl, ⟨bv, rfl, hbv⟩, hrow⟩ := (F.rel (R := WrR) (ys := l)).elem hb'
        obtain ⟨va, vc, rfl, _⟩ := hbv.form
        have F := (F.factB hbv).fact hrow
        have hns := now_step (B := j.B) hb'
        have hnl := nowAll_len j.B (l.take b)
        generalize l[b] = y at F hns
        obtain ⟨y1, ys⟩ := y
        dsimp only at F
        refine go_on ?_
        (first | refine f_alloc1 F rfl (fun z w F => ?_) | refine f_allocN F rfl (fun z w F => ?_)); refine go_on ?_
        refine f_storeAll F rfl rfl rfl (fun w F => ?_); refine go_on ?_
        by_cases c1 : 0 ≤ y1 ∧ y1 < 6
        · obtain ⟨k9, rfl⟩ : ∃ k9 : Nat, y1 = k9 := ⟨y1.toNat, by omega⟩
          have e : nowAll j.B (l.take (b + 1)) = (nowAll j.B (l.take b)).set k9 ys := by
            rw [hns]
            unfold nowSet
            rw [if_pos c1]
            rfl
          refine go_on ?_
          refine f_store1 (cs := (nowAll j.B (l.take b)).map str) (i := k9) F rfl rfl rfl (fun w F => ?_) (hc := .any) (hi := by rw [List.length_map]; omega)
          have F : Fr _ _ _ _ _ ((2, Thing.cells qn (((nowAll j.B (l.take b)).map str).set k9 (str ys))) :: _) _ := F
          rw [map_set_str, ← e] at F
          refine go_on ?_
          exact e_round (b + 1) (sub_cons rfl rfl (sub_cons rfl rfl (sub_cons rfl rfl (sub_cons rfl rfl (sub_cons rfl rfl (sub_cons rfl rfl (sub_cons rfl rfl (sub_cons rfl rfl (sub_cons rfl rfl (sub_cons rfl rfl (sub_nil))))))))))) ⟨_, F.wk, by omega⟩ (by omega)
        · have e : nowAll j.B (l.take (b + 1)) = nowAll j.B (l.take b) := by
            rw [hns]
            unfold nowSet
            exact if_neg c1
          rw [← e] at F
          by_cases c2 : 0 ≤ y1
          · have c3 : 6 ≤ y1 := by omega
            refine go_on ?_
            exact e_round (b + 1) (sub_cons rfl rfl (sub_cons rfl rfl (sub_cons rfl rfl (sub_cons rfl rfl (sub_cons rfl rfl (sub_cons rfl rfl (sub_cons rfl rfl (sub_cons rfl rfl (sub_cons rfl rfl (sub_cons rfl rfl (sub_nil))))))))))) ⟨_, F.wk, by omega⟩ (by omega)
          · refine go_on ?_
            exact e_round (b + 1) (sub_cons rfl rfl (sub_cons rfl rfl (sub_cons rfl rfl (sub_cons rfl rfl (sub_cons rfl rfl (sub_cons rfl rfl (sub_cons rfl rfl (sub_cons rfl rfl (sub_cons rfl rfl (sub_cons rfl rfl (sub_nil))))))))))) ⟨_, F.wk, by omega⟩ (by omega)
      · obtain rfl : l.length = b := by omega
        rw [List.take_length] at F
        have hNm : mayW 6 l → nowAll j.B l = setAll j.B l := nowAll_may j.B
        have hNl : (nowAll j.B l).length = 6 := by rw [nowAll_len]; exact hBl
        generalize nowAll j.B l = N at F hNm hNl
        obtain ⟨O, F⟩ := F.frzSl (q := qn) (n := 6) (cap := 6) (cs := N.map str) (by omega)
        refine go_on ?_
        obtain ⟨x, hx9, hc⟩ := ((F.bytes (xs := stops))).atm his
        (first | subst hx9 | (injection hx9 with hx9; subst hx9))
        have F := F.fact (f := Fact.cell _ _) hc
        refine go_on ?_
        refine r_y (y_andI rfl rfl) rfl ?_
        generalize andI .u8 (stops[i].toNat : Int) 16 = c5
        apply r_join (X := Dk) (fun _ => [(1, .slice (some xc) chs.length cc), (2, .slice (some x) stops.length sc), (3, .slice (some xp) picks.length pc), (10, .int .i64 K), (11, dptr q), (13, dptr p), (15, .slice (some ⟨qs, 0, none⟩) 6 6), (16, .int .i64 i), (18, .slice (some ⟨qn, 0, none⟩) 6 6), (142, dptr p), (146, .slice ua l.length uc)])
          (fun d1 w => ∃ O, Fr [] [] w0 O w [(1, Jt p q bq j), (1, Dn q m v d1)] [Fact.rel 1 ChR (.slice (some xc) chs.length cc) chs, Fact.bytes (.slice (some x) stops.length sc) stops, Fact.bytesL (.slice (some xp) picks.length pc) picks, Fact.cell (xc.add i) (.slice ua l.length uc), Fact.rel 2 WrR (.slice ua l.length uc) l, Fact.cell (xp.add i) (.slice pa3 pk.length pc3), Fact.bytes (.slice pa3 pk.length pc3) pk, Fact.sl (.slice (some ⟨qs, 0, none⟩) 6 6) 6 (j.B.map str), Fact.sl (.slice (some ⟨qn, 0, none⟩) 6 6) 6 (N.map str)] ∧ Live K j d1 ∧ d1.waits = d.waits)
        · intro K2
          by_cases g7 : c5 = 16
          · refine go_on ?_
            refine r_y (y_andI rfl rfl) rfl ?_
            have h15 := @Nat.and_le_right stops[i].toNat 15
            rw [show andI .u8 (stops[i].toNat : Int) 15 = ((stops[i].toNat &&& 15 : Nat) : Int) from andN stops[i] 15 (by omega)]
            generalize stops[i].toNat &&& 15 = c15 at h15
            refine go_on ?_
            have F := F
            refine f_call F rfl rfl (dstop_c (p := q) (m := m) (v := v) (d := d) (a := (c15 : Int))) ?_ (hp := (by omega))
            clear F; rintro r O w T Φ ⟨rfl, rfl⟩ F0
            refine tidy F0 (fun F => ?_); clear F0
            refine go_on ?_
            exact K2 (d.stop (c15 : Int)) _ _ ⟨_, F.wk, live_stop A (by omega), rfl⟩ (sub_cons rfl rfl (sub_cons rfl rfl (sub_cons rfl rfl (sub_cons rfl rfl (sub_cons rfl rfl (sub_cons rfl rfl (sub_cons rfl rfl (sub_cons rfl rfl (sub_cons rfl rfl (sub_cons rfl rfl (sub_cons rfl rfl (sub_nil))))))))))))
          · refine go_on ?_
            exact K2 d _ _ ⟨_, F.wk, A, rfl⟩ (sub_cons rfl rfl (sub_cons rfl rfl (sub_cons rfl rfl (sub_cons rfl rfl (sub_cons rfl rfl (sub_cons rfl rfl (sub_cons rfl rfl (sub_cons rfl rfl (sub_cons rfl rfl (sub_cons rfl rfl (sub_cons rfl rfl (sub_nil))))))))))))
        clear F
        rintro d1 w ⟨O, F, A1, hw1⟩
        refine f_call F rfl rfl (jcommit_c (p := p) (q := q) (bq := bq) (m := m) (v0 := v) (j := j) (d := d1) (l := l)) ?_ (hp := ⟨by rw [hw1]; omega, by omega⟩)
        clear F; rintro r O w T Φ ⟨v2, rfl, rfl, rfl⟩ F0
        refine tidy F0 (fun F => ?_); clear F0
        have hcw := commit_waits j d1 l
        rw [hw1] at hcw
        obtain ⟨⟨⟨j2, d2⟩, f⟩, hx⟩ : ∃ x, j.commit d1 l = x := ⟨_, rfl⟩
        have hco := live_commit (by omega) A1 l (by omega) hx
        rw [hx] at F hcw ⊢
        dsimp only at F hcw ⊢
        apply g_join (X := Jr × Dk × Value × (Nat × Nat) × (Nat × Nat) × Nat × List (List UInt8) × List (List UInt8)) (fun z => [(1, .slice (some xc) chs.length cc), (2, .slice (some x) stops.length sc), (3, .slice (some xp) picks.length pc), (10, .int .i64 K), (11, dptr q), (13, dptr z.2.2.2.1.1), (15, .slice (some ⟨z.2.2.2.2.1.1, 0, none⟩) 6 6), (16, .int .i64 i), (18, .slice (some ⟨z.2.2.2.2.1.2, 0, none⟩) 6 6), (22, .int .i64 z.2.2.2.2.2.1), (23, .bool true), (24, .bool true), (25, .int .i64 (0 : Nat))])
          (fun z w => ∃ O, Fr [] [] w0 O w [(1, Jt z.2.2.2.1.1 q z.2.2.2.1.2 z.1), (1, Dn q m z.2.2.1 z.2.1)] [Fact.rel 1 ChR (.slice (some xc) chs.length cc) chs, Fact.bytes (.slice (some x) stops.length sc) stops, Fact.bytesL (.slice (some xp) picks.length pc) picks, Fact.sl (.slice (some ⟨z.2.2.2.2.1.1, 0, none⟩) 6 6) 6 (z.2.2.2.2.2.2.1.map str), Fact.sl (.slice (some ⟨z.2.2.2.2.1.2, 0, none⟩) 6 6) 6 (z.2.2.2.2.2.2.2.map str)] ∧
            Live K z.1 z.2.1 ∧ z.1.seq ≤ i + 1 ∧ z.2.1.waits.length ≤ 600 * (i + 1) ∧ z.2.2.2.2.2.2.1.length = 6 ∧ z.2.2.2.2.2.2.2.length = 6 ∧ (z.1.B = z.2.2.2.2.2.2.1 ∨ z.1.B = z.2.2.2.2.2.2.2) ∧ (z.2.2.2.2.2.1 = 0 → z.1.B = z.2.2.2.2.2.2.2))
        · intro K2
          rcases hco with ⟨h1, rfl, rfl⟩ | ⟨rfl, hm, A2, hB2, hs2⟩ | ⟨rfl, hr⟩
          · obtain ⟨u, hu⟩ := live_open (by omega) (by omega) A1 pk
            rcases h1 with rfl | rfl
            · refine go_on ?_
              obtain ⟨x, hx9, hc⟩ := ((F.bytes (xs := stops))).atm his
              (first | subst hx9 | (injection hx9 with hx9; subst hx9))
              have F := F.fact (f := Fact.cell _ _) hc
              refine go_on ?_
              refine r_y (y_andI rfl rfl) rfl ?_
              generalize andI .u8 (stops[i].toNat : Int) 32 = c6
              by_cases g8 : c6 = 32
              · refine go_on ?_
                have F := F
                refine f_call F rfl rfl (dcrash_c (p := q) (m := m) (v := v2) (d := d1) (pick := pk)) ?_ (hp := ⟨by omega, by omega⟩)
                clear F; rintro r O w T Φ ⟨rfl, rfl⟩ F0
                refine tidy F0 (fun F => ?_); clear F0
                refine go_on ?_
                skip
                refine f_call F rfl rfl (jopenL_c (q := q) (m := m) (K := K) (N := 6) (d := d1.crash pk)) ?_ (hp := hu)
                clear F; rintro r O w T Φ ⟨p3, bq3, v3, j3, d3, ⟨b1, b2, b3, b4, b5, b6, b7⟩, rfl, rfl, rfl⟩ F0
                refine tidy F0 (fun F => ?_); clear F0
                have b6 : d3.waits.length ≤ 0 + 200 := b6
                refine go_on ?_
                exact K2 (j3, d3, v3, (p3, bq3), (qs, qs), 1, j.B, j.B) _ _ ⟨_, F.wk, alive_live b1, by dsimp only; omega, by dsimp only; omega, hBl, hBl, .inl b3, fun _ => b3⟩ (sub_cons rfl rfl (sub_cons rfl rfl (sub_cons rfl rfl (sub_cons rfl rfl (sub_cons rfl rfl (sub_cons rfl rfl (sub_cons rfl rfl (sub_cons rfl rfl (sub_cons rfl rfl (sub_cons rfl rfl (sub_cons rfl rfl (sub_cons rfl rfl (sub_cons rfl rfl (sub_nil))))))))))))))
              · refine go_on ?_
                exact K2 (j, d1, v2, (p, bq), (qs, qs), 1, j.B, j.B) _ _ ⟨_, F.wk, A1, by dsimp only; omega, by dsimp only; omega, hBl, hBl, .inl rfl, fun _ => rfl⟩ (sub_cons rfl rfl (sub_cons rfl rfl (sub_cons rfl rfl (sub_cons rfl rfl (sub_cons rfl rfl (sub_cons rfl rfl (sub_cons rfl rfl (sub_cons rfl rfl (sub_cons rfl rfl (sub_cons rfl rfl (sub_cons rfl rfl (sub_cons rfl rfl (sub_cons rfl rfl (sub_nil))))))))))))))
            · refine go_on ?_
              obtain ⟨x, hx9, hc⟩ := ((F.bytes (xs := stops))).atm his
              (first | subst hx9 | (injection hx9 with hx9; subst hx9))
              have F := F.fact (f := Fact.cell _ _) hc
              refine go_on ?_
              refine r_y (y_andI rfl rfl) rfl ?_
              generalize andI .u8 (stops[i].toNat : Int) 32 = c6
              by_cases g8 : c6 = 32
              · refine go_on ?_
                have F := F
                refine f_call F rfl rfl (dcrash_c (p := q) (m := m) (v := v2) (d := d1) (pick := pk)) ?_ (hp := ⟨by omega, by omega⟩)
                clear F; rintro r O w T Φ ⟨rfl, rfl⟩ F0
                refine tidy F0 (fun F => ?_); clear F0
                refine go_on ?_
                skip
                refine f_call F rfl rfl (jopenL_c (q := q) (m := m) (K := K) (N := 6) (d := d1.crash pk)) ?_ (hp := hu)
                clear F; rintro r O w T Φ ⟨p3, bq3, v3, j3, d3, ⟨b1, b2, b3, b4, b5, b6, b7⟩, rfl, rfl, rfl⟩ F0
                refine tidy F0 (fun F => ?_); clear F0
                have b6 : d3.waits.length ≤ 0 + 200 := b6
                refine go_on ?_
                exact K2 (j3, d3, v3, (p3, bq3), (qs, qs), 21, j.B, j.B) _ _ ⟨_, F.wk, alive_live b1, by dsimp only; omega, by dsimp only; omega, hBl, hBl, .inl b3, fun _ => b3⟩ (sub_cons rfl rfl (sub_cons rfl rfl (sub_cons rfl rfl (sub_cons rfl rfl (sub_cons rfl rfl (sub_cons rfl rfl (sub_cons rfl rfl (sub_cons rfl rfl (sub_cons rfl rfl (sub_cons rfl rfl (sub_cons rfl rfl (sub_cons rfl rfl (sub_cons rfl rfl (sub_nil))))))))))))))
              · refine go_on ?_
                exact K2 (j, d1, v2, (p, bq), (qs, qs), 21, j.B, j.B) _ _ ⟨_, F.wk, A1, by dsimp only; omega, by dsimp only; omega, hBl, hBl, .inl rfl, fun _ => rfl⟩ (sub_cons rfl rfl (sub_cons rfl rfl (sub_cons rfl rfl (sub_cons rfl rfl (sub_cons rfl rfl (sub_cons rfl rfl (sub_cons rfl rfl (sub_cons rfl rfl (sub_cons rfl rfl (sub_cons rfl rfl (sub_cons rfl rfl (sub_cons rfl rfl (sub_cons rfl rfl (sub_nil))))))))))))))
          · have hN := hNm hm
            rw [← hN] at hB2
            obtain ⟨u, hu⟩ := live_open (by omega) (by omega) A2 pk
            refine go_on ?_
            obtain ⟨x, hx9, hc⟩ := ((F.bytes (xs := stops))).atm his
            (first | subst hx9 | (injection hx9 with hx9; subst hx9))
            have F := F.fact (f := Fact.cell _ _) hc
            refine go_on ?_
            refine r_y (y_andI rfl rfl) rfl ?_
            generalize andI .u8 (stops[i].toNat : Int) 32 = c6
            by_cases g8 : c6 = 32
            · refine go_on ?_
              have F := F
              refine f_call F rfl rfl (dcrash_c (p := q) (m := m) (v := v2) (d := d2) (pick := pk)) ?_ (hp := ⟨by omega, by omega⟩)
              clear F; rintro r O w T Φ ⟨rfl, rfl⟩ F0
              refine tidy F0 (fun F => ?_); clear F0
              refine go_on ?_
              skip
              refine f_call F rfl rfl (jopenL_c (q := q) (m := m) (K := K) (N := 6) (d := d2.crash pk)) ?_ (hp := hu)
              clear F; rintro r O w T Φ ⟨p3, bq3, v3, j3, d3, ⟨b1, b2, b3, b4, b5, b6, b7⟩, rfl, rfl, rfl⟩ F0
              refine tidy F0 (fun F => ?_); clear F0
              have b6 : d3.waits.length ≤ 0 + 200 := b6
              refine go_on ?_
              exact K2 (j3, d3, v3, (p3, bq3), (qn, qn), 0, N, N) _ _ ⟨_, F.wk, alive_live b1, by dsimp only; omega, by dsimp only; omega, hNl, hNl, .inl (b3.trans hB2), fun _ => b3.trans hB2⟩ (sub_cons rfl rfl (sub_cons rfl rfl (sub_cons rfl rfl (sub_cons rfl rfl (sub_cons rfl rfl (sub_cons rfl rfl (sub_cons rfl rfl (sub_cons rfl rfl (sub_cons rfl rfl (sub_cons rfl rfl (sub_cons rfl rfl (sub_cons rfl rfl (sub_cons rfl rfl (sub_nil))))))))))))))
            · refine go_on ?_
              exact K2 (j2, d2, v2, (p, bq), (qn, qn), 0, N, N) _ _ ⟨_, F.wk, A2, by dsimp only; omega, by dsimp only; omega, hNl, hNl, .inl hB2, fun _ => hB2⟩ (sub_cons rfl rfl (sub_cons rfl rfl (sub_cons rfl rfl (sub_cons rfl rfl (sub_cons rfl rfl (sub_cons rfl rfl (sub_cons rfl rfl (sub_cons rfl rfl (sub_cons rfl rfl (sub_cons rfl rfl (sub_cons rfl rfl (sub_cons rfl rfl (sub_cons rfl rfl (sub_nil))))))))))))))
          · obtain ⟨B', sq, u, hu, hsq2, hB'⟩ := hr pk
            refine go_on ?_
            have F := F
            refine f_call F rfl rfl (dcrash_c (p := q) (m := m) (v := v2) (d := d2) (pick := pk)) ?_ (hp := ⟨by omega, by omega⟩)
            clear F; rintro r O w T Φ ⟨rfl, rfl⟩ F0
            refine tidy F0 (fun F => ?_); clear F0
            refine go_on ?_
            skip
            refine f_call F rfl rfl (jopenL_c (q := q) (m := m) (K := K) (N := 6) (d := d2.crash pk)) ?_ (hp := hu)
            clear F; rintro r O w T Φ ⟨p3, bq3, v3, j3, d3, ⟨b1, b2, b3, b4, b5, b6, b7⟩, rfl, rfl, rfl⟩ F0
            refine tidy F0 (fun F => ?_); clear F0
            have b6 : d3.waits.length ≤ 0 + 200 := b6
            refine go_on ?_
            exact K2 (j3, d3, v3, (p3, bq3), (qs, qn), 20, j.B, N) _ _ ⟨_, F.wk, alive_live b1, by dsimp only; omega, by dsimp only; omega, hBl, hNl, hB'.imp (fun h => b3.trans h) (fun h => b3.trans (h.2.trans (hNm h.1).symm)), fun h => by cases h⟩ (sub_cons rfl rfl (sub_cons rfl rfl (sub_cons rfl rfl (sub_cons rfl rfl (sub_cons rfl rfl (sub_cons rfl rfl (sub_cons rfl rfl (sub_cons rfl rfl (sub_cons rfl rfl (sub_cons rfl rfl (sub_cons rfl rfl (sub_cons rfl rfl (sub_cons rfl rfl (sub_nil))))))))))))))
        clear F
        rintro ⟨j', d', v', ⟨p', bq'⟩, ⟨qs', qn'⟩, f, W, N'⟩ w ⟨O, F, A3, hs3, hw3, hW, hN', hor, hf0⟩
        dsimp only at F A3 hs3 hw3 hW hN' hor hf0 ⊢
        have hB' : j'.B.length = 6 := A3.2.1
        refine g_loop (X := Nat × Bool × Bool) (fun y => [(1, .slice (some xc) chs.length cc), (2, .slice (some x) stops.length sc), (3, .slice (some xp) picks.length pc), (10, .int .i64 K), (11, dptr q), (13, dptr p'), (15, .slice (some ⟨qs', 0, none⟩) 6 6), (16, .int .i64 i), (18, .slice (some ⟨qn', 0, none⟩) 6 6), (22, .int .i64 f), (23, .bool y.2.1), (24, .bool y.2.2), (25, .int .i64 y.1)])
          (fun y wr => ∃ O, Fr [] [] w0 O wr [(1, Jt p' q bq' j'), (1, Dn q m v' d')] [Fact.rel 1 ChR (.slice (some xc) chs.length cc) chs, Fact.bytes (.slice (some x) stops.length sc) stops, Fact.bytesL (.slice (some xp) picks.length pc) picks, Fact.sl (.slice (some ⟨qs', 0, none⟩) 6 6) 6 (W.map str), Fact.sl (.slice (some ⟨qn', 0, none⟩) 6 6) 6 (N'.map str)] ∧ y.1 ≤ 6 ∧ (y.2.1 = true ↔ ∀ k, k < y.1 → j'.B.getD k [] = W.getD k []) ∧ (y.2.2 = true ↔ ∀ k, k < y.1 → j'.B.getD k [] = N'.getD k [])) (fun y => 6 - y.1) (0, true, true) (sub_cons rfl rfl (sub_cons rfl rfl (sub_cons rfl rfl (sub_cons rfl rfl (sub_cons rfl rfl (sub_cons rfl rfl (sub_cons rfl rfl (sub_cons rfl rfl (sub_cons rfl rfl (sub_cons rfl rfl (sub_cons rfl rfl (sub_cons rfl rfl (sub_cons rfl rfl (sub_nil)))))))))))))) ⟨_, F.wk, Nat.zero_le _, ⟨fun _ k hk => absurd hk (Nat.not_lt_zero _), fun _ => rfl⟩, ⟨fun _ k hk => absurd hk (Nat.not_lt_zero _), fun _ => rfl⟩⟩ ?_
        clear F
        rintro ⟨k, old, yng⟩ w ⟨O, F, hk, ho, hy⟩
        dsimp only at F hk ho hy ⊢
        refine go_on ?_
        refine g_dec rfl (fun g9 => ?_) (fun g9 => ?_)
        · have hk' : k < 6 := by omega
          have hkW : k < W.length := by omega
          have hkN : k < N'.length := by omega
          refine go_on ?_
          refine f_call F rfl rfl (jread_c (p := p') (q := q) (bq := bq') (j := j') (i := ((k : Nat) : Int))) ?_ (hp := trivial)
          clear F; rintro r O w T Φ ⟨rfl, rfl⟩ F0
          refine tidy F0 (fun F => ?_); clear F0
          rw [rdB_nat (by rw [hB']; exact hk')] at F
          obtain ⟨s, hs⟩ : ∃ s, j'.B.getD k [] = s := ⟨_, rfl⟩
          rw [hs] at F
          obtain ⟨O, F⟩ := F.frzB
          cases old with
          | true =>
            cases yng with
            | true =>
              refine go_on ?_
              obtain ⟨x, hx9, hc⟩ := (F.sl (cs := W.map str)).atm hkW
              injection hx9 with hx9
              subst hx9
              rw [addr0] at hc
              have F := F.fact (f := Fact.cell _ _) hc
              refine go_on ?_
              obtain ⟨x, hx9, hc⟩ := (F.sl (cs := N'.map str)).atm hkN
              injection hx9 with hx9
              subst hx9
              rw [addr0] at hc
              have F := F.fact (f := Fact.cell _ _) hc
              refine go_on ?_
              exact e_round (k + 1, decide (s = W[k]), decide (s = N'[k])) (sub_cons rfl rfl (sub_cons rfl rfl (sub_cons rfl rfl (sub_cons rfl rfl (sub_cons rfl rfl (sub_cons rfl rfl (sub_cons rfl rfl (sub_cons rfl rfl (sub_cons rfl rfl (sub_cons rfl rfl (sub_cons rfl rfl (sub_cons rfl rfl (sub_cons rfl rfl (sub_nil)))))))))))))) ⟨_, F.wk, by dsimp only; omega, eq_step true hs hkW ho, eq_step true hs hkN hy⟩ (by simp only; omega)
            | false =>
              refine go_on ?_
              obtain ⟨x, hx9, hc⟩ := (F.sl (cs := W.map str)).atm hkW
              injection hx9 with hx9
              subst hx9
              rw [addr0] at hc
              have F := F.fact (f := Fact.cell _ _) hc
              refine go_on ?_
              exact e_round (k + 1, decide (s = W[k]), false) (sub_cons rfl rfl (sub_cons rfl rfl (sub_cons rfl rfl (sub_cons rfl rfl (sub_cons rfl rfl (sub_cons rfl rfl (sub_cons rfl rfl (sub_cons rfl rfl (sub_cons rfl rfl (sub_cons rfl rfl (sub_cons rfl rfl (sub_cons rfl rfl (sub_cons rfl rfl (sub_nil)))))))))))))) ⟨_, F.wk, by dsimp only; omega, eq_step true hs hkW ho, eq_step false hs hkN hy⟩ (by simp only; omega)
          | false =>
            cases yng with
            | true =>
              refine go_on ?_
              obtain ⟨x, hx9, hc⟩ := (F.sl (cs := N'.map str)).atm hkN
              injection hx9 with hx9
              subst hx9
              rw [addr0] at hc
              have F := F.fact (f := Fact.cell _ _) hc
              refine go_on ?_
              exact e_round (k + 1, false, decide (s = N'[k])) (sub_cons rfl rfl (sub_cons rfl rfl (sub_cons rfl rfl (sub_cons rfl rfl (sub_cons rfl rfl (sub_cons rfl rfl (sub_cons rfl rfl (sub_cons rfl rfl (sub_cons rfl rfl (sub_cons rfl rfl (sub_cons rfl rfl (sub_cons rfl rfl (sub_cons rfl rfl (sub_nil)))))))))))))) ⟨_, F.wk, by dsimp only; omega, eq_step false hs hkW ho, eq_step true hs hkN hy⟩ (by simp only; omega)
            | false =>
              refine go_on ?_
              exact e_round (k + 1, false, false) (sub_cons rfl rfl (sub_cons rfl rfl (sub_cons rfl rfl (sub_cons rfl rfl (sub_cons rfl rfl (sub_cons rfl rfl (sub_cons rfl rfl (sub_cons rfl rfl (sub_cons rfl rfl (sub_cons rfl rfl (sub_cons rfl rfl (sub_cons rfl rfl (sub_cons rfl rfl (sub_nil)))))))))))))) ⟨_, F.wk, by dsimp only; omega, eq_step false hs hkW ho, eq_step false hs hkN hy⟩ (by simp only; omega)
        · obtain rfl : 6 = k := by omega
          rw [same6 hB' hW] at ho
          rw [same6 hB' hN'] at hy
          cases yng with
          | true =>
            have hBN := hy.1 rfl
            rw [← hBN] at F
            by_cases hf : f = 0
            · cases old with
              | true =>
                refine go_on ?_
                refine f_call F rfl rfl (dstop_c (p := q) (m := m) (v := v') (d := d') (a := -1)) ?_ (hp := (by omega))
                clear F; rintro r O w T Φ ⟨rfl, rfl⟩ F0
                refine tidy F0 (fun F => ?_); clear F0
                refine go_on ?_
                exact e_round (i + 1, j', d'.stop (-1), v', p', bq', qn') (sub_cons rfl rfl (sub_cons rfl rfl (sub_cons rfl rfl (sub_cons rfl rfl (sub_cons rfl rfl (sub_cons rfl rfl (sub_cons rfl rfl (sub_cons rfl rfl (sub_nil))))))))) ⟨_, F.wk, by dsimp only; omega, live_stop A3 (by omega), hs3, hw3⟩ (by simp only; omega)
              | false =>
                refine go_on ?_
                refine f_call F rfl rfl (dstop_c (p := q) (m := m) (v := v') (d := d') (a := -1)) ?_ (hp := (by omega))
                clear F; rintro r O w T Φ ⟨rfl, rfl⟩ F0
                refine tidy F0 (fun F => ?_); clear F0
                refine go_on ?_
                exact e_round (i + 1, j', d'.stop (-1), v', p', bq', qn') (sub_cons rfl rfl (sub_cons rfl rfl (sub_cons rfl rfl (sub_cons rfl rfl (sub_cons rfl rfl (sub_cons rfl rfl (sub_cons rfl rfl (sub_cons rfl rfl (sub_nil))))))))) ⟨_, F.wk, by dsimp only; omega, live_stop A3 (by omega), hs3, hw3⟩ (by simp only; omega)
            · cases old with
              | true =>
                refine go_on ?_
                refine f_call F rfl rfl (dstop_c (p := q) (m := m) (v := v') (d := d') (a := -1)) ?_ (hp := (by omega))
                clear F; rintro r O w T Φ ⟨rfl, rfl⟩ F0
                refine tidy F0 (fun F => ?_); clear F0
                refine go_on ?_
                exact e_round (i + 1, j', d'.stop (-1), v', p', bq', qn') (sub_cons rfl rfl (sub_cons rfl rfl (sub_cons rfl rfl (sub_cons rfl rfl (sub_cons rfl rfl (sub_cons rfl rfl (sub_cons rfl rfl (sub_cons rfl rfl (sub_nil))))))))) ⟨_, F.wk, by dsimp only; omega, live_stop A3 (by omega), hs3, hw3⟩ (by simp only; omega)
              | false =>
                refine go_on ?_
                refine f_call F rfl rfl (dstop_c (p := q) (m := m) (v := v') (d := d') (a := -1)) ?_ (hp := (by omega))
                clear F; rintro r O w T Φ ⟨rfl, rfl⟩ F0
                refine tidy F0 (fun F => ?_); clear F0
                refine go_on ?_
                exact e_round (i + 1, j', d'.stop (-1), v', p', bq', qn') (sub_cons rfl rfl (sub_cons rfl rfl (sub_cons rfl rfl (sub_cons rfl rfl (sub_cons rfl rfl (sub_cons rfl rfl (sub_cons rfl rfl (sub_cons rfl rfl (sub_nil))))))))) ⟨_, F.wk, by dsimp only; omega, live_stop A3 (by omega), hs3, hw3⟩ (by simp only; omega)
          | false =>
            have hBN : ¬ j'.B = N' := fun h => by cases hy.2 h
            have hf : ¬ f = 0 := fun h => hBN (hf0 h)
            have hBW : j'.B = W := hor.resolve_right hBN
            rw [← hBW] at F
            cases old with
            | false => cases ho.2 hBW
            | true =>
              refine go_on ?_
              refine f_call F rfl rfl (dstop_c (p := q) (m := m) (v := v') (d := d') (a := -1)) ?_ (hp := (by omega))
              clear F; rintro r O w T Φ ⟨rfl, rfl⟩ F0
              refine tidy F0 (fun F => ?_); clear F0
              refine go_on ?_
              exact e_round (i + 1, j', d'.stop (-1), v', p', bq', qs') (sub_cons rfl rfl (sub_cons rfl rfl (sub_cons rfl rfl (sub_cons rfl rfl (sub_cons rfl rfl (sub_cons rfl rfl (sub_cons rfl rfl (sub_cons rfl rfl (sub_nil))))))))) ⟨_, F.wk, by dsimp only; omega, live_stop A3 (by omega), hs3, hw3⟩ (by simp only; omega)
  · refine go_on ?_
    refine go_back ?_
    exact F.law
theorem JournalSure_true {w : World} {v0 v1 v2 v3 : Value} (r0 : Reads Try.prog w 5 [v0]) (r1 : Reads Try.prog w 44 [v1]) (r2 : Reads Try.prog w 22 [v2]) (r3 : Reads Try.prog w 45 [v3]) :
    FnC Try.prog 5 [v0, v1, v2, v3] [] [] w fun r O' w' => r = .bool true := by
  obtain ⟨c, hc⟩ := reads_u8 r0
  injection hc with hc
  subst hc
  obtain ⟨l, hl⟩ := reads_chs r1
  obtain ⟨s, hs, _⟩ := reads_bytes r2
  obtain ⟨ps, hps, _⟩ := reads_bytesL r3
  exact JournalSure_ok ((((Fr.start OK_nil).fact (f := Fact.bytesL v3 ps) hps).fact (f := Fact.bytes v2 s) hs).fact (f := Fact.rel 1 ChR v1 l) hl)
end Go.Proofs.Ytmohjmfcbhpldaa
