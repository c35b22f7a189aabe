/- JournalLast answers true. -/
import Derived.Test.YtmohjmfcbhpldaaJwr
namespace Go.Proofs.Ytmohjmfcbhpldaa
open Gk Go
set_option linter.unusedVariables false
set_option maxHeartbeats 4000000
set_option maxRecDepth 4000
set_option linter.unusedSimpArgs false
attribute [local irreducible] Int.decLt Int.decLe Int.decEq Int.instDecidableEq Gk.Rnds Gk.E Gk.G Gk.R Gk.RD Gk.RX Gk.RO Gk.Y Gk.Ent Gk.Sat Gk.Round Gk.After Gk.Cell Gk.Sl Gk.SlA Gk.CB Gk.OK Gk.FnC Gk.Bytes Gk.BytesL Gk.StrL Gk.Buf Gk.MapI
theorem andB (c : UInt8) (k : Nat) (hk : k ≤ 8) : andI .u8 (c.toNat : Int) ((2 ^ k - 1 : Nat) : Int) = ((c.toNat % 2 ^ k : Nat) : Int) := by
  have hc := c.toNat_lt
  unfold andI
  have h1 : (2 ^ k - 1) < 2 ^ 8 := by
    have := Nat.pow_le_pow_right (show 0 < 2 by omega) hk
    have := Nat.two_pow_pos k
    omega
  have e : (BitVec.ofInt 8 (c.toNat : Int) &&& BitVec.ofInt 8 ((2 ^ k - 1 : Nat) : Int)).toNat = c.toNat % 2 ^ k := by
    rw [BitVec.toNat_and, BitVec.ofInt_natCast, BitVec.toNat_ofNat, BitVec.ofInt_natCast, BitVec.toNat_ofNat, Nat.mod_eq_of_lt (by simpa using hc), Nat.mod_eq_of_lt h1]
    exact Nat.and_two_pow_sub_one_eq_mod c.toNat k
  show IntKind.u8.wrap (((BitVec.ofInt 8 (c.toNat : Int) &&& BitVec.ofInt 8 ((2 ^ k - 1 : Nat) : Int)).toNat : Nat) : Int) = _
  rw [e]
  exact wrap_lim (by simp only [lim]; have := Nat.mod_le c.toNat (2 ^ k); omega)
/-- All is let home where the disk doesn't stop. -/
theorem check_goes {K N : Nat} {j : Jr} {d : Dk} (A : Alive K N j d) (hl : d.left = -1) : (j.check d).1.e = 0 ∧ Alive K N (j.check d).1 (j.check d).2 ∧ (j.check d).2.left = -1 ∧ (j.check d).1.B = j.B ∧ (j.check d).1.seq = j.seq ∧ (j.check d).2.waits.length ≤ d.waits.length + 1 := by
  have hlk := check_like j d
  have hw := check_waits j d
  by_cases hu : j.used = 0
  · have e : j.check d = (j, d) := if_pos (.inr hu)
    rw [e]
    exact ⟨alive_e A, A, hl, rfl, rfl, Nat.le_succ _⟩
  · rcases check_alive A hu with ⟨h1, h2, h3⟩ | ⟨h1, _⟩
    · rw [h1]
      have he := alive_e A
      exact ⟨he, h2, h3 hl, rfl, rfl, hw⟩
    · exact absurd hl h1
theorem may1 {N : Nat} {a : Int} {xs : List UInt8} (h1 : 0 ≤ a) (h2 : a < N) (h4 : xs.length ≤ 96) : mayW N [(a, xs)] := by
  refine ⟨fun i hi => ?_, by show 1 ≤ 1; omega, by show 1 ≤ 100; omega⟩
  have hi : i < 1 := hi
  obtain rfl : i = 0 := by omega
  unfold goodAt
  rw [show wAt [(a, xs)] 0 = (a, xs) from rfl]
  dsimp only
  omega
theorem frzW1 {w w0 : World} {M O0 O : List Nat} {L L' : List KT} {Φ : List Fact} {q : Nat} {a : Int} {u : Value} {xs : List UInt8} (F : Fr M O0 w0 O w L Φ) (h : Sel L (2, Thing.cells q [.int .i64 a, u]) L') (hu : Bytes O w u xs) : ∃ O', Fr M O0 w0 O' w L' (Fact.rel 2 WrR (.slice (some ⟨q, 0, none⟩) 1 1) [(a, xs)] :: Φ) := by
  have F := F.asBuf (sz := 2) (m := 1) h rfl (by decide)
  have F := (F.all0 2 WrR).allSnoc (R := WrR) (y := (a, xs)) (row := [.int .i64 a, u]) ⟨_, rfl, hu⟩ rfl
  obtain ⟨O', F⟩ := F.frzRel (R := WrR) (rows := [] ++ [[Value.int .i64 a, u]]) (ys := [] ++ [(a, xs)]) rfl
  exact ⟨O', F.wkF (fun f hf => by
    rcases List.mem_cons.1 hf with rfl | hf
    · exact List.mem_cons_self
    · simp [hf])⟩
/-- What the blocks are behind changes at those places; which was the last at each. -/
def LastOk (ats : List UInt8) (L : List Nat) (B : List (List UInt8)) (i : Nat) : Prop :=
  L.length = 8 ∧ B.length = 8 ∧ ∀ k, k < 8 → L.getD k 0 ≤ i ∧ ((L.getD k 0 = 0 ∧ B.getD k [] = []) ∨ (0 < L.getD k 0 ∧ B.getD k [] = [UInt8.ofNat (L.getD k 0 - 1), ats.getD (L.getD k 0 - 1) 0] ∧ (ats.getD (L.getD k 0 - 1) 0).toNat % 8 = k))
theorem last_step {ats : List UInt8} {L : List Nat} {B : List (List UInt8)} {i : Nat} (h : LastOk ats L B i) {k : Nat} (hk : (ats.getD i 0).toNat % 8 = k) : LastOk ats (L.set k (i + 1)) (setAll B [((k : Int), [UInt8.ofNat i, ats.getD i 0])]) (i + 1) := by
  obtain ⟨h1, h2, h3⟩ := h
  have hk8 : k < 8 := by rw [← hk]; exact Nat.mod_lt _ (by omega)
  refine ⟨by rw [List.length_set]; exact h1, by rw [setAll_len]; exact h2, fun b hb => ?_⟩
  have e1 : (L.set k (i + 1)).getD b 0 = if k = b then i + 1 else L.getD b 0 := by
    rw [List.getD_eq_getElem?_getD, List.getElem?_set, List.getD_eq_getElem?_getD]
    by_cases e : k = b
    · subst e; rw [if_pos rfl, if_pos (by omega), if_pos rfl]; rfl
    · rw [if_neg e, if_neg e]
  have e2 : (setAll B [((k : Int), [UInt8.ofNat i, ats.getD i 0])]).getD b [] = if k = b then [UInt8.ofNat i, ats.getD i 0] else B.getD b [] := by
    rw [setAll_at _ _ _ (by omega)]
    show (if ((k : Nat) : Int).toNat = b then _ else _) = _
    rw [Int.toNat_natCast]
  rw [e1, e2]
  obtain ⟨g1, g2⟩ := h3 b hb
  by_cases e : k = b
  · subst e
    rw [if_pos rfl, if_pos rfl]
    exact ⟨Nat.le_refl _, .inr ⟨by omega, by rw [Nat.add_sub_cancel], by rw [Nat.add_sub_cancel]; exact hk⟩⟩
  · rw [if_neg e, if_neg e]
    exact ⟨by omega, g2⟩
theorem JournalLast_ok {w0 : World} {av cv kv : Value} {ats checks pick : List UInt8} (F : Fr [] [] w0 [] w0 [] [Fact.bytes av ats, Fact.bytes cv checks, Fact.bytes kv pick]) :
    FnC Try.prog 4 [av, cv, kv] [] [] w0 fun r O' w' => r = .bool true := by
  obtain ⟨aa, ac, rfl, _⟩ := (F.bytes (v := av)).form
  obtain ⟨ca, cc, rfl, _⟩ := (F.bytes (v := cv)).form
  obtain ⟨ka, kc, rfl, _⟩ := (F.bytes (v := kv)).form
  refine fn_of _ Try.func4 rfl (by kernel_rfl) Try.ntmps4 rfl ?_
  refine go_on ?_
  refine f_call F rfl rfl awake_c ?_ (hp := trivial)
  clear F; rintro r O w T Φ ⟨rfl, rfl, rfl⟩ F0
  refine tidy F0 (fun F => ?_); clear F0
  refine go_on ?_
  by_cases g1 : 60 < ats.length
  · refine go_on ?_
    refine go_back ?_
    exact F.law
  by_cases g2 : checks.length < ats.length
  · refine go_on ?_
    refine go_back ?_
    exact F.law
  by_cases g3 : 20 < pick.length
  · refine go_on ?_
    refine go_back ?_
    exact F.law
  refine go_on ?_
  refine f_call F rfl rfl (dnewK_c (n := 40)) ?_ (hp := ⟨by omega, by omega⟩)
  clear F; rintro r O w T Φ ⟨q, m, rfl, rfl, rfl⟩ F0
  refine tidy F0 (fun F => ?_); clear F0
  refine go_on ?_
  refine f_call F rfl rfl (jopenL_c (q := q) (m := m) (K := 6) (N := 8) (d := ⟨40, [], [], -1, false⟩)) ?_ (hp := (rdy_zero (by omega)))
  clear F; rintro r O w T Φ ⟨p, bq, v1, j1, d1, ⟨a1, a2, a3, a4, a5, a6, a7⟩, rfl, rfl, rfl⟩ F0
  refine tidy F0 (fun F => ?_); clear F0
  have a6 : d1.waits.length ≤ 200 := a6
  refine go_on ?_
  refine f_make (l := 8) (c := 8) F rfl rfl rfl (fun ql w F => ?_)
  refine go_on ?_
  have hL0 : LastOk ats (List.replicate 8 0) j1.B 0 := by
    refine ⟨rfl, by rw [a3]; rfl, fun k hk => ?_⟩
    have e1 : (List.replicate 8 0).getD k 0 = 0 := by rw [List.getD_eq_getElem?_getD, List.getElem?_replicate, if_pos hk]; rfl
    have e2 : (List.replicate 8 ([] : List UInt8)).getD k [] = [] := by rw [List.getD_eq_getElem?_getD, List.getElem?_replicate, if_pos hk]; rfl
    rw [e1, a3, e2]
    exact ⟨Nat.le_refl _, .inl ⟨rfl, rfl⟩⟩
  refine g_loop (X := Nat × Jr × Dk × Value × List Nat) (fun y => [(0, .slice aa ats.length ac), (1, .slice ca checks.length cc), (2, .slice ka pick.length kc), (8, dptr q), (10, dptr p), (12, .slice (some ⟨ql, 0, none⟩) 8 8), (13, .int .i64 y.1)])
    (fun y wr => ∃ O, Fr [] [] w0 O wr [(1, Jt p q bq y.2.1), (1, Dn q m y.2.2.2.1 y.2.2.1), (2, Thing.cells ql (y.2.2.2.2.map fun n => .int .i64 (n : Nat)))] [Fact.bytes (.slice aa ats.length ac) ats, Fact.bytes (.slice ca checks.length cc) checks, Fact.bytes (.slice ka pick.length kc) pick] ∧ y.1 ≤ ats.length ∧ Alive 6 8 y.2.1 y.2.2.1 ∧ y.2.2.1.left = -1 ∧ y.2.1.seq = y.1 ∧ y.2.2.1.waits.length ≤ 200 + 302 * y.1 ∧ LastOk ats y.2.2.2.2 y.2.1.B y.1) (fun y => ats.length - y.1) (0, j1, d1, v1, List.replicate 8 0) (sub_cons rfl rfl (sub_cons rfl rfl (sub_cons rfl rfl (sub_cons rfl rfl (sub_cons rfl rfl (sub_cons rfl rfl (sub_cons rfl rfl (sub_nil)))))))) ⟨_, (F.demote (t := Jt p q bq j1)).demote (t := Dn q m v1 d1) |>.wk, Nat.zero_le _, a1, a2, a4, by dsimp only; omega, hL0⟩ ?_
  clear F
  rintro ⟨i, j, d, v, L⟩ w ⟨O, F, hi, A, hl, hsq, hwt, hLk⟩
  dsimp only at F hi A hl hsq hwt hLk ⊢
  refine go_on ?_
  refine g_dec rfl (fun g => ?_) (fun g => ?_)
  · have hi' : i < ats.length := by omega
    have hic : i < checks.length := by omega
    have eat : ats.getD i 0 = ats[i] := by simp [List.getD_eq_getElem?_getD, hi']
    obtain ⟨k, hk⟩ : ∃ k, ats[i].toNat % 8 = k := ⟨_, rfl⟩
    have hk8 : k < 8 := by rw [← hk]; exact Nat.mod_lt _ (by omega)
    have hst := last_step hLk (k := k) (by rw [eat]; exact hk)
    rw [eat] at hst
    refine go_on ?_
    obtain ⟨x, hx9, hc⟩ := ((F.bytes (xs := ats))).atm hi'
    (first | subst hx9 | (injection hx9 with hx9; subst hx9))
    have F := F.fact (f := Fact.cell _ _) hc
    refine go_on ?_
    refine r_y (y_andI rfl rfl) rfl ?_
    have hand : andI .u8 (ats[i].toNat : Int) 7 = ((k : Nat) : Int) := by rw [← hk]; exact andB ats[i] 3 (by omega)
    rw [hand]
    refine go_on ?_
    refine f_buildSlice (cs := [_, _]) F rfl rfl rfl rfl (fun q9 w F => ?_)
    change Fr _ _ _ _ _ ((2, Thing.cells q9 (bytesV [UInt8.ofNat i, ats[i]])) :: _) _ at F
    obtain ⟨O, F⟩ := frzBy [UInt8.ofNat i, ats[i]] F Sel.here (by show 2 ≤ 1000000; omega)
    refine go_on ?_
    refine f_buildSlice (cs := [.int .i64 k, .slice (some ⟨q9, 0, none⟩) 2 2]) F rfl rfl rfl rfl (fun q8 w F => ?_)
    obtain ⟨O, F⟩ := frzW1 (xs := [UInt8.ofNat i, ats[i]]) F Sel.here (F.bytes (v := .slice (some ⟨q9, 0, none⟩) 2 2) (xs := [UInt8.ofNat i, ats[i]]))
    refine go_on ?_
    refine f_call F rfl rfl (jcommit_c (p := p) (q := q) (bq := bq) (m := m) (v0 := v) (j := j) (d := d) (l := [(((k : Nat) : Int), [UInt8.ofNat i, ats[i]])])) ?_ (hp := ⟨by omega, by show 1 ≤ 1000000; omega⟩)
    clear F; rintro r O w T Φ ⟨v2, rfl, rfl, rfl⟩ F0
    refine tidy F0 (fun F => ?_); clear F0
    have hc := commit_goes A [(((k : Nat) : Int), [UInt8.ofNat i, ats[i]])] (by omega) hl (may1 (by omega) (by omega) (by show 2 ≤ 96; omega)) (by show 1 < 6; omega)
    obtain ⟨⟨⟨j2, d2⟩, e2⟩, hx⟩ : ∃ x, j.commit d [(((k : Nat) : Int), [UInt8.ofNat i, ats[i]])] = x := ⟨_, rfl⟩
    rw [hx] at hc F ⊢
    dsimp only at hc F ⊢
    obtain ⟨rfl, b1, b2, b3, b4, b5, b6, b7⟩ := hc
    rw [← b3] at hst
    refine go_on ?_
    refine f_store1 (cs := L.map fun n => .int .i64 (n : Nat)) (i := k) F rfl rfl rfl (fun w F => ?_) (hc := .any) (hi := by rw [List.length_map, hLk.1]; exact hk8)
    have ems : (L.map fun n => Value.int .i64 (n : Nat)).set k (.int .i64 ((i + 1 : Nat) : Int)) = (L.set k (i + 1)).map fun n => Value.int .i64 (n : Nat) := by rw [List.map_set]
    have F : Fr _ _ _ _ _ ((2, Thing.cells ql ((L.map fun n => Value.int .i64 (n : Nat)).set k (.int .i64 ((i + 1 : Nat) : Int)))) :: _) _ := F
    rw [ems] at F
    refine go_on ?_
    obtain ⟨x, hx9, hc⟩ := ((F.bytes (xs := checks))).atm hic
    (first | subst hx9 | (injection hx9 with hx9; subst hx9))
    have F := F.fact (f := Fact.cell _ _) hc
    refine go_on ?_
    refine r_y (y_andI rfl rfl) rfl ?_
    generalize andI .u8 (checks[i].toNat : Int) 3 = c3
    by_cases g5 : c3 = 0
    · refine go_on ?_
      refine f_call F rfl rfl (jcheck_c (p := p) (q := q) (bq := bq) (m := m) (j := j2) (d := d2)) ?_ (hp := (by omega))
      clear F; rintro r O w T Φ ⟨v3, rfl, rfl, rfl⟩ F0
      refine tidy F0 (fun F => ?_); clear F0
      obtain ⟨f1, f2, f3, f4, f5, f6⟩ := check_goes b1 b2
      rw [f1]
      refine go_on ?_
      exact e_round (i + 1, (j2.check d2).1, (j2.check d2).2, v3, L.set k (i + 1)) (sub_cons rfl rfl (sub_cons rfl rfl (sub_cons rfl rfl (sub_cons rfl rfl (sub_cons rfl rfl (sub_cons rfl rfl (sub_cons rfl rfl (sub_nil)))))))) ⟨_, F.wk, by dsimp only; omega, f2, f3, by dsimp only; omega, by dsimp only; omega, by dsimp only; rw [f4]; exact hst⟩ (by simp only; omega)
    · refine go_on ?_
      exact e_round (i + 1, j2, d2, v2, L.set k (i + 1)) (sub_cons rfl rfl (sub_cons rfl rfl (sub_cons rfl rfl (sub_cons rfl rfl (sub_cons rfl rfl (sub_cons rfl rfl (sub_cons rfl rfl (sub_nil)))))))) ⟨_, F.wk, by dsimp only; omega, b1, b2, by dsimp only; omega, by dsimp only; omega, hst⟩ (by simp only; omega)
  · obtain rfl : ats.length = i := by omega
    refine go_on ?_
    refine f_call F rfl rfl (dcrash_c (p := q) (m := m) (v := v) (d := d) (pick := pick)) ?_ (hp := ⟨by omega, by omega⟩)
    clear F; rintro r O w T Φ ⟨rfl, rfl⟩ F0
    refine tidy F0 (fun F => ?_); clear F0
    refine go_on ?_
    refine f_call F rfl rfl (jopenL_c (q := q) (m := m) (K := 6) (N := 8) (d := d.crash pick)) ?_ (hp := (rdy_crash A (by omega) pick))
    clear F; rintro r O w T Φ ⟨p3, bq3, v3, j3, d3, ⟨c1, c2, c3, c4, c5, c6, c7⟩, rfl, rfl, rfl⟩ F0
    refine tidy F0 (fun F => ?_); clear F0
    rw [hsq] at c4
    rw [← c3] at hLk
    refine go_on ?_
    refine f_call F rfl rfl (jseq_c (p := p3) (q := q) (bq := bq3) (j := j3)) ?_ (hp := trivial)
    clear F; rintro r O w T Φ ⟨rfl, rfl, rfl⟩ F0
    refine tidy F0 (fun F => ?_); clear F0
    rw [c4]
    refine go_on ?_
    have F := F.wk (L2 := [(1, Jt p3 q bq3 j3), (2, Thing.cells ql (L.map fun n => .int .i64 (n : Nat)))]) (Φ2 := [])
    refine g_loop (X := Nat) (fun k => [(10, dptr p3), (12, .slice (some ⟨ql, 0, none⟩) 8 8), (15, .int .i64 k)])
      (fun k wr => ∃ O, Fr [] [] w0 O wr [(1, Jt p3 q bq3 j3), (2, Thing.cells ql (L.map fun n => .int .i64 (n : Nat)))] [] ∧ k ≤ 8) (fun k => 8 - k) 0 (sub_cons rfl rfl (sub_cons rfl rfl (sub_cons rfl rfl (sub_nil)))) ⟨_, F, Nat.zero_le _⟩ ?_
    clear F
    rintro k w ⟨O, F, hk⟩
    refine go_on ?_
    refine g_dec rfl (fun g4 => ?_) (fun g4 => ?_)
    · have hk' : k < 8 := by omega
      obtain ⟨l1, l2⟩ := hLk.2.2 k hk'
      obtain ⟨n, hn⟩ : ∃ n, L.getD k 0 = n := ⟨_, rfl⟩
      have hv : (L.map fun n => Value.int .i64 (n : Nat))[k]? = some (.int .i64 n) := by
        have : L[k]? = some n := by rw [← hn]; simp [List.getD_eq_getElem?_getD, hLk.1, hk']
        simp [this]
      rw [hn] at l1 l2
      refine go_on ?_
      refine f_call F rfl rfl (jread_c (p := p3) (q := q) (bq := bq3) (j := j3) (i := ((k : Nat) : Int))) ?_ (hp := trivial)
      clear F; rintro r O w T Φ ⟨rfl, rfl⟩ F0
      refine tidy F0 (fun F => ?_); clear F0
      rw [rdB_nat (by rw [hLk.2.1]; exact hk')] at F
      rcases l2 with ⟨rfl, h0⟩ | ⟨h0, h5, h6⟩
      · rw [h0] at F
        obtain ⟨O, F⟩ := F.frzB
        obtain ⟨ra, rc, hr9, _⟩ := (F.bytes (v := r) (xs := [])).form
        have hr9 : r = .slice ra 0 rc := hr9
        subst hr9
        refine go_on ?_
        refine f_draw [(2, Thing.cells ql _)] F [] [(0, true), (1, true), (2, true), (3, true), (4, true), (5, true), (6, true), (7, true), (8, true), (9, true), (10, true), (11, true), (12, true), (13, true), (14, true), (15, true), (16, true), (17, true), (18, true), (19, true), (20, true), (21, true), (22, true), (23, true), (24, true), (25, true), (26, true), (27, true), (28, true), (29, true), (30, true), (31, true), (32, true), (33, true), (34, true), (35, true), (36, true), (37, true), (38, true), (39, true), (40, true), (41, true), (42, true)] (by kernel_rfl) (by kernel_rfl) (fun w F hS => ?_); refine go_look ?_
        refine rd_open rfl ?_; (first | refine ro_n ?_ | refine ro_g rfl rfl ?_); refine rx_y rfl (fun _ hw => y_loadS rfl hw Sel.here hv) (by assumption) ?_; refine go_look ?_
        refine rd_open rfl ?_; (first | refine ro_n ?_ | refine ro_g rfl rfl ?_); refine rx_y rfl (fun _ hw => y_loadS rfl hw Sel.here hv) (by assumption) ?_; refine go_look ?_
        refine rd_done ?_; refine go_on ?_
        exact e_round (k + 1) (sub_cons rfl rfl (sub_cons rfl rfl (sub_cons rfl rfl (sub_nil)))) ⟨_, F.wk, by omega⟩ (by omega)
      · rw [h5] at F
        obtain ⟨O, F⟩ := F.frzB
        obtain ⟨n', rfl⟩ : ∃ n', n = n' + 1 := ⟨n - 1, by omega⟩
        rw [Nat.add_sub_cancel] at h6
        obtain ⟨ch, hch⟩ : ∃ ch, ats.getD n' 0 = ch := ⟨_, rfl⟩
        rw [Nat.add_sub_cancel, hch] at F
        rw [hch] at h6
        obtain ⟨ra, rc, hr9, _⟩ := (F.bytes (v := r) (xs := [UInt8.ofNat n', ch])).form
        have hr9 : r = .slice ra 2 rc := hr9
        subst hr9
        obtain ⟨x2, rfl, hc0⟩ := (F.bytes (v := .slice ra 2 rc) (xs := [UInt8.ofNat n', ch])).atm (show 0 < 2 by omega)
        obtain ⟨x3, hx3, hc1⟩ := (F.bytes (v := .slice (some x2) 2 rc) (xs := [UInt8.ofNat n', ch])).atm (show 1 < 2 by omega)
        injection hx3 with hx3
        subst hx3
        have hc0 : Cell O w (x2.add 0) (byteV (UInt8.ofNat n')) := hc0
        have hc1 : Cell O w (x2.add 1) (byteV ch) := hc1
        have F := (F.fact (f := Fact.cell _ _) hc0).fact (f := Fact.cell _ _) hc1
        refine go_on ?_
        refine f_draw [(2, Thing.cells ql _)] F [] [(0, true), (1, true), (2, true), (3, true), (4, true), (5, true), (6, true), (7, true), (8, true), (9, true), (10, true), (11, true), (12, true), (13, true), (14, true), (15, true), (16, true), (17, true), (18, true), (19, true), (20, true), (21, true), (22, true), (23, true), (24, true), (25, true), (26, true), (27, true), (28, true), (29, true), (30, true), (31, true), (32, true), (33, true), (34, true), (35, true), (36, true), (37, true), (38, true), (39, true), (40, true), (41, true), (42, true)] (by kernel_rfl) (by kernel_rfl) (fun w F hS => ?_); refine go_look ?_
        refine rd_open rfl ?_; (first | refine ro_n ?_ | refine ro_g rfl rfl ?_); refine rx_y rfl (fun _ hw => y_loadS rfl hw Sel.here hv) (by assumption) ?_; refine go_look ?_
        refine rd_open rfl ?_; (first | refine ro_n ?_ | refine ro_g rfl rfl ?_); refine rx_y rfl (fun _ hw => y_loadS rfl hw Sel.here hv) (by assumption) ?_; refine go_look ?_
        refine rd_open rfl ?_; (first | refine ro_n ?_ | refine ro_g rfl rfl ?_); refine rx_y rfl (fun _ hw => y_loadS rfl hw Sel.here hv) (by assumption) ?_; refine go_look ?_
        rw [show (((n' + 1 : Nat) : Int) - 1) = ((n' : Nat) : Int) from by omega]
        refine go_look ?_
        refine rd_open rfl ?_; (first | refine ro_n ?_ | refine ro_g rfl rfl ?_); refine rx_y rfl (fun _ hw => y_andI rfl rfl) (by assumption) ?_; refine go_look ?_
        rw [show andI .u8 (ch.toNat : Int) 7 = ((k : Nat) : Int) from by rw [← h6]; exact andB ch 3 (by omega)]
        refine go_look ?_
        refine rd_done ?_; refine go_on ?_
        exact e_round (k + 1) (sub_cons rfl rfl (sub_cons rfl rfl (sub_cons rfl rfl (sub_nil)))) ⟨_, F.wk, by omega⟩ (by omega)
    · refine go_on ?_
      refine go_back ?_
      exact F.law
theorem JournalLast_true {w : World} {v0 v1 v2 : Value} (r0 : Reads Try.prog w 22 [v0]) (r1 : Reads Try.prog w 22 [v1]) (r2 : Reads Try.prog w 22 [v2]) :
    FnC Try.prog 4 [v0, v1, v2] [] [] w fun r O' w' => r = .bool true := by
  obtain ⟨a, ha, _⟩ := reads_bytes r0
  obtain ⟨c, hc, _⟩ := reads_bytes r1
  obtain ⟨b, hb, _⟩ := reads_bytes r2
  exact JournalLast_ok ((((Fr.start OK_nil).fact (f := Fact.bytes v2 b) hb).fact (f := Fact.bytes v1 c) hc).fact (f := Fact.bytes v0 a) ha)
end Go.Proofs.Ytmohjmfcbhpldaa
