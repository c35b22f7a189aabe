/- A journal is opened: the walk. -/
import Derived.Test.YtmohjmfcbhpldaaJopen
namespace Go.Proofs.Ytmohjmfcbhpldaa
open Gk Go
set_option linter.unusedVariables false
set_option maxHeartbeats 4000000
set_option maxRecDepth 4000
set_option linter.unusedSimpArgs false
attribute [local irreducible] Int.decLt Int.decLe Int.decEq Int.instDecidableEq Gk.Rnds Gk.E Gk.G Gk.R Gk.RD Gk.RX Gk.RO Gk.Y Gk.Ent Gk.Sat Gk.Round Gk.After Gk.Cell Gk.Sl Gk.SlA Gk.CB Gk.OK Gk.FnC Gk.Bytes Gk.BytesL Gk.StrL Gk.Buf Gk.MapI
def openArgs (d : Dk) (log n : Int) : Prop := 4 ≤ log ∧ log ≤ 200 ∧ 1 ≤ n ∧ n ≤ 400 ∧ 1 + log + n ≤ (d.n : Int)
theorem jopenE_c {q m : Nat} {v0 : Value} {d : Dk} {log n : Int} (h : ¬ openArgs d log n) : Con Try.prog 11 [dptr q, .int .i64 log, .int .i64 n] [Dn q m v0 d] [] [] fun r T Φ => r = .tuple #[.pointer none, .int .i64 1] ∧ T = [Dn q m v0 d] ∧ Φ = [] := by
  unfold openArgs at h
  refine con_of (fun O0 w0 F => ?_)
  refine tidy F (fun F => ?_)
  refine fn_ofM _ Try.func11 rfl (by kernel_rfl) Try.ntmps11 rfl ?_
  by_cases a1 : log < 4
  · refine go_on ?_
    refine g_ret ?_
    (repeat (first | refine e_then_ret ?_ | refine e_block_ret ?_))
    refine e_leave (.inl rfl) ?_
    refine go_back ?_
    exact F.fin ⟨rfl, rfl, rfl⟩
  by_cases a2 : 200 < log
  · refine go_on ?_
    refine g_ret ?_
    (repeat (first | refine e_then_ret ?_ | refine e_block_ret ?_))
    refine e_leave (.inl rfl) ?_
    refine go_back ?_
    exact F.fin ⟨rfl, rfl, rfl⟩
  by_cases a3 : n < 1
  · refine go_on ?_
    refine g_ret ?_
    (repeat (first | refine e_then_ret ?_ | refine e_block_ret ?_))
    refine e_leave (.inl rfl) ?_
    refine go_back ?_
    exact F.fin ⟨rfl, rfl, rfl⟩
  by_cases a4 : 400 < n
  · refine go_on ?_
    refine g_ret ?_
    (repeat (first | refine e_then_ret ?_ | refine e_block_ret ?_))
    refine e_leave (.inl rfl) ?_
    refine go_back ?_
    exact F.fin ⟨rfl, rfl, rfl⟩
  · refine go_on ?_
    refine f_call F rfl rfl (dlen_c (p := q) (m := m) (d := d)) ?_ (hp := trivial)
    clear F; rintro r O w T Φ ⟨rfl, rfl, rfl⟩ F0
    refine tidy F0 (fun F => ?_); clear F0
    refine go_on ?_
    refine g_ret ?_
    (repeat (first | refine e_then_ret ?_ | refine e_block_ret ?_))
    refine e_leave (.inl rfl) ?_
    refine go_back ?_
    exact F.fin ⟨rfl, rfl, rfl⟩
theorem jopenD_c {q m : Nat} {v0 : Value} {d : Dk} {log n : Int} (h : openArgs d log n ∧ d.down = true) : Con Try.prog 11 [dptr q, .int .i64 log, .int .i64 n] [Dn q m v0 d] [] [] fun r T Φ => r = .tuple #[.pointer none, .int .i64 20] ∧ T = [Dn q m v0 d] ∧ Φ = [] := by
  obtain ⟨⟨a1, a2, a3, a4, a5⟩, h2⟩ := h
  refine con_of (fun O0 w0 F => ?_)
  refine tidy F (fun F => ?_)
  refine fn_ofM _ Try.func11 rfl (by kernel_rfl) Try.ntmps11 rfl ?_
  · refine go_on ?_
    refine f_call F rfl rfl (dlen_c (p := q) (m := m) (d := d)) ?_ (hp := trivial)
    clear F; rintro r O w T Φ ⟨rfl, rfl, rfl⟩ F0
    refine tidy F0 (fun F => ?_); clear F0
    refine go_on ?_
    refine f_call F rfl rfl (ddown_c (p := q) (m := m) (d := d)) ?_ (hp := trivial)
    clear F; rintro r O w T Φ ⟨rfl, rfl, rfl⟩ F0
    refine tidy F0 (fun F => ?_); clear F0
    rw [h2]
    refine go_on ?_
    refine g_ret ?_
    (repeat (first | refine e_then_ret ?_ | refine e_block_ret ?_))
    refine e_leave (.inl rfl) ?_
    refine go_back ?_
    exact F.fin ⟨rfl, rfl, rfl⟩
theorem rep_bodies {O : List Nat} {w : World} (n : Nat) : All2 (Bytes O w) (List.replicate n (.slice none 0 0)) (List.replicate n []) := by
  induction n with
  | zero => exact trivial
  | succ n ih => exact ⟨Bytes.nil, ih⟩
theorem jopen_c {q m : Nat} {v0 : Value} {d : Dk} {log n : Nat} (h : openArgs d log n ∧ d.down = false ∧ d.waits.length ≤ 900000) : Con Try.prog 11 [dptr q, .int .i64 log, .int .i64 n] [Dn q m v0 d] [] [] fun r T Φ =>
    ∃ p bq v' ss jr ks, redo d 200 (openA d log n) [] = (jr, ks) ∧ (∀ x, x ∈ ss ↔ x ∈ ks) ∧ ss.length ≤ ks.length ∧ r = .tuple #[dptr p, .int .i64 0] ∧ T = [Jt p q bq (homeAll ss (jr, d)).1, Dn q m v' (homeAll ss (jr, d)).2] ∧ Φ = [] := by
  obtain ⟨⟨a1, a2, a3, a4, a5⟩, h2, hw⟩ := h
  refine con_of (fun O0 w0 F => ?_)
  refine tidy F (fun F => ?_)
  refine fn_ofM _ Try.func11 rfl (by kernel_rfl) Try.ntmps11 rfl ?_
  refine go_on ?_
  refine f_call F rfl rfl (dlen_c (p := q) (m := m) (d := d)) ?_ (hp := trivial)
  clear F; rintro r O w T Φ ⟨rfl, rfl, rfl⟩ F0
  refine tidy F0 (fun F => ?_); clear F0
  refine go_on ?_
  refine f_call F rfl rfl (ddown_c (p := q) (m := m) (d := d)) ?_ (hp := trivial)
  clear F; rintro r O w T Φ ⟨rfl, rfl, rfl⟩ F0
  refine tidy F0 (fun F => ?_); clear F0
  rw [h2]
  refine go_on ?_
  refine f_make (l := n) (c := n) F rfl rfl rfl (fun bq w F => ?_)
  refine go_on ?_
  (first | refine f_box1 F rfl rfl (fun p w F => ?_) | refine f_boxN F rfl rfl (fun p w F => ?_)); refine go_on ?_
  have F := F.fact (f := Fact.bodies (List.replicate n (.slice none 0 0)) (opB d log n 0)) (rep_bodies n)
  have hok : ∀ i, Jr.ok ⟨log, opB d log n i, 0, 0, 0, 0⟩ := fun i => ⟨by show 4 ≤ log; omega, by show log ≤ 200; omega, by show (opB d log n i).length ≤ 400; rw [opB_len]; omega, (by decide : (0 : Nat) < 18446744073709551616), by show 0 < log; omega, Nat.zero_le _, Nat.zero_le _, opB_all d log n i⟩
  have hln : ∀ i, (opB d log n i).length = n := opB_len d log n
  change Fr _ _ _ _ _ ((2, Thing.cells p [dptr q, .int .i64 log, .slice (some ⟨bq, 0, none⟩) n n, .int .u64 (0 : Nat), .int .i64 (0 : Nat), .int .i64 (0 : Nat), .int .i64 (0 : Nat)]) :: _) _ at F
  have hjc : ∀ i, jcells q bq ⟨log, opB d log n i, 0, 0, 0, 0⟩ = [dptr q, .int .i64 log, .slice (some ⟨bq, 0, none⟩) n n, .int .u64 (0 : Nat), .int .i64 (0 : Nat), .int .i64 (0 : Nat), .int .i64 (0 : Nat)] := fun i => by
    unfold jcells
    rw [hln]
  rw [← hjc 0] at F
  have F := mkJ ⟨log, opB d log n 0, 0, 0, 0, 0⟩ F (hok 0) (vs := List.replicate n (.slice none 0 0))
  refine g_loop (X := Nat) (fun i => [(0, dptr q), (1, .int .i64 log), (2, .int .i64 n), (8, dptr p), (56, .int .i64 n), (57, .int .i64 i)])
    (fun i wr => ∃ O, Fr ([Dn q m v0 d].flatMap (·.bs)) O0 w0 O wr [(2, Jt p q bq ⟨log, opB d log n i, 0, 0, 0, 0⟩), (1, Dn q m v0 d)] [] ∧ i ≤ n) (fun i => n - i) 0 (sub_cons rfl rfl (sub_cons rfl rfl (sub_cons rfl rfl (sub_cons rfl rfl (sub_cons rfl rfl (sub_cons rfl rfl (sub_nil))))))) ⟨_, F.wk, Nat.zero_le _⟩ ?_
  clear F
  rintro i w ⟨O, F, hi⟩
  refine go_on ?_
  refine g_dec rfl (fun g => ?_) (fun g => ?_)
  · have hi' : i < n := by omega
    obtain ⟨f, hf⟩ : ∃ f, d.fm (1 + (log : Int) + (i : Int)) = f := ⟨_, rfl⟩
    obtain ⟨is, his⟩ : ∃ is, d.is (1 + (log : Int) + (i : Int)) 1 = is := ⟨_, rfl⟩
    have hfit := secGet_fit (d.rd (1 + (log : Int) + (i : Int)))
    change (d.fm (1 + (log : Int) + (i : Int))).adr < _ ∧ (d.fm (1 + (log : Int) + (i : Int))).seq < _ ∧ (d.fm (1 + (log : Int) + (i : Int))).count < _ ∧ (d.fm (1 + (log : Int) + (i : Int))).index < _ ∧ (d.fm (1 + (log : Int) + (i : Int))).body.length ≤ _ at hfit
    rw [hf] at hfit
    obtain ⟨k1, k2, k3, k4, k5⟩ := hfit
    have hho : homeOk d log i ↔ (is = true ∧ f.adr = i ∧ f.body.length ≤ 96) := by
      unfold homeOk
      rw [hf, his]
    refine go_on ?_
    refine f_call F rfl rfl (jget_c (p := p) (q := q) (bq := bq) (m := m) (kind := 1) (j := ⟨log, opB d log n i, 0, 0, 0, 0⟩) (d := d) (i := 1 + (log : Int) + (i : Int))) ?_ (hp := (by omega))
    clear F; rintro r O w T Φ ⟨u, rfl, rfl, rfl⟩ F0
    refine tidy F0 (fun F => ?_); clear F0
    rw [hf] at F ⊢
    rw [his]
    obtain ⟨ua, uc, rfl, _⟩ := (F.bytes (v := u) (xs := f.body)).form
    refine go_on ?_
    (first | refine f_alloc1 F rfl (fun z w F => ?_) | refine f_allocN F rfl (fun z w F => ?_)); refine go_on ?_
    refine f_storeAll F rfl rfl rfl (fun w F => ?_); refine go_on ?_
    apply f_and 7 77 70 F
    · exact rfl
    · intro e; have e' := e; (try simp only [Bool.and_eq_true, Bool.or_eq_true, decide_eq_true_eq, decide_eq_false_iff_not, Bool.not_eq_true', Bool.or_eq_false_iff, Bool.not_eq_false', Bool.and_eq_false_iff] at e'); refine go_on ?_; refine e_cut rfl rfl (by (repeat (first | exact sub_refl | refine sub_new rfl ?_ | refine sub_bool rfl (by assumption) ?_))) (by (first | exact ⟨_, F⟩ | exact ⟨_, F.wk⟩))
    · intro e; have e' := e; (try simp only [Bool.and_eq_true, Bool.or_eq_true, decide_eq_true_eq, decide_eq_false_iff_not, Bool.not_eq_true', Bool.or_eq_false_iff, Bool.not_eq_false', Bool.and_eq_false_iff] at e'); refine go_on ?_; refine e_cut rfl rfl (by (repeat (first | exact sub_refl | refine sub_new rfl ?_ | refine sub_bool rfl (by assumption) ?_))) (by (first | exact ⟨_, F⟩ | exact ⟨_, F.wk⟩))
    intro O w F; refine go_on ?_
    apply f_and 5 83 78 F
    · exact rfl
    · intro e; have e' := e; (try simp only [Bool.and_eq_true, Bool.or_eq_true, decide_eq_true_eq, decide_eq_false_iff_not, Bool.not_eq_true', Bool.or_eq_false_iff, Bool.not_eq_false', Bool.and_eq_false_iff] at e'); refine go_on ?_; refine e_cut rfl rfl (by (repeat (first | exact sub_refl | refine sub_new rfl ?_ | refine sub_bool rfl (by assumption) ?_))) (by (first | exact ⟨_, F⟩ | exact ⟨_, F.wk⟩))
    · intro e; have e' := e; (try simp only [Bool.and_eq_true, Bool.or_eq_true, decide_eq_true_eq, decide_eq_false_iff_not, Bool.not_eq_true', Bool.or_eq_false_iff, Bool.not_eq_false', Bool.and_eq_false_iff] at e'); refine go_on ?_; refine e_cut rfl rfl (by (repeat (first | exact sub_refl | refine sub_new rfl ?_ | refine sub_bool rfl (by assumption) ?_))) (by (first | exact ⟨_, F⟩ | exact ⟨_, F.wk⟩))
    intro O w F; refine go_on ?_
    refine g_cond rfl (fun g2 => ?_) (fun g2 => ?_)
    · have hh : homeOk d log i := by
        rw [hho]
        simp only [Bool.and_eq_true, decide_eq_true_eq] at g2
        exact ⟨g2.1.1, by omega, by omega⟩
      have hB : opB d log n (i + 1) = (opB d log n i).set i f.body := by rw [opB, if_pos hh, hf]
      obtain ⟨vs, hvl, _, F⟩ := openJ F
      rw [hjc] at F
      refine go_on ?_
      refine f_draw [(2, Thing.cells p _), (2, Thing.cells z _)] F [] [(0, true), (1, true), (2, true), (3, true), (4, true), (5, true), (6, true), (7, true), (8, false)] (by kernel_rfl) (by kernel_rfl) (fun w F hS => ?_); refine go_look ?_
      have F := bodySetF i F (v := .slice ua f.body.length uc) (b := f.body)
      dsimp only at F
      rw [← hB] at F
      refine rd_do rfl ?_; (try refine r_go rfl rfl ?_)
      refine f_store1 (cs := vs) (i := i) F rfl rfl rfl (fun w F => ?_) (hc := .any) (hi := by dsimp only at hvl; rw [hvl, hln]; exact hi')
      (try refine r_nil ?_); refine e_afterF F (fun hS => ?_); refine go_look ?_
      refine rd_done ?_; refine go_on ?_
      rw [← hjc (i + 1)] at F
      have F := mkJ ⟨log, opB d log n (i + 1), 0, 0, 0, 0⟩ F (hok (i + 1)) (vs := vs.set i (.slice ua f.body.length uc))
      exact e_round (i + 1) (sub_cons rfl rfl (sub_cons rfl rfl (sub_cons rfl rfl (sub_cons rfl rfl (sub_cons rfl rfl (sub_cons rfl rfl (sub_nil))))))) ⟨_, F.wk, by omega⟩ (by omega)
    · have hh : ¬ homeOk d log i := by
        rw [hho]
        simp only [Bool.and_eq_false_iff, decide_eq_false_iff_not] at g2
        rintro ⟨b1, b2, b3⟩
        rcases g2 with (g2 | g2) | g2
        · rw [b1] at g2; cases g2
        · omega
        · omega
      have hB : opB d log n (i + 1) = opB d log n i := by rw [opB, if_neg hh]
      refine go_on ?_
      exact e_round (i + 1) (sub_cons rfl rfl (sub_cons rfl rfl (sub_cons rfl rfl (sub_cons rfl rfl (sub_cons rfl rfl (sub_cons rfl rfl (sub_nil))))))) ⟨_, by rw [hB]; exact F.wk, by omega⟩ (by omega)
  · obtain rfl : n = i := by omega
    clear hi g
    obtain ⟨f, hf⟩ : ∃ f, d.fm 0 = f := ⟨_, rfl⟩
    obtain ⟨is, his⟩ : ∃ is, d.is 0 4 = is := ⟨_, rfl⟩
    have hfit := secGet_fit (d.rd 0)
    change (d.fm 0).adr < _ ∧ (d.fm 0).seq < _ ∧ (d.fm 0).count < _ ∧ (d.fm 0).index < _ ∧ (d.fm 0).body.length ≤ _ at hfit
    rw [hf] at hfit
    obtain ⟨k1, k2, k3, k4, k5⟩ := hfit
    have hsu : superOk d log ↔ (is = true ∧ f.adr < log) := by
      unfold superOk
      rw [hf, his]
    have hA : openA d log n = if superOk d log then ⟨log, opB d log n n, f.seq, f.adr, 0, 0⟩ else ⟨log, opB d log n n, 0, 0, 0, 0⟩ := by
      rw [← hf]; rfl
    refine go_on ?_
    refine f_call F rfl rfl (jget_c (p := p) (q := q) (bq := bq) (m := m) (kind := 4) (j := ⟨log, opB d log n n, 0, 0, 0, 0⟩) (d := d) (i := 0)) ?_ (hp := (by omega))
    clear F; rintro r O w T Φ ⟨u, rfl, rfl, rfl⟩ F0
    refine tidy F0 (fun F => ?_); clear F0
    rw [hf] at F ⊢
    rw [his]
    obtain ⟨ua, uc, rfl, _⟩ := (F.bytes (v := u) (xs := f.body)).form
    refine go_on ?_
    (first | refine f_alloc1 F rfl (fun z w F => ?_) | refine f_allocN F rfl (fun z w F => ?_)); refine go_on ?_
    refine f_storeAll F rfl rfl rfl (fun w F => ?_); refine go_on ?_
    apply f_and 7 106 99 F
    · exact rfl
    · intro e; have e' := e; (try simp only [Bool.and_eq_true, Bool.or_eq_true, decide_eq_true_eq, decide_eq_false_iff_not, Bool.not_eq_true', Bool.or_eq_false_iff, Bool.not_eq_false', Bool.and_eq_false_iff] at e'); refine go_on ?_; refine e_cut rfl rfl (by (repeat (first | exact sub_refl | refine sub_new rfl ?_ | refine sub_bool rfl (by assumption) ?_))) (by (first | exact ⟨_, F⟩ | exact ⟨_, F.wk⟩))
    · intro e; have e' := e; (try simp only [Bool.and_eq_true, Bool.or_eq_true, decide_eq_true_eq, decide_eq_false_iff_not, Bool.not_eq_true', Bool.or_eq_false_iff, Bool.not_eq_false', Bool.and_eq_false_iff] at e'); refine go_on ?_; refine e_cut rfl rfl (by (repeat (first | exact sub_refl | refine sub_new rfl ?_ | refine sub_bool rfl (by assumption) ?_))) (by (first | exact ⟨_, F⟩ | exact ⟨_, F.wk⟩))
    intro O w F; refine go_on ?_
    apply e_join (X := Unit) (fun _ => [(8, dptr p)])
      (fun _ w => ∃ O, Fr ([Dn q m v0 d].flatMap (·.bs)) O0 w0 O w [(2, Jt p q bq (openA d log n)), (1, Dn q m v0 d)] [])
    · intro K
      refine g_cond rfl (fun g2 => ?_) (fun g2 => ?_)
      · have hh : superOk d log := by
          rw [hsu]
          simp only [Bool.and_eq_true, decide_eq_true_eq] at g2
          exact ⟨g2.1, by omega⟩
        rw [if_pos hh] at hA
        have hok2 : (openA d log n).ok := by
          rw [hA]
          rw [hsu] at hh
          exact ⟨by show 4 ≤ log; omega, by show log ≤ 200; omega, by show (opB d log n n).length ≤ 400; rw [opB_len]; omega, k2, hh.2, Nat.zero_le _, Nat.zero_le _, opB_all d log n n⟩
        obtain ⟨vs, hvl, _, F⟩ := openJ F
        rw [hjc] at F
        refine go_on ?_
        refine f_draw [(2, Thing.cells z _)] F [] [(0, true), (1, true), (2, true), (3, true), (4, true), (5, true), (6, true), (7, true), (8, true), (9, false), (10, true), (11, true), (12, false)] (by kernel_rfl) (by kernel_rfl) (fun w F hS => ?_); refine go_look ?_
        refine rd_do rfl ?_; (try refine r_go rfl rfl ?_)
        refine f_store1 F rfl rfl rfl (fun w F => ?_)
        (try refine r_nil ?_); refine e_afterF F (fun hS => ?_); refine go_look ?_
        refine rd_do rfl ?_; (try refine r_go rfl rfl ?_)
        refine f_store1 F rfl rfl rfl (fun w F => ?_)
        (try refine r_nil ?_); refine e_afterF F (fun hS => ?_); refine go_look ?_
        refine rd_done ?_
        have hjc2 : jcells q bq (openA d log n) = [dptr q, .int .i64 log, .slice (some ⟨bq, 0, none⟩) n n, .int .u64 f.seq, .int .i64 f.adr, .int .i64 (0 : Nat), .int .i64 (0 : Nat)] := by
          rw [hA]
          unfold jcells
          rw [hln]
        have hB2 : (openA d log n).B = opB d log n n := by rw [hA]
        have F : Fr _ O0 w0 _ _ ((2, Thing.cells p [dptr q, .int .i64 log, .slice (some ⟨bq, 0, none⟩) n n, .int .u64 f.seq, .int .i64 f.adr, .int .i64 (0 : Nat), .int .i64 (0 : Nat)]) :: _) _ := F
        rw [← hjc2] at F
        dsimp only at F
        rw [← hB2] at F
        have F := mkJ (openA d log n) F hok2 (vs := vs)
        exact K () _ _ ⟨_, F.wk⟩ (sub_cons rfl rfl (sub_nil))
      · have hh : ¬ superOk d log := by
          rw [hsu]
          simp only [Bool.and_eq_false_iff, decide_eq_false_iff_not] at g2
          rintro ⟨b1, b2⟩
          rcases g2 with g2 | g2
          · rw [b1] at g2; cases g2
          · omega
        rw [if_neg hh] at hA
        rw [← hA] at F
        refine g_skip ?_
        exact K () _ _ ⟨_, F.wk⟩ (sub_cons rfl rfl (sub_nil))
    rintro - w ⟨O, F⟩
    have hAl : (openA d log n).log = log ∧ (openA d log n).used = 0 ∧ (openA d log n).B.length = n ∧ (openA d log n).place < log := by
      rw [hA]
      split
      · rename_i hh
        rw [hsu] at hh
        exact ⟨rfl, rfl, hln n, hh.2⟩
      · exact ⟨rfl, rfl, hln n, by show 0 < log; omega⟩
    refine go_on ?_
    refine f_makeMap .i64 F rfl (fun mm w F => ?_)
    have F := Fr.told0 F
    have F := F.demote (t := Jt p q bq (openA d log n))
    refine go_on ?_
    refine g_loop (X := Nat × Jr × List Int) (fun y => [(8, dptr p), (14, .map (some mm))])
      (fun y wr => ∃ O, Fr ([Dn q m v0 d].flatMap (·.bs)) O0 w0 O wr [(1, Jt p q bq y.2.1), (2, Thing.told mm y.2.2), (1, Dn q m v0 d)] [] ∧ redo d 200 (openA d log n) [] = redo d (200 - y.1) y.2.1 y.2.2 ∧ 2 * y.1 ≤ y.2.1.used ∧ y.2.2.length ≤ y.2.1.used ∧ y.2.1.log = log ∧ y.2.1.used ≤ log ∧ y.2.1.B.length = n ∧ ∀ x ∈ y.2.2, 0 ≤ x ∧ x < n) (fun y => 200 - y.1) (0, openA d log n, []) (sub_cons rfl rfl (sub_cons rfl rfl (sub_nil))) ⟨_, F.wk, rfl, by rw [hAl.2.1]; exact Nat.zero_le _, Nat.zero_le _, hAl.1, by rw [hAl.2.1]; exact Nat.zero_le _, hAl.2.2.1, fun x hx => by cases hx⟩ ?_
    clear F
    rintro ⟨i, j, ks⟩ w ⟨O, F, hre, hu1, hu2, hlg, hu3, hB, hks⟩
    dsimp only at F hre hu1 hu2 hlg hu3 hB hks ⊢
    refine go_on ?_
    refine f_call F rfl rfl (change_c (p := p) (q := q) (bq := bq) (m := m) (v := v0) (j := j) (d := d)) ?_ (hp := (by omega))
    clear F; rintro r O w T Φ ⟨lv, rfl, rfl, rfl⟩ F0
    refine tidy F0 (fun F => ?_); clear F0
    obtain ⟨l, b, hch⟩ : ∃ l b, j.change d = (l, b) := ⟨_, _, rfl⟩
    have hgood := change_good (j := j) (d := d)
    rw [hch] at F hgood ⊢
    dsimp only at F hgood ⊢
    obtain ⟨la, lc, rfl, _⟩ := (F.rel (v := lv) (R := WrR) (ys := l)).form
    refine go_on ?_
    cases b with
    | true =>
      obtain ⟨hg1, hg2, hg3⟩ := hgood rfl
      have hst : redo d (200 - i) j ks = redo d (200 - (i + 1)) (j.on l) (ks ++ l.map (·.1)) := by
        rw [show 200 - i = (200 - (i + 1)) + 1 from by omega, redo, hch]
        exact if_pos rfl
      refine go_on ?_
      refine f_call F rfl rfl (on_c (p := p) (q := q) (bq := bq) (j := j) (l := l)) ?_ (hp := ⟨hg3, hg1⟩)
      clear F; rintro r O w T Φ ⟨rfl, rfl⟩ F0
      refine tidy F0 (fun F => ?_); clear F0
      refine go_on ?_
      refine g_loop (X := Nat) (fun k => [(8, dptr p), (14, .map (some mm)), (129, .slice la l.length lc), (130, .int .i64 l.length), (131, .int .i64 k)])
        (fun k wr => ∃ O, Fr ([Dn q m v0 d].flatMap (·.bs)) O0 w0 O wr [(1, Jt p q bq (j.on l)), (2, Thing.told mm (ks ++ (l.take k).map (·.1))), (1, Dn q m v0 d)] [Fact.rel 2 WrR (.slice la l.length lc) l] ∧ k ≤ l.length) (fun k => l.length - k) 0 (sub_cons rfl rfl (sub_cons rfl rfl (sub_cons rfl rfl (sub_cons rfl rfl (sub_cons rfl rfl (sub_nil)))))) ⟨_, by simp only [List.take_zero, List.map_nil, List.append_nil]; exact F.wk, Nat.zero_le _⟩ ?_
      clear F
      rintro k w ⟨O, F, hk⟩
      refine go_on ?_
      refine g_dec rfl (fun g => ?_) (fun g => ?_)
      · have hk' : k < l.length := by omega
        have hgk := hg1 _ (List.getElem_mem hk')
        obtain ⟨x, row, rfl, hrl, ⟨bv, rfl, hbv⟩, hrow⟩ := (F.rel (R := WrR) (ys := l)).elem hk'
        obtain ⟨va, vc, rfl, _⟩ := hbv.form
        have F := (F.factB hbv).fact hrow
        have htk : ks ++ (l.take (k + 1)).map (·.1) = (ks ++ (l.take k).map (·.1)) ++ [l[k].1] := by
          rw [List.take_succ_eq_append_getElem hk', List.map_append, List.append_assoc]; rfl
        refine go_on ?_
        (first | refine f_alloc1 F rfl (fun z2 w F => ?_) | refine f_allocN F rfl (fun z2 w F => ?_)); refine go_on ?_
        refine f_storeAll F rfl rfl rfl (fun w F => ?_); refine go_on ?_
        refine f_toldPut (ks := ks ++ (l.take k).map (·.1)) F rfl rfl rfl rfl (by omega) (by rw [List.length_append, List.length_map, List.length_take]; omega) (fun w F => ?_)
        rw [← htk] at F
        refine go_on ?_
        exact e_round (k + 1) (sub_cons rfl rfl (sub_cons rfl rfl (sub_cons rfl rfl (sub_cons rfl rfl (sub_cons rfl rfl (sub_nil)))))) ⟨_, F.wk, by omega⟩ (by omega)
      · obtain rfl : k = l.length := by omega
        rw [List.take_length] at F
        refine go_on ?_
        refine e_round (i + 1, j.on l, ks ++ l.map (·.1)) (sub_cons rfl rfl (sub_cons rfl rfl (sub_nil))) ⟨_, F.wk, hre.trans hst, ?_, ?_, hlg, ?_, ?_, ?_⟩ (by simp only; omega)
        · show 2 * (i + 1) ≤ j.used + (l.length + 1); omega
        · show (ks ++ l.map (·.1)).length ≤ j.used + (l.length + 1); simp; omega
        · show j.used + (l.length + 1) ≤ log; omega
        · show (setAll j.B l).length = n; rw [setAll_len]; exact hB
        · intro x hx
          rcases List.mem_append.1 hx with hx | hx
          · exact hks x hx
          · obtain ⟨y, hy, rfl⟩ := List.mem_map.1 hx
            have := (hg1 y hy).1
            omega
    | false =>
      have hst : redo d (200 - i) j ks = (j, ks) := by
        rw [show 200 - i = (200 - (i + 1)) + 1 from by omega, redo, hch]
        exact if_neg (fun h => by cases h)
      have hrf := hre.trans hst
      refine go_on ?_
      refine f_call F rfl rfl (keys_c (m := mm)) ?_ (hp := trivial)
      clear F; rintro r O w T Φ ⟨kb, rfl, rfl, rfl⟩ F0
      refine tidy F0 (fun F => ?_); clear F0
      refine go_on ?_
      refine f_call F rfl rfl (sorted_c (m := mm) (b := kb) (ks := ks)) ?_ (hp := (by omega))
      clear F; rintro r O w T Φ ⟨ss, hss, hsl, rfl, rfl⟩ F0
      refine tidy F0 (fun F => ?_); clear F0
      obtain ⟨ra, rc, rfl, _⟩ := (F.bufAt (v := r)).form
      obtain ⟨O, F⟩ := F.frzBuf
      refine go_on ?_
      refine g_loop (X := Nat × Value) (fun y => [(8, dptr p), (141, .slice ra ss.length rc), (142, .int .i64 ss.length), (143, .int .i64 y.1)])
        (fun y wr => ∃ O, Fr ([Dn q m v0 d].flatMap (·.bs)) O0 w0 O wr [(1, Jt p q bq (homeAll (ss.take y.1) (j, d)).1), (1, Dn q m y.2 (homeAll (ss.take y.1) (j, d)).2)] [Fact.sl (.slice ra ss.length rc) ss.length (ss.map fun x => .int .i64 x)] ∧ y.1 ≤ ss.length) (fun y => ss.length - y.1) (0, v0) (sub_cons rfl rfl (sub_cons rfl rfl (sub_cons rfl rfl (sub_cons rfl rfl (sub_nil))))) ⟨_, F.wk, Nat.zero_le _⟩ ?_
      clear F
      rintro ⟨k, vk⟩ w ⟨O, F, hk⟩
      dsimp only at F hk ⊢
      refine go_on ?_
      refine g_dec rfl (fun g => ?_) (fun g => ?_)
      · have hk' : k < ss.length := by omega
        have hx := hks _ ((hss _).1 (List.getElem_mem hk'))
        obtain ⟨k2, hk2⟩ : ∃ k2 : Nat, ss[k] = k2 := ⟨ss[k].toNat, by omega⟩
        have htk : homeAll (ss.take (k + 1)) (j, d) = (homeAll (ss.take k) (j, d)).1.home (homeAll (ss.take k) (j, d)).2 k2 := by
          rw [List.take_succ_eq_append_getElem hk', homeAll_snoc, hk2]; rfl
        have hwk := homeAll_waits (ss.take k) (j, d)
        have hlk := homeAll_like (ss.take k) (j, d)
        have htl : (ss.take k).length ≤ ss.length := by rw [List.length_take]; omega
        dsimp only at hwk hlk
        refine go_on ?_
        obtain ⟨x, hx9, hc⟩ := ((F.sl (cs := ss.map fun x => .int .i64 x))).atm hk'
        (first | subst hx9 | (injection hx9 with hx9; subst hx9))
        have F := F.fact (f := Fact.cell _ _) hc
        refine go_on ?_
        rw [hk2]
        refine f_call F rfl rfl (jhome_c (p := p) (q := q) (bq := bq) (m := m) (i := k2) (j := (homeAll (ss.take k) (j, d)).1) (d := (homeAll (ss.take k) (j, d)).2)) ?_ (hp := ⟨by omega, by rw [hlk.1.2.2.2]; omega⟩)
        clear F; rintro r O w T Φ ⟨v5, rfl, rfl⟩ F0
        refine tidy F0 (fun F => ?_); clear F0
        rw [← htk] at F
        refine go_on ?_
        exact e_round (k + 1, v5) (sub_cons rfl rfl (sub_cons rfl rfl (sub_cons rfl rfl (sub_cons rfl rfl (sub_nil))))) ⟨_, F.wk, by dsimp only; omega⟩ (by simp only; omega)
      · obtain rfl : k = ss.length := by omega
        rw [List.take_length] at F
        refine go_on ?_
        refine g_ret ?_
        (repeat (first | refine e_then_ret ?_ | refine e_block_ret ?_))
        refine e_leave (.inl rfl) ?_
        refine go_back ?_
        exact F.fin ⟨p, bq, _, ss, j, ks, hrf, hss, hsl, rfl, rfl, rfl⟩
end Go.Proofs.Ytmohjmfcbhpldaa
