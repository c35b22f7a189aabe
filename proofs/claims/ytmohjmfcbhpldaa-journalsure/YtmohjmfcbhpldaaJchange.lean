/- A change that stands in the log. -/
import Derived.Test.YtmohjmfcbhpldaaJframes
import Derived.Test.YtmohjmfcbhpldaaGkScope
namespace Go.Proofs.Ytmohjmfcbhpldaa
open Gk Go
set_option linter.unusedVariables false
set_option maxHeartbeats 4000000
set_option maxRecDepth 4000
set_option linter.unusedSimpArgs false
attribute [local irreducible] Int.decLt Int.decLe Int.decEq Int.instDecidableEq Gk.Rnds Gk.E Gk.G Gk.R Gk.RD Gk.RX Gk.RO Gk.Y Gk.Ent Gk.Sat Gk.Round Gk.After Gk.Cell Gk.Sl Gk.SlA Gk.CB Gk.OK Gk.FnC Gk.Bytes Gk.BytesL Gk.StrL Gk.Buf Gk.MapI
def Jr.chAt (j : Jr) (i : Nat) : Int := ((1 + (j.place + i) % j.log : Nat) : Int)
def Jr.chBad (j : Jr) (d : Dk) (i cnt : Nat) : Prop :=
  d.is (j.chAt i) 2 = false ∨ (d.fm (j.chAt i)).seq ≠ (j.seq + 1) % 18446744073709551616 ∨ (d.fm (j.chAt i)).index ≠ i ∨ (d.fm (j.chAt i)).count < 1 ∨ (0 < i ∧ (d.fm (j.chAt i)).count ≠ cnt) ∨ j.B.length ≤ (d.fm (j.chAt i)).adr ∨ 96 < (d.fm (j.chAt i)).body.length
instance Jr.chBadDec (j : Jr) (d : Dk) (i cnt : Nat) : Decidable (j.chBad d i cnt) := by unfold Jr.chBad; infer_instance
def Jr.chGo (j : Jr) (d : Dk) : Nat → Nat → Nat → List (Int × List UInt8) → Option (List (Int × List UInt8) × Nat)
  | 0, _, cnt, out => some (out, cnt)
  | k + 1, i, cnt, out => if 0 < i ∧ i = cnt then some (out, cnt) else if j.chBad d i cnt then none else j.chGo d k (i + 1) (d.fm (j.chAt i)).count (out ++ [(((d.fm (j.chAt i)).adr : Int), (d.fm (j.chAt i)).body)])
def Jr.chEnd (j : Jr) (d : Dk) (cnt : Nat) : Bool :=
  d.is (j.chAt cnt) 3 && decide ((d.fm (j.chAt cnt)).seq = (j.seq + 1) % 18446744073709551616) && decide ((d.fm (j.chAt cnt)).index = cnt) && decide ((d.fm (j.chAt cnt)).count = cnt) && decide ((d.fm (j.chAt cnt)).adr = 0) && decide ((d.fm (j.chAt cnt)).body.length = 0)
def Jr.change (j : Jr) (d : Dk) : List (Int × List UInt8) × Bool :=
  match j.chGo d (j.log - j.used) 0 0 [] with
  | none => ([], false)
  | some (out, cnt) => if out.length = 0 ∨ out.length ≠ cnt ∨ j.log - j.used ≤ cnt then ([], false) else (out, j.chEnd d cnt)

theorem secGet_fit (b : List UInt8) : (secGet b).1.adr < 4294967296 ∧ (secGet b).1.seq < 18446744073709551616 ∧ (secGet b).1.count < 256 ∧ (secGet b).1.index < 256 ∧ (secGet b).1.body.length ≤ 1000 := by
  have hz : Fm.zero.adr < 4294967296 ∧ Fm.zero.seq < 18446744073709551616 ∧ Fm.zero.count < 256 ∧ Fm.zero.index < 256 ∧ Fm.zero.body.length ≤ 1000 := by decide
  unfold secGet
  split
  · exact hz
  · split
    · exact hz
    · split
      · exact hz
      · rename_i h1 h2 h3
        have h4 : bat b 3 ≤ 108 := by
          unfold secBad at h3
          omega
        have h5 : b.length = 128 := by omega
        refine ⟨Nat.lt_of_lt_of_le (numB_lt _) (by rw [cutB_len (by omega)]; decide), Nat.lt_of_lt_of_le (numB_lt _) (by rw [cutB_len (by omega)]; decide), bat_lt _ _, bat_lt _ _, ?_⟩
        show (cutB b 16 (16 + bat b 3)).length ≤ 1000
        rw [cutB_len (by omega)]
        omega

theorem decN (a b : Nat) : decide ((a : Int) = (b : Int)) = decide (a = b) := by rw [decide_eq_decide]; omega

structure ChX where
  cnt : Nat
  v : Value
  rows : List (List Value)
  out : List (Int × List UInt8)

section
variable {P : Program} {w w0 : World} {M O0 O : List Nat} {L L' : List KT} {Φ : List Fact} {ρ : Env}
theorem res_oneF {a T j p : Nat} {v : Value} [hT : TOne P T] (h : ρ.get a = some (.pointer (some ⟨p, 0, none⟩))) (F : Fr M O0 w0 O w L Φ)
    (hs : Sel L (j, Thing.cells p [v]) L' := by (repeat (first | exact Sel.here | apply Sel.there))) : ResIs P w ρ (.cell a T) v := res_one h (F.th _ hs.mem)
end

theorem change_c {p q bq m : Nat} {v : Value} {j : Jr} {d : Dk} (h : d.waits.length ≤ 1000000) : Con Try.prog 26 [dptr p] [Jt p q bq j, Dn q m v d] [] [] fun r T Φ => ∃ lv, r = .tuple #[lv, .bool (j.change d).2] ∧ T = [Jt p q bq j, Dn q m v d] ∧ Φ = [Fact.rel 2 WrR lv (j.change d).1] := by
  refine con_of (fun O0 w0 F => ?_)
  refine tidy F (fun F => ?_)
  refine fn_ofM _ Try.func26 rfl (by kernel_rfl) Try.ntmps26 rfl ?_
  refine go_on ?_
  (first | refine f_box1 F rfl rfl (fun q1 w F => ?_) | refine f_boxN F rfl rfl (fun q1 w F => ?_)); refine go_on ?_
  (first | refine f_alloc1 F rfl (fun q2 w F => ?_) | refine f_allocN F rfl (fun q2 w F => ?_)); refine go_on ?_
  (first | refine f_alloc1 F rfl (fun q3 w F => ?_) | refine f_allocN F rfl (fun q3 w F => ?_)); refine go_on ?_
  refine g_scope ?_
  refine go_on ?_
  (first | refine f_alloc1 F rfl (fun q4 w F => ?_) | refine f_allocN F rfl (fun q4 w F => ?_)); refine go_on ?_
  (first | refine f_alloc1 F rfl (fun q5 w F => ?_) | refine f_allocN F rfl (fun q5 w F => ?_)); refine go_on ?_
  refine f_store1 F rfl rfl rfl (fun w F => ?_); refine go_on ?_
  (try refine g_label ?_)
  obtain ⟨vs, hvl, hj, F⟩ := openJ F
  obtain ⟨h1, h2, h3, h4, h5, h6, h7, h8⟩ := id hj
  unfold jcells at F
  refine go_on ?_
  refine f_draw [(2, Thing.cells q1 _), (1, Thing.cells p _)] F [] [(0, true), (1, true), (2, true), (3, true), (4, true), (5, true), (6, true), (7, true), (8, true), (9, true), (10, false)] (by kernel_rfl) (by kernel_rfl) (fun w F hS => ?_); refine go_look ?_
  rw [show ((j.log : Int) - (j.used : Int)) = ((j.log - j.used : Nat) : Int) from by omega]
  refine rd_do rfl ?_
  (try refine r_go rfl rfl ?_)
  refine f_call F rfl rfl (frames_c (many := j.log - j.used)) ?_ (hp := trivial)
  clear F; rintro r O w T Φ ⟨b1, b2, rfl, rfl, rfl⟩ F0
  refine tidy F0 (fun F => ?_); clear F0
  refine r_nil ?_; refine e_afterF F (fun hS => ?_); refine go_look ?_
  refine rd_done ?_; refine go_on ?_
  have F := mkJ j F hj (vs := vs)
  have F := (F.nilbuf 2).all0 2 WrR
  generalize hN : j.log - j.used = N at F ⊢
  refine g_rangeC F rfl (fun l k w r0 e1 e2 e3 e4 e5 e6 e7 F => ?_)
  apply e_join (X := Unit) (fun _ => [(1, .pointer (some ⟨q1, 0, none⟩)), (2, .pointer (some ⟨q2, 0, none⟩)), (3, .pointer (some ⟨q3, 0, none⟩)), (4, .pointer (some ⟨q4, 0, none⟩)), (5, .pointer (some ⟨q5, 0, none⟩))])
    (fun _ w => ∃ O, ∃ cnt : Nat, ∃ yv rows out, Fr ([Jt p q bq j, Dn q m v d].flatMap (·.bs)) O0 w0 O w [(1, Jt p q bq j), (1, Thing.cells q5 [.int .i64 cnt]), (1, Thing.cells q4 [yv]), (2, Thing.buf 2 yv out.length rows.flatten), (1, Thing.cells q1 [dptr p]), (1, Thing.cells q2 [.slice none 0 0]), (1, Thing.cells q3 [.bool false]), (1, Dn q m v d), (2, Thing.dfr k)] [Fact.all 2 WrR rows out] ∧ j.chGo d N 0 0 [] = some (out, cnt))
  intro K
  refine range_use (frames1_c (X := ChX) (S := ChX × Bool) (l := l) (p := p) (q := q) (bq := bq) (many := N) (log := j.log) (place := j.place) (jx := fun _ => j)
    (J := fun y => [Thing.loop l r0, Thing.cells q5 [.int .i64 y.cnt], Thing.cells q4 [y.v], Thing.buf 2 y.v y.out.length y.rows.flatten, Thing.cells q1 [dptr p], Thing.cells q2 [.slice none 0 0], Thing.cells q3 [.bool false], Dn q m v d])
    (JF := fun y => [Fact.all 2 WrR y.rows y.out]) (JP := fun i y => y.out.length = i ∧ j.chGo d N 0 0 [] = j.chGo d (N - i) i y.cnt y.out)
    (SJ := fun s => [Jt p q bq j, Thing.loop l { r0 with state := .done, pending := some (cond s.2 (.exit 0) .ret) }, Thing.cells q5 [.int .i64 s.1.cnt], Thing.cells q4 [s.1.v], Thing.buf 2 s.1.v s.1.out.length s.1.rows.flatten, Thing.cells q1 [dptr p], Thing.cells q2 [.slice none 0 0], Thing.cells q3 [.bool false], Dn q m v d])
    (SF := fun s => [Fact.all 2 WrR s.1.rows s.1.out]) (SP := fun s => j.chGo d N 0 0 [] = cond s.2 (some (s.1.out, s.1.cnt)) none)
    (x0 := ⟨0, .slice none 0 0, [], []⟩) ?_ (fun _ _ _ => ⟨rfl, rfl⟩) ⟨rfl, rfl⟩ (by omega)) F (fun r O w T Φ hK F => ?_)
  · rintro i ⟨cnt, yv, rows, out⟩ hi ⟨ho, hg⟩
    dsimp only at ho hg ⊢
    refine ycon_of (ps := [23, 24]) e3 rfl e6 rfl e7 (by simp) (fun O w F => ?_)
    rw [e4, e5]
    refine tidy F (fun F => ?_)
    refine go_on ?_
    refine e_begin F (by (repeat (first | exact Sel.here | apply Sel.there))) (.inl rfl) e1 (fun w F => ?_)
    refine go_on ?_
    obtain ⟨f, hf⟩ : ∃ f, d.fm (j.chAt i) = f := ⟨_, rfl⟩
    obtain ⟨is, his⟩ : ∃ is, d.is (j.chAt i) 2 = is := ⟨_, rfl⟩
    have hfit := secGet_fit (d.rd (j.chAt i))
    change (d.fm (j.chAt i)).adr < _ ∧ (d.fm (j.chAt i)).seq < _ ∧ (d.fm (j.chAt i)).count < _ ∧ (d.fm (j.chAt i)).index < _ ∧ (d.fm (j.chAt i)).body.length ≤ _ at hfit
    rw [hf] at hfit
    obtain ⟨k1, k2, k3, k4, k5⟩ := hfit
    refine f_call F rfl rfl (jget_c (p := p) (q := q) (bq := bq) (m := m) (kind := 2) (j := j) (d := d) (i := j.chAt i)) ?_ (hp := h)
    clear F; rintro r O w T Φ ⟨u, rfl, rfl, rfl⟩ F0
    refine tidy F0 (fun F => ?_); clear F0
    rw [hf] at F ⊢
    rw [his]
    obtain ⟨ua, uc, rfl, _⟩ := (F.bytes (v := u) (xs := f.body)).form
    refine go_on ?_
    (first | refine f_alloc1 F rfl (fun z w F => ?_) | refine f_allocN F rfl (fun z w F => ?_)); refine go_on ?_
    refine f_storeAll F rfl rfl rfl (fun w F => ?_); refine go_on ?_
    apply f_and 4 38 34 F
    · exact rfl
    · intro e; have e' := e; (try simp only [Bool.and_eq_true, Bool.or_eq_true, decide_eq_true_eq, decide_eq_false_iff_not, Bool.not_eq_true', Bool.or_eq_false_iff, Bool.not_eq_false', Bool.and_eq_false_iff] at e'); refine go_on ?_; refine e_cut rfl rfl (by (repeat (first | exact sub_refl | refine sub_new rfl ?_ | refine sub_bool rfl (by assumption) ?_))) (by (first | exact ⟨_, F⟩ | exact ⟨_, F.wk⟩))
    · intro e; have e' := e; (try simp only [Bool.and_eq_true, Bool.or_eq_true, decide_eq_true_eq, decide_eq_false_iff_not, Bool.not_eq_true', Bool.or_eq_false_iff, Bool.not_eq_false', Bool.and_eq_false_iff] at e'); refine go_on ?_; refine e_cut rfl rfl (by (repeat (first | exact sub_refl | refine sub_new rfl ?_ | refine sub_bool rfl (by assumption) ?_))) (by (first | exact ⟨_, F⟩ | exact ⟨_, F.wk⟩))
    intro O w F; refine go_on ?_
    refine g_cond rfl (fun g => ?_) (fun g => ?_)
    · simp only [Bool.and_eq_true, decide_eq_true_eq] at g
      refine go_on ?_
      refine e_round_end (some (.exit 0)) (.inr (.inr ⟨0, rfl, rfl⟩)) F (by (repeat (first | exact Sel.here | apply Sel.there))) (.inl rfl) (fun w F => ?_)
      have hstep : j.chGo d (N - i) i cnt out = some (out, cnt) := by
        rw [show N - i = (N - i - 1) + 1 from by omega, Jr.chGo, if_pos (by omega)]
      simp only [Option.isNone_some, Bool.false_eq_true, if_false] at F
      rw [e4, e5] at F
      exact F.fin (.inr ⟨(⟨cnt, yv, rows, out⟩, true), rfl, hg.trans hstep, rfl, rfl⟩)
    · have hng : ¬ (0 < i ∧ i = cnt) := by
        rintro ⟨a1, a2⟩
        simp only [Bool.and_eq_false_iff, decide_eq_false_iff_not] at g
        omega
      have hbad : j.chBad d i cnt ↔ (is = false ∨ f.seq ≠ (j.seq + 1) % 18446744073709551616 ∨ f.index ≠ i ∨ f.count < 1 ∨ (0 < i ∧ f.count ≠ cnt) ∨ j.B.length ≤ f.adr ∨ 96 < f.body.length) := by
        unfold Jr.chBad
        rw [hf, his]
      obtain ⟨vs, hvl, hj, F⟩ := openJ F
      unfold jcells at F
      refine go_on ?_
      refine f_draw [(2, Thing.cells z _), (1, Thing.cells q1 _), (1, Thing.cells p _), (1, Thing.cells q5 _)] F [] [(0, true), (1, true), (2, true), (3, true), (4, true), (5, true), (6, true), (7, true), (8, true), (9, true), (10, true), (11, true), (12, true), (13, true), (14, true), (15, true), (16, true), (17, true), (18, true), (19, true), (20, true), (21, true), (22, true), (23, true), (24, true), (25, true), (26, true), (27, true), (28, true), (29, true), (30, true), (31, true), (32, true), (33, true), (34, true), (35, true), (36, true), (37, true), (38, true), (39, true), (40, true), (41, true), (42, true), (43, true), (44, true), (45, true), (46, true), (47, true), (48, true), (49, true), (50, true), (51, true)] (by kernel_rfl) (by kernel_rfl) (fun w F hS => ?_); refine go_look ?_
      apply rd_or 9 51 42
      · exact rfl
      · intro e K; have e' := e; (try simp only [Bool.and_eq_true, Bool.or_eq_true, decide_eq_true_eq, decide_eq_false_iff_not, Bool.not_eq_true', Bool.or_eq_false_iff, Bool.not_eq_false', Bool.and_eq_false_iff] at e'); refine go_look1 ?_; refine go_look1 ?_; refine go_look1 ?_; refine go_look1 ?_; refine go_look1 ?_; refine go_look1 ?_; refine rd_open rfl ?_; (first | refine ro_n ?_ | refine ro_g rfl rfl ?_); refine rx_y rfl (fun _ hw => y_addM (k := .u64) (a := j.seq) (b := 1) rfl rfl rfl) (by assumption) ?_; refine go_look1 ?_; refine go_look1 ?_; exact K _ (by exact rfl) (by (repeat (first | exact sub_refl | refine sub_new rfl ?_ | refine sub_bool rfl (by assumption) ?_)))
      · intro e K; have e' := e; (try simp only [Bool.and_eq_true, Bool.or_eq_true, decide_eq_true_eq, decide_eq_false_iff_not, Bool.not_eq_true', Bool.or_eq_false_iff, Bool.not_eq_false', Bool.and_eq_false_iff] at e'); refine go_look1 ?_; refine go_look1 ?_; refine go_look1 ?_; refine go_look1 ?_; refine go_look1 ?_; refine go_look1 ?_; refine go_look1 ?_; refine go_look1 ?_; refine go_look1 ?_; exact K _ (by exact rfl) (by (repeat (first | exact sub_refl | refine sub_new rfl ?_ | refine sub_bool rfl (by assumption) ?_)))
      refine go_look ?_
      apply rd_or 5 57 52
      · exact rfl
      · intro e K; have e' := e; (try simp only [Bool.and_eq_true, Bool.or_eq_true, decide_eq_true_eq, decide_eq_false_iff_not, Bool.not_eq_true', Bool.or_eq_false_iff, Bool.not_eq_false', Bool.and_eq_false_iff] at e'); refine go_look1 ?_; refine go_look1 ?_; refine go_look1 ?_; refine go_look1 ?_; refine go_look1 ?_; exact K _ (by exact rfl) (by (repeat (first | exact sub_refl | refine sub_new rfl ?_ | refine sub_bool rfl (by assumption) ?_)))
      · intro e K; have e' := e; (try simp only [Bool.and_eq_true, Bool.or_eq_true, decide_eq_true_eq, decide_eq_false_iff_not, Bool.not_eq_true', Bool.or_eq_false_iff, Bool.not_eq_false', Bool.and_eq_false_iff] at e'); refine go_look1 ?_; refine go_look1 ?_; refine go_look1 ?_; refine go_look1 ?_; refine go_look1 ?_; exact K _ (by exact rfl) (by (repeat (first | exact sub_refl | refine sub_new rfl ?_ | refine sub_bool rfl (by assumption) ?_)))
      refine go_look ?_
      apply rd_or 4 62 58
      · exact rfl
      · intro e K; have e' := e; (try simp only [Bool.and_eq_true, Bool.or_eq_true, decide_eq_true_eq, decide_eq_false_iff_not, Bool.not_eq_true', Bool.or_eq_false_iff, Bool.not_eq_false', Bool.and_eq_false_iff] at e'); refine go_look1 ?_; refine go_look1 ?_; refine go_look1 ?_; refine go_look1 ?_; exact K _ (by exact rfl) (by (repeat (first | exact sub_refl | refine sub_new rfl ?_ | refine sub_bool rfl (by assumption) ?_)))
      · intro e K; have e' := e; (try simp only [Bool.and_eq_true, Bool.or_eq_true, decide_eq_true_eq, decide_eq_false_iff_not, Bool.not_eq_true', Bool.or_eq_false_iff, Bool.not_eq_false', Bool.and_eq_false_iff] at e'); refine go_look1 ?_; refine go_look1 ?_; refine go_look1 ?_; refine go_look1 ?_; exact K _ (by exact rfl) (by (repeat (first | exact sub_refl | refine sub_new rfl ?_ | refine sub_bool rfl (by assumption) ?_)))
      refine go_look ?_
      apply rd_or 9 72 63
      · exact rfl
      · intro e K; have e' := e; (try simp only [Bool.and_eq_true, Bool.or_eq_true, decide_eq_true_eq, decide_eq_false_iff_not, Bool.not_eq_true', Bool.or_eq_false_iff, Bool.not_eq_false', Bool.and_eq_false_iff] at e'); refine go_look1 ?_; refine go_look1 ?_; refine go_look1 ?_; 
        apply rd_and 5 71 66
        · exact rfl
        · intro e2 K2; refine go_look1 ?_; refine go_look1 ?_; refine go_look1 ?_; refine go_look1 ?_; refine go_look1 ?_; exact K2 _ (by exact rfl) (by (repeat (first | exact sub_refl | refine sub_new rfl ?_ | refine sub_bool rfl (by assumption) ?_)))
        · intro e2 K2; refine go_look1 ?_; refine go_look1 ?_; refine go_look1 ?_; refine go_look1 ?_; refine go_look1 ?_; exact K2 _ (by exact rfl) (by (repeat (first | exact sub_refl | refine sub_new rfl ?_ | refine sub_bool rfl (by assumption) ?_)))
        refine go_look1 ?_; exact K _ (by exact rfl) (by (repeat (first | exact sub_refl | refine sub_new rfl ?_ | refine sub_bool rfl (by assumption) ?_)))
      · intro e K; have e' := e; (try simp only [Bool.and_eq_true, Bool.or_eq_true, decide_eq_true_eq, decide_eq_false_iff_not, Bool.not_eq_true', Bool.or_eq_false_iff, Bool.not_eq_false', Bool.and_eq_false_iff] at e'); refine go_look1 ?_; refine go_look1 ?_; refine go_look1 ?_; refine go_look1 ?_; refine go_look1 ?_; refine go_look1 ?_; refine go_look1 ?_; refine go_look1 ?_; refine go_look1 ?_; exact K _ (by exact rfl) (by (repeat (first | exact sub_refl | refine sub_new rfl ?_ | refine sub_bool rfl (by assumption) ?_)))
      refine go_look ?_
      apply rd_or 11 84 73
      · exact rfl
      · intro e K; have e' := e; (try simp only [Bool.and_eq_true, Bool.or_eq_true, decide_eq_true_eq, decide_eq_false_iff_not, Bool.not_eq_true', Bool.or_eq_false_iff, Bool.not_eq_false', Bool.and_eq_false_iff] at e'); refine go_look1 ?_; refine go_look1 ?_; refine go_look1 ?_; refine go_look1 ?_; refine go_look1 ?_; refine go_look1 ?_; refine go_look1 ?_; refine go_look1 ?_; refine go_look1 ?_; refine go_look1 ?_; refine go_look1 ?_; exact K _ (by exact rfl) (by (repeat (first | exact sub_refl | refine sub_new rfl ?_ | refine sub_bool rfl (by assumption) ?_)))
      · intro e K; have e' := e; (try simp only [Bool.and_eq_true, Bool.or_eq_true, decide_eq_true_eq, decide_eq_false_iff_not, Bool.not_eq_true', Bool.or_eq_false_iff, Bool.not_eq_false', Bool.and_eq_false_iff] at e'); refine go_look1 ?_; refine go_look1 ?_; refine go_look1 ?_; refine go_look1 ?_; refine go_look1 ?_; refine go_look1 ?_; refine go_look1 ?_; refine go_look1 ?_; refine go_look1 ?_; refine go_look1 ?_; refine go_look1 ?_; exact K _ (by exact rfl) (by (repeat (first | exact sub_refl | refine sub_new rfl ?_ | refine sub_bool rfl (by assumption) ?_)))
      refine go_look ?_
      apply rd_or 5 90 85
      · exact rfl
      · intro e K; have e' := e; (try simp only [Bool.and_eq_true, Bool.or_eq_true, decide_eq_true_eq, decide_eq_false_iff_not, Bool.not_eq_true', Bool.or_eq_false_iff, Bool.not_eq_false', Bool.and_eq_false_iff] at e'); refine go_look1 ?_; refine go_look1 ?_; refine go_look1 ?_; refine go_look1 ?_; refine go_look1 ?_; exact K _ (by exact rfl) (by (repeat (first | exact sub_refl | refine sub_new rfl ?_ | refine sub_bool rfl (by assumption) ?_)))
      · intro e K; have e' := e; (try simp only [Bool.and_eq_true, Bool.or_eq_true, decide_eq_true_eq, decide_eq_false_iff_not, Bool.not_eq_true', Bool.or_eq_false_iff, Bool.not_eq_false', Bool.and_eq_false_iff] at e'); refine go_look1 ?_; refine go_look1 ?_; refine go_look1 ?_; refine go_look1 ?_; refine go_look1 ?_; exact K _ (by exact rfl) (by (repeat (first | exact sub_refl | refine sub_new rfl ?_ | refine sub_bool rfl (by assumption) ?_)))
      refine go_look ?_
      refine rd_done ?_; refine go_on ?_
      have F := mkJ j F hj (vs := vs)
      refine g_cond rfl (fun g9 => ?_) (fun g9 => ?_)
      · have hb : j.chBad d i cnt := by
          rw [hbad]
          simp only [Bool.and_eq_true, Bool.or_eq_true, decide_eq_true_eq, Bool.not_eq_true', decide_eq_false_iff_not] at g9
          simp only [lim] at g9
          rcases g9 with ((((((g9 | g9) | g9) | g9) | g9) | g9) | g9)
          · exact .inl g9
          · exact .inr (.inl (by omega))
          · exact .inr (.inr (.inl (by omega)))
          · exact .inr (.inr (.inr (.inl (by omega))))
          · exact .inr (.inr (.inr (.inr (.inl (by omega)))))
          · exact .inr (.inr (.inr (.inr (.inr (.inl (by omega))))))
          · exact .inr (.inr (.inr (.inr (.inr (.inr (by omega))))))
        have hstep : j.chGo d (N - i) i cnt out = none := by
          rw [show N - i = (N - i - 1) + 1 from by omega, Jr.chGo, if_neg hng, if_pos hb]
        refine go_on ?_
        refine f_store1 F rfl rfl rfl (fun w F => ?_); refine go_on ?_
        refine f_store1 F rfl rfl rfl (fun w F => ?_); refine go_on ?_
        refine g_ret ?_
        (repeat (first | refine e_then_ret ?_ | refine e_block_ret ?_))
        refine e_round_end (some .ret) (.inr (.inl ⟨rfl, rfl⟩)) F (by (repeat (first | exact Sel.here | apply Sel.there))) (.inl rfl) (fun w F => ?_)
        simp only [Option.isNone_some, Bool.false_eq_true, if_false] at F
        rw [e4, e5] at F
        exact F.fin (.inr ⟨(⟨cnt, yv, rows, out⟩, false), rfl, hg.trans hstep, rfl, rfl⟩)
      · have hb : ¬ j.chBad d i cnt := by
          rw [hbad]
          simp only [Bool.and_eq_false_iff, Bool.or_eq_false_iff, decide_eq_false_iff_not, Bool.not_eq_false', decide_eq_true_eq] at g9
          simp only [lim] at g9
          obtain ⟨⟨⟨⟨⟨⟨a1, a2⟩, a3⟩, a4⟩, a5⟩, a6⟩, a7⟩ := g9
          rw [a1]
          simp only [Bool.true_eq_false, false_or]
          omega
        have hb' := hb
        rw [hbad] at hb'
        have hstep : j.chGo d (N - i) i cnt out = j.chGo d (N - (i + 1)) (i + 1) f.count (out ++ [((f.adr : Int), f.body)]) := by
          rw [show N - i = (N - (i + 1)) + 1 from by omega, Jr.chGo, if_neg hng, if_neg hb, hf]
        refine go_on ?_
        refine f_store1 F rfl rfl rfl (fun w F => ?_); refine go_on ?_
        refine f_buildSlice (cs := [.int .i64 f.adr, .slice ua f.body.length uc]) F rfl rfl rfl rfl (fun q9 w F => ?_)
        refine go_on ?_
        refine f_append F rfl rfl rfl (F.srcRow) (fun r w O F => ?_); refine go_on ?_
        obtain ⟨ra, rc, rfl, _⟩ := (F.bufAt (v := r)).form
        refine go_on ?_
        refine f_store1 F rfl rfl rfl (fun w F => ?_); refine go_on ?_
        have F := F.allSnoc (R := WrR) (y := ((f.adr : Int), f.body)) (row := [.int .i64 f.adr, .slice ua f.body.length uc]) ⟨_, rfl, F.bytes (v := .slice ua f.body.length uc)⟩ rfl
        refine e_round_end none (.inl ⟨rfl, rfl⟩) F (by (repeat (first | exact Sel.here | apply Sel.there))) (.inl rfl) (fun w F => ?_)
        rw [rdy e1 e2] at F
        have e8 : rows.flatten ++ [Value.int .i64 f.adr, Value.slice ua f.body.length uc] = (rows ++ [[Value.int .i64 f.adr, Value.slice ua f.body.length uc]]).flatten := (flat_snoc _ _).symm
        have e9 : out.length + 1 = (out ++ [((f.adr : Int), f.body)]).length := by simp
        rw [e8, e9] at F
        exact F.fin (.inl ⟨⟨f.count, .slice ra _ rc, rows ++ [[Value.int .i64 f.adr, Value.slice ua f.body.length uc]], out ++ [((f.adr : Int), f.body)]⟩, rfl, ⟨by simp [ho], hg.trans hstep⟩, rfl, rfl⟩)
  · rcases hK with ⟨⟨cnt, yv, rows, out⟩, ⟨ho, hg⟩, rfl, rfl⟩ | ⟨⟨⟨cnt, yv, rows, out⟩, _ | _⟩, hg, rfl, rfl⟩
    · have hgo : j.chGo d N 0 0 [] = some (out, cnt) := by
        rw [hg, Nat.sub_self]
        rfl
      refine tidy F (fun F => ?_)
      refine back_done F (by (repeat (first | exact Sel.here | apply Sel.there))) (.inl rfl) (by rw [e1]; decide) e2 (fun w F => ?_)
      refine e_block_normal ?_
      have F := F.promote (t := Thing.buf 2 yv out.length rows.flatten) (by (repeat (first | exact Sel.here | apply Sel.there))) (by
        intro b hb
        simp only [List.flatMap_cons, List.flatMap_nil, List.append_nil, List.mem_append] at hb
        rcases hb with hb | hb
        · exact ⟨(1, Jt p q bq j), by simp, hb⟩
        · exact ⟨(1, Dn q m v d), by simp, hb⟩)
      exact K () _ _ ⟨_, cnt, yv, rows, out, F.wk, hgo⟩ (sub_cons rfl rfl (sub_cons rfl rfl (sub_cons rfl rfl (sub_cons rfl rfl (sub_cons rfl rfl (sub_nil))))))
    · have hr : j.change d = ([], false) := by
        unfold Jr.change
        rw [hN, hg]
        rfl
      rw [hr]
      refine tidy F (fun F => ?_)
      refine back_jump F (by (repeat (first | exact Sel.here | apply Sel.there))) (.inl rfl) (fun h => by cases h) rfl (fun w F => ?_)
      have F := F.fact (f := Fact.rel 2 WrR (.slice none 0 0) []) SlR.nil
      refine g_ret ?_
      (repeat (first | refine e_then_ret ?_ | refine e_block_ret ?_))
      refine e_leave1 (.inl rfl) F (by (repeat (first | exact Sel.here | apply Sel.there))) (fun w F => ?_)
      refine retR2 (.inl rfl) rfl (res_oneF rfl F) (res_oneF rfl F) ?_
      exact F.fin ⟨_, rfl, rfl, rfl⟩
    · have hgo : j.chGo d N 0 0 [] = some (out, cnt) := hg
      refine tidy F (fun F => ?_)
      refine back_jump F (by (repeat (first | exact Sel.here | apply Sel.there))) (.inl rfl) (fun h => by cases h) rfl (fun w F => ?_)
      refine g_exit ?_
      refine e_block_exit ?_
      have F := F.promote (t := Thing.buf 2 yv out.length rows.flatten) (by (repeat (first | exact Sel.here | apply Sel.there))) (by
        intro b hb
        simp only [List.flatMap_cons, List.flatMap_nil, List.append_nil, List.mem_append] at hb
        rcases hb with hb | hb
        · exact ⟨(1, Jt p q bq j), by simp, hb⟩
        · exact ⟨(1, Dn q m v d), by simp, hb⟩)
      exact K () _ _ ⟨_, cnt, yv, rows, out, F.wk, hgo⟩ (sub_cons rfl rfl (sub_cons rfl rfl (sub_cons rfl rfl (sub_cons rfl rfl (sub_cons rfl rfl (sub_nil))))))
  rintro - w ⟨O, cnt, yv, rows, out, F, hgo⟩
  have hr : j.change d = if out.length = 0 ∨ out.length ≠ cnt ∨ N ≤ cnt then ([], false) else (out, j.chEnd d cnt) := by
    unfold Jr.change
    rw [hN, hgo]
  refine go_on ?_
  obtain ⟨ya, yc, rfl, _⟩ := (F.bufAt (v := yv)).form
  obtain ⟨vs, hvl, hj, F⟩ := openJ F
  unfold jcells at F
  refine go_on ?_
  refine f_draw [(1, Thing.cells q4 _), (1, Thing.cells q5 _), (1, Thing.cells q1 _), (1, Thing.cells p _)] F [] [(0, true), (1, true), (2, true), (3, true), (4, true), (5, true), (6, true), (7, true), (8, true), (9, true), (10, true), (11, true), (12, true), (13, true), (14, true), (15, true), (16, true), (17, true), (18, true), (19, true), (20, true), (21, true)] (by kernel_rfl) (by kernel_rfl) (fun w F hS => ?_); refine go_look ?_
  apply rd_or 5 110 105
  · exact rfl
  · intro e K; have e' := e; (try simp only [Bool.and_eq_true, Bool.or_eq_true, decide_eq_true_eq, decide_eq_false_iff_not, Bool.not_eq_true', Bool.or_eq_false_iff, Bool.not_eq_false', Bool.and_eq_false_iff] at e'); refine go_look1 ?_; refine go_look1 ?_; refine go_look1 ?_; refine go_look1 ?_; refine go_look1 ?_; exact K _ (by exact rfl) (by (repeat (first | exact sub_refl | refine sub_new rfl ?_ | refine sub_bool rfl (by assumption) ?_)))
  · intro e K; have e' := e; (try simp only [Bool.and_eq_true, Bool.or_eq_true, decide_eq_true_eq, decide_eq_false_iff_not, Bool.not_eq_true', Bool.or_eq_false_iff, Bool.not_eq_false', Bool.and_eq_false_iff] at e'); refine go_look1 ?_; refine go_look1 ?_; refine go_look1 ?_; refine go_look1 ?_; refine go_look1 ?_; exact K _ (by exact rfl) (by (repeat (first | exact sub_refl | refine sub_new rfl ?_ | refine sub_bool rfl (by assumption) ?_)))
  refine go_look ?_
  apply rd_or 12 123 111
  · exact rfl
  · intro e K; have e' := e; (try simp only [Bool.and_eq_true, Bool.or_eq_true, decide_eq_true_eq, decide_eq_false_iff_not, Bool.not_eq_true', Bool.or_eq_false_iff, Bool.not_eq_false', Bool.and_eq_false_iff] at e'); refine go_look1 ?_; refine go_look1 ?_; refine go_look1 ?_; refine go_look1 ?_; refine go_look1 ?_; refine go_look1 ?_; refine go_look1 ?_; refine go_look1 ?_; refine go_look1 ?_; refine go_look1 ?_; refine go_look1 ?_; refine go_look1 ?_; exact K _ (by exact rfl) (by (repeat (first | exact sub_refl | refine sub_new rfl ?_ | refine sub_bool rfl (by assumption) ?_)))
  · intro e K; have e' := e; (try simp only [Bool.and_eq_true, Bool.or_eq_true, decide_eq_true_eq, decide_eq_false_iff_not, Bool.not_eq_true', Bool.or_eq_false_iff, Bool.not_eq_false', Bool.and_eq_false_iff] at e'); refine go_look1 ?_; refine go_look1 ?_; refine go_look1 ?_; refine go_look1 ?_; refine go_look1 ?_; refine go_look1 ?_; refine go_look1 ?_; refine go_look1 ?_; refine go_look1 ?_; refine go_look1 ?_; refine go_look1 ?_; refine go_look1 ?_; exact K _ (by exact rfl) (by (repeat (first | exact sub_refl | refine sub_new rfl ?_ | refine sub_bool rfl (by assumption) ?_)))
  refine go_look ?_
  refine rd_done ?_; refine go_on ?_
  have F := mkJ j F hj (vs := vs)
  refine g_cond rfl (fun g9 => ?_) (fun g9 => ?_)
  · have hb : out.length = 0 ∨ out.length ≠ cnt ∨ N ≤ cnt := by
      simp only [Bool.or_eq_true, decide_eq_true_eq, Bool.not_eq_true', decide_eq_false_iff_not] at g9
      omega
    rw [if_pos hb] at hr
    rw [hr]
    refine go_on ?_
    refine f_store1 F rfl rfl rfl (fun w F => ?_); refine go_on ?_
    refine f_store1 F rfl rfl rfl (fun w F => ?_); refine go_on ?_
    have F := F.fact (f := Fact.rel 2 WrR (.slice none 0 0) []) SlR.nil
    refine g_ret ?_
    (repeat (first | refine e_then_ret ?_ | refine e_block_ret ?_))
    refine e_leave1 (.inl rfl) F (by (repeat (first | exact Sel.here | apply Sel.there))) (fun w F => ?_)
    refine retR2 (.inl rfl) rfl (res_oneF rfl F) (res_oneF rfl F) ?_
    exact F.fin ⟨_, rfl, rfl, rfl⟩
  · have hb : ¬ (out.length = 0 ∨ out.length ≠ cnt ∨ N ≤ cnt) := by
      simp only [Bool.or_eq_false_iff, decide_eq_false_iff_not, Bool.not_eq_false', decide_eq_true_eq] at g9
      omega
    rw [if_neg hb] at hr
    obtain ⟨f, hf⟩ : ∃ f, d.fm (j.chAt cnt) = f := ⟨_, rfl⟩
    obtain ⟨is, his⟩ : ∃ is, d.is (j.chAt cnt) 3 = is := ⟨_, rfl⟩
    rw [hr]
    have hmod : (j.place + cnt) % j.log < j.log := Nat.mod_lt _ (by omega)
    refine go_on ?_
    obtain ⟨vs, hvl, hj, F⟩ := openJ F
    unfold jcells at F
    refine f_draw [(1, Thing.cells q1 _), (1, Thing.cells p _), (1, Thing.cells q5 _)] F [] [(0, true), (1, true), (2, true), (3, true), (4, true), (5, true), (6, true), (7, true), (8, true), (9, true), (10, true), (11, true), (12, true), (20, true), (20, true), (20, true), (20, true), (20, true), (20, true), (20, true)] (by kernel_rfl) (by kernel_rfl) (fun w F hS => ?_); refine go_look ?_
    apply e_join (X := Nat) (fun z => [(1, .pointer (some ⟨q1, 0, none⟩)), (2, .pointer (some ⟨q2, 0, none⟩)), (3, .pointer (some ⟨q3, 0, none⟩)), (4, .pointer (some ⟨q4, 0, none⟩)), (5, .pointer (some ⟨q5, 0, none⟩)), (10, .pointer (some ⟨z, 0, none⟩)), (11, .bool is)])
      (fun z w => ∃ O fv vs, Fr ([Jt p q bq j, Dn q m v d].flatMap (·.bs)) O0 w0 O w [(2, Thing.cells z (fcells f fv)), (1, Thing.cells p (jcells q bq j)), (1, Thing.cells bq vs), (1, Thing.cells q5 [.int .i64 cnt]), (1, Thing.cells q4 [.slice ya out.length yc]), (2, Thing.buf 2 (.slice ya out.length yc) out.length rows.flatten), (1, Thing.cells q1 [dptr p]), (1, Thing.cells q2 [.slice none 0 0]), (1, Thing.cells q3 [.bool false]), (1, Dn q m v d), (2, Thing.dfr k)] [Fact.all 2 WrR rows out, Fact.bytes fv f.body, Fact.bodies vs j.B])
    intro K2
    refine rd_fork (i := 13) (j := 17) (Li := [(14, true), (15, true), (16, true), (17, false), (18, false), (19, true)]) (Lj := [(13, false), (14, true), (15, true), (16, true), (18, false), (19, true)]) rfl rfl (by kernel_rfl) rfl rfl (by kernel_rfl) (by kernel_rfl) ?_ ?_
    · have F := mkJ j F hj (vs := vs)
      refine f_call F rfl rfl (jget_c (p := p) (q := q) (bq := bq) (m := m) (kind := 3) (j := j) (d := d) (i := j.chAt cnt)) ?_ (hp := h)
      clear F; rintro r O w T Φ ⟨u, rfl, rfl, rfl⟩ F0
      refine tidy F0 (fun F => ?_); clear F0
      rw [hf] at F ⊢
      rw [his]
      obtain ⟨ua, uc, rfl, _⟩ := (F.bytes (v := u) (xs := f.body)).form
      obtain ⟨vs, hvl, hj, F⟩ := openJ F
      unfold jcells at F
      (try refine r_nil ?_); refine e_afterF F (fun hS => ?_); refine go_look ?_
      refine rd_do rfl ?_; (try refine r_go rfl rfl ?_)
      refine f_allocN F rfl (fun z w F => ?_)
      (try refine r_nil ?_); refine e_afterF F (fun hS => ?_); refine go_look ?_
      refine rd_do rfl ?_; (try refine r_go rfl rfl ?_)
      refine f_storeAll F rfl rfl rfl (fun w F => ?_)
      (try refine r_nil ?_); refine e_afterF F (fun hS => ?_); refine go_look ?_
      refine rd_done ?_
      exact K2 z _ _ ⟨_, _, _, F.wk⟩ (sub_cons rfl rfl (sub_cons rfl rfl (sub_cons rfl rfl (sub_cons rfl rfl (sub_cons rfl rfl (sub_cons rfl rfl (sub_cons rfl rfl (sub_nil))))))))
    · refine f_allocN F rfl (fun z w F => ?_)
      (try refine r_nil ?_); refine e_afterF F (fun hS => ?_); refine go_look ?_
      have F := mkJ j F hj (vs := vs)
      refine rd_do rfl ?_; (try refine r_go rfl rfl ?_)
      refine f_call F rfl rfl (jget_c (p := p) (q := q) (bq := bq) (m := m) (kind := 3) (j := j) (d := d) (i := j.chAt cnt)) ?_ (hp := h)
      clear F; rintro r O w T Φ ⟨u, rfl, rfl, rfl⟩ F0
      refine tidy F0 (fun F => ?_); clear F0
      rw [hf] at F ⊢
      rw [his]
      obtain ⟨ua, uc, rfl, _⟩ := (F.bytes (v := u) (xs := f.body)).form
      obtain ⟨vs, hvl, hj, F⟩ := openJ F
      unfold jcells at F
      (try refine r_nil ?_); refine e_afterF F (fun hS => ?_); refine go_look ?_
      refine rd_do rfl ?_; (try refine r_go rfl rfl ?_)
      refine f_storeAll F rfl rfl rfl (fun w F => ?_)
      (try refine r_nil ?_); refine e_afterF F (fun hS => ?_); refine go_look ?_
      refine rd_done ?_
      exact K2 z _ _ ⟨_, _, _, F.wk⟩ (sub_cons rfl rfl (sub_cons rfl rfl (sub_cons rfl rfl (sub_cons rfl rfl (sub_cons rfl rfl (sub_cons rfl rfl (sub_cons rfl rfl (sub_nil))))))))
    rintro z w ⟨O, fv, vs, F⟩
    obtain ⟨ua, uc, rfl, _⟩ := (F.bytes (v := fv) (xs := f.body)).form
    unfold fcells at F
    have hfit := secGet_fit (d.rd (j.chAt cnt))
    change (d.fm (j.chAt cnt)).adr < _ ∧ (d.fm (j.chAt cnt)).seq < _ ∧ (d.fm (j.chAt cnt)).count < _ ∧ (d.fm (j.chAt cnt)).index < _ ∧ (d.fm (j.chAt cnt)).body.length ≤ _ at hfit
    rw [hf] at hfit
    obtain ⟨k1, k2, k3, k4, k5⟩ := hfit
    unfold jcells at F
    refine go_on ?_
    refine f_draw [(1, Thing.cells q4 _), (2, Thing.cells z _), (1, Thing.cells q1 _), (1, Thing.cells p _), (1, Thing.cells q5 _)] F [] [(0, true), (1, true), (2, true), (3, true), (4, true), (5, true), (6, true), (7, true), (8, true), (9, true), (10, true), (11, true), (12, true), (13, true), (14, true), (15, true), (16, true), (17, true), (18, true), (19, true), (20, true), (21, true), (22, true), (23, true), (24, true), (25, true), (26, true), (27, true), (28, true), (29, true), (30, true), (31, true), (32, true), (33, true), (34, true), (35, false), (36, false)] (by kernel_rfl) (by kernel_rfl) (fun w F hS => ?_); refine go_look ?_
    apply rd_and 9 152 143
    · exact rfl
    · intro e K; have e' := e; (try simp only [Bool.and_eq_true, Bool.or_eq_true, decide_eq_true_eq, decide_eq_false_iff_not, Bool.not_eq_true', Bool.or_eq_false_iff, Bool.not_eq_false', Bool.and_eq_false_iff] at e'); refine go_look1 ?_; refine go_look1 ?_; refine go_look1 ?_; refine go_look1 ?_; refine go_look1 ?_; refine go_look1 ?_; refine rd_open rfl ?_; (first | refine ro_n ?_ | refine ro_g rfl rfl ?_); refine rx_y rfl (fun _ hw => y_addM (k := .u64) (a := j.seq) (b := 1) rfl rfl rfl) (by assumption) ?_; refine go_look1 ?_; refine go_look1 ?_; exact K _ (by exact rfl) (by (repeat (first | exact sub_refl | refine sub_new rfl ?_ | refine sub_bool rfl (by assumption) ?_)))
    · intro e K; have e' := e; (try simp only [Bool.and_eq_true, Bool.or_eq_true, decide_eq_true_eq, decide_eq_false_iff_not, Bool.not_eq_true', Bool.or_eq_false_iff, Bool.not_eq_false', Bool.and_eq_false_iff] at e'); refine go_look1 ?_; refine go_look1 ?_; refine go_look1 ?_; refine go_look1 ?_; refine go_look1 ?_; refine go_look1 ?_; refine go_look1 ?_; refine go_look1 ?_; refine go_look1 ?_; exact K _ (by exact rfl) (by (repeat (first | exact sub_refl | refine sub_new rfl ?_ | refine sub_bool rfl (by assumption) ?_)))
    refine go_look ?_
    apply rd_and 5 158 153
    · exact rfl
    · intro e K; have e' := e; (try simp only [Bool.and_eq_true, Bool.or_eq_true, decide_eq_true_eq, decide_eq_false_iff_not, Bool.not_eq_true', Bool.or_eq_false_iff, Bool.not_eq_false', Bool.and_eq_false_iff] at e'); refine go_look1 ?_; refine go_look1 ?_; refine go_look1 ?_; refine go_look1 ?_; refine go_look1 ?_; exact K _ (by exact rfl) (by (repeat (first | exact sub_refl | refine sub_new rfl ?_ | refine sub_bool rfl (by assumption) ?_)))
    · intro e K; have e' := e; (try simp only [Bool.and_eq_true, Bool.or_eq_true, decide_eq_true_eq, decide_eq_false_iff_not, Bool.not_eq_true', Bool.or_eq_false_iff, Bool.not_eq_false', Bool.and_eq_false_iff] at e'); refine go_look1 ?_; refine go_look1 ?_; refine go_look1 ?_; refine go_look1 ?_; refine go_look1 ?_; exact K _ (by exact rfl) (by (repeat (first | exact sub_refl | refine sub_new rfl ?_ | refine sub_bool rfl (by assumption) ?_)))
    refine go_look ?_
    apply rd_and 5 164 159
    · exact rfl
    · intro e K; have e' := e; (try simp only [Bool.and_eq_true, Bool.or_eq_true, decide_eq_true_eq, decide_eq_false_iff_not, Bool.not_eq_true', Bool.or_eq_false_iff, Bool.not_eq_false', Bool.and_eq_false_iff] at e'); refine go_look1 ?_; refine go_look1 ?_; refine go_look1 ?_; refine go_look1 ?_; refine go_look1 ?_; exact K _ (by exact rfl) (by (repeat (first | exact sub_refl | refine sub_new rfl ?_ | refine sub_bool rfl (by assumption) ?_)))
    · intro e K; have e' := e; (try simp only [Bool.and_eq_true, Bool.or_eq_true, decide_eq_true_eq, decide_eq_false_iff_not, Bool.not_eq_true', Bool.or_eq_false_iff, Bool.not_eq_false', Bool.and_eq_false_iff] at e'); refine go_look1 ?_; refine go_look1 ?_; refine go_look1 ?_; refine go_look1 ?_; refine go_look1 ?_; exact K _ (by exact rfl) (by (repeat (first | exact sub_refl | refine sub_new rfl ?_ | refine sub_bool rfl (by assumption) ?_)))
    refine go_look ?_
    apply rd_and 4 169 165
    · exact rfl
    · intro e K; have e' := e; (try simp only [Bool.and_eq_true, Bool.or_eq_true, decide_eq_true_eq, decide_eq_false_iff_not, Bool.not_eq_true', Bool.or_eq_false_iff, Bool.not_eq_false', Bool.and_eq_false_iff] at e'); refine go_look1 ?_; refine go_look1 ?_; refine go_look1 ?_; refine go_look1 ?_; exact K _ (by exact rfl) (by (repeat (first | exact sub_refl | refine sub_new rfl ?_ | refine sub_bool rfl (by assumption) ?_)))
    · intro e K; have e' := e; (try simp only [Bool.and_eq_true, Bool.or_eq_true, decide_eq_true_eq, decide_eq_false_iff_not, Bool.not_eq_true', Bool.or_eq_false_iff, Bool.not_eq_false', Bool.and_eq_false_iff] at e'); refine go_look1 ?_; refine go_look1 ?_; refine go_look1 ?_; refine go_look1 ?_; exact K _ (by exact rfl) (by (repeat (first | exact sub_refl | refine sub_new rfl ?_ | refine sub_bool rfl (by assumption) ?_)))
    refine go_look ?_
    apply rd_and 5 175 170
    · exact rfl
    · intro e K; have e' := e; (try simp only [Bool.and_eq_true, Bool.or_eq_true, decide_eq_true_eq, decide_eq_false_iff_not, Bool.not_eq_true', Bool.or_eq_false_iff, Bool.not_eq_false', Bool.and_eq_false_iff] at e'); refine go_look1 ?_; refine go_look1 ?_; refine go_look1 ?_; refine go_look1 ?_; refine go_look1 ?_; exact K _ (by exact rfl) (by (repeat (first | exact sub_refl | refine sub_new rfl ?_ | refine sub_bool rfl (by assumption) ?_)))
    · intro e K; have e' := e; (try simp only [Bool.and_eq_true, Bool.or_eq_true, decide_eq_true_eq, decide_eq_false_iff_not, Bool.not_eq_true', Bool.or_eq_false_iff, Bool.not_eq_false', Bool.and_eq_false_iff] at e'); refine go_look1 ?_; refine go_look1 ?_; refine go_look1 ?_; refine go_look1 ?_; refine go_look1 ?_; exact K _ (by exact rfl) (by (repeat (first | exact sub_refl | refine sub_new rfl ?_ | refine sub_bool rfl (by assumption) ?_)))
    refine go_look ?_
    refine rd_do rfl ?_; (try refine r_go rfl rfl ?_)
    refine f_store1 F rfl rfl rfl (fun w F => ?_)
    (try refine r_nil ?_); refine e_afterF F (fun hS => ?_); refine go_look ?_
    refine rd_do rfl ?_; (try refine r_go rfl rfl ?_)
    refine f_store1 F rfl rfl rfl (fun w F => ?_)
    (try refine r_nil ?_); refine e_afterF F (fun hS => ?_); refine go_look ?_
    refine rd_done ?_; refine go_on ?_
    have F := mkJ j F hj (vs := vs)
    obtain ⟨O, F⟩ := F.frzRel (R := WrR) rfl
    have hend : (is && decide ((f.seq : Int) = ((j.seq + 1) % lim .u64 : Nat)) && decide ((f.index : Int) = cnt) && decide ((f.count : Int) = cnt) && decide ((f.adr : Int) = 0) && decide ((f.body.length : Int) = 0)) = j.chEnd d cnt := by
      unfold Jr.chEnd
      rw [hf, his, ← decN f.seq, ← decN f.index, ← decN f.count, ← decN f.adr 0, ← decN f.body.length 0]
      simp only [lim]
      rfl
    rw [hend] at F
    refine g_ret ?_
    (repeat (first | refine e_then_ret ?_ | refine e_block_ret ?_))
    refine e_leave1 (.inl rfl) F (by (repeat (first | exact Sel.here | apply Sel.there))) (fun w F => ?_)
    refine retR2 (.inl rfl) rfl (res_oneF rfl F) (res_oneF rfl F) ?_
    exact F.fin ⟨_, rfl, rfl, rfl⟩
end Go.Proofs.Ytmohjmfcbhpldaa
