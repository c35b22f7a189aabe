/- A change is written: the walk. -/
import Derived.Test.YtmohjmfcbhpldaaJcommit
namespace Go.Proofs.Ytmohjmfcbhpldaa
open Gk Go
set_option linter.unusedVariables false
set_option maxHeartbeats 4000000
set_option maxRecDepth 4000
set_option linter.unusedSimpArgs false
attribute [local irreducible] Int.decLt Int.decLe Int.decEq Int.instDecidableEq Gk.Rnds Gk.E Gk.G Gk.R Gk.RD Gk.RX Gk.RO Gk.Y Gk.Ent Gk.Sat Gk.Round Gk.After Gk.Cell Gk.Sl Gk.SlA Gk.CB Gk.OK Gk.FnC Gk.Bytes Gk.BytesL Gk.StrL Gk.Buf Gk.MapI
structure CmX where
  j : Jr
  d : Dk
  v : Value
  a : Value
  b : Value
  c : Value
  e : Value
theorem jcommit0_c {lv : Value} {l : List (Int × List UInt8)} (h : True) : Con Try.prog 12 [.pointer none, lv] [] [] [Fact.rel 2 WrR lv l] fun r T Φ => r = .int .i64 1 ∧ T = [] ∧ Φ = [] := by
  refine con_of (fun O0 w0 F => ?_)
  refine tidy F (fun F => ?_)
  refine fn_ofM _ Try.func12 rfl (by kernel_rfl) Try.ntmps12 rfl ?_
  obtain ⟨la, lc, rfl, _⟩ := (F.rel (v := lv) (R := WrR) (ys := l)).form
  refine go_on ?_
  (first | refine f_box1 F rfl rfl (fun q2 w F => ?_) | refine f_boxN F rfl rfl (fun q2 w F => ?_)); refine go_on ?_
  (first | refine f_box1 F rfl rfl (fun q3 w F => ?_) | refine f_boxN F rfl rfl (fun q3 w F => ?_)); refine go_on ?_
  refine g_ret ?_
  (repeat (first | refine e_then_ret ?_ | refine e_block_ret ?_))
  refine e_leave (.inl rfl) ?_
  refine go_back ?_
  exact F.fin ⟨rfl, rfl, rfl⟩

theorem jcommit_c {p q bq m : Nat} {v0 lv : Value} {j : Jr} {d : Dk} {l : List (Int × List UInt8)} (h : d.waits.length ≤ 990000 ∧ l.length ≤ 1000000) : Con Try.prog 12 [dptr p, lv] [Jt p q bq j, Dn q m v0 d] [] [Fact.rel 2 WrR lv l] fun r T Φ => ∃ v', r = .int .i64 (j.commit d l).2 ∧ T = [Jt p q bq (j.commit d l).1.1, Dn q m v' (j.commit d l).1.2] ∧ Φ = [] := by
  obtain ⟨h, hln⟩ := h
  refine con_of (fun O0 w0 F => ?_)
  refine tidy F (fun F => ?_)
  refine fn_ofM _ Try.func12 rfl (by kernel_rfl) Try.ntmps12 rfl ?_
  obtain ⟨la, lc, rfl, _⟩ := (F.rel (v := lv) (R := WrR) (ys := l)).form
  refine go_on ?_
  (first | refine f_box1 F rfl rfl (fun q2 w F => ?_) | refine f_boxN F rfl rfl (fun q2 w F => ?_)); refine go_on ?_
  (first | refine f_box1 F rfl rfl (fun q3 w F => ?_) | refine f_boxN F rfl rfl (fun q3 w F => ?_)); refine go_on ?_
  obtain ⟨vs, hvl, hj, F⟩ := openJ F
  obtain ⟨h1, h2, h3, h4, h5, h6, h7, h8⟩ := id hj
  unfold jcells at F
  by_cases c1 : j.e = 0
  · refine go_on ?_
    have F := mkJ j F hj (vs := vs)
    refine f_call F rfl rfl (jmay_c (p := p) (q := q) (bq := bq) (j := j) (l := l)) ?_ (hp := hln)
    clear F; rintro r O w T Φ ⟨rfl, rfl, rfl⟩ F0
    refine tidy F0 (fun F => ?_); clear F0
    by_cases c2 : mayW j.B.length l
    · rw [decide_eq_true c2]
      have hl1 : 0 < l.length := by have := c2.2.1; omega
      have hl2 : l.length ≤ 100 := c2.2.2
      obtain ⟨x, _, rfl, _⟩ := (F.rel (R := WrR) (ys := l)).elem hl1
      clear hj
      obtain ⟨vs, hvl, hj, F⟩ := openJ F
      unfold jcells at F
      refine go_on ?_
      refine f_draw [(2, Thing.cells q3 _), (2, Thing.cells q2 _), (1, Thing.cells p _)] F [] [(0, true), (1, true), (2, true), (3, true), (4, true), (5, true), (6, true), (7, true)] (by kernel_rfl) (by kernel_rfl) (fun w F hS => ?_); refine go_look ?_
      refine rd_done ?_; refine go_on ?_
      by_cases c3 : j.log ≤ l.length
      · have hr : j.commit d l = ((j, d), 21) := by
          unfold Jr.commit
          rw [if_neg (by omega), if_neg (fun h => h c2), if_pos c3]
        rw [hr]
        refine go_on ?_
        have F := mkJ j F hj (vs := vs)
        refine g_ret ?_
        (repeat (first | refine e_then_ret ?_ | refine e_block_ret ?_))
        refine e_leave (.inl rfl) ?_
        refine go_back ?_
        exact F.fin ⟨_, rfl, rfl, rfl⟩
      · refine go_on ?_
        refine f_draw [(2, Thing.cells q3 _), (2, Thing.cells q2 _), (1, Thing.cells p _)] F [] [(0, true), (1, true), (2, true), (3, true), (4, true), (5, true), (6, true), (7, true), (8, true), (9, true), (10, true), (11, true)] (by kernel_rfl) (by kernel_rfl) (fun w F hS => ?_); refine go_look ?_
        refine rd_done ?_; refine go_on ?_
        have F := mkJ j F hj (vs := vs)
        obtain ⟨j1, d1, hc⟩ : ∃ j1 d1, j.room d l = (j1, d1) := ⟨_, _, rfl⟩
        apply e_join (X := Value) (fun _ => [(2, .pointer (some ⟨q2, 0, none⟩)), (3, .pointer (some ⟨q3, 0, none⟩))])
          (fun v w => ∃ O, Fr ([Jt p q bq j, Dn q m v0 d].flatMap (·.bs)) O0 w0 O w [(1, Jt p q bq j1), (1, Dn q m v d1), (2, Thing.cells q3 [.slice (some x) l.length lc]), (2, Thing.cells q2 [dptr p])] [Fact.rel 2 WrR (.slice (some x) l.length lc) l] ∧ j1.e = 0 ∧ j1.used + (l.length + 1) ≤ j1.log)
        intro K
        refine g_dec rfl (fun c4 => ?_) (fun c4 => ?_)
        · have c4' : j.log - j.used ≤ l.length := by omega
          have hc2 : j.check d = (j1, d1) := by rw [← hc]; exact (if_pos c4').symm
          refine go_on ?_
          have F := F
          refine f_call F rfl rfl (jcheck_c (p := p) (q := q) (bq := bq) (m := m) (j := j) (d := d)) ?_ (hp := (by omega))
          clear F; rintro r O w T Φ ⟨v2, rfl, rfl, rfl⟩ F0
          refine tidy F0 (fun F => ?_); clear F0
          rw [hc2] at F ⊢
          refine go_on ?_
          refine g_ndec rfl (fun c5 => ?_) (fun c5 => ?_) <;> dsimp only at c5
          · have hr : j.commit d l = ((j1, d1), j1.e) := by
              unfold Jr.commit
              rw [if_neg (by omega), if_neg (fun h => h c2), if_neg c3, hc]
              dsimp only
              rw [if_pos (by omega)]
            rw [hr]
            refine go_on ?_
            refine g_ret ?_
            (repeat (first | refine e_then_ret ?_ | refine e_block_ret ?_))
            refine e_leave (.inl rfl) ?_
            refine go_back ?_
            exact F.fin ⟨_, rfl, rfl, rfl⟩
          · have hlk := check_like j d
            rw [hc2] at hlk
            refine g_skip ?_
            exact K v2 _ _ ⟨_, F.wk, by omega, by rw [hlk.2.2 (by omega) (by show j1.e = 0; omega), hlk.1.1]; omega⟩ (sub_cons rfl rfl (sub_cons rfl rfl (sub_nil)))
        · have hc2 : (j, d) = (j1, d1) := by rw [← hc]; exact (if_neg (by omega)).symm
          injection hc2 with hc3 hc4
          rw [hc3, hc4] at F
          refine g_skip ?_
          exact K v0 _ _ ⟨_, F.wk, by rw [← hc3]; exact c1, by rw [← hc3]; omega⟩ (sub_cons rfl rfl (sub_cons rfl rfl (sub_nil)))
        rintro v w ⟨O, F, c6, c7⟩
        have hr : j.commit d l = if (j1.write d1 l).1.e ≠ 0 then ((j1.write d1 l), (j1.write d1 l).1.e) else ((j1.write d1 l).1.done (j1.write d1 l).2 l, 0) := by
          unfold Jr.commit
          rw [if_neg (by omega), if_neg (fun h => h c2), if_neg c3, hc]
          dsimp only
          rw [if_neg (by omega)]
        have hlk : j.like j1 := by
          have := check_like j d
          unfold Jr.room at hc
          split at hc
          · rw [hc] at this; exact this.1
          · injection hc with hc1 hc2; rw [← hc1]; exact .refl _
        have hw1 : d1.waits.length ≤ 990001 := by
          have := check_waits j d
          unfold Jr.room at hc
          split at hc
          · rw [hc] at this; exact Nat.le_trans this (by omega)
          · injection hc with hc1 hc2; rw [← hc2]; omega
        have hB : j1.B.length = j.B.length := by rw [hlk.2.2.2]
        have g1 := fun i (hi : i < l.length) => c2.1 i hi
        clear c3
        refine go_on ?_
        obtain ⟨vs, hvl, hj, F⟩ := openJ F
        obtain ⟨h1, h2, h3, h4, h5, h6, h7, h8⟩ := id hj
        unfold jcells at F
        refine f_draw [(2, Thing.cells q3 _), (2, Thing.cells q2 _), (1, Thing.cells p _)] F [] [(0, true), (1, true), (2, true), (3, true), (4, true), (5, true), (6, true), (7, true), (8, false), (9, false)] (by kernel_rfl) (by kernel_rfl) (fun w F hS => ?_); refine go_look ?_
        refine rd_open rfl ?_; (first | refine ro_n ?_ | refine ro_g rfl rfl ?_); refine rx_y rfl (fun _ hw => y_addM (k := .u64) (a := j1.seq) (b := 1) rfl rfl rfl) (by assumption) ?_; refine go_look ?_
        refine rd_do rfl ?_; (try refine r_go rfl rfl ?_)
        refine f_allocN F rfl (fun q6 w F => ?_)
        (try refine r_nil ?_); refine e_afterF F (fun hS => ?_); refine go_look ?_
        refine rd_do rfl ?_; (try refine r_go rfl rfl ?_)
        refine f_storeAll F rfl rfl rfl (fun w F => ?_)
        (try refine r_nil ?_); refine e_afterF F (fun hS => ?_); refine go_look ?_
        refine rd_done ?_; refine go_on ?_
        have F := mkJ j1 F hj (vs := vs)
        rw [show ((l.length : Int) + 1) = ((l.length + 1 : Nat) : Int) from rfl]
        refine f_call F rfl rfl (frames_c (many := l.length + 1)) ?_ (hp := trivial)
        clear F; rintro r O w T Φ ⟨b1, b2, rfl, rfl, rfl⟩ F0
        refine tidy F0 (fun F => ?_); clear F0
        refine go_on ?_
        refine g_rangeC F rfl (fun lo k w r0 e1 e2 e3 e4 e5 e6 e7 F => ?_)
        refine range_use (frames1_c (X := CmX) (S := Unit) (l := lo) (p := p) (q := q) (bq := bq) (many := l.length + 1) (log := j1.log) (place := j1.place) (jx := fun y => y.j)
          (J := fun y => [Thing.loop lo r0, Thing.cells q6 [y.a, y.b, .int .i64 l.length, .int .u64 ((j1.seq + 1) % 18446744073709551616 : Nat), y.c, y.e], Thing.cells q3 [.slice (some x) l.length lc], Thing.cells q2 [dptr p], Dn q m y.v y.d])
          (JF := fun _ => [Fact.rel 2 WrR (.slice (some x) l.length lc) l]) (JP := fun i y => (y.j, y.d) = j1.puts l (j1, d1) i)
          (SJ := fun _ => []) (SF := fun _ => []) (SP := fun _ => False)
          (x0 := ⟨j1, d1, v, .int .i64 0, .int .i64 0, .int .u32 0, .slice none 0 0⟩) ?_ (fun i y hy => by
            have := puts_like j1 l (j1, d1) i
            rw [← hy] at this
            exact ⟨this.1.1, this.1.2.1⟩) rfl (by omega)) F (fun r O w T Φ hK F => ?_)
        · rintro i ⟨jy, dy, vy, a, b, c, e⟩ hi hy
          dsimp only at hy ⊢
          have hwy : dy.waits.length ≤ 990200 := by
            have := puts_waits j1 l (j1, d1) i
            rw [← hy] at this
            have : dy.waits.length ≤ d1.waits.length + i := this
            omega
          have hly := puts_like j1 l (j1, d1) i
          rw [← hy] at hly
          refine ycon_of (ps := [67, 68]) e3 rfl e6 rfl e7 (by simp) (fun O w F => ?_)
          rw [e4, e5]
          refine tidy F (fun F => ?_)
          refine go_on ?_
          refine e_begin F (by (repeat (first | exact Sel.here | apply Sel.there))) (.inl rfl) e1 (fun w F => ?_)
          refine go_on ?_
          refine f_store1 F rfl rfl rfl (fun w F => ?_); refine go_on ?_
          refine f_store1 F rfl rfl rfl (fun w F => ?_); refine go_on ?_
          refine f_store1 F rfl rfl rfl (fun w F => ?_); refine go_on ?_
          refine f_store1 F rfl rfl rfl (fun w F => ?_); refine go_on ?_
          by_cases g : i < l.length
          · have hfi : j1.putF l i = ⟨2, i, l.length, (j1.seq + 1) % 18446744073709551616, (wAt l i).1.toNat, (wAt l i).2⟩ := if_pos g
            have hp1 : j1.puts l (j1, d1) (i + 1) = jy.lay dy (j1.chAt i) (j1.putF l i) := by
              rw [Jr.puts, ← hy]; exact if_pos g
            obtain ⟨ga, gb, gc, gd⟩ := g1 i g
            obtain ⟨k2, hk2⟩ : ∃ k2 : Nat, (wAt l i).1 = k2 := ⟨(wAt l i).1.toNat, by omega⟩
            have hk3 : (wAt l i).1.toNat = k2 := by omega
            rw [hk3] at hfi
            obtain ⟨x2, row, hx2, hrl, ⟨bv, rfl, hbv⟩, hrow⟩ := (F.rel (R := WrR) (ys := l)).elem g
            injection hx2 with hx2
            subst hx2
            rw [wAt_eq g] at hrow hbv
            rw [hk2] at hrow ga gb
            obtain ⟨va, vc, rfl, _⟩ := hbv.form
            have F := (F.factB hbv).fact hrow
            refine go_on ?_
            refine f_draw [(1, Thing.cells q3 _)] F [] [(0, true), (1, true), (2, true), (3, true), (4, true), (5, true), (6, true), (7, true), (8, true), (9, true), (10, true), (11, true), (12, false), (13, true), (14, false), (15, true), (16, false)] (by kernel_rfl) (by kernel_rfl) (fun w F hS => ?_); refine go_look ?_
            refine rd_do rfl ?_; (try refine r_go rfl rfl ?_)
            refine f_store1 F rfl rfl rfl (fun w F => ?_)
            (try refine r_nil ?_); refine e_afterF F (fun hS => ?_); refine go_look ?_
            refine rd_do rfl ?_; (try refine r_go rfl rfl ?_)
            refine f_store1 F rfl rfl rfl (fun w F => ?_)
            (try refine r_nil ?_); refine e_afterF F (fun hS => ?_); refine go_look ?_
            refine rd_do rfl ?_; (try refine r_go rfl rfl ?_)
            refine f_store1 F rfl rfl rfl (fun w F => ?_)
            (try refine r_nil ?_); refine e_afterF F (fun hS => ?_); refine go_look ?_
            refine rd_done ?_; refine go_on ?_
            have hfit : Fm.fit ⟨2, i, l.length, (j1.seq + 1) % 18446744073709551616, k2, (wAt l i).2⟩ := ⟨Nat.mod_lt _ (by decide), by show k2 < 4294967296; omega, by show 2 ≤ 1000000; omega, by show i ≤ 1000000; omega, by show l.length ≤ 1000000; omega, by show (wAt l i).2.length ≤ 1000000; omega⟩
            refine f_call F rfl rfl (jlay_c (qq := q) (bq := bq) (m := m) (j := jy) (d := dy) (f := ⟨2, i, l.length, (j1.seq + 1) % 18446744073709551616, k2, (wAt l i).2⟩) (i := j1.chAt i) (bv := .slice va (wAt l i).2.length vc)) ?_ (hp := ⟨by omega, hfit⟩)
            clear F; rintro r O w T Φ ⟨v3, rfl, rfl⟩ F0
            refine tidy F0 (fun F => ?_); clear F0
            rw [← hfi, ← hp1] at F
            refine go_on ?_
            refine e_round_end none (.inl ⟨rfl, rfl⟩) F (by (repeat (first | exact Sel.here | apply Sel.there))) (.inl rfl) (fun w F => ?_)
            rw [rdy e1 e2] at F
            exact F.fin (.inl ⟨⟨(j1.puts l (j1, d1) (i + 1)).1, (j1.puts l (j1, d1) (i + 1)).2, v3, .int .i64 2, .int .i64 i, .int .u32 k2, .slice va (wAt l i).2.length vc⟩, rfl, rfl, rfl, rfl⟩)
          · have hi' : i = l.length := by omega
            have hfi : j1.putF l i = ⟨3, i, l.length, (j1.seq + 1) % 18446744073709551616, 0, []⟩ := if_neg g
            have hp1 : j1.puts l (j1, d1) (i + 1) = (jy.flush dy).1.lay (jy.flush dy).2 (j1.chAt i) (j1.putF l i) := by
              rw [Jr.puts, ← hy]; exact if_neg g
            have hwf := flush_waits jy dy
            obtain ⟨vs, hvl, hj, F⟩ := openJ F
            unfold jcells at F
            refine go_on ?_
            refine f_draw [(1, Thing.cells q2 _), (1, Thing.cells p _)] F [6] [(0, true), (1, true), (2, true), (3, true), (4, true), (5, true), (6, false)] (by kernel_rfl) (by kernel_rfl) (fun w F hS => ?_); refine go_look ?_
            have F := mkJ jy F hj (vs := vs)
            refine rd_do rfl ?_; (try refine r_go rfl rfl ?_)
            refine f_call F rfl rfl (doFlush_c (p := p) (q := q) (bq := bq) (m := m) (j := jy) (d := dy)) ?_ (hp := by omega)
            clear F; rintro r O w T Φ ⟨v4, rfl, rfl⟩ F0
            refine tidy F0 (fun F => ?_); clear F0
            (try refine r_nil ?_); refine e_after (fun h => by cases h) ?_; refine go_look ?_
            refine rd_done ?_; refine go_on ?_
            have F := F.factB (xs := []) Bytes.nil
            have hfit : Fm.fit ⟨3, i, l.length, (j1.seq + 1) % 18446744073709551616, 0, []⟩ := ⟨Nat.mod_lt _ (by decide), by show 0 < 4294967296; omega, by show 3 ≤ 1000000; omega, by show i ≤ 1000000; omega, by show l.length ≤ 1000000; omega, by show 0 ≤ 1000000; omega⟩
            refine f_call F rfl rfl (jlay_c (qq := q) (bq := bq) (m := m) (j := (jy.flush dy).1) (d := (jy.flush dy).2) (f := ⟨3, i, l.length, (j1.seq + 1) % 18446744073709551616, 0, []⟩) (i := j1.chAt i) (bv := .slice none 0 0)) ?_ (hp := ⟨by omega, hfit⟩)
            clear F; rintro r O w T Φ ⟨v3, rfl, rfl⟩ F0
            refine tidy F0 (fun F => ?_); clear F0
            rw [← hfi, ← hp1] at F
            refine go_on ?_
            refine e_round_end none (.inl ⟨rfl, rfl⟩) F (by (repeat (first | exact Sel.here | apply Sel.there))) (.inl rfl) (fun w F => ?_)
            rw [rdy e1 e2] at F
            exact F.fin (.inl ⟨⟨(j1.puts l (j1, d1) (i + 1)).1, (j1.puts l (j1, d1) (i + 1)).2, v3, .int .i64 3, .int .i64 i, .int .u32 0, .slice none 0 0⟩, rfl, rfl, rfl, rfl⟩)
        · obtain ⟨⟨jy, dy, vy, a, b, c, e⟩, hy, rfl, rfl⟩ | ⟨_, hf, _⟩ := hK
          rotate_left
          · exact hf.elim
          dsimp only at hy ⊢
          have hwy : dy.waits.length ≤ 990200 := by
            have := puts_waits j1 l (j1, d1) (l.length + 1)
            rw [← hy] at this
            have : dy.waits.length ≤ d1.waits.length + (l.length + 1) := this
            omega
          have hly := puts_like j1 l (j1, d1) (l.length + 1)
          rw [← hy] at hly
          have hwf := flush_waits jy dy
          have hlf := flush_like jy dy
          obtain ⟨j3, d3, h3⟩ : ∃ j3 d3, jy.flush dy = (j3, d3) := ⟨_, _, rfl⟩
          have hwr : j1.write d1 l = (j3, d3) := by unfold Jr.write; rw [← hy]; exact h3
          rw [hwr] at hr
          rw [h3] at hwf hlf
          dsimp only at hr hwf hlf hly
          refine tidy F (fun F => ?_)
          refine back_done F (by (repeat (first | exact Sel.here | apply Sel.there))) (.inl rfl) (by rw [e1]; decide) e2 (fun w F => ?_)
          refine go_on ?_
          obtain ⟨vs, hvl, hj, F⟩ := openJ F
          unfold jcells at F
          refine go_on ?_
          refine f_draw [(1, Thing.cells q2 _), (1, Thing.cells p _)] F [6] [(0, true), (1, true), (2, true), (3, true), (4, true), (5, true), (6, false)] (by kernel_rfl) (by kernel_rfl) (fun w F hS => ?_); refine go_look ?_
          have F := mkJ jy F hj (vs := vs)
          refine rd_do rfl ?_; (try refine r_go rfl rfl ?_)
          refine f_call F rfl rfl (doFlush_c (p := p) (q := q) (bq := bq) (m := m) (j := jy) (d := dy)) ?_ (hp := by omega)
          clear F; rintro r O w T Φ ⟨v4, rfl, rfl⟩ F0
          refine tidy F0 (fun F => ?_); clear F0
          rw [h3] at F
          dsimp only at F
          (try refine r_nil ?_); refine e_after (fun h => by cases h) ?_; refine go_look ?_
          refine rd_done ?_; refine go_on ?_
          obtain ⟨vs, hvl, hj, F⟩ := openJ F
          have hjo := hj
          unfold jcells at F
          refine go_on ?_
          refine g_ndec rfl (fun c8 => ?_) (fun c8 => ?_)
          · rw [if_pos (by omega)] at hr
            rw [hr]
            refine go_on ?_
            have F := mkJ j3 F hj (vs := vs)
            refine g_ret ?_
            (repeat (first | refine e_then_ret ?_ | refine e_block_ret ?_))
            refine e_leave1 (.inl rfl) F (by (repeat (first | exact Sel.here | apply Sel.there))) (fun w F => ?_)
            refine go_back ?_
            exact F.fin ⟨_, rfl, rfl, rfl⟩
          · rw [if_neg (by omega)] at hr
            rw [hr]
            have F := mkJ j3 F hj (vs := vs)
            have hB3 : j3.B.length = j.B.length := by rw [hlf.1.2.2.2, hly.1.2.2.2, hB]
            have hu : j3.used + (l.length + 1) ≤ j3.log := by rw [hlf.2, hly.2, hlf.1.1, hly.1.1]; exact c7
            refine go_on ?_
            have hon : ∀ y ∈ l, (0 ≤ y.1 ∧ y.1 < j3.B.length) ∧ y.2.length ≤ 96 := fun y hy => by
              obtain ⟨i, hi, rfl⟩ := List.getElem_of_mem hy
              have := g1 i hi
              rw [wAt_eq hi, hB3]
              exact ⟨⟨this.1, this.2.1⟩, this.2.2.2⟩
            refine f_call F rfl rfl (on_c (p := p) (q := q) (bq := bq) (j := j3) (l := l)) ?_ (hp := ⟨hu, hon⟩)
            clear F; rintro r O w T Φ ⟨rfl, rfl⟩ F0
            refine tidy F0 (fun F => ?_); clear F0
            refine go_on ?_
            refine g_loop (X := Nat × Value) (fun y => [(2, .pointer (some ⟨q2, 0, none⟩)), (122, .slice (some x) l.length lc), (123, .int .i64 l.length), (124, .int .i64 y.1)])
              (fun y wr => ∃ O, Fr ([Jt p q bq j, Dn q m v0 d].flatMap (·.bs)) O0 w0 O wr [(1, Jt p q bq (homes l (j3.on l, d3) y.1).1), (1, Dn q m y.2 (homes l (j3.on l, d3) y.1).2), (1, Thing.cells q2 [dptr p]), (2, Thing.dfr k)] [Fact.rel 2 WrR (.slice (some x) l.length lc) l] ∧ y.1 ≤ l.length) (fun y => l.length - y.1) (0, v4) (sub_cons rfl rfl (sub_cons rfl rfl (sub_cons rfl rfl (sub_cons rfl rfl (sub_nil))))) ⟨_, F.wk, Nat.zero_le _⟩ ?_
            rintro ⟨i, vi⟩ w ⟨O, F, hi⟩
            dsimp only at F hi ⊢
            have hwi := homes_waits l (j3.on l, d3) i
            have hli := homes_like l (j3.on l, d3) i
            dsimp only at hwi hli
            refine go_on ?_
            refine g_dec rfl (fun g => ?_) (fun g => ?_)
            · have hi' : i < l.length := by omega
              obtain ⟨ga, gb, gc, gd⟩ := g1 i hi'
              obtain ⟨k2, hk2⟩ : ∃ k2 : Nat, (wAt l i).1 = k2 := ⟨(wAt l i).1.toNat, by omega⟩
              have hk3 : (wAt l i).1.toNat = k2 := by omega
              obtain ⟨x2, row, hx2, hrl, ⟨bv, rfl, hbv⟩, hrow⟩ := (F.rel (R := WrR) (ys := l)).elem hi'
              injection hx2 with hx2
              subst hx2
              rw [wAt_eq hi'] at hrow hbv
              rw [hk2] at hrow ga gb
              obtain ⟨va, vc, rfl, _⟩ := hbv.form
              have F := (F.factB hbv).fact hrow
              refine go_on ?_
              (first | refine f_alloc1 F rfl (fun z w F => ?_) | refine f_allocN F rfl (fun z w F => ?_)); refine go_on ?_
              refine f_storeAll F rfl rfl rfl (fun w F => ?_); refine go_on ?_
              have hBi : k2 < (homes l (j3.on l, d3) i).1.B.length := by
                rw [hli.1.2.2.2, show (j3.on l).B.length = j3.B.length from setAll_len _ _, hB3]; omega
              refine f_call F rfl rfl (jhome_c (p := p) (q := q) (bq := bq) (m := m) (i := k2) (j := (homes l (j3.on l, d3) i).1) (d := (homes l (j3.on l, d3) i).2)) ?_ (hp := ⟨by omega, hBi⟩)
              clear F; rintro r O w T Φ ⟨v5, rfl, rfl⟩ F0
              refine tidy F0 (fun F => ?_); clear F0
              rw [← hk3] at F
              refine go_on ?_
              exact e_round (i + 1, v5) (sub_cons rfl rfl (sub_cons rfl rfl (sub_cons rfl rfl (sub_cons rfl rfl (sub_nil))))) ⟨_, F.wk, by dsimp only; omega⟩ (by simp only; omega)
            · have hi' : i = l.length := by omega
              subst hi'
              refine go_on ?_
              refine g_ret ?_
              (repeat (first | refine e_then_ret ?_ | refine e_block_ret ?_))
              refine e_leave1 (.inl rfl) F (by (repeat (first | exact Sel.here | apply Sel.there))) (fun w F => ?_)
              refine go_back ?_
              exact F.fin ⟨_, rfl, rfl, rfl⟩
    · rw [decide_eq_false c2]
      have hr : j.commit d l = ((j, d), 1) := by
        unfold Jr.commit
        rw [if_neg (by omega), if_pos c2]
      rw [hr]
      refine go_on ?_
      refine g_ret ?_
      (repeat (first | refine e_then_ret ?_ | refine e_block_ret ?_))
      refine e_leave (.inl rfl) ?_
      refine go_back ?_
      exact F.fin ⟨_, rfl, rfl, rfl⟩
  · have hr : j.commit d l = ((j, d), j.e) := if_pos c1
    rw [hr]
    refine go_on ?_
    have F := mkJ j F hj (vs := vs)
    refine g_ret ?_
    (repeat (first | refine e_then_ret ?_ | refine e_block_ret ?_))
    refine e_leave (.inl rfl) ?_
    refine go_back ?_
    exact F.fin ⟨_, rfl, rfl, rfl⟩
end Go.Proofs.Ytmohjmfcbhpldaa
