/- Whether entries may be. -/
import Derived.Test.YtcfpnghkkkphhaaGreatDadd
import Derived.Test.YtcfpnghkkkphhaaGreatBdraw
namespace Go.Proofs.YtcfpnghkkkphhaaGreat
open Gk Go
set_option linter.unusedVariables false
set_option maxHeartbeats 4000000
set_option maxRecDepth 4000
set_option linter.unusedSimpArgs false
attribute [local irreducible] Int.decLt Int.decLe Int.decEq Int.instDecidableEq Gk.Rnds Gk.E Gk.G Gk.R Gk.RD Gk.RX Gk.RO Gk.Y Gk.Ent Gk.Sat Gk.Round Gk.After Gk.Cell Gk.Sl Gk.SlA Gk.CB Gk.OK Gk.FnC Gk.Bytes Gk.BytesL Gk.StrL Gk.Buf Gk.MapI
theorem dval_c {u : Value} (h : u.oneCell' = true) : Con Tryz.prog 88 [u] [] [] [] fun r T Φ => ∃ b1, r = .func (.func 92) #[] #[bptr b1] ∧ T = [Thing.cells b1 [u]] ∧ Φ = [] := by
  refine con_of (fun O0 w0 F => ?_)
  refine tidy F (fun F => ?_)
  refine fn_of _ Tryz.func88 rfl (by kernel_rfl) Tryz.ntmps88 rfl ?_
  refine go_on ?_
  refine f_box1 F rfl rfl (fun q2 w F => ?_) (hv := h)
  refine go_on ?_
  refine go_back ?_
  exact F.fin ⟨_, rfl, rfl, rfl⟩
theorem dval1_c {X S : Type} {ly b1 : Nat} {u : Value} {l : List En} {J : X → List Thing} {JF : X → List Fact} {JP : Nat → X → Prop} {SJ : S → List Thing} {SF : S → List Fact} {SP : S → Prop} {x0 : X}
    (hY : ∀ i x (hi : i < l.length), JP i x → YCon Tryz.prog ly [enV l[i]] (J x) (JF x) (fun r T Φ => (∃ x', r = .bool true ∧ JP (i + 1) x' ∧ T = J x' ∧ Φ = JF x') ∨ ∃ s, r = .bool false ∧ SP s ∧ T = SJ s ∧ Φ = SF s))
    (h0 : JP 0 x0) (hn : l.length ≤ 1000000) :
    Con Tryz.prog 92 [.func (.yield ly) #[] #[], bptr b1] (J x0) [Thing.cells b1 [u]] (Fact.rel 4 EnR u l :: JF x0) fun r T Φ => (∃ x, JP l.length x ∧ T = J x ∧ Φ = JF x) ∨ ∃ s, SP s ∧ T = SJ s ∧ Φ = SF s := by
  refine con_of (fun O0 w0 F => ?_)
  have F := F.perm List.perm_append_comm
  change Fr _ _ _ _ _ ((0, Thing.cells b1 _) :: (J x0).map (fun t => (1, t))) _ at F
  obtain ⟨a, c, rfl, _⟩ := (F.rel (v := u) (R := EnR) (ys := l)).form
  refine fn_of _ Tryz.func92 rfl (by kernel_rfl) Tryz.ntmps92 rfl ?_
  refine go_on ?_
  refine g_loop (X := Nat × X) (fun y => [(0, .func (.yield ly) #[] #[]), (1, bptr b1), (5, .slice a l.length c), (6, .int .i64 l.length), (7, .int .i64 y.1)])
    (fun y wr => ∃ O, Fr ((J x0).flatMap (·.bs)) O0 w0 O wr ((0, Thing.cells b1 [.slice a l.length c]) :: (J y.2).map (fun t => (1, t))) (Fact.rel 4 EnR (.slice a l.length c) l :: JF y.2) ∧ y.1 ≤ l.length ∧ JP y.1 y.2) (fun y => l.length - y.1)
    (0, x0) (sub_cons rfl rfl (sub_cons rfl rfl (sub_cons rfl rfl (sub_cons rfl rfl (sub_cons rfl rfl (sub_nil)))))) ⟨_, F, Nat.zero_le _, h0⟩ ?_
  clear F
  rintro ⟨i, xx⟩ w ⟨O, F, hi, hJ⟩
  dsimp only at F hi hJ ⊢
  refine go_on ?_
  refine g_dec rfl (fun g2 => ?_) (fun g2 => ?_)
  · have hi' : i < l.length := by omega
    obtain ⟨x, row, hx9, hrl, hrow0, hrow⟩ := (F.rel (R := EnR) (ys := l)).elem hi'
    (first | subst hx9 | (injection hx9 with hx9; subst hx9))
    have hrow0 : row = [.int .u64 l[i].cookie, .int .u32 l[i].ino, .int .u32 l[i].gen, str l[i].name] := hrow0
    subst hrow0
    have F := F.fact hrow
    refine go_on ?_
    (first | refine f_alloc1 F rfl (fun q4 w F => ?_) | refine f_allocN F rfl (fun q4 w F => ?_)); refine go_on ?_
    refine f_storeAll F rfl rfl rfl (fun w F => ?_); refine go_on ?_
    refine f_yield (k := 1) (A := J xx) [(2, Thing.cells q4 [.int .u64 l[i].cookie, .int .u32 l[i].ino, .int .u32 l[i].gen, str l[i].name]), (0, Thing.cells b1 [.slice (some x) l.length c])] F rfl rfl rfl (hY i xx hi' hJ) (fun f hf => by simp [hf]) (.inl rfl) (fun r O w T Φ hK F => ?_)
    rcases hK with ⟨x', rfl, hJ', rfl, rfl⟩ | ⟨s, rfl, hS', rfl, rfl⟩
    · have F := F.wkF (Φ' := Fact.rel 4 EnR (.slice (some x) l.length c) l :: JF x') (fun f hf => by
        rcases List.mem_cons.1 hf with rfl | hf
        · simp
        · simp [hf])
      refine go_on ?_
      exact e_round (i + 1, x') (sub_cons rfl rfl (sub_cons rfl rfl (sub_cons rfl rfl (sub_cons rfl rfl (sub_cons rfl rfl (sub_nil)))))) ⟨_, F.drop Sel.here, by simp only; omega, hJ'⟩ (by simp only; omega)
    · refine go_on ?_
      refine go_back ?_
      have F := F.drop Sel.here
      exact Fr.finL (own := [(0, Thing.cells b1 [.slice (some x) l.length c])]) F (.inr ⟨s, hS', rfl, rfl⟩) (fun f hf => by simp [hf]) (.inl rfl)
  · have hi' : i = l.length := by omega
    subst hi'
    refine go_on ?_
    refine go_back ?_
    exact Fr.finL (own := [(0, Thing.cells b1 [.slice a l.length c])]) F (.inl ⟨xx, hJ, rfl, rfl⟩) (fun f hf => by simp [hf]) (.inl rfl)
/-- May entries stand so? -/
def mayE (l : List En) : Prop := ∀ i (h : i < l.length), addE (l.take i) l[i] = 0
instance (l : List En) : Decidable (mayE l) := by unfold mayE; infer_instance
theorem dmay_c {u : Value} {l : List En} (h : l.length ≤ 100000 ∧ ∀ e ∈ l, e.name.length ≤ 9223372036854775807) : Con Tryz.prog 81 [u] [] [] [Fact.rel 4 EnR u l] fun r T Φ => r = .bool (decide (mayE l)) ∧ T = [] ∧ Φ = [] := by
  obtain ⟨hl, hnl⟩ := h
  refine con_of (fun O0 w0 F => ?_)
  refine tidy F (fun F => ?_)
  refine fn_ofM _ Tryz.func81 rfl (by kernel_rfl) Tryz.ntmps81 rfl ?_
  obtain ⟨ua, uc, rfl, _⟩ := (F.rel (v := u) (R := EnR) (ys := l)).form
  refine go_on ?_
  (first | refine f_alloc1 F rfl (fun q2 w F => ?_) | refine f_allocN F rfl (fun q2 w F => ?_)); refine go_on ?_
  refine go_on ?_
  (first | refine f_alloc1 F rfl (fun q3 w F => ?_) | refine f_allocN F rfl (fun q3 w F => ?_)); refine go_on ?_
  refine go_on ?_
  have F := F
  refine f_call F rfl rfl (dval_c (u := .slice ua l.length uc)) ?_ (hp := rfl)
  clear F; rintro r O w T Φ ⟨b1, rfl, rfl, rfl⟩ F0
  refine tidy F0 (fun F => ?_); clear F0
  refine go_on ?_
  have F := F.fact (f := Fact.rel 4 EnR (.slice none 0 0) ([] : List En)) SlR.nil
  refine g_rangeC F rfl (fun ly k w r0 e1 e2 e3 e4 e5 e6 e7 F => ?_)
  refine range_use (dval1_c (X := Nat × Value) (S := Unit) (ly := ly) (b1 := b1) (u := .slice ua l.length uc) (l := l)
    (J := fun y => [Thing.loop ly r0, Thing.cells q2 [.bool false], Thing.cells q3 [y.2]]) (JF := fun y => [Fact.rel 4 EnR y.2 (l.take y.1)]) (JP := fun i y => y.1 = i ∧ ∀ j (h : j < l.length), j < i → addE (l.take j) l[j] = 0)
    (SJ := fun s => [Thing.loop ly { r0 with state := .done, pending := some .ret }, Thing.cells q2 [.bool false]]) (SF := fun _ => []) (SP := fun s => ¬ mayE l)
    (x0 := (0, .slice none 0 0)) ?_ ⟨rfl, fun j _ hj => absurd hj (Nat.not_lt_zero _)⟩ (by omega)) F (fun r O w T Φ hK F => ?_)
  · rintro i ⟨i', v⟩ hi ⟨hi2, hok⟩
    dsimp only at hi2 hok ⊢
    subst hi2
    refine ycon_of (ps := [9]) e3 rfl e6 rfl e7 (by simp) (fun O w F => ?_)
    rw [e4, e5]
    refine tidy F (fun F => ?_)
    refine go_on ?_
    (first | refine f_alloc1 F rfl (fun q4 w F => ?_) | refine f_allocN F rfl (fun q4 w F => ?_)); refine go_on ?_
    refine f_storeAll F rfl rfl rfl (fun w F => ?_); refine go_on ?_
    refine e_begin F (by (repeat (first | exact Sel.here | apply Sel.there))) (.inl rfl) e1 (fun w F => ?_)
    refine go_on ?_
    refine f_call F rfl rfl (dadd_c (l := l.take i') (e := l[i'])) ?_ (hp := ⟨by rw [List.length_take]; omega, hnl _ (List.getElem_mem hi)⟩)
    clear F; rintro r O w T Φ ⟨u2, rfl, rfl, rfl⟩ F0
    refine tidy F0 (fun F => ?_); clear F0
    refine go_on ?_
    by_cases g : addE (l.take i') l[i'] = 0
    · rw [g]
      rw [if_pos g] at F
      refine go_on ?_
      obtain ⟨va, vc, rfl, _⟩ := (F.rel (v := u2) (R := EnR)).form
      refine f_store1 F rfl rfl rfl (fun w F => ?_); refine go_on ?_
      refine e_round_end none (.inl ⟨rfl, rfl⟩) F (by (repeat (first | exact Sel.here | apply Sel.there))) (.inl rfl) (fun w F => ?_)
      rw [rdy e1 e2] at F
      rw [← List.take_succ_eq_append_getElem hi] at F
      exact F.fin (.inl ⟨(i' + 1, _), rfl, ⟨rfl, fun j hj hlt => by
        by_cases e : j = i'
        · subst e; exact g
        · exact hok j hj (by omega)⟩, rfl, rfl⟩)
    · rw [if_neg g] at F
      refine go_on ?_
      refine f_store1 F rfl rfl rfl (fun w F => ?_); refine go_on ?_
      refine g_ret ?_
      (repeat (first | refine e_then_ret ?_ | refine e_block_ret ?_))
      refine e_round_end (some .ret) (.inr (.inl ⟨rfl, rfl⟩)) F (by (repeat (first | exact Sel.here | apply Sel.there))) (.inl rfl) (fun w F => ?_)
      simp only [Option.isNone_some, Bool.false_eq_true, if_false] at F
      rw [e4, e5] at F
      exact F.fin (.inr ⟨(), rfl, fun k => g (k i' hi), rfl, rfl⟩)
  · rcases hK with ⟨⟨i, v⟩, ⟨hi, hok⟩, rfl, rfl⟩ | ⟨_, hno, rfl, rfl⟩
    · dsimp only at *
      have hm : mayE l := fun i h => hok i h h
      rw [decide_eq_true hm]
      refine tidy F (fun F => ?_)
      refine back_done F (by (repeat (first | exact Sel.here | apply Sel.there))) (.inl rfl) (by rw [e1]; decide) e2 (fun w F => ?_)
      refine e_block_normal ?_
      have F := (F.promote (t := Thing.cells q3 [v]) (by (repeat (first | exact Sel.here | apply Sel.there))) (fun b hb => by cases hb)).promote (t := Thing.cells q2 [.bool false]) (by (repeat (first | exact Sel.here | apply Sel.there))) (fun b hb => by cases hb)
      refine go_on ?_
      refine f_store1 F rfl rfl rfl (fun w F => ?_); refine go_on ?_
      refine g_ret ?_
      (repeat (first | refine e_then_ret ?_ | refine e_block_ret ?_))
      refine e_leave1 (.inl rfl) F (by (repeat (first | exact Sel.here | apply Sel.there))) (fun w F => ?_)
      refine retR1 (.inl rfl) rfl (res_oneF rfl F) ?_
      exact F.fin ⟨rfl, rfl, rfl⟩
    · rw [decide_eq_false hno]
      refine tidy F (fun F => ?_)
      refine back_jump F (by (repeat (first | exact Sel.here | apply Sel.there))) (.inl rfl) (fun h => by cases h) rfl (fun w F => ?_)
      have F := F.promote (t := Thing.cells q2 [.bool false]) (by (repeat (first | exact Sel.here | apply Sel.there))) (fun b hb => by cases hb)
      refine g_ret ?_
      (repeat (first | refine e_then_ret ?_ | refine e_block_ret ?_))
      refine e_leave1 (.inl rfl) F (by (repeat (first | exact Sel.here | apply Sel.there))) (fun w F => ?_)
      refine retR1 (.inl rfl) rfl (res_oneF rfl F) ?_
      exact F.fin ⟨rfl, rfl, rfl⟩
end Go.Proofs.YtcfpnghkkkphhaaGreat
