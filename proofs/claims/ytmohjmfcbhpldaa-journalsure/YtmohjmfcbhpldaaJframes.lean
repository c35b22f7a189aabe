/- The sectors of the log. -/
import Derived.Test.YtmohjmfcbhpldaaJmay
namespace Go.Proofs.Ytmohjmfcbhpldaa
open Gk Go
set_option linter.unusedVariables false
set_option maxHeartbeats 4000000
set_option maxRecDepth 4000
set_option linter.unusedSimpArgs false
attribute [local irreducible] Int.decLt Int.decLe Int.decEq Int.instDecidableEq Gk.Rnds Gk.E Gk.G Gk.R Gk.RD Gk.RX Gk.RO Gk.Y Gk.Ent Gk.Sat Gk.Round Gk.After Gk.Cell Gk.Sl Gk.SlA Gk.CB Gk.OK Gk.FnC Gk.Bytes Gk.BytesL Gk.StrL Gk.Buf Gk.MapI
theorem frames_c {p many : Nat} (h : True) : Con Try.prog 32 [dptr p, .int .i64 many] [] [] [] fun r T Φ => ∃ b1 b2, r = .func (.func 43) #[] #[dptr b1, dptr b2] ∧ T = [Thing.cells b1 [.int .i64 many], Thing.cells b2 [dptr p]] ∧ Φ = [] := by
  refine con_of (fun O0 w0 F => ?_)
  refine tidy F (fun F => ?_)
  refine fn_of _ Try.func32 rfl (by kernel_rfl) Try.ntmps32 rfl ?_
  (refine go_on ?_; repeat (first | (refine f_store1 F rfl rfl rfl (fun w F => ?_); refine go_on ?_) | (refine f_storeAll F rfl rfl rfl (fun w F => ?_); refine go_on ?_) | (refine f_box1 F rfl rfl (fun q w F => ?_); refine go_on ?_) | (refine f_boxN F rfl rfl (fun q w F => ?_); refine go_on ?_) | (refine f_alloc1 F rfl (fun q w F => ?_); refine go_on ?_) | (refine f_allocN F rfl (fun q w F => ?_); refine go_on ?_)))
  refine go_back ?_
  exact F.fin ⟨_, _, rfl, rfl, rfl⟩

theorem frames1_c {X S : Type} {l b1 b2 p q bq many log place : Nat} {jx : X → Jr} {J : X → List Thing} {JF : X → List Fact} {JP : Nat → X → Prop} {SJ : S → List Thing} {SF : S → List Fact} {SP : S → Prop} {x0 : X}
    (hY : ∀ i x, i < many → JP i x → YCon Try.prog l [.int .i64 i, .int .i64 ((1 + (place + i) % log : Nat) : Int)] (Jt p q bq (jx x) :: J x) (JF x) (fun r T Φ => (∃ x', r = .bool true ∧ JP (i + 1) x' ∧ T = Jt p q bq (jx x') :: J x' ∧ Φ = JF x') ∨ ∃ s, r = .bool false ∧ SP s ∧ T = SJ s ∧ Φ = SF s))
    (hj : ∀ i x, JP i x → (jx x).log = log ∧ (jx x).place = place) (h0 : JP 0 x0) (hm : many ≤ 1000000) :
    Con Try.prog 43 [.func (.yield l) #[] #[], dptr b1, dptr b2] (Jt p q bq (jx x0) :: J x0) [Thing.cells b1 [.int .i64 many], Thing.cells b2 [dptr p]] (JF x0) fun r T Φ => (∃ x, JP many x ∧ T = Jt p q bq (jx x) :: J x ∧ Φ = JF x) ∨ ∃ s, SP s ∧ T = SJ s ∧ Φ = SF s := by
  refine con_of (fun O0 w0 F => ?_)
  have F := F.perm List.perm_append_comm
  change Fr _ _ _ _ _ ((0, Thing.cells b1 _) :: (0, Thing.cells b2 _) :: (1, Jt p q bq (jx x0)) :: (J x0).map (fun t => (1, t))) _ at F
  refine fn_of _ Try.func43 rfl (by kernel_rfl) Try.ntmps43 rfl ?_
  refine go_on ?_
  refine g_loop (X := Nat × X) (fun y => [(0, .func (.yield l) #[] #[]), (1, dptr b1), (2, dptr b2), (5, .int .i64 many), (6, .int .i64 y.1)])
    (fun y wr => ∃ O, Fr ((Jt p q bq (jx x0) :: J x0).flatMap (·.bs)) O0 w0 O wr ((0, Thing.cells b1 [.int .i64 many]) :: (0, Thing.cells b2 [dptr p]) :: (1, Jt p q bq (jx y.2)) :: (J y.2).map (fun t => (1, t))) (JF y.2) ∧ y.1 ≤ many ∧ JP y.1 y.2) (fun y => many - y.1)
    (0, x0) (sub_cons rfl rfl (sub_cons rfl rfl (sub_cons rfl rfl (sub_cons rfl rfl (sub_cons rfl rfl (sub_nil)))))) ⟨_, F, Nat.zero_le _, h0⟩ ?_
  clear F
  rintro ⟨i, xx⟩ w ⟨O, F, hi, hJ⟩
  dsimp only at F hi hJ ⊢
  refine go_on ?_
  refine g_dec rfl (fun g2 => ?_) (fun g2 => ?_)
  · have hi' : i < many := by omega
    obtain ⟨hjl, hjp⟩ := hj i xx hJ
    obtain ⟨vs, hvl, hjo, F⟩ := openJ F
    obtain ⟨h1, h2, h3, h4, h5, h6, h7, h8⟩ := id hjo
    unfold jcells at F
    refine go_on ?_
    have hmod : ((jx xx).place + i) % (jx xx).log < (jx xx).log := Nat.mod_lt _ (by omega)
    refine f_draw [(0, Thing.cells b2 _), (1, Thing.cells p _)] F [14, 15] [(0, true), (1, true), (2, true), (3, true), (4, true), (5, true), (6, true), (7, true), (8, true), (9, true), (10, true), (11, true), (12, true), (13, true), (14, false), (15, false)] (by kernel_rfl) (by kernel_rfl) (fun w F hS => ?_); refine go_look ?_
    have F := mkJ (jx xx) F hjo (vs := vs)
    refine rd_do rfl ?_; (try refine r_go rfl rfl ?_)
    have hY' := hY i xx hi' hJ
    rw [← hjl, ← hjp] at hY'
    refine f_yield (k := 1) (A := Jt p q bq (jx xx) :: J xx) [(0, Thing.cells b1 [.int .i64 many]), (0, Thing.cells b2 [dptr p])] (F.perm ?_) rfl rfl rfl hY' (fun f hf => by simp [hf]) (.inl rfl) (fun r O w T Φ hK F => ?_)
    · exact (List.perm_middle (l₁ := [(0, Thing.cells b1 [.int .i64 many]), (0, Thing.cells b2 [dptr p])]) (a := (1, Jt p q bq (jx xx))) (l₂ := (J xx).map (fun t => (1, t)))).symm
    rcases hK with ⟨x', rfl, hJ', rfl, rfl⟩ | ⟨s, rfl, hS', rfl, rfl⟩
    · have F := F.wkF (Φ' := JF x') (fun f hf => by simp [hf])
      (try refine r_nil ?_); refine e_after (fun h => by cases h) ?_; refine go_look ?_
      refine rd_do rfl ?_; (try refine r_go rfl rfl ?_)
      refine go_on ?_
      (try refine r_nil ?_); refine e_after (fun h => by cases h) ?_; refine go_look ?_
      refine rd_done ?_; refine go_on ?_
      exact e_round (i + 1, x') (sub_cons rfl rfl (sub_cons rfl rfl (sub_cons rfl rfl (sub_cons rfl rfl (sub_cons rfl rfl (sub_nil)))))) ⟨_, F, by simp only; omega, hJ'⟩ (by simp only; omega)
    · (try refine r_nil ?_); refine e_after (fun h => by cases h) ?_; refine go_look ?_
      refine rd_do rfl ?_; (try refine r_go rfl rfl ?_)
      refine go_on ?_
      (try refine r_nil ?_); refine e_after (fun h => by cases h) ?_; refine go_look ?_
      refine rd_done ?_; refine go_on ?_
      refine go_back ?_
      exact Fr.finL (own := [(0, Thing.cells b1 [.int .i64 many]), (0, Thing.cells b2 [dptr p])]) F (.inr ⟨s, hS', rfl, rfl⟩) (fun f hf => by simp [hf]) (.inl rfl)
  · have hi' : i = many := by omega
    subst hi'
    refine go_on ?_
    refine go_back ?_
    exact Fr.finL (own := [(0, Thing.cells b1 [.int .i64 i]), (0, Thing.cells b2 [dptr p])]) F (.inl ⟨xx, hJ, rfl, rfl⟩) (fun f hf => by simp [hf]) (.inl rfl)
end Go.Proofs.Ytmohjmfcbhpldaa
