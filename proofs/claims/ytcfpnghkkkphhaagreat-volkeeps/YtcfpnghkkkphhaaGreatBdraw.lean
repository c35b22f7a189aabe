/- Which are free, and the lowest of them. -/
import Derived.Test.YtcfpnghkkkphhaaGreatBits
namespace Go.Proofs.YtcfpnghkkkphhaaGreat
open Gk Go
set_option linter.unusedVariables false
set_option maxHeartbeats 4000000
set_option maxRecDepth 4000
set_option linter.unusedSimpArgs false
attribute [local irreducible] Int.decLt Int.decLe Int.decEq Int.instDecidableEq Gk.Rnds Gk.E Gk.G Gk.R Gk.RD Gk.RX Gk.RO Gk.Y Gk.Ent Gk.Sat Gk.Round Gk.After Gk.Cell Gk.Sl Gk.SlA Gk.CB Gk.OK Gk.FnC Gk.Bytes Gk.BytesL Gk.StrL Gk.Buf Gk.MapI
def bptr (p : Nat) : Value := .pointer (some ⟨p, 0, none⟩)
theorem bfree_c {u : Value} {n : Nat} (h : u.oneCell' = true) : Con Tryz.prog 76 [u, .int .i64 n] [] [] [] fun r T Φ => ∃ b3 b2, r = .func (.func 83) #[] #[bptr b3, bptr b2] ∧ T = [Thing.cells b3 [.int .i64 n], Thing.cells b2 [u]] ∧ Φ = [] := by
  refine con_of (fun O0 w0 F => ?_)
  refine tidy F (fun F => ?_)
  refine fn_of _ Tryz.func76 rfl (by kernel_rfl) Tryz.ntmps76 rfl ?_
  refine go_on ?_
  refine f_box1 F rfl rfl (fun q2 w F => ?_) (hv := h)
  refine go_on ?_
  (first | refine f_box1 F rfl rfl (fun q3 w F => ?_) | refine f_boxN F rfl rfl (fun q3 w F => ?_)); refine go_on ?_
  refine go_on ?_
  refine go_back ?_
  exact F.fin ⟨_, _, rfl, rfl, rfl⟩
theorem bfree1_c {X S : Type} {l b3 b2 n : Nat} {u : Value} {b : List UInt8} {J : X → List Thing} {JF : X → List Fact} {JP : Nat → X → Prop} {SJ : S → List Thing} {SF : S → List Fact} {SP : S → Prop} {x0 : X}
    (hY : ∀ i x, i < n → hasB b i = false → JP i x → YCon Tryz.prog l [.int .i64 i] (J x) (JF x) (fun r T Φ => (∃ x', r = .bool true ∧ JP (i + 1) x' ∧ T = J x' ∧ Φ = JF x') ∨ ∃ s, r = .bool false ∧ SP s ∧ T = SJ s ∧ Φ = SF s))
    (hN : ∀ i x, i < n → hasB b i = true → JP i x → JP (i + 1) x) (h0 : JP 0 x0) (hn : n ≤ 1000000 ∧ b.length ≤ 1000000) :
    Con Tryz.prog 83 [.func (.yield l) #[] #[], bptr b3, bptr b2] (J x0) [Thing.cells b3 [.int .i64 n], Thing.cells b2 [u]] (Fact.bytes u b :: JF x0) fun r T Φ => (∃ x, JP n x ∧ T = J x ∧ Φ = JF x) ∨ ∃ s, SP s ∧ T = SJ s ∧ Φ = SF s := by
  obtain ⟨hn1, hn2⟩ := hn
  refine con_of (fun O0 w0 F => ?_)
  have F := F.perm List.perm_append_comm
  change Fr _ _ _ _ _ ((0, Thing.cells b3 _) :: (0, Thing.cells b2 _) :: (J x0).map (fun t => (1, t))) _ at F
  refine fn_of _ Tryz.func83 rfl (by kernel_rfl) Tryz.ntmps83 rfl ?_
  refine go_on ?_
  refine r_y (y_max2 rfl rfl) rfl ?_
  rw [if_neg (show ¬ (0 : Int) > (n : Int) by omega)]
  refine go_on ?_
  refine g_loop (X := Nat × X) (fun y => [(0, .func (.yield l) #[] #[]), (1, bptr b3), (2, bptr b2), (6, .int .i64 n), (7, .int .i64 y.1)])
    (fun y wr => ∃ O, Fr ((J x0).flatMap (·.bs)) O0 w0 O wr ((0, Thing.cells b3 [.int .i64 n]) :: (0, Thing.cells b2 [u]) :: (J y.2).map (fun t => (1, t))) (Fact.bytes u b :: JF y.2) ∧ y.1 ≤ n ∧ JP y.1 y.2) (fun y => n - y.1)
    (0, x0) (sub_cons rfl rfl (sub_cons rfl rfl (sub_cons rfl rfl (sub_cons rfl rfl (sub_cons rfl rfl (sub_nil)))))) ⟨_, F, Nat.zero_le _, h0⟩ ?_
  clear F
  rintro ⟨i, xx⟩ w ⟨O, F, hi, hJ⟩
  dsimp only at F hi hJ ⊢
  refine go_on ?_
  refine g_dec rfl (fun g2 => ?_) (fun g2 => ?_)
  · have hi' : i < n := by omega
    refine go_on ?_
    refine f_call F rfl rfl (bhas_c (b := b) (i := i)) ?_ (hp := ⟨by omega, by omega⟩)
    clear F; rintro r O w T Φ ⟨rfl, rfl, rfl⟩ F0
    refine tidy F0 (fun F => ?_); clear F0
    cases hb : hasB b i with
    | true =>
      refine go_on ?_
      exact e_round (i + 1, xx) (sub_cons rfl rfl (sub_cons rfl rfl (sub_cons rfl rfl (sub_cons rfl rfl (sub_cons rfl rfl (sub_nil)))))) ⟨_, F, by simp only; omega, hN i xx hi' hb hJ⟩ (by simp only; omega)
    | false =>
      refine go_on ?_
      refine f_yield (k := 1) (A := J xx) [(0, Thing.cells b3 [.int .i64 n]), (0, Thing.cells b2 [u])] F rfl rfl rfl (hY i xx hi' hb hJ) (fun f hf => by simp [hf]) (.inl rfl) (fun r O w T Φ hK F => ?_)
      rcases hK with ⟨x', rfl, hJ', rfl, rfl⟩ | ⟨s, rfl, hS', rfl, rfl⟩
      · have F := F.wkF (Φ' := Fact.bytes u b :: JF x') (fun f hf => by
          rcases List.mem_cons.1 hf with rfl | hf
          · simp
          · simp [hf])
        refine go_on ?_
        exact e_round (i + 1, x') (sub_cons rfl rfl (sub_cons rfl rfl (sub_cons rfl rfl (sub_cons rfl rfl (sub_cons rfl rfl (sub_nil)))))) ⟨_, F, by simp only; omega, hJ'⟩ (by simp only; omega)
      · refine go_on ?_
        refine go_back ?_
        exact Fr.finL (own := [(0, Thing.cells b3 [.int .i64 n]), (0, Thing.cells b2 [u])]) F (.inr ⟨s, hS', rfl, rfl⟩) (fun f hf => by simp [hf]) (.inl rfl)
  · have hi' : i = n := by omega
    subst hi'
    refine go_on ?_
    refine go_back ?_
    exact Fr.finL (own := [(0, Thing.cells b3 [.int .i64 i]), (0, Thing.cells b2 [u])]) F (.inl ⟨xx, hJ, rfl, rfl⟩) (fun f hf => by simp [hf]) (.inl rfl)
def iV (x : Nat) : Value := .int .i64 x
/-- Those that aren't taken. -/
def freeB (b : List UInt8) : Nat → List Nat
  | 0 => []
  | k + 1 => if hasB b k then freeB b k else freeB b k ++ [k]
theorem freeB_pre (b : List UInt8) (i : Nat) : ∀ n, i ≤ n → ∃ r, freeB b n = freeB b i ++ r
  | 0, h => ⟨[], by rw [show i = 0 by omega]; rfl⟩
  | n + 1, h => by
    by_cases e : i = n + 1
    · exact ⟨[], by rw [e, List.append_nil]⟩
    · obtain ⟨r, hr⟩ := freeB_pre b i n (by omega)
      rw [show freeB b (n + 1) = if hasB b n then freeB b n else freeB b n ++ [n] from rfl]
      split
      · exact ⟨r, hr⟩
      · exact ⟨r ++ [n], by rw [hr, List.append_assoc]⟩
theorem freeB_take {b : List UInt8} {i n many : Nat} (hi : i ≤ n) (h : (freeB b i).length = many) : (freeB b n).take many = freeB b i ∧ many ≤ (freeB b n).length := by
  obtain ⟨r, hr⟩ := freeB_pre b i n hi
  rw [hr, ← h, List.length_append]
  exact ⟨List.take_left, by omega⟩
/-- The lowest ones, so many, or none. -/
def drawB (b : List UInt8) (n many : Nat) : List Nat := if (freeB b n).length < many then [] else (freeB b n).take many
def drawE (b : List UInt8) (n many : Nat) : Nat := if (freeB b n).length < many then 66 else 0
theorem bdraw_c {u : Value} {b : List UInt8} {n many : Nat} (h : n ≤ 1000000 ∧ b.length ≤ 1000000 ∧ many ≤ 1000000) : Con Tryz.prog 63 [u, .int .i64 n, .int .i64 many] [] [] [Fact.bytes u b] fun r T Φ => ∃ v, r = .tuple #[v, .int .i64 (drawE b n many)] ∧ T = [] ∧ Φ = [Fact.sl v (drawB b n many).length ((drawB b n many).map iV)] := by
  obtain ⟨h1, h2, h3⟩ := h
  refine con_of (fun O0 w0 F => ?_)
  refine tidy F (fun F => ?_)
  refine fn_ofM _ Tryz.func63 rfl (by kernel_rfl) Tryz.ntmps63 rfl ?_
  obtain ⟨ua, uc, rfl, _⟩ := (F.bytes (v := u)).form
  refine go_on ?_
  (first | refine f_box1 F rfl rfl (fun q5 w F => ?_) | refine f_boxN F rfl rfl (fun q5 w F => ?_)); refine go_on ?_
  refine go_on ?_
  (first | refine f_alloc1 F rfl (fun q8 w F => ?_) | refine f_allocN F rfl (fun q8 w F => ?_)); refine go_on ?_
  refine go_on ?_
  refine g_dec rfl (fun g => ?_) (fun g => ?_)
  · refine go_on ?_
    have F := F
    refine f_call F rfl rfl (bfree_c (u := .slice ua b.length uc) (n := n)) ?_ (hp := rfl)
    clear F; rintro r O w T Φ ⟨b3, b2, rfl, rfl, rfl⟩ F0
    refine tidy F0 (fun F => ?_); clear F0
    refine go_on ?_
    have F := F.nilbuf 1
    refine g_rangeC F rfl (fun l k w r0 e1 e2 e3 e4 e5 e6 e7 F => ?_)
    refine range_use (bfree1_c (X := List Nat × Value) (S := List Nat × Value) (l := l) (b3 := b3) (b2 := b2) (n := n) (u := .slice ua b.length uc) (b := b)
      (J := fun y => [Thing.loop l r0, Thing.cells q5 [.int .i64 many], Thing.cells q8 [y.2], Thing.buf 1 y.2 y.1.length (y.1.map iV)]) (JF := fun _ => []) (JP := fun i y => y.1 = freeB b i ∧ y.1.length < many)
      (SJ := fun s => [Thing.loop l { r0 with state := .done, pending := some (.exit 0) }, Thing.cells q5 [.int .i64 many], Thing.cells q8 [s.2], Thing.buf 1 s.2 s.1.length (s.1.map iV)]) (SF := fun _ => []) (SP := fun s => s.1.length = many ∧ ∃ i, i ≤ n ∧ s.1 = freeB b i)
      (x0 := ([], .slice none 0 0)) ?_ ?_ ⟨rfl, by show 0 < many; omega⟩ ⟨by omega, by omega⟩) F (fun r O w T Φ hK F => ?_)
    · rintro i ⟨out, v⟩ hi hb ⟨ho, hlt⟩
      dsimp only at ho hlt ⊢
      refine ycon_of (ps := [17]) e3 rfl e6 rfl e7 (by simp) (fun O w F => ?_)
      rw [e4, e5]
      refine tidy F (fun F => ?_)
      refine go_on ?_
      refine e_begin F (by (repeat (first | exact Sel.here | apply Sel.there))) (.inl rfl) e1 (fun w F => ?_)
      refine go_on ?_
      obtain ⟨va, vc, rfl, _⟩ := (F.bufAt (v := v)).form
      refine f_buildSlice (cs := [.int .i64 i]) F rfl rfl rfl rfl (fun q9 w F => ?_)
      refine go_on ?_
      refine f_append F rfl rfl rfl (F.srcOne) (fun r w O F => ?_); refine go_on ?_
      obtain ⟨ra, rc, rfl, _⟩ := (F.bufAt (v := r)).form
      refine f_store1 F rfl rfl rfl (fun w F => ?_); refine go_on ?_
      have e8 : out.map iV ++ [Value.int .i64 (i : Nat)] = (out ++ [i]).map iV := by rw [List.map_append]; rfl
      have e9 : out.length + 1 = (out ++ [i]).length := by rw [List.length_append]; rfl
      rw [e8, e9] at F
      have hfr : out ++ [i] = freeB b (i + 1) := by rw [ho]; exact (if_neg (by rw [hb]; simp)).symm
      by_cases c : out.length + 1 = many
      · refine go_on ?_
        refine e_round_end (some (.exit 0)) (.inr (.inr ⟨0, rfl, rfl⟩)) F (by (repeat (first | exact Sel.here | apply Sel.there))) (.inl rfl) (fun w F => ?_)
        simp only [Option.isNone_some, Bool.false_eq_true, if_false] at F
        rw [e4, e5] at F
        exact F.fin (.inr ⟨(out ++ [i], _), rfl, ⟨by rw [← e9]; exact c, i + 1, by omega, hfr⟩, rfl, rfl⟩)
      · refine go_on ?_
        refine e_round_end none (.inl ⟨rfl, rfl⟩) F (by (repeat (first | exact Sel.here | apply Sel.there))) (.inl rfl) (fun w F => ?_)
        rw [rdy e1 e2] at F
        exact F.fin (.inl ⟨(out ++ [i], _), rfl, ⟨hfr, by rw [← e9]; omega⟩, rfl, rfl⟩)
    · rintro i ⟨out, v⟩ hi hb ⟨ho, hlt⟩
      refine ⟨?_, hlt⟩
      rw [ho]
      exact (if_pos hb).symm
    · rcases hK with ⟨⟨out, v⟩, ⟨ho, hlt⟩, rfl, rfl⟩ | ⟨⟨out, v⟩, ⟨hl, i, hi, ho⟩, rfl, rfl⟩ <;> dsimp only at *
      · refine tidy F (fun F => ?_)
        refine back_done F (by (repeat (first | exact Sel.here | apply Sel.there))) (.inl rfl) (by rw [e1]; decide) e2 (fun w F => ?_)
        refine e_block_normal ?_
        have F := ((F.promote (t := Thing.buf 1 v out.length (out.map iV)) (by (repeat (first | exact Sel.here | apply Sel.there))) (fun b hb => by cases hb)).promote (t := Thing.cells q8 [v]) (by (repeat (first | exact Sel.here | apply Sel.there))) (fun b hb => by cases hb)).promote (t := Thing.cells q5 [.int .i64 many]) (by (repeat (first | exact Sel.here | apply Sel.there))) (fun b hb => by cases hb)
        obtain ⟨va, vc, rfl, _⟩ := (F.bufAt (v := v)).form
        have e11 : drawB b n many = [] := if_pos (by rw [← ho]; exact hlt)
        have e12 : drawE b n many = 66 := if_pos (by rw [← ho]; exact hlt)
        rw [e11, e12]
        refine go_on ?_
        have F := F.fact (f := Fact.sl (.slice none 0 0) ([] : List Nat).length (([] : List Nat).map iV)) Sl.nil
        refine g_ret ?_
        (repeat (first | refine e_then_ret ?_ | refine e_block_ret ?_))
        refine e_leave1 (.inl rfl) F (by (repeat (first | exact Sel.here | apply Sel.there))) (fun w F => ?_)
        refine go_back ?_
        exact F.fin ⟨_, rfl, rfl, rfl⟩
      · obtain ⟨ht1, ht2⟩ := freeB_take (many := out.length) hi (by rw [← ho])
        refine tidy F (fun F => ?_)
        refine back_jump F (by (repeat (first | exact Sel.here | apply Sel.there))) (.inl rfl) (fun h => by cases h) rfl (fun w F => ?_)
        refine g_exit ?_
        refine e_block_exit ?_
        have F := ((F.promote (t := Thing.buf 1 v out.length (out.map iV)) (by (repeat (first | exact Sel.here | apply Sel.there))) (fun b hb => by cases hb)).promote (t := Thing.cells q8 [v]) (by (repeat (first | exact Sel.here | apply Sel.there))) (fun b hb => by cases hb)).promote (t := Thing.cells q5 [.int .i64 many]) (by (repeat (first | exact Sel.here | apply Sel.there))) (fun b hb => by cases hb)
        have ho : out = (freeB b n).take many := by rw [← hl]; rw [ht1]; exact ho
        have ht2 : many ≤ (freeB b n).length := by rw [← hl]; exact ht2
        obtain ⟨va, vc, rfl, _⟩ := (F.bufAt (v := v)).form
        have e11 : drawB b n many = out := by unfold drawB; rw [if_neg (by omega)]; exact ho.symm
        have e12 : drawE b n many = 0 := if_neg (by omega)
        rw [e11, e12]
        obtain ⟨O, F⟩ := F.frzBuf (v := .slice va out.length vc)
        refine go_on ?_
        refine g_ret ?_
        (repeat (first | refine e_then_ret ?_ | refine e_block_ret ?_))
        refine e_leave1 (.inl rfl) F (by (repeat (first | exact Sel.here | apply Sel.there))) (fun w F => ?_)
        refine go_back ?_
        exact F.fin ⟨_, rfl, rfl, rfl⟩
  · have hm0 : many = 0 := by omega
    have F := F.nilbuf 1
    have ho : ([] : List Nat) = (freeB b n).take many := by rw [hm0]; rfl
    have e11 : drawB b n many = [] := by unfold drawB; rw [if_neg (by omega)]; exact ho.symm
    have e12 : drawE b n many = 0 := if_neg (by omega)
    rw [e11, e12]
    have F := F.fact (f := Fact.sl (.slice none 0 0) ([] : List Nat).length (([] : List Nat).map iV)) Sl.nil
    refine go_on ?_
    refine g_ret ?_
    (repeat (first | refine e_then_ret ?_ | refine e_block_ret ?_))
    refine e_leave (.inl rfl) ?_
    refine go_back ?_
    exact F.fin ⟨_, rfl, rfl, rfl⟩
end Go.Proofs.YtcfpnghkkkphhaaGreat
