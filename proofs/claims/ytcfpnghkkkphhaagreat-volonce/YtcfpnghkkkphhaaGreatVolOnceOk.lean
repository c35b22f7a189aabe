/- VolOnce answers true. -/
import Derived.Test.YtcfpnghkkkphhaaGreatVmore
namespace Go.Proofs.YtcfpnghkkkphhaaGreat
open Gk Go
set_option linter.unusedVariables false
set_option maxHeartbeats 4000000
set_option maxRecDepth 4000
set_option linter.unusedSimpArgs false
attribute [local irreducible] Int.decLt Int.decLe Int.decEq Int.instDecidableEq Gk.Rnds Gk.E Gk.G Gk.R Gk.RD Gk.RX Gk.RO Gk.Y Gk.Ent Gk.Sat Gk.Round Gk.After Gk.Cell Gk.Sl Gk.SlA Gk.CB Gk.OK Gk.FnC Gk.Bytes Gk.BytesL Gk.StrL Gk.Buf Gk.MapI
theorem mayS_snoc {l : List Slt} {i : Nat} (hi : i < l.length) (h : mayS (l.take i)) (hok : l[i].ok) (hd : ∀ k (h : k < l.length), k < i → l[k].ino ≠ l[i].ino) : mayS (l.take (i + 1)) := by
  intro j hj
  rw [List.length_take] at hj
  have hj1 : j < l.length := by omega
  rw [List.getElem_take]
  by_cases e : j = i
  · subst e
    refine ⟨hok, fun x hx => ?_⟩
    rw [List.take_take, Nat.min_eq_left (by omega)] at hx
    obtain ⟨k, hk, rfl⟩ := List.getElem_of_mem hx
    rw [List.length_take] at hk
    rw [List.getElem_take]
    exact hd k (by omega) (by omega)
  · have h2 := h j (by rw [List.length_take]; omega)
    rw [List.getElem_take] at h2
    refine ⟨h2.1, fun x hx => h2.2 x ?_⟩
    rw [List.take_take] at hx ⊢
    rw [Nat.min_eq_left (by omega)] at hx ⊢
    exact hx
theorem updS_snoc (s : Slt) : ∀ (l : List Slt) (S : Nat → Slt), updS S (l ++ [s]) = upI (updS S l) s.ino s
  | [], S => rfl
  | x :: l, S => updS_snoc s l _
theorem mayS_take {l : List Slt} (h : mayS l) (i : Nat) : mayS (l.take i) := by
  intro j hj
  rw [List.length_take] at hj
  have := h j (by omega)
  rw [List.getElem_take]
  refine ⟨this.1, fun x hx => this.2 x ?_⟩
  rw [List.take_take, Nat.min_eq_left (by omega)] at hx
  exact hx
theorem volAll_len {t : Tx} {S : Nat → Slt} {I : Nat → List Nat} (h : Good t S I) : (volAll t).1.length = 24 := by rw [h.all]; simp
theorem VolOnce_ok {w0 : World} {v : Value} {l : List Slt} (hfit : ∀ s, s ∈ l → s.fit) (hll : l.length ≤ maxLen) (F : Fr [] [] w0 [] w0 [] [Fact.rel 9 SltR v l]) :
    FnC Tryz.prog 8 [v] [] [] w0 fun r O' w' => r = .bool true := by
  obtain ⟨la, lc, rfl, _⟩ := (F.rel (v := v) (R := SltR)).form
  have hG := Good.new (n := 135) (by decide)
  have hw : (tx0 135).was.length = 135 := List.length_replicate
  refine fn_of _ Tryz.func8 rfl (by kernel_rfl) Tryz.ntmps8 rfl ?_
  refine go_on ?_
  refine f_call F rfl rfl awake12_c ?_ (hp := trivial)
  clear F; rintro r O w T Φ ⟨rfl, rfl, rfl⟩ F0
  refine tidy F0 (fun F => ?_); clear F0
  refine go_on ?_
  refine f_call F rfl rfl (few_c (l := l)) ?_ (hp := (by unfold maxLen at hll; omega))
  clear F; rintro r O w T Φ ⟨rfl, rfl, rfl⟩ F0
  refine tidy F0 (fun F => ?_); clear F0
  by_cases hfew : (∀ s, s ∈ l → s.data.length ≤ 800) ∧ l.length ≤ 12
  · rw [decide_eq_true hfew]
    have hl12 := hfew.2
    refine go_on ?_
    refine f_make (l := 135) (c := 135) F rfl rfl rfl (fun qt w F => ?_)
    obtain ⟨O, F⟩ := F.frzSl (q := qt) (Nat.le_refl 135)
    have F := F.fact (f := Fact.bytesL (.slice (some ⟨qt, 0, none⟩) 135 135) (List.replicate 135 [])) (nil_bytesL (F.sl (v := .slice (some ⟨qt, 0, none⟩) 135 135) (cs := List.replicate 135 (.slice none 0 0))))
    refine go_on ?_
    refine f_call F rfl rfl (txnNew_c (l := List.replicate 135 [])) ?_ (hp := ⟨by rw [List.length_replicate]; omega, fun b hb => by rw [List.eq_of_mem_replicate hb]; exact Nat.zero_le _⟩)
    clear F; rintro r O w T Φ ⟨pt, mt, rfl, rfl, rfl⟩ F0
    refine tidy F0 (fun F => ?_); clear F0
    change Fr _ _ _ _ _ ((2, Tn pt mt (tx0 135)) :: _) _ at F
    refine go_on ?_
    refine f_make (l := 135) (c := 135) F rfl rfl rfl (fun qu w F => ?_)
    obtain ⟨O, F⟩ := F.frzSl (q := qu) (Nat.le_refl 135)
    have F := F.fact (f := Fact.bytesL (.slice (some ⟨qu, 0, none⟩) 135 135) (List.replicate 135 [])) (nil_bytesL (F.sl (v := .slice (some ⟨qu, 0, none⟩) 135 135) (cs := List.replicate 135 (.slice none 0 0))))
    refine go_on ?_
    refine f_call F rfl rfl (txnNew_c (l := List.replicate 135 [])) ?_ (hp := ⟨by rw [List.length_replicate]; omega, fun b hb => by rw [List.eq_of_mem_replicate hb]; exact Nat.zero_le _⟩)
    clear F; rintro r O w T Φ ⟨pu, mu, rfl, rfl, rfl⟩ F0
    refine tidy F0 (fun F => ?_); clear F0
    change Fr _ _ _ _ _ ((2, Tn pu mu (tx0 135)) :: _) _ at F
    refine go_on ?_
    refine f_call F rfl rfl (vsave_c (p := pt) (m := mt) (t := tx0 135) (l := l)) ?_ (hp := ⟨by omega, hG.low, hG.nine, hfit⟩)
    clear F; rintro r O w T Φ ⟨m2, rfl, rfl, rfl⟩ F0
    refine tidy F0 (fun F => ?_); clear F0
    obtain ⟨te, tt, hT⟩ : ∃ te tt, volSave (tx0 135) l = (te, tt) := ⟨_, _, (Prod.eta _).symm⟩
    rw [hT] at F
    rw [hT]
    dsimp only at F ⊢
    refine go_on ?_
    refine g_loop (X := Nat × Bool × Nat × Tx × (Nat → List Nat)) (fun y => [(0, .slice la l.length lc), (5, tptr pt), (6, tptr pu), (7, errT te), (8, .bool y.2.1), (9, .int .i64 y.1)])
      (fun y wr => ∃ O, Fr [] [] w0 O wr [(2, Tn pt m2 tt), (2, Tn pu y.2.2.1 y.2.2.2.1)] [Fact.rel 9 SltR (.slice la l.length lc) l] ∧ y.1 ≤ l.length ∧ (y.2.1 = true → mayS (l.take y.1) ∧ Good y.2.2.2.1 (updS slt0 (l.take y.1)) y.2.2.2.2 ∧ y.2.2.2.1.was.length = 135 ∧ usedS (updS slt0 (l.take y.1)) ≤ 8 * y.1) ∧ (y.2.1 = false → ¬ mayS l)) (fun y => l.length - y.1)
      (0, true, mu, tx0 135, fun _ => []) (sub_cons rfl rfl (sub_cons rfl rfl (sub_cons rfl rfl (sub_cons rfl rfl (sub_cons rfl rfl (sub_cons rfl rfl (sub_nil))))))) ⟨_, F.wk, Nat.zero_le _, fun _ => ⟨fun i hi => absurd hi (by simp), hG, hw, by show usedS (updS slt0 (l.take 0)) ≤ 0; rw [List.take_zero]; exact Nat.le_of_eq used0⟩, fun k => by cases k⟩ ?_
    clear F
    rintro ⟨i, fine, mu, u, I⟩ w ⟨O, F, hi, hy, hn⟩
    dsimp only at F hi hy hn ⊢
    refine go_on ?_
    refine g_dec rfl (fun g => ?_) (fun g => ?_)
    · have hi' : i < l.length := by omega
      refine go_on ?_
      refine g_loop (X := Nat × Bool) (fun y => [(0, .slice la l.length lc), (5, tptr pt), (6, tptr pu), (7, errT te), (8, .bool y.2), (9, .int .i64 i), (10, .int .i64 y.1)])
        (fun y wr => ∃ O, Fr [] [] w0 O wr [(2, Tn pt m2 tt), (2, Tn pu mu u)] [Fact.rel 9 SltR (.slice la l.length lc) l] ∧ y.1 ≤ i ∧ (y.2 = true ↔ fine = true ∧ ∀ k (h : k < l.length), k < y.1 → l[k].ino ≠ l[i].ino)) (fun y => i - y.1)
        (0, fine) (sub_cons rfl rfl (sub_cons rfl rfl (sub_cons rfl rfl (sub_cons rfl rfl (sub_cons rfl rfl (sub_cons rfl rfl (sub_cons rfl rfl (sub_nil)))))))) ⟨_, F.wk, Nat.zero_le _, ⟨fun k => ⟨k, fun _ _ h => absurd h (Nat.not_lt_zero _)⟩, fun k => k.1⟩⟩ ?_
      clear F
      rintro ⟨j, fj⟩ w ⟨O, F, hj, hfj⟩
      dsimp only at F hj hfj ⊢
      refine go_on ?_
      refine g_dec rfl (fun g => ?_) (fun g => ?_)
      · have hj' : j < i := by omega
        have hjl : j < l.length := by omega
        obtain ⟨x, row, hx9, hrl, ⟨u1, hr1, hb1⟩, hrow⟩ := (F.rel (R := SltR) (ys := l)).elem hi'
        subst hr1
        (first | subst hx9 | (injection hx9 with hx9; subst hx9))
        obtain ⟨x2, row2, hx9, hrl2, ⟨u2, hr2, hb2⟩, hrow2⟩ := (F.rel (R := SltR) (ys := l)).elem hjl
        subst hr2
        (first | subst hx9 | (injection hx9 with hx9; subst hx9))
        have F := (F.fact hrow).fact hrow2
        unfold sltC at F
        refine go_on ?_
        refine f_drawA F [] [(0, true), (1, true), (2, true), (3, true), (4, true), (5, true), (6, true), (7, true), (8, true), (9, true), (10, true), (11, true), (12, true), (13, true), (14, true)] (by kernel_rfl) (by kernel_rfl) (fun w F hS => ?_); refine go_look ?_
        apply rd_and 12 54 42
        · exact rfl
        · intro e K; have e' := e; (try simp only [Bool.and_eq_true, Bool.or_eq_true, decide_eq_true_eq, decide_eq_false_iff_not, Bool.not_eq_true', Bool.or_eq_false_iff, Bool.not_eq_false', Bool.and_eq_false_iff] at e'); refine go_look1 ?_; refine go_look1 ?_; refine go_look1 ?_; refine go_look1 ?_; refine go_look1 ?_; refine go_look1 ?_; refine go_look1 ?_; refine go_look1 ?_; refine go_look1 ?_; refine go_look1 ?_; refine go_look1 ?_; refine go_look1 ?_; exact K _ (by exact rfl) (by (repeat (first | exact sub_refl | refine sub_new rfl ?_ | refine sub_bool rfl (by assumption) ?_)))
        · intro e K; have e' := e; (try simp only [Bool.and_eq_true, Bool.or_eq_true, decide_eq_true_eq, decide_eq_false_iff_not, Bool.not_eq_true', Bool.or_eq_false_iff, Bool.not_eq_false', Bool.and_eq_false_iff] at e'); refine go_look1 ?_; refine go_look1 ?_; refine go_look1 ?_; refine go_look1 ?_; refine go_look1 ?_; refine go_look1 ?_; refine go_look1 ?_; refine go_look1 ?_; refine go_look1 ?_; refine go_look1 ?_; refine go_look1 ?_; refine go_look1 ?_; exact K _ (by exact rfl) (by (repeat (first | exact sub_refl | refine sub_new rfl ?_ | refine sub_bool rfl (by assumption) ?_)))
        refine go_look ?_
        refine rd_done ?_; refine go_on ?_
        refine e_round (j + 1, fj && !decide ((l[j].ino : Int) = (l[i].ino : Int))) (sub_cons rfl rfl (sub_cons rfl rfl (sub_cons rfl rfl (sub_cons rfl rfl (sub_cons rfl rfl (sub_cons rfl rfl (sub_cons rfl rfl (sub_nil)))))))) ⟨_, F.wk, by simp only; omega, ?_⟩ (by simp only; omega)
        dsimp only
        rw [Bool.and_eq_true, hfj, Bool.not_eq_true', decide_eq_false_iff_not]
        constructor
        · rintro ⟨⟨k1, k2⟩, k3⟩
          refine ⟨k1, fun k hk hlt => ?_⟩
          by_cases e : k = j
          · subst e; omega
          · exact k2 k hk (by omega)
        · rintro ⟨k1, k2⟩
          refine ⟨⟨k1, fun k hk hlt => k2 k hk (by omega)⟩, ?_⟩
          have := k2 j hjl (by omega)
          omega
      · obtain rfl : j = i := by omega
        cases fj with
        | false =>
          have hno : ¬ mayS l := fun k => by
            cases fine with
            | false => exact hn rfl k
            | true =>
              have : (false : Bool) = true := hfj.2 ⟨rfl, fun k2 hk hlt e => (k j hi').2 l[k2] (by rw [List.mem_take_iff_getElem]; exact ⟨k2, by omega, rfl⟩) e⟩
              cases this
          refine go_on ?_
          exact e_round (j + 1, false, mu, u, I) (sub_cons rfl rfl (sub_cons rfl rfl (sub_cons rfl rfl (sub_cons rfl rfl (sub_cons rfl rfl (sub_cons rfl rfl (sub_nil))))))) ⟨_, F.wk, by simp only; omega, fun k => (by cases k), fun _ => hno⟩ (by simp only; omega)
        | true =>
          obtain ⟨hft, hdis⟩ := hfj.1 rfl
          obtain ⟨hm, hGu, hwu, hus⟩ := hy hft
          obtain ⟨x, row, hx9, hrl, ⟨u1, hr1, hb1⟩, hrow⟩ := (F.rel (R := SltR) (ys := l)).elem hi'
          subst hr1
          (first | subst hx9 | (injection hx9 with hx9; subst hx9))
          have F := (F.fact hrow).factB hb1
          obtain ⟨ua, uc, rfl, _⟩ := (F.bytes (xs := l[j].data)).form
          have hsnoc : updS slt0 (l.take (j + 1)) = upI (updS slt0 (l.take j)) l[j].ino l[j] := by rw [List.take_succ_eq_append_getElem hi', updS_snoc]
          have hmn := mayS_snoc hi' hm
          have hnok : ¬ l[j].ok → ¬ mayS l := fun h k => h (k j hi').1
          have hsf := hfit _ (List.getElem_mem hi')
          generalize l[j] = s at F hsnoc hmn hnok hsf hdis
          unfold sltC at F
          refine go_on ?_
          refine f_buildSlice (cs := [.int .u32 s.ino, .int .u32 s.kind, .int .u32 s.gen, .int .u32 s.links, .int .u32 s.mode, .int .u64 s.change, .int .u64 s.cookie, .int .u64 s.verf, .slice ua s.data.length uc]) F rfl rfl rfl rfl (fun qs w F => ?_)
          obtain ⟨O, F⟩ := frzSlts F (q := qs) (n := 1) (rows := [sltC s (.slice ua s.data.length uc)]) (l := [s]) rfl (by decide) ⟨⟨_, rfl, F.bytes⟩, trivial⟩ (fun row hr => by rw [List.mem_singleton.1 hr]; rfl)
          refine go_on ?_
          refine f_call F rfl rfl (vsave_c (p := pu) (m := mu) (t := u) (l := [s])) ?_ (hp := ⟨by simp, hGu.low, hGu.nine, fun x hx => by rw [List.mem_singleton.1 hx]; exact hsf⟩)
          clear F; rintro r O w T Φ ⟨m3, rfl, rfl, rfl⟩ F0
          refine tidy F0 (fun F => ?_); clear F0
          by_cases g9 : s.ok
          · have hs := hGu.save_one g9 hsf
            have hne : needN (s.data.length : Nat) ≤ 8 := by have := g9.1.2.2; rw [needN_nat]; omega
            rw [if_pos (by rw [hwu]; omega)] at hs
            obtain ⟨hs1, hs2, ⟨I2, hG2⟩, hu2⟩ := hs
            rw [hs1]
            rw [← hsnoc] at hG2 hu2
            have hw2 : (volSave u [s]).2.was.length = 135 := by rw [hs2, hwu]
            generalize (volSave u [s]).2 = u2 at F hs2 hG2 hw2
            refine go_on ?_
            rw [show decide (((0 : Nat) : Int) = 0) = true from decide_eq_true rfl]
            exact e_round (j + 1, true, m3, u2, I2) (sub_cons rfl rfl (sub_cons rfl rfl (sub_cons rfl rfl (sub_cons rfl rfl (sub_cons rfl rfl (sub_cons rfl rfl (sub_nil))))))) ⟨_, F.wk, by simp only; omega, fun _ => ⟨hmn g9 hdis, hG2, hw2, by dsimp only; omega⟩, fun k => (by cases k)⟩ (by simp only; omega)
          · have hs : volSave u [s] = (1, u) := if_neg (fun k => g9 (k.2 0 (by simp)).1)
            rw [hs]
            rw [hs] at F
            dsimp only
            refine go_on ?_
            rw [show decide (((1 : Nat) : Int) = 0) = false from decide_eq_false (by omega)]
            exact e_round (j + 1, false, m3, u, I) (sub_cons rfl rfl (sub_cons rfl rfl (sub_cons rfl rfl (sub_cons rfl rfl (sub_cons rfl rfl (sub_cons rfl rfl (sub_nil))))))) ⟨_, F.wk, by simp only; omega, fun k => (by cases k), fun _ => hnok g9⟩ (by simp only; omega)
    · obtain rfl : i = l.length := by omega
      rw [List.take_length] at hy
      cases fine with
      | false =>
        have hs : volSave (tx0 135) l = (1, tx0 135) := if_neg (fun k => hn rfl k.2)
        rw [hT] at hs
        injection hs with hs1 hs2
        subst hs1 hs2
        refine go_on ?_
        refine f_call F rfl rfl (txnChanges_c (p := pt) (m := m2) (t := tx0 135)) ?_ (hp := trivial)
        clear F; rintro r O w T Φ ⟨rfl, rfl⟩ F0
        refine tidy F0 (fun F => ?_); clear F0
        have hch : (tx0 135).changes = [] := by decide +kernel
        rw [hch] at F
        obtain ⟨ca, cc, rfl, _⟩ := (F.rel (v := r) (R := WrR)).form
        refine go_on ?_
        refine go_back ?_
        exact F.lawb (by simp)
      | true =>
        obtain ⟨hm, hGu, hwu, hus⟩ := hy rfl
        have hs := hG.save hm hfit
        rw [hw, if_pos (by omega)] at hs
        obtain ⟨hs1, hs2, _, I2, hGt⟩ := hs
        rw [hT] at hs1 hs2 hGt
        dsimp only at hs1 hs2 hGt
        subst hs1
        have hf1 : volFree tt = ((100 - usedS (updS slt0 l) : Nat) : Int) := by rw [hGt.free, hs2, hw]; omega
        have hf2 : volFree u = ((100 - usedS (updS slt0 l) : Nat) : Int) := by rw [hGu.free, hwu]; omega
        have ha1 := hGt.all
        have ha2 := hGu.all
        generalize updS slt0 l = S at hf1 hf2 ha1 ha2 hGt hGu
        clear hT hn
        refine go_on ?_
        refine f_call F rfl rfl (vfree_c (p := pt) (m := m2) (t := tt)) ?_ (hp := trivial)
        clear F; rintro r O w T Φ ⟨rfl, rfl, rfl⟩ F0
        refine tidy F0 (fun F => ?_); clear F0
        refine go_on ?_
        refine f_call F rfl rfl (vfree_c (p := pu) (m := mu) (t := u)) ?_ (hp := trivial)
        clear F; rintro r O w T Φ ⟨rfl, rfl, rfl⟩ F0
        refine tidy F0 (fun F => ?_); clear F0
        rw [hf1, hf2]
        refine go_on ?_
        refine f_call F rfl rfl (vall_c (p := pt) (m := m2) (t := tt)) ?_ (hp := trivial)
        clear F; rintro r O w T Φ ⟨av, rfl, rfl, rfl⟩ F0
        refine tidy F0 (fun F => ?_); clear F0
        rw [ha1] at F
        rw [ha1]
        refine go_on ?_
        refine f_call F rfl rfl (vall_c (p := pu) (m := mu) (t := u)) ?_ (hp := trivial)
        clear F; rintro r O w T Φ ⟨bv, rfl, rfl, rfl⟩ F0
        refine tidy F0 (fun F => ?_); clear F0
        rw [ha2] at F
        rw [ha2]
        have hml : ((List.range 24).map S).length = 24 := by simp
        generalize (List.range 24).map S = ml at F hml
        obtain ⟨aa, ac, rfl, _⟩ := (F.rel (v := av) (R := SltR)).form
        obtain ⟨ba, bc, rfl, _⟩ := (F.rel (v := bv) (R := SltR)).form
        dsimp only
        refine go_on ?_
        refine g_loop (X := Nat) (fun y => [(11, .slice aa ml.length ac), (12, errT 0), (13, .slice ba ml.length bc), (14, errT 0), (15, .int .i64 y)])
          (fun y wr => ∃ O, Fr [] [] w0 O wr [] [Fact.rel 9 SltR (.slice aa ml.length ac) ml, Fact.rel 9 SltR (.slice ba ml.length bc) ml] ∧ y ≤ ml.length) (fun y => ml.length - y)
          0 (sub_cons rfl rfl (sub_cons rfl rfl (sub_cons rfl rfl (sub_cons rfl rfl (sub_cons rfl rfl (sub_nil)))))) ⟨_, F.wk, Nat.zero_le _⟩ ?_
        clear F
        rintro i w ⟨O, F, hi⟩
        by_cases g : i < ml.length
        · obtain ⟨x, row, hx9, hrl, ⟨u1, hr1, hb1⟩, hrow⟩ := (F.rel (v := .slice aa ml.length ac) (R := SltR) (ys := ml)).elem g
          subst hr1
          (first | subst hx9 | (injection hx9 with hx9; subst hx9))
          obtain ⟨x2, row2, hx9, hrl2, ⟨u2, hr2, hb2⟩, hrow2⟩ := (F.rel (v := .slice ba ml.length bc) (R := SltR) (ys := ml)).elem g
          subst hr2
          (first | subst hx9 | (injection hx9 with hx9; subst hx9))
          have F := (((F.fact hrow).factB hb1).fact hrow2).factB hb2
          unfold sltC at F
          refine go_on ?_
          refine f_drawA F [] [(0, true), (1, true), (2, true), (3, true), (4, true), (5, true), (6, true), (7, true), (8, false), (9, true)] (by kernel_rfl) (by kernel_rfl) (fun w F hS => ?_); refine go_look ?_
          refine rd_do rfl ?_; (try refine r_go rfl rfl ?_)
          refine f_call F rfl rfl (ssame_c (s := ml[i]) (t := ml[i]) (u := u1) (v := u2)) ?_ (hp := trivial)
          clear F; rintro r O w T Φ ⟨rfl, rfl, rfl⟩ F0
          refine tidy F0 (fun F => ?_); clear F0
          rw [decide_eq_true (rfl : ml[i] = ml[i])]
          (try refine r_nil ?_); refine e_afterF F (fun hS => ?_); refine go_look ?_
          refine rd_done ?_; refine go_on ?_
          exact e_round (i + 1) (sub_cons rfl rfl (sub_cons rfl rfl (sub_cons rfl rfl (sub_cons rfl rfl (sub_cons rfl rfl (sub_nil)))))) ⟨_, F.wk, by omega⟩ (by omega)
        · refine go_on ?_
          rw [hml]
          refine go_on ?_
          refine go_back ?_
          exact F.lawb (by simp)
  · rw [decide_eq_false hfew]
    refine go_on ?_
    refine go_back ?_
    exact F.law
theorem VolOnce_true {w : World} {v0 : Value} (r0 : Reads Tryz.prog w 40 [v0]) :
    FnC Tryz.prog 8 [v0] [] [] w fun r O' w' => r = .bool true := by
  obtain ⟨l, ⟨h1, h2⟩, h3⟩ := reads_slts r0
  exact VolOnce_ok h2 h3 ((Fr.start OK_nil).fact (f := Fact.rel 9 SltR v0 l) h1)
end Go.Proofs.YtcfpnghkkkphhaaGreat
