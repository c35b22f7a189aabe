/- Things are saved. -/
import Derived.Test.YtcfpnghkkkphhaaGreatVsave
namespace Go.Proofs.YtcfpnghkkkphhaaGreat
open Gk Go
set_option linter.unusedVariables false
set_option maxHeartbeats 4000000
set_option maxRecDepth 4000
set_option linter.unusedSimpArgs false
attribute [local irreducible] Int.decLt Int.decLe Int.decEq Int.instDecidableEq Gk.Rnds Gk.E Gk.G Gk.R Gk.RD Gk.RX Gk.RO Gk.Y Gk.Ent Gk.Sat Gk.Round Gk.After Gk.Cell Gk.Sl Gk.SlA Gk.CB Gk.OK Gk.FnC Gk.Bytes Gk.BytesL Gk.StrL Gk.Buf Gk.MapI
def giveAll : List Slt → Tx → List UInt8 → Nat × List UInt8 × Tx
  | [], t, b => (0, b, t)
  | s :: l, t, b => if (volGive t b s.ino).1 = 0 then giveAll l (volGive t b s.ino).2.2 (volGive t b s.ino).2.1 else volGive t b s.ino
def takeAll : List Slt → Tx → List UInt8 → Nat × List UInt8 × Tx
  | [], t, b => (0, b, t)
  | s :: l, t, b => if (volTake t b s).1 = 0 then takeAll l (volTake t b s).2.2 (volTake t b s).2.1 else volTake t b s
def saveEnd (t : Tx) (r : Nat × List UInt8 × Tx) : Nat × Tx := if r.1 = 0 then (if r.2.2.putE 9 r.2.1 = 0 then (0, ⟨t.was, (r.2.2.put1 9 r.2.1).put⟩) else (r.2.2.putE 9 r.2.1, t)) else (r.1, t)
def volSave (t : Tx) (l : List Slt) : Nat × Tx :=
  if t.right ∧ mayS l then
    (if (giveAll l t (t.get 9)).1 = 0 then saveEnd t (takeAll l (giveAll l t (t.get 9)).2.2 (giveAll l t (t.get 9)).2.1) else ((giveAll l t (t.get 9)).1, t))
  else (1, t)
/-- No thing has a block far off. -/
def Tx.low (t : Tx) : Prop := ∀ i, i < 24 → ∀ x, x ∈ (t.ino i).1.blocks → x ≤ 1000000
theorem Tx.get_put (t : Tx) (i j : Int) (xs : List UInt8) : (t.put1 i xs).get j = if j = i ∧ 0 ≤ i ∧ i < t.was.length ∧ xs.length ≤ 96 then xs else t.get j := by
  by_cases h : 0 ≤ i ∧ i < t.was.length ∧ xs.length ≤ 96
  · have e : t.put1 i xs = t.set i xs := if_pos h
    have ew : (t.set i xs).was = t.was := rfl
    rw [e]
    unfold Tx.get
    rw [ew]
    by_cases hj : 0 ≤ j ∧ j < t.was.length
    · simp only [if_pos hj, Tx.now_set]
      by_cases hij : j = i
      · rw [if_pos (by omega), if_pos ⟨hij, h⟩]
      · rw [if_neg (by omega), if_neg (by omega)]
    · simp only [if_neg hj]
      rw [if_neg (by omega)]
  · have e : t.put1 i xs = t := if_neg h
    rw [e]
    split
    · rename_i k; exact absurd k.2 h
    · rfl
theorem low_put {t : Tx} (h : t.low) (i : Int) : (t.put1 i []).low := by
  intro j hj x hx
  unfold Tx.ino at hx
  rw [Tx.get_put] at hx
  split at hx
  · rw [inoGet_nil] at hx
    cases hx
  · exact h j hj x hx
theorem giveGo_keep : ∀ (ks : List Nat) (b : List UInt8) (t : Tx), t.low → (giveGo ks b t).2.low ∧ (giveGo ks b t).2.was = t.was ∧ (giveGo ks b t).1.length ≤ b.length
  | [], b, t, h => ⟨h, rfl, Nat.le_refl _⟩
  | k :: ks, b, t, h => by
    obtain ⟨h1, h2, h3⟩ := giveGo_keep ks (withB b k false) (t.put1 (35 + (k : Int)) []) (low_put h _)
    exact ⟨h1, by rw [giveGo, h2, Tx.put_was], Nat.le_trans h3 (withB_lenF b k)⟩
theorem volGive_keep {t : Tx} (h : t.low) (b : List UInt8) (i : Nat) : (volGive t b i).2.2.low ∧ (volGive t b i).2.2.was = t.was ∧ (volGive t b i).2.1.length ≤ b.length := by
  unfold volGive
  split
  · exact giveGo_keep _ b t h
  · exact ⟨h, rfl, Nat.le_refl _⟩
theorem takeGo_was (d : List UInt8) (l : List Nat) (b : List UInt8) (t : Tx) : ∀ i, (takeGo d l b t i).2.was = t.was
  | 0 => rfl
  | i + 1 => by rw [takeGo, Tx.put_was, takeGo_was d l b t i]
theorem volTake_keep {t : Tx} (hr : t.right) {b : List UInt8} (hb : b.length ≤ 100000) (s : Slt) : (volTake t b s).2.2.was = t.was ∧ (volTake t b s).2.1.length ≤ 100000 := by
  have hr2 : t.was.length ≤ 803 := hr.2
  have hl1 : ∀ x, x ∈ drawB b (t.was.length - 35) (needN (s.data.length : Nat)) → x ≤ 1000 := fun x hx => by have := drawB_lt x hx; omega
  unfold volTake volPutI
  split
  · split
    · exact ⟨by rw [Tx.put_was, takeGo_was], takeGo_len hl1 hb _⟩
    · exact ⟨takeGo_was .., takeGo_len hl1 hb _⟩
  · exact ⟨rfl, hb⟩
theorem vsave_c {p m : Nat} {v : Value} {t : Tx} {l : List Slt} (h : l.length ≤ 1000000 ∧ t.low ∧ (t.get 9).length ≤ 1000 ∧ ∀ s, s ∈ l → s.fit) : Con Tryz.prog 17 [tptr p, v] [Tn p m t] [] [Fact.rel 9 SltR v l] fun r T Φ => ∃ m', r = errT (volSave t l).1 ∧ T = [Tn p m' (volSave t l).2] ∧ Φ = [] := by
  obtain ⟨hl, hlow, hb9, hfit⟩ := h
  refine con_of (fun O0 w0 F => ?_)
  refine tidy F (fun F => ?_)
  refine fn_of _ Tryz.func17 rfl (by kernel_rfl) Tryz.ntmps17 rfl ?_
  obtain ⟨la, lc, rfl, _⟩ := (F.rel (v := v) (R := SltR) (ys := l)).form
  refine go_on ?_
  refine f_call F rfl rfl (vright_c (t := t)) ?_ (hp := trivial)
  clear F; rintro r O w T Φ ⟨rfl, rfl, rfl⟩ F0
  refine tidy F0 (fun F => ?_); clear F0
  by_cases hr : t.right
  · rw [decide_eq_true hr]
    refine go_on ?_
    refine f_call F rfl rfl (vmay_c (l := l)) ?_ (hp := hl)
    clear F; rintro r O w T Φ ⟨rfl, rfl, rfl⟩ F0
    refine tidy F0 (fun F => ?_); clear F0
    by_cases hm : mayS l
    · rw [decide_eq_true hm]
      have eS : volSave t l = if (giveAll l t (t.get 9)).1 = 0 then saveEnd t (takeAll l (giveAll l t (t.get 9)).2.2 (giveAll l t (t.get 9)).2.1) else ((giveAll l t (t.get 9)).1, t) := if_pos ⟨hr, hm⟩
      rw [eS]
      clear eS
      refine go_on ?_
      refine f_call F rfl rfl (txnFork_c (t := t)) ?_ (hp := trivial)
      clear F; rintro r O w T Φ ⟨pf, mf, rfl, rfl, rfl⟩ F0
      refine tidy F0 (fun F => ?_); clear F0
      refine go_on ?_
      refine f_call F rfl rfl (txnGet_c (t := t) (i := 9)) ?_ (hp := trivial)
      clear F; rintro r O w T Φ ⟨rfl, rfl⟩ F0
      refine tidy F0 (fun F => ?_); clear F0
      obtain ⟨b0, hb0⟩ : ∃ b0, t.get 9 = b0 := ⟨_, rfl⟩
      rw [hb0] at F hb9
      rw [hb0]
      clear hb0
      obtain ⟨ra, rc, rfl, _⟩ := (F.bytes (xs := b0)).form
      refine go_on ?_
      (first | refine f_box1 F rfl rfl (fun qs w F => ?_) | refine f_boxN F rfl rfl (fun qs w F => ?_)); refine go_on ?_
      refine go_on ?_
      refine g_loop (X := Nat × Value × List UInt8 × Tx) (fun y => [(0, tptr p), (1, .slice la l.length lc), (5, bptr qs), (27, .slice la l.length lc), (28, .int .i64 l.length), (29, .int .i64 y.1)])
        (fun y wr => ∃ O, Fr ([Tn p m t].flatMap (·.bs)) O0 w0 O wr [(2, Thing.cells qs [tptr pf, y.2.1]), (2, Tn pf mf y.2.2.2), (1, Tn p m t)] [Fact.rel 9 SltR (.slice la l.length lc) l, Fact.bytes y.2.1 y.2.2.1] ∧ y.1 ≤ l.length ∧ giveAll l t b0 = giveAll (l.drop y.1) y.2.2.2 y.2.2.1 ∧ y.2.2.2.low ∧ y.2.2.2.was = t.was ∧ y.2.2.1.length ≤ 1000) (fun y => l.length - y.1)
        (0, .slice ra b0.length rc, b0, t) (sub_cons rfl rfl (sub_cons rfl rfl (sub_cons rfl rfl (sub_cons rfl rfl (sub_cons rfl rfl (sub_cons rfl rfl (sub_nil))))))) ⟨_, F.wk, Nat.zero_le _, rfl, hlow, rfl, hb9⟩ ?_
      clear F
      rintro ⟨i, v, b, u⟩ w ⟨O, F, hi, hg, hul, huw, hbl⟩
      dsimp only at F hi hg hul huw hbl ⊢
      obtain ⟨va, vc, rfl, _⟩ := (F.bytes (v := v) (xs := b)).form
      refine go_on ?_
      refine g_dec rfl (fun g => ?_) (fun g => ?_)
      · have hi' : i < l.length := by omega
        obtain ⟨x, row, rfl, hrl, ⟨sv, rfl, hb⟩, hrow⟩ := (F.rel (R := SltR) (ys := l)).elem hi'
        have F := (F.fact hrow).factB hb
        have hsm : l[i].ino < 24 := (hm i hi').1.1.1
        obtain ⟨sa, sc, rfl, _⟩ := (F.bytes (xs := l[i].data)).form
        rw [List.drop_eq_getElem_cons hi', giveAll] at hg
        have hk := volGive_keep hul b l[i].ino
        unfold sltC at F
        refine go_on ?_
        (first | refine f_alloc1 F rfl (fun q7 w F => ?_) | refine f_allocN F rfl (fun q7 w F => ?_)); refine go_on ?_
        refine f_storeAll F rfl rfl rfl (fun w F => ?_); refine go_on ?_
        refine go_on ?_
        refine f_call F rfl rfl (vgive_c (qs := qs) (b := b) (t := u)) ?_ (hp := ⟨by omega, by omega, fun x hx => hul _ hsm x hx⟩)
        clear F; rintro r O w T Φ ⟨v2, rfl, rfl, rfl⟩ F0
        refine tidy F0 (fun F => ?_); clear F0
        obtain ⟨e, b2, u2, hgv⟩ : ∃ e b2 u2, volGive u b l[i].ino = (e, b2, u2) := ⟨_, _, _, rfl⟩
        rw [hgv] at F hg hk
        rw [hgv]
        dsimp only at F hg hk ⊢
        clear hgv
        by_cases g1 : e = 0
        · subst g1
          rw [if_pos rfl] at hg
          refine go_on ?_
          exact e_round (i + 1, v2, b2, u2) (sub_cons rfl rfl (sub_cons rfl rfl (sub_cons rfl rfl (sub_cons rfl rfl (sub_cons rfl rfl (sub_cons rfl rfl (sub_nil))))))) ⟨_, F.wk, by simp only; omega, hg, hk.1, hk.2.1.trans huw, by simp only; omega⟩ (by simp only; omega)
        · rw [if_neg g1] at hg
          rw [hg, if_neg g1]
          refine go_on ?_
          refine go_back ?_
          exact F.fin ⟨_, rfl, rfl, rfl⟩
      · obtain rfl : i = l.length := by omega
        rw [List.drop_length, giveAll] at hg
        rw [hg]
        dsimp only
        rw [if_pos rfl]
        clear hg hlow hul
        have hbl : b.length ≤ 100000 := by omega
        have hur : u.right := by unfold Tx.right; rw [huw]; exact hr
        refine go_on ?_
        refine g_loop (X := Nat × Value × List UInt8 × Tx) (fun y => [(0, tptr p), (5, bptr qs), (41, .slice la l.length lc), (42, .int .i64 l.length), (43, .int .i64 y.1)])
          (fun y wr => ∃ O, Fr ([Tn p m t].flatMap (·.bs)) O0 w0 O wr [(2, Thing.cells qs [tptr pf, y.2.1]), (2, Tn pf mf y.2.2.2), (1, Tn p m t)] [Fact.rel 9 SltR (.slice la l.length lc) l, Fact.bytes y.2.1 y.2.2.1] ∧ y.1 ≤ l.length ∧ takeAll l u b = takeAll (l.drop y.1) y.2.2.2 y.2.2.1 ∧ y.2.2.2.was = t.was ∧ y.2.2.1.length ≤ 100000) (fun y => l.length - y.1)
          (0, .slice va b.length vc, b, u) (sub_cons rfl rfl (sub_cons rfl rfl (sub_cons rfl rfl (sub_cons rfl rfl (sub_cons rfl rfl (sub_nil)))))) ⟨_, F.wk, Nat.zero_le _, rfl, huw, hbl⟩ ?_
        clear F
        rintro ⟨i, v, b', u'⟩ w ⟨O, F, hi, hg, huw', hbl'⟩
        dsimp only at F hi hg huw' hbl' ⊢
        obtain ⟨va, vc, rfl, _⟩ := (F.bytes (v := v) (xs := b')).form
        have hur' : u'.right := by unfold Tx.right; rw [huw']; exact hr
        refine go_on ?_
        refine g_dec rfl (fun g => ?_) (fun g => ?_)
        · have hi' : i < l.length := by omega
          obtain ⟨x, row, rfl, hrl, ⟨sv, rfl, hb⟩, hrow⟩ := (F.rel (R := SltR) (ys := l)).elem hi'
          have F := (F.fact hrow).factB hb
          have hsm : l[i].data.length ≤ 768 := (hm i hi').1.1.2.2
          have hsf := hfit _ (List.getElem_mem hi')
          obtain ⟨sa, sc, rfl, _⟩ := (F.bytes (xs := l[i].data)).form
          rw [List.drop_eq_getElem_cons hi', takeAll] at hg
          have hk := volTake_keep hur' hbl' l[i]
          unfold sltC at F
          refine go_on ?_
          (first | refine f_alloc1 F rfl (fun q7 w F => ?_) | refine f_allocN F rfl (fun q7 w F => ?_)); refine go_on ?_
          refine f_storeAll F rfl rfl rfl (fun w F => ?_); refine go_on ?_
          refine go_on ?_
          refine f_call F rfl rfl (vtake_c (qs := qs) (b := b') (t := u') (s := l[i]) (sv := .slice sa l[i].data.length sc)) ?_ (hp := ⟨hur', hbl', by omega, hsf⟩)
          clear F; rintro r O w T Φ ⟨v2, rfl, rfl, rfl⟩ F0
          refine tidy F0 (fun F => ?_); clear F0
          obtain ⟨e, b2, u2, hgv⟩ : ∃ e b2 u2, volTake u' b' l[i] = (e, b2, u2) := ⟨_, _, _, rfl⟩
          rw [hgv] at F hg hk
          rw [hgv]
          dsimp only at F hg hk ⊢
          clear hgv
          by_cases g1 : e = 0
          · subst g1
            rw [if_pos rfl] at hg
            refine go_on ?_
            exact e_round (i + 1, v2, b2, u2) (sub_cons rfl rfl (sub_cons rfl rfl (sub_cons rfl rfl (sub_cons rfl rfl (sub_cons rfl rfl (sub_nil)))))) ⟨_, F.wk, by simp only; omega, hg, hk.1.trans huw', hk.2⟩ (by simp only; omega)
          · rw [if_neg g1] at hg
            rw [hg, show saveEnd t (e, b2, u2) = (e, t) from if_neg g1]
            refine go_on ?_
            refine go_back ?_
            exact F.fin ⟨_, rfl, rfl, rfl⟩
        · obtain rfl : i = l.length := by omega
          rw [List.drop_length, takeAll] at hg
          rw [hg]
          clear hg
          have eE : saveEnd t (0, b', u') = if u'.putE 9 b' = 0 then (0, ⟨t.was, (u'.put1 9 b').put⟩) else (u'.putE 9 b', t) := if_pos rfl
          rw [eE]
          clear eE
          have hwl : t.was.length = (u'.put1 9 b').was.length := by rw [Tx.put_was, huw']
          refine go_on ?_
          refine f_draw [(2, Thing.cells qs _)] F [8, 9] [(0, true), (1, true), (2, true), (3, true), (4, true), (5, true), (6, true), (7, true), (8, false), (9, false)] (by kernel_rfl) (by kernel_rfl) (fun w F hS => ?_); refine go_look ?_
          refine rd_do rfl ?_; (try refine r_go rfl rfl ?_)
          refine f_call F rfl rfl (txnPut_c (p := pf) (m := mf) (t := u') (i := 9) (xs := b')) ?_ (hp := trivial)
          clear F; rintro r O w T Φ ⟨rfl, rfl, rfl⟩ F0
          refine tidy F0 (fun F => ?_); clear F0
          generalize u'.put1 9 b' = u3 at F hwl ⊢
          generalize u'.putE 9 b' = e3 at F ⊢
          (try refine r_nil ?_); refine e_after (fun h => by cases h) ?_; refine go_look ?_
          refine rd_do rfl ?_; (try refine r_go rfl rfl ?_)
          refine go_on ?_
          (try refine r_nil ?_); refine e_after (fun h => by cases h) ?_; refine go_look ?_
          refine rd_done ?_; refine go_on ?_
          by_cases g1 : e3 = 0
          · subst g1
            rw [if_pos rfl]
            refine go_on ?_
            refine f_call F rfl rfl (txnTake_c (p := p) (m := m) (q := pf) (n := mf) (t := t) (u := u3)) ?_ (hp := hwl)
            clear F; rintro r O w T Φ ⟨m', rfl, rfl⟩ F0
            refine tidy F0 (fun F => ?_); clear F0
            refine go_on ?_
            refine go_back ?_
            exact F.fin ⟨_, rfl, rfl, rfl⟩
          · rw [if_neg g1]
            refine go_on ?_
            refine go_back ?_
            exact F.fin ⟨_, rfl, rfl, rfl⟩
    · rw [decide_eq_false hm, show volSave t l = (1, t) from if_neg (fun k => hm k.2)]
      refine go_on ?_
      refine go_back ?_
      exact F.fin ⟨_, rfl, rfl, rfl⟩
  · rw [decide_eq_false hr, show volSave t l = (1, t) from if_neg (fun k => hr k.1)]
    refine go_on ?_
    refine go_back ?_
    exact F.fin ⟨_, rfl, rfl, rfl⟩
end Go.Proofs.YtcfpnghkkkphhaaGreat
