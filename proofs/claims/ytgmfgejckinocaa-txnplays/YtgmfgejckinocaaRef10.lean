/- What the reference of layer 10 answers, and the laws' helpers. -/
import Derived.Test.YtgmfgejckinocaaTxnc
import Derived.Test.YtgmfgejckinocaaGkRead
namespace Go.Proofs.Ytgmfgejckinocaa
open Gk Go
set_option linter.unusedVariables false
set_option maxHeartbeats 4000000
set_option maxRecDepth 4000
set_option linter.unusedSimpArgs false
attribute [local irreducible] Int.decLt Int.decLe Int.decEq Int.instDecidableEq Gk.Rnds Gk.E Gk.G Gk.R Gk.RD Gk.RX Gk.RO Gk.Y Gk.Ent Gk.Sat Gk.Round Gk.After Gk.Cell Gk.Sl Gk.SlA Gk.CB Gk.OK Gk.FnC Gk.Bytes Gk.BytesL Gk.StrL Gk.Buf Gk.MapI
def Fact.strs (v : Value) (xs : List (List UInt8)) : Fact := Fact.sl v xs.length (xs.map str)
def rT (wv nv : Value) : Value := .agg #[wv, nv]
def WsR : Rel (Nat × List UInt8) := Rel.pure fun y => [.int .i64 y.1, str y.2]
def getL (l : List (List UInt8)) (i : Int) : List UInt8 := if 0 ≤ i ∧ i < l.length then l.getD i.toNat [] else []
def putEL (n : Nat) (i : Int) (xs : List UInt8) : Nat := if 0 ≤ i ∧ i < n then (if 96 < xs.length then 13 else 0) else 15
def putL (l : List (List UInt8)) (i : Int) (xs : List UInt8) : List (List UInt8) := if 0 ≤ i ∧ i < l.length ∧ xs.length ≤ 96 then l.set i.toNat xs else l

theorem texts_c {v : Value} {l : List (List UInt8)} (h : l.length ≤ 1000000) : Con Try.prog 14 [v] [] [] [Fact.bytesL v l] fun r T Φ => T = [] ∧ Φ = [Fact.strs r l] := by
  refine con_of (fun O0 w0 F => ?_)
  refine tidy F (fun F => ?_)
  refine fn_of _ Try.func14 rfl (by kernel_rfl) Try.ntmps14 rfl ?_
  obtain ⟨a, c, rfl, _⟩ := (F.bytesL (v := v)).form
  refine go_on ?_
  have F := F.nilbuf 1
  refine g_loop (X := Nat × Value) (fun y => [(0, .slice a l.length c), (3, y.2), (4, .int .i64 y.1)])
    (fun y wr => ∃ O, Fr [] O0 w0 O wr [(2, Thing.buf 1 y.2 y.1 ((l.take y.1).map str))] [Fact.bytesL (.slice a l.length c) l] ∧ y.1 ≤ l.length) (fun y => l.length - y.1) (0, .slice none 0 0) (sub_cons rfl rfl (sub_cons rfl rfl (sub_cons rfl rfl (sub_nil)))) ⟨_, F.wk, Nat.zero_le _⟩ ?_
  clear F
  rintro ⟨i, v⟩ w ⟨O, F, hi⟩
  dsimp only at F hi ⊢
  refine go_on ?_
  refine g_dec rfl (fun g => ?_) (fun g => ?_)
  · have hi' : i < l.length := by omega
    obtain ⟨x, u, rfl, _, F⟩ := F.bytesAt hi'
    refine go_on ?_
    refine f_buildSlice (cs := [_]) F rfl rfl rfl rfl (fun q w F => ?_); refine go_on ?_
    refine f_append F rfl rfl rfl (F.srcOne) (fun r w O F => ?_); refine go_on ?_
    refine e_round (i + 1, r) (sub_cons rfl rfl (sub_cons rfl rfl (sub_cons rfl rfl (sub_nil)))) ⟨O, ?_, by simp only; omega⟩ (by simp only; omega)
    dsimp only
    rw [List.take_succ_eq_append_getElem hi', List.map_append]
    exact F.wk
  · have hi' : i = l.length := by omega
    subst hi'
    rw [List.take_length] at F
    obtain ⟨O, F⟩ := F.frzBuf
    refine go_on ?_
    refine go_back ?_
    exact F.fin ⟨rfl, rfl⟩

theorem rNew_c {a : Option Addr} {n c : Nat} (h : True) : Con Try.prog 13 [.slice a n c] [] [] [] fun r T Φ => r = rT (.slice a n c) (.slice a n c) ∧ T = [] ∧ Φ = [] := by
  refine con_of (fun O0 w0 F => ?_)
  refine tidy F (fun F => ?_)
  refine fn_of _ Try.func13 rfl (by kernel_rfl) Try.ntmps13 rfl ?_
  refine go_on ?_
  (first | refine f_alloc1 F rfl (fun z w F => ?_) | refine f_allocN F rfl (fun z w F => ?_)); refine go_on ?_
  refine f_storeAll F rfl rfl rfl (fun w F => ?_); refine go_on ?_
  refine go_back ?_
  exact F.fin ⟨rfl, rfl, rfl⟩

theorem rGet_c {wv nv : Value} {l : List (List UInt8)} {i : Int} (h : True) : Con Try.prog 17 [rT wv nv, .int .i64 i] [] [] [Fact.strs nv l] fun r T Φ => r = str (getL l i) ∧ T = [] ∧ Φ = [] := by
  refine con_of (fun O0 w0 F => ?_)
  refine tidy F (fun F => ?_)
  refine fn_of _ Try.func17 rfl (by kernel_rfl) Try.ntmps17 rfl ?_
  obtain ⟨a, c, rfl, _⟩ := (F.sl (v := nv) (cs := l.map str)).form
  refine go_on ?_
  (first | refine f_box1 F rfl rfl (fun q w F => ?_) | refine f_boxN F rfl rfl (fun q w F => ?_)); refine go_on ?_
  unfold getL
  by_cases g1 : i < 0
  · rw [if_neg (by omega)]
    refine go_on ?_
    refine go_back ?_
    exact F.fin ⟨rfl, rfl, rfl⟩
  obtain ⟨k, rfl⟩ := Int.eq_ofNat_of_zero_le (Int.not_lt.1 g1)
  by_cases g2 : k < l.length
  · rw [if_pos (by omega), List.getD_eq_getElem?_getD, Int.toNat_natCast, List.getElem?_eq_getElem g2]
    refine go_on ?_
    obtain ⟨x, rfl, hc⟩ := ((F.sl (cs := l.map str))).atm g2
    have F := F.fact (f := Fact.cell _ _) hc
    refine go_on ?_
    refine go_back ?_
    exact F.fin ⟨rfl, rfl, rfl⟩
  · rw [if_neg (by omega)]
    refine go_on ?_
    refine go_back ?_
    exact F.fin ⟨rfl, rfl, rfl⟩

theorem rPut_c {wa : Option Addr} {wn wc : Nat} {nv : Value} {l : List (List UInt8)} {i : Int} {xs : List UInt8} (hl : l.length ≤ 1000000) : Con Try.prog 15 [rT (.slice wa wn wc) nv, .int .i64 i, str xs] [] [] [Fact.strs nv l] fun r T Φ => ∃ nv', r = .tuple #[rT (.slice wa wn wc) nv', errT (putEL l.length i xs)] ∧ T = [] ∧ Φ = [Fact.strs nv' (putL l i xs)] := by
  refine con_of (fun O0 w0 F => ?_)
  refine tidy F (fun F => ?_)
  refine fn_of _ Try.func15 rfl (by kernel_rfl) Try.ntmps15 rfl ?_
  obtain ⟨a, c, rfl, _⟩ := (F.sl (v := nv) (cs := l.map str)).form
  refine go_on ?_
  (first | refine f_box1 F rfl rfl (fun q w F => ?_) | refine f_boxN F rfl rfl (fun q w F => ?_)); refine go_on ?_
  (first | refine f_alloc1 F rfl (fun z w F => ?_) | refine f_allocN F rfl (fun z w F => ?_)); refine go_on ?_
  unfold putEL putL
  by_cases g1 : i < 0
  · rw [if_neg (by omega), if_neg (by omega)]
    refine go_on ?_
    refine f_storeAll F rfl rfl rfl (fun w F => ?_); refine go_on ?_
    refine go_back ?_
    exact F.fin ⟨_, rfl, rfl, rfl⟩
  obtain ⟨k, rfl⟩ := Int.eq_ofNat_of_zero_le (Int.not_lt.1 g1)
  by_cases g2 : k < l.length
  · rw [if_pos (by omega)]
    by_cases g3 : 96 < xs.length
    · rw [if_pos g3, if_neg (by omega)]
      refine go_on ?_
      refine f_storeAll F rfl rfl rfl (fun w F => ?_); refine go_on ?_
      refine go_back ?_
      exact F.fin ⟨_, rfl, rfl, rfl⟩
    · rw [if_neg g3, if_pos (by omega)]
      refine go_on ?_
      have F := F.nilbuf 1
      refine f_append F rfl rfl rfl (F.srcSl (cs := l.map str) (m := l.length) (hl := by simp) (hv := by simp [str, Value.oneCell'])) (fun r w O F => ?_); refine go_on ?_
      rw [Nat.zero_add, List.nil_append] at F
      obtain ⟨b, cap, rest, rfl, hcap, _, F⟩ := F.openBuf (n := l.length) (by omega)
      refine go_on ?_
      refine f_store1 F rfl rfl rfl (fun w F => ?_) (hc := .any) (hi := by simp; omega)
      rw [List.set_append_left _ _ (by simpa using g2), ← List.map_set] at F
      refine go_on ?_
      refine f_storeAll F rfl rfl rfl (fun w F => ?_); refine go_on ?_
      obtain ⟨O, F⟩ := F.frzPre (n := l.length) ((l.set k xs).map str) hcap ⟨_, rfl⟩
      have F := F.fact (f := Fact.strs (.slice (some ⟨b, 0, none⟩) l.length cap) (l.set k xs)) (by
        have h := F.sl (v := .slice (some ⟨b, 0, none⟩) l.length cap) (cs := (l.set k xs).map str) (m := l.length)
        show Sl _ _ _ (l.set k xs).length _
        rw [List.length_set]
        exact h)
      refine go_back ?_
      exact F.fin ⟨_, rfl, rfl, rfl⟩
  · rw [if_neg (by omega), if_neg (by omega)]
    refine go_on ?_
    refine f_storeAll F rfl rfl rfl (fun w F => ?_); refine go_on ?_
    refine go_back ?_
    exact F.fin ⟨_, rfl, rfl, rfl⟩

theorem rChanges_c {wv nv : Value} {l m : List (List UInt8)} (h : m.length = l.length ∧ l.length ≤ 1000000) : Con Try.prog 19 [rT wv nv] [] [] [Fact.strs wv l, Fact.strs nv m] fun r T Φ => T = [] ∧ Φ = [Fact.rel 2 WsR r (chgL l m l.length)] := by
  obtain ⟨h1, h2⟩ := h
  refine con_of (fun O0 w0 F => ?_)
  refine tidy F (fun F => ?_)
  refine fn_of _ Try.func19 rfl (by kernel_rfl) Try.ntmps19 rfl ?_
  obtain ⟨wa, wc, rfl, _⟩ := (F.sl (v := wv) (cs := l.map str)).form
  obtain ⟨a, c, rfl, _⟩ := (F.sl (v := nv) (cs := m.map str)).form
  refine go_on ?_
  (first | refine f_box1 F rfl rfl (fun q w F => ?_) | refine f_boxN F rfl rfl (fun q w F => ?_)); refine go_on ?_
  have F := (F.nilbuf 2).all0 2 WsR
  refine g_loop (X := Nat × Value × List (List Value)) (fun y => [(1, .pointer (some ⟨q, 0, none⟩)), (3, y.2.1), (4, .int .i64 y.1)])
    (fun y wr => ∃ O, Fr [] O0 w0 O wr [(2, Thing.buf 2 y.2.1 (chgL l m y.1).length y.2.2.flatten), (2, Thing.cells q [.slice wa l.length wc, .slice a m.length c])] [Fact.all 2 WsR y.2.2 (chgL l m y.1), Fact.strs (.slice wa l.length wc) l, Fact.strs (.slice a m.length c) m] ∧ y.1 ≤ l.length) (fun y => l.length - y.1) (0, .slice none 0 0, []) (sub_cons rfl rfl (sub_cons rfl rfl (sub_cons rfl rfl (sub_nil)))) ⟨_, F.wk, Nat.zero_le _⟩ ?_
  clear F
  rintro ⟨i, v, rows⟩ w ⟨O, F, hi⟩
  dsimp only at F hi ⊢
  have hlen := chgL_len l m i
  refine go_on ?_
  refine g_dec rfl (fun g => ?_) (fun g => ?_)
  · have hi' : i < l.length := by omega
    have hj' : i < m.length := by omega
    have e1 : m.getD i [] = m[i] := by rw [List.getD_eq_getElem?_getD, List.getElem?_eq_getElem hj']; rfl
    have e2 : l.getD i [] = l[i] := by rw [List.getD_eq_getElem?_getD, List.getElem?_eq_getElem hi']; rfl
    have e3 : chgL l m (i + 1) = chgL l m i ++ if m[i] = l[i] then [] else [(i, m[i])] := by rw [chgL, e1, e2]
    refine go_on ?_
    obtain ⟨x, rfl, hc⟩ := ((F.sl (cs := l.map str))).atm hi'
    have F := F.fact (f := Fact.cell _ _) hc
    refine go_on ?_
    obtain ⟨x, rfl, hc⟩ := ((F.sl (cs := m.map str))).atm hj'
    have F := F.fact (f := Fact.cell _ _) hc
    refine go_on ?_
    refine f_drawA F [] [(0, true), (1, true), (2, true), (3, true), (4, true), (5, true), (6, true), (7, true), (8, true), (9, true), (10, true)] (by kernel_rfl) (by kernel_rfl) (fun w F hS => ?_); refine go_look ?_
    refine rd_done ?_; refine go_on ?_
    refine g_ndec rfl (fun g2 => ?_) (fun g2 => ?_)
    · rw [if_neg g2] at e3
      refine go_on ?_
      refine f_buildSlice (cs := [_, _]) F rfl rfl rfl rfl (fun q w F => ?_); refine go_on ?_
      refine f_append F rfl rfl rfl (F.srcRow) (fun r w O F => ?_); refine go_on ?_
      have F := F.allSnoc (R := WsR) (y := (i, m[i])) (row := [.int .i64 i, str m[i]]) rfl rfl
      refine e_round (i + 1, r, rows ++ [[.int .i64 i, str m[i]]]) (sub_cons rfl rfl (sub_cons rfl rfl (sub_cons rfl rfl (sub_nil)))) ⟨O, ?_, by simp only; omega⟩ (by simp only; omega)
      dsimp only
      rw [e3, List.length_append, flat_snoc]
      exact F.wk
    · rw [if_pos g2, List.append_nil] at e3
      refine go_on ?_
      exact e_round (i + 1, v, rows) (sub_cons rfl rfl (sub_cons rfl rfl (sub_cons rfl rfl (sub_nil)))) ⟨O, by dsimp only; rw [e3]; exact F.wk, by simp only; omega⟩ (by simp only; omega)
  · have hi' : i = l.length := by omega
    subst hi'
    obtain ⟨O, F⟩ := F.frzRel (R := WsR) rfl
    refine go_on ?_
    refine go_back ?_
    exact F.fin ⟨rfl, rfl⟩

theorem same_c {u v : Value} {xs ys : List (Nat × List UInt8)} (hx : xs.length ≤ 1000000) : Con Try.prog 18 [u, v] [] [] [Fact.rel 2 WrR u xs, Fact.rel 2 WsR v ys] fun r T Φ => r = .bool (decide (xs = ys)) ∧ T = [] ∧ Φ = [] := by
  refine con_of (fun O0 w0 F => ?_)
  refine tidy F (fun F => ?_)
  refine fn_of _ Try.func18 rfl (by kernel_rfl) Try.ntmps18 rfl ?_
  obtain ⟨ua, uc, rfl, _⟩ := (F.rel (v := u)).form
  obtain ⟨va, vc, rfl, _⟩ := (F.rel (v := v) (R := WsR)).form
  by_cases g : xs.length = ys.length
  · refine go_on ?_
    refine g_loop (X := Nat) (fun y => [(0, .slice ua xs.length uc), (1, .slice va ys.length vc), (5, .int .i64 y)])
      (fun y wr => ∃ O, Fr [] O0 w0 O wr [] [Fact.rel 2 WrR (.slice ua xs.length uc) xs, Fact.rel 2 WsR (.slice va ys.length vc) ys] ∧ y ≤ xs.length ∧ xs.take y = ys.take y) (fun y => xs.length - y) 0 (sub_cons rfl rfl (sub_cons rfl rfl (sub_cons rfl rfl (sub_nil)))) ⟨_, F.wk, Nat.zero_le _, by simp⟩ ?_
    clear F
    rintro i w ⟨O, F, hi, he⟩
    refine go_on ?_
    refine g_dec rfl (fun g2 => ?_) (fun g2 => ?_)
    · have hi' : i < xs.length := by omega
      have hj' : i < ys.length := by omega
      obtain ⟨x, row, rfl, hrl, ⟨bv, rfl, hbv⟩, hrow⟩ := (F.rel (R := WrR) (ys := xs)).elem hi'
      obtain ⟨x2, row2, rfl, hrl2, hr2, hrow2⟩ := (F.rel (R := WsR) (ys := ys)).elem hj'
      have hr2 : row2 = [.int .i64 ys[i].1, str ys[i].2] := hr2
      subst hr2
      have F := ((F.factB hbv).fact hrow).fact hrow2
      refine go_on ?_
      refine f_drawA F [] [(0, true), (1, true), (2, true), (3, true), (4, true), (5, true), (6, true), (7, true), (8, true), (9, true), (10, true), (11, true), (12, true), (13, true), (14, true), (15, true), (16, true), (17, true), (18, true), (19, true), (20, true), (21, true), (22, true), (23, true), (24, true)] (by kernel_rfl) (by kernel_rfl) (fun w F hS => ?_); refine go_look ?_
      apply rd_or 13 41 28
      · exact rfl
      · intro e K; have e' := e; (try simp only [Bool.and_eq_true, Bool.or_eq_true, decide_eq_true_eq, decide_eq_false_iff_not, Bool.not_eq_true', Bool.or_eq_false_iff, Bool.not_eq_false', Bool.and_eq_false_iff] at e'); refine go_look1 ?_; refine go_look1 ?_; refine go_look1 ?_; refine go_look1 ?_; refine go_look1 ?_; refine go_look1 ?_; refine go_look1 ?_; refine go_look1 ?_; refine go_look1 ?_; refine go_look1 ?_; refine go_look1 ?_; refine go_look1 ?_; refine go_look1 ?_; exact K _ (by exact rfl) (by (repeat (first | exact sub_refl | refine sub_new rfl ?_ | refine sub_bool rfl (by assumption) ?_)))
      · intro e K; have e' := e; (try simp only [Bool.and_eq_true, Bool.or_eq_true, decide_eq_true_eq, decide_eq_false_iff_not, Bool.not_eq_true', Bool.or_eq_false_iff, Bool.not_eq_false', Bool.and_eq_false_iff] at e'); refine go_look1 ?_; refine go_look1 ?_; refine go_look1 ?_; refine go_look1 ?_; refine go_look1 ?_; refine go_look1 ?_; refine go_look1 ?_; refine go_look1 ?_; refine go_look1 ?_; refine go_look1 ?_; refine go_look1 ?_; refine go_look1 ?_; refine go_look1 ?_; exact K _ (by exact rfl) (by (repeat (first | exact sub_refl | refine sub_new rfl ?_ | refine sub_bool rfl (by assumption) ?_)))
      refine go_look ?_
      refine rd_done ?_; refine go_on ?_
      refine g_cond rfl (fun e => ?_) (fun e => ?_)
      · have hne : xs ≠ ys := by
          rintro rfl
          simp at e
        refine go_on ?_
        refine go_back ?_
        exact F.fin ⟨by rw [decide_eq_false hne], rfl, rfl⟩
      · simp only [Bool.or_eq_false_iff, Bool.not_eq_false', decide_eq_true_eq] at e
        refine go_on ?_
        refine e_round (i + 1) (sub_cons rfl rfl (sub_cons rfl rfl (sub_cons rfl rfl (sub_nil)))) ⟨_, F.wk, by omega, ?_⟩ (by omega)
        rw [List.take_succ_eq_append_getElem hi', List.take_succ_eq_append_getElem hj', he]
        have : xs[i] = ys[i] := Prod.ext (by omega) e.2
        rw [this]
    · have hi' : i = xs.length := by omega
      have hxy : xs = ys := by
        subst hi'
        rw [List.take_length, g, List.take_length] at he
        exact he
      refine go_on ?_
      refine go_back ?_
      exact F.fin ⟨by rw [decide_eq_true hxy], rfl, rfl⟩
  · have hne : xs ≠ ys := fun h => g (by rw [h])
    refine go_on ?_
    refine go_back ?_
    exact F.fin ⟨by rw [decide_eq_false hne], rfl, rfl⟩
end Go.Proofs.Ytgmfgejckinocaa
