/- Whether a thing may be, and whether two are the same. -/
import Derived.Test.YtcfpnghkkkphhaaGreatSlot
import Derived.Test.YtcfpnghkkkphhaaGreatDget
import Derived.Test.YtcfpnghkkkphhaaGreatTxnc
namespace Go.Proofs.YtcfpnghkkkphhaaGreat
open Gk Go
set_option linter.unusedVariables false
set_option maxHeartbeats 4000000
set_option maxRecDepth 4000
set_option linter.unusedSimpArgs false
attribute [local irreducible] Int.decLt Int.decLe Int.decEq Int.instDecidableEq Gk.Rnds Gk.E Gk.G Gk.R Gk.RD Gk.RX Gk.RO Gk.Y Gk.Ent Gk.Sat Gk.Round Gk.After Gk.Cell Gk.Sl Gk.SlA Gk.CB Gk.OK Gk.FnC Gk.Bytes Gk.BytesL Gk.StrL Gk.Buf Gk.MapI
/-- Are its bytes a directory's? -/
def Slt.listed (s : Slt) : Prop := (dirGet s.data).2 = 0 ∧ lastC (dirGet s.data).1 ≤ s.cookie
instance (s : Slt) : Decidable s.listed := by unfold Slt.listed; infer_instance
theorem rdEs_len : ∀ (n : Nat) (bs : List UInt8) (acc : List En), (rdEs n bs acc).1.length ≤ acc.length + n
  | 0, bs, acc => Nat.le_refl _
  | n + 1, bs, acc => by
    rw [rdEs]
    split
    · show acc.length ≤ _; omega
    · split
      · have := rdEs_len n (rdE bs 0).2.1 (acc ++ [(rdE bs 0).1])
        rw [List.length_append, List.length_singleton] at this
        omega
      · exact Nat.zero_le _
theorem dirGet_len (b : List UInt8) : (dirGet b).1.length ≤ b.length := by
  have := rdEs_len b.length b []
  rw [List.length_nil, Nat.zero_add] at this
  unfold dirGet
  split
  · split
    · exact this
    · exact Nat.zero_le _
  · exact Nat.zero_le _
theorem slisted_c {s : Slt} {v : Value} (h : s.data.length ≤ 100000) : Con Tryz.prog 49 [sltV s v] [] [] [Fact.bytes v s.data] fun r T Φ => r = .bool (decide s.listed) ∧ T = [] ∧ Φ = [] := by
  refine con_of (fun O0 w0 F => ?_)
  refine tidy F (fun F => ?_)
  refine fn_of _ Tryz.func49 rfl (by kernel_rfl) Tryz.ntmps49 rfl ?_
  obtain ⟨a, c, rfl, _⟩ := (F.bytes (v := v)).form
  unfold sltV sltC
  refine go_on ?_
  (first | refine f_box1 F rfl rfl (fun q1 w F => ?_) | refine f_boxN F rfl rfl (fun q1 w F => ?_)); refine go_on ?_
  refine go_on ?_
  refine f_call F rfl rfl (dget_c (b := s.data)) ?_ (hp := h)
  clear F; rintro r O w T Φ ⟨v2, rfl, rfl, rfl⟩ F0
  refine tidy F0 (fun F => ?_); clear F0
  obtain ⟨va, vc, rfl, _⟩ := (F.rel (v := v2) (R := EnR)).form
  have no : ¬ s.listed → decide s.listed = false := decide_eq_false
  obtain ⟨l, hl⟩ : ∃ l, (dirGet s.data).1 = l := ⟨_, rfl⟩
  have hll := dirGet_len s.data
  rw [hl] at F hll
  rw [hl]
  by_cases g1 : (dirGet s.data).2 = 0
  · by_cases g2 : l.length = 0
    · have hy : s.listed := ⟨g1, by rw [hl]; unfold lastC; rw [dif_pos g2]; exact Nat.zero_le _⟩
      rw [decide_eq_true hy, g1, g2]
      refine go_on ?_
      refine f_drawA F [] [(0, true), (1, true), (2, true), (3, true), (4, true), (5, true), (6, true), (7, true), (8, true), (9, true), (10, true), (11, true), (12, true), (13, true), (14, true), (15, true), (16, true), (17, true), (18, true), (19, true)] (by kernel_rfl) (by kernel_rfl) (fun w F hS => ?_); refine go_look ?_
      refine go_look ?_
      refine rd_done ?_; refine go_on ?_
      refine go_back ?_
      exact F.fin ⟨rfl, rfl, rfl⟩
    · obtain ⟨k, hk⟩ : ∃ k, l.length = k + 1 := ⟨l.length - 1, by omega⟩
      have hk' : k < l.length := by omega
      have e : lastC l = l[k].cookie := by
        unfold lastC
        rw [dif_neg g2]
        congr 2
        omega
      obtain ⟨x, row, hx9, hrl, hrow0, hrow⟩ := (F.rel (R := EnR) (ys := l)).elem hk'
      (first | subst hx9 | (injection hx9 with hx9; subst hx9))
      have hrow0 : row = [.int .u64 l[k].cookie, .int .u32 l[k].ino, .int .u32 l[k].gen, str l[k].name] := hrow0
      subst hrow0
      have F := F.fact hrow
      rw [g1]
      refine go_on ?_
      refine f_drawA F [] [(0, true), (1, true), (2, true), (3, true), (4, true), (5, true), (6, true), (7, true), (8, true), (9, true), (10, true), (11, true), (12, true), (13, true), (14, true), (15, true), (16, true), (17, true), (18, true), (19, true)] (by kernel_rfl) (by kernel_rfl) (fun w F hS => ?_); refine go_look ?_
      refine go_look ?_
      rw [show ((l.length : Int) - 1) = (k : Nat) from by omega]
      refine go_look ?_
      refine rd_done ?_; refine go_on ?_
      refine go_back ?_
      exact F.fin ⟨by congr 1; rw [decide_eq_decide]; unfold Slt.listed; rw [hl, e]; constructor <;> intro h <;> first | exact ⟨g1, by omega⟩ | omega, rfl, rfl⟩
  · rw [no fun k => g1 k.1]
    refine go_on ?_
    refine f_drawA F [] [(0, true), (1, true), (2, true), (3, true), (4, true), (5, true), (6, true), (7, true), (8, true), (9, true), (10, true), (11, true), (12, true), (13, true), (14, true), (15, true), (16, true), (17, true), (18, true), (19, true)] (by kernel_rfl) (by kernel_rfl) (fun w F hS => ?_); refine go_look ?_
    refine go_look ?_
    refine rd_done ?_; refine go_on ?_
    refine go_back ?_
    exact F.fin ⟨rfl, rfl, rfl⟩
def Slt.dirly (s : Slt) : Prop := s.kind = 2 → s.listed
instance (s : Slt) : Decidable s.dirly := by unfold Slt.dirly; infer_instance
theorem scheck3_c {q : Nat} {s : Slt} {v : Value} (h : s.data.length ≤ 100000) : Con Tryz.prog 48 [.pointer (some ⟨q, 0, none⟩)] [] [Thing.cells q (sltC s v)] [Fact.bytes v s.data] fun r T Φ => r = .bool (decide s.dirly) ∧ T = [] ∧ Φ = [] := by
  refine con_of (fun O0 w0 F => ?_)
  refine tidy F (fun F => ?_)
  refine fn_of _ Tryz.func48 rfl (by kernel_rfl) Tryz.ntmps48 rfl ?_
  obtain ⟨a, c, rfl, _⟩ := (F.bytes (v := v)).form
  unfold sltC at F
  by_cases h1 : s.kind = 2
  · have e : decide s.dirly = decide s.listed := by
      rw [decide_eq_decide]
      exact ⟨fun k => k h1, fun k _ => k⟩
    rw [e]
    refine go_on ?_
    refine f_call F rfl rfl (slisted_c (s := s) (v := .slice a s.data.length c)) ?_ (hp := h)
    clear F; rintro r O w T Φ ⟨rfl, rfl, rfl⟩ F0
    refine tidy F0 (fun F => ?_); clear F0
    refine go_on ?_
    refine go_back ?_
    exact F.fin ⟨rfl, rfl, rfl⟩
  · rw [decide_eq_true (show s.dirly from fun k => absurd k h1)]
    refine go_on ?_
    refine go_back ?_
    exact F.fin ⟨by first | rfl | rw [decide_eq_true (by omega)], rfl, rfl⟩
/-- May one be? -/
def Slt.ok (s : Slt) : Prop := s.small ∧ s.kindly ∧ s.dirly
instance (s : Slt) : Decidable s.ok := by unfold Slt.ok; infer_instance
instance zeroFunc : TZero Tryz.prog 23 .nilFunc := ⟨by kernel_rfl⟩
theorem sall_c {q7 q : Nat} {s : Slt} {v : Value} (h : True) : Con Tryz.prog 44 [.slice (some ⟨q7, 0, none⟩) 3 3] [] [Thing.cells q7 [.func (.func 45) #[] #[bptr q], .func (.func 46) #[] #[bptr q], .func (.func 48) #[] #[bptr q]], Thing.cells q (sltC s v)] [Fact.bytes v s.data] fun r T Φ => r = .bool (decide s.ok) ∧ T = [] ∧ Φ = [] := by
  refine con_of (fun O0 w0 F => ?_)
  refine tidy F (fun F => ?_)
  refine fn_of _ Tryz.func44 rfl (by kernel_rfl) Tryz.ntmps44 rfl ?_
  have no : ¬ s.ok → decide s.ok = false := decide_eq_false
  refine go_on ?_
  refine g_unroll 4 ?_; refine go_on ?_
  refine f_callv F rfl rfl rfl rfl (scheck1_c (q := q) (s := s) (v := v)) ?_ (hp := trivial)
  clear F; rintro r O w T Φ ⟨rfl, rfl, rfl⟩ F0
  refine tidy F0 (fun F => ?_); clear F0
  by_cases g1 : s.small
  · rw [decide_eq_true g1]
    refine go_on ?_
    refine f_callv F rfl rfl rfl rfl (scheck2_c (q := q) (s := s) (v := v)) ?_ (hp := trivial)
    clear F; rintro r O w T Φ ⟨rfl, rfl, rfl⟩ F0
    refine tidy F0 (fun F => ?_); clear F0
    by_cases g2 : s.kindly
    · rw [decide_eq_true g2]
      refine go_on ?_
      refine f_callv F rfl rfl rfl rfl (scheck3_c (q := q) (s := s) (v := v)) ?_ (hp := Nat.le_trans g1.2.2 (by decide))
      clear F; rintro r O w T Φ ⟨rfl, rfl, rfl⟩ F0
      refine tidy F0 (fun F => ?_); clear F0
      by_cases g3 : s.dirly
      · rw [decide_eq_true g3, decide_eq_true (show s.ok from ⟨g1, g2, g3⟩)]
        refine go_on ?_
        refine go_back ?_
        exact F.fin ⟨rfl, rfl, rfl⟩
      · rw [decide_eq_false g3, no fun k => g3 k.2.2]
        refine go_on ?_
        refine go_back ?_
        exact F.fin ⟨rfl, rfl, rfl⟩
    · rw [decide_eq_false g2, no fun k => g2 k.2.1]
      refine go_on ?_
      refine go_back ?_
      exact F.fin ⟨rfl, rfl, rfl⟩
  · rw [decide_eq_false g1, no fun k => g1 k.1]
    refine go_on ?_
    refine go_back ?_
    exact F.fin ⟨rfl, rfl, rfl⟩
theorem scheck_c {s : Slt} {v : Value} (h : True) : Con Tryz.prog 21 [sltV s v] [] [] [Fact.bytes v s.data] fun r T Φ => r = errT (if s.ok then 0 else 1) ∧ T = [] ∧ Φ = [] := by
  refine con_of (fun O0 w0 F => ?_)
  refine tidy F (fun F => ?_)
  refine fn_of _ Tryz.func21 rfl (by kernel_rfl) Tryz.ntmps21 rfl ?_
  obtain ⟨a, c, rfl, _⟩ := (F.bytes (v := v)).form
  unfold sltV sltC
  refine go_on ?_
  (first | refine f_box1 F rfl rfl (fun q1 w F => ?_) | refine f_boxN F rfl rfl (fun q1 w F => ?_)); refine go_on ?_
  refine go_on ?_
  refine f_buildSlice (cs := [_, _, _]) F rfl rfl rfl rfl (fun q7 w F => ?_)
  refine go_on ?_
  refine f_call F rfl rfl (sall_c (q7 := q7) (q := q1) (s := s) (v := .slice a s.data.length c)) ?_ (hp := trivial)
  clear F; rintro r O w T Φ ⟨rfl, rfl, rfl⟩ F0
  refine tidy F0 (fun F => ?_); clear F0
  by_cases g : s.ok
  · rw [decide_eq_true g, if_pos g]
    refine go_on ?_
    refine go_back ?_
    exact F.fin ⟨rfl, rfl, rfl⟩
  · rw [decide_eq_false g, if_neg g]
    refine go_on ?_
    refine go_back ?_
    exact F.fin ⟨rfl, rfl, rfl⟩
theorem bequal_c {u v : Value} {xs ys : List UInt8} (h : True) : Con Tryz.prog 50 [u, v] [] [] [Fact.bytes u xs, Fact.bytes v ys] fun r T Φ => r = .bool (decide (xs = ys)) ∧ T = [] ∧ Φ = [] := by
  exact con0 (fun O w hO hF => equal_ok hO (hF (Fact.bytes u xs) (by simp)) (hF (Fact.bytes v ys) (by simp))) fun O w r O' w' hO s ⟨h1, h2, h3⟩ => ⟨_, _, ⟨h3, rfl, rfl⟩, left0⟩
theorem ssame_c {s t : Slt} {u v : Value} (h : True) : Con Tryz.prog 22 [sltV s u, sltV t v] [] [] [Fact.bytes u s.data, Fact.bytes v t.data] fun r T Φ => r = .bool (decide (s = t)) ∧ T = [] ∧ Φ = [] := by
  refine con_of (fun O0 w0 F => ?_)
  refine tidy F (fun F => ?_)
  refine fn_of _ Tryz.func22 rfl (by kernel_rfl) Tryz.ntmps22 rfl ?_
  obtain ⟨a, c, rfl, _⟩ := (F.bytes (v := u)).form
  obtain ⟨b, d, rfl, _⟩ := (F.bytes (v := v)).form
  unfold sltV sltC
  refine go_on ?_
  (first | refine f_box1 F rfl rfl (fun q2 w F => ?_) | refine f_boxN F rfl rfl (fun q2 w F => ?_)); refine go_on ?_
  refine go_on ?_
  (first | refine f_box1 F rfl rfl (fun q3 w F => ?_) | refine f_boxN F rfl rfl (fun q3 w F => ?_)); refine go_on ?_
  refine go_on ?_
  apply f_and 6 16 10 F
  · exact rfl
  · intro e; have e' := e; (try simp only [Bool.and_eq_true, Bool.or_eq_true, decide_eq_true_eq, decide_eq_false_iff_not, Bool.not_eq_true', Bool.or_eq_false_iff, Bool.not_eq_false', Bool.and_eq_false_iff] at e'); refine go_on ?_; refine e_cut rfl rfl (by (repeat (first | exact sub_refl | refine sub_new rfl ?_ | refine sub_bool rfl (by assumption) ?_))) (by (first | exact ⟨_, F⟩ | exact ⟨_, F.wk⟩))
  · intro e; have e' := e; (try simp only [Bool.and_eq_true, Bool.or_eq_true, decide_eq_true_eq, decide_eq_false_iff_not, Bool.not_eq_true', Bool.or_eq_false_iff, Bool.not_eq_false', Bool.and_eq_false_iff] at e'); refine go_on ?_; refine e_cut rfl rfl (by (repeat (first | exact sub_refl | refine sub_new rfl ?_ | refine sub_bool rfl (by assumption) ?_))) (by (first | exact ⟨_, F⟩ | exact ⟨_, F.wk⟩))
  intro O w F; refine go_on ?_
  apply f_and 6 23 17 F
  · exact rfl
  · intro e; have e' := e; (try simp only [Bool.and_eq_true, Bool.or_eq_true, decide_eq_true_eq, decide_eq_false_iff_not, Bool.not_eq_true', Bool.or_eq_false_iff, Bool.not_eq_false', Bool.and_eq_false_iff] at e'); refine go_on ?_; refine e_cut rfl rfl (by (repeat (first | exact sub_refl | refine sub_new rfl ?_ | refine sub_bool rfl (by assumption) ?_))) (by (first | exact ⟨_, F⟩ | exact ⟨_, F.wk⟩))
  · intro e; have e' := e; (try simp only [Bool.and_eq_true, Bool.or_eq_true, decide_eq_true_eq, decide_eq_false_iff_not, Bool.not_eq_true', Bool.or_eq_false_iff, Bool.not_eq_false', Bool.and_eq_false_iff] at e'); refine go_on ?_; refine e_cut rfl rfl (by (repeat (first | exact sub_refl | refine sub_new rfl ?_ | refine sub_bool rfl (by assumption) ?_))) (by (first | exact ⟨_, F⟩ | exact ⟨_, F.wk⟩))
  intro O w F; refine go_on ?_
  apply f_and 6 30 24 F
  · exact rfl
  · intro e; have e' := e; (try simp only [Bool.and_eq_true, Bool.or_eq_true, decide_eq_true_eq, decide_eq_false_iff_not, Bool.not_eq_true', Bool.or_eq_false_iff, Bool.not_eq_false', Bool.and_eq_false_iff] at e'); refine go_on ?_; refine e_cut rfl rfl (by (repeat (first | exact sub_refl | refine sub_new rfl ?_ | refine sub_bool rfl (by assumption) ?_))) (by (first | exact ⟨_, F⟩ | exact ⟨_, F.wk⟩))
  · intro e; have e' := e; (try simp only [Bool.and_eq_true, Bool.or_eq_true, decide_eq_true_eq, decide_eq_false_iff_not, Bool.not_eq_true', Bool.or_eq_false_iff, Bool.not_eq_false', Bool.and_eq_false_iff] at e'); refine go_on ?_; refine e_cut rfl rfl (by (repeat (first | exact sub_refl | refine sub_new rfl ?_ | refine sub_bool rfl (by assumption) ?_))) (by (first | exact ⟨_, F⟩ | exact ⟨_, F.wk⟩))
  intro O w F; refine go_on ?_
  apply f_and 6 37 31 F
  · exact rfl
  · intro e; have e' := e; (try simp only [Bool.and_eq_true, Bool.or_eq_true, decide_eq_true_eq, decide_eq_false_iff_not, Bool.not_eq_true', Bool.or_eq_false_iff, Bool.not_eq_false', Bool.and_eq_false_iff] at e'); refine go_on ?_; refine e_cut rfl rfl (by (repeat (first | exact sub_refl | refine sub_new rfl ?_ | refine sub_bool rfl (by assumption) ?_))) (by (first | exact ⟨_, F⟩ | exact ⟨_, F.wk⟩))
  · intro e; have e' := e; (try simp only [Bool.and_eq_true, Bool.or_eq_true, decide_eq_true_eq, decide_eq_false_iff_not, Bool.not_eq_true', Bool.or_eq_false_iff, Bool.not_eq_false', Bool.and_eq_false_iff] at e'); refine go_on ?_; refine e_cut rfl rfl (by (repeat (first | exact sub_refl | refine sub_new rfl ?_ | refine sub_bool rfl (by assumption) ?_))) (by (first | exact ⟨_, F⟩ | exact ⟨_, F.wk⟩))
  intro O w F; refine go_on ?_
  apply f_and 6 44 38 F
  · exact rfl
  · intro e; have e' := e; (try simp only [Bool.and_eq_true, Bool.or_eq_true, decide_eq_true_eq, decide_eq_false_iff_not, Bool.not_eq_true', Bool.or_eq_false_iff, Bool.not_eq_false', Bool.and_eq_false_iff] at e'); refine go_on ?_; refine e_cut rfl rfl (by (repeat (first | exact sub_refl | refine sub_new rfl ?_ | refine sub_bool rfl (by assumption) ?_))) (by (first | exact ⟨_, F⟩ | exact ⟨_, F.wk⟩))
  · intro e; have e' := e; (try simp only [Bool.and_eq_true, Bool.or_eq_true, decide_eq_true_eq, decide_eq_false_iff_not, Bool.not_eq_true', Bool.or_eq_false_iff, Bool.not_eq_false', Bool.and_eq_false_iff] at e'); refine go_on ?_; refine e_cut rfl rfl (by (repeat (first | exact sub_refl | refine sub_new rfl ?_ | refine sub_bool rfl (by assumption) ?_))) (by (first | exact ⟨_, F⟩ | exact ⟨_, F.wk⟩))
  intro O w F; refine go_on ?_
  apply f_and 6 51 45 F
  · exact rfl
  · intro e; have e' := e; (try simp only [Bool.and_eq_true, Bool.or_eq_true, decide_eq_true_eq, decide_eq_false_iff_not, Bool.not_eq_true', Bool.or_eq_false_iff, Bool.not_eq_false', Bool.and_eq_false_iff] at e'); refine go_on ?_; refine e_cut rfl rfl (by (repeat (first | exact sub_refl | refine sub_new rfl ?_ | refine sub_bool rfl (by assumption) ?_))) (by (first | exact ⟨_, F⟩ | exact ⟨_, F.wk⟩))
  · intro e; have e' := e; (try simp only [Bool.and_eq_true, Bool.or_eq_true, decide_eq_true_eq, decide_eq_false_iff_not, Bool.not_eq_true', Bool.or_eq_false_iff, Bool.not_eq_false', Bool.and_eq_false_iff] at e'); refine go_on ?_; refine e_cut rfl rfl (by (repeat (first | exact sub_refl | refine sub_new rfl ?_ | refine sub_bool rfl (by assumption) ?_))) (by (first | exact ⟨_, F⟩ | exact ⟨_, F.wk⟩))
  intro O w F; refine go_on ?_
  apply f_and 6 58 52 F
  · exact rfl
  · intro e; have e' := e; (try simp only [Bool.and_eq_true, Bool.or_eq_true, decide_eq_true_eq, decide_eq_false_iff_not, Bool.not_eq_true', Bool.or_eq_false_iff, Bool.not_eq_false', Bool.and_eq_false_iff] at e'); refine go_on ?_; refine e_cut rfl rfl (by (repeat (first | exact sub_refl | refine sub_new rfl ?_ | refine sub_bool rfl (by assumption) ?_))) (by (first | exact ⟨_, F⟩ | exact ⟨_, F.wk⟩))
  · intro e; have e' := e; (try simp only [Bool.and_eq_true, Bool.or_eq_true, decide_eq_true_eq, decide_eq_false_iff_not, Bool.not_eq_true', Bool.or_eq_false_iff, Bool.not_eq_false', Bool.and_eq_false_iff] at e'); refine go_on ?_; refine e_cut rfl rfl (by (repeat (first | exact sub_refl | refine sub_new rfl ?_ | refine sub_bool rfl (by assumption) ?_))) (by (first | exact ⟨_, F⟩ | exact ⟨_, F.wk⟩))
  intro O w F; refine go_on ?_
  generalize hb : (decide ((s.ino : Int) = (t.ino : Int)) && decide ((s.kind : Int) = (t.kind : Int)) && decide ((s.gen : Int) = (t.gen : Int)) && decide ((s.links : Int) = (t.links : Int)) && decide ((s.mode : Int) = (t.mode : Int)) && decide ((s.change : Int) = (t.change : Int)) && decide ((s.cookie : Int) = (t.cookie : Int)) && decide ((s.verf : Int) = (t.verf : Int))) = bb
  cases bb with
  | true =>
    refine go_on ?_
    refine f_call F rfl rfl (bequal_c (xs := s.data) (ys := t.data)) ?_ (hp := trivial)
    clear F; rintro r O w T Φ ⟨rfl, rfl, rfl⟩ F0
    refine tidy F0 (fun F => ?_); clear F0
    refine go_on ?_
    refine go_back ?_
    refine F.fin ⟨?_, rfl, rfl⟩
    congr 1
    rw [decide_eq_decide]
    simp only [Bool.and_eq_true, decide_eq_true_eq, Int.ofNat_inj] at hb
    constructor
    · intro h
      cases s; cases t
      simp only at hb h
      simp only [Slt.mk.injEq]
      exact ⟨hb.1.1.1.1.1.1.1, hb.1.1.1.1.1.1.2, hb.1.1.1.1.1.2, hb.1.1.1.1.2, hb.1.1.1.2, hb.1.1.2, hb.1.2, hb.2, h⟩
    · intro h; rw [h]
  | false =>
    refine go_on ?_
    refine go_back ?_
    refine F.fin ⟨?_, rfl, rfl⟩
    congr 1
    rw [eq_comm, decide_eq_false_iff_not]
    intro h
    subst h
    simp at hb
end Go.Proofs.YtcfpnghkkkphhaaGreat
