/- What a sector holds. -/
import Derived.Test.YtmohjmfcbhpldaaCrc
namespace Go.Proofs.Ytmohjmfcbhpldaa
open Gk Go
set_option linter.unusedVariables false
set_option maxHeartbeats 4000000
set_option maxRecDepth 4000
set_option linter.unusedSimpArgs false
attribute [local irreducible] Int.decLt Int.decLe Int.decEq Int.instDecidableEq Gk.Rnds Gk.E Gk.G Gk.R Gk.RD Gk.RX Gk.RO Gk.Y Gk.Ent Gk.Sat Gk.Round Gk.After Gk.Cell Gk.Sl Gk.SlA Gk.CB Gk.OK Gk.FnC Gk.Bytes Gk.BytesL Gk.StrL Gk.Buf Gk.MapI
theorem number_c {v : Value} {s : List UInt8} (h : s.length ≤ 8) : Con Try.prog 52 [v] [] [] [Fact.bytes v s] fun r T Φ => r = .int .u64 (numB s) ∧ T = [] ∧ Φ = [] := by
  refine con_of (fun O0 w0 F => ?_)
  refine tidy F (fun F => ?_)
  refine fn_of _ Try.func52 rfl (by kernel_rfl) Try.ntmps52 rfl ?_
  obtain ⟨a, c, rfl, _⟩ := (F.bytes (v := v)).form
  refine go_on ?_
  refine g_loop (X := Nat) (fun i => [(3, .int .u64 (numB (s.take i))), (6, .slice a s.length c), (7, .int .i64 s.length), (8, .int .i64 i)])
    (fun i wr => ∃ O, Fr [] O0 w0 O wr [] [Fact.bytes (.slice a s.length c) s] ∧ i ≤ s.length) (fun i => s.length - i) 0 (sub_cons rfl rfl (sub_cons rfl rfl (sub_cons rfl rfl (sub_cons rfl rfl (sub_nil))))) ⟨_, F, by simp⟩ ?_
  clear F
  rintro i w ⟨O, F, hi⟩
  refine go_on ?_
  refine g_dec rfl (fun g => ?_) (fun g => ?_)
  · have hi' : i < s.length := by omega
    have hlt : numB (s.take i) < 256 ^ 7 := Nat.lt_of_lt_of_le (numB_lt _) (Nat.pow_le_pow_right (by decide) (by simp; omega))
    have hc := UInt8.toNat_lt s[i]
    have hor := or_low (numB (s.take i)) s[i].toNat hc
    refine go_on ?_
    obtain ⟨x, hx9, hc⟩ := ((F.bytes (xs := s))).atm hi'
    (first | subst hx9 | (injection hx9 with hx9; subst hx9))
    have F := F.fact (f := Fact.cell _ _) hc
    refine go_on ?_
    refine r_y (y_shlN (k := .u64) (a := numB (s.take i)) (c := 8) rfl rfl (by decide) (by simp only [lim]; omega)) rfl ?_
    refine go_on ?_
    (try refine r_y (y_convN (k := .u64) (a := s[i].toNat) rfl (by simp only [lim]; omega)) rfl ?_)
    refine go_on ?_
    refine r_y (y_orN (k := .u64) (a := numB (s.take i) * 2 ^ 8) (b := s[i].toNat) rfl rfl (by simp only [full]; omega) (by simp only [full]; omega) (by rw [hor]; simp only [lim]; omega)) rfl ?_
    rw [hor, ← numB_snoc, ← List.take_succ_eq_append_getElem hi']
    refine go_on ?_
    exact e_round (i + 1) (sub_cons rfl rfl (sub_cons rfl rfl (sub_cons rfl rfl (sub_cons rfl rfl (sub_nil))))) ⟨_, F.wk, by omega⟩ (by omega)
  · have hi' : i = s.length := by omega
    subst hi'
    rw [List.take_length]
    refine go_on ?_
    refine go_back ?_
    exact F.fin ⟨rfl, rfl, rfl⟩

def cleanB (b : List UInt8) : Bool := b.all (· == 0)
theorem clean_c {v : Value} {b : List UInt8} (h : b.length ≤ 1000000) : Con Try.prog 51 [v] [] [] [Fact.bytes v b] fun r T Φ => r = .bool (cleanB b) ∧ T = [] ∧ Φ = [] := by
  refine con_of (fun O0 w0 F => ?_)
  refine tidy F (fun F => ?_)
  refine fn_of _ Try.func51 rfl (by kernel_rfl) Try.ntmps51 rfl ?_
  obtain ⟨a, c, rfl, _⟩ := (F.bytes (v := v)).form
  refine go_on ?_
  refine g_loop (X := Nat) (fun i => [(5, .slice a b.length c), (6, .int .i64 b.length), (7, .int .i64 i)])
    (fun i wr => ∃ O, Fr [] O0 w0 O wr [] [Fact.bytes (.slice a b.length c) b] ∧ i ≤ b.length ∧ cleanB (b.drop i) = cleanB b) (fun i => b.length - i) 0 (sub_cons rfl rfl (sub_cons rfl rfl (sub_cons rfl rfl (sub_nil)))) ⟨_, F, by simp, rfl⟩ ?_
  clear F
  rintro i w ⟨O, F, hi, hg⟩
  refine go_on ?_
  refine g_dec rfl (fun g => ?_) (fun g => ?_)
  · have hi' : i < b.length := by omega
    rw [List.drop_eq_getElem_cons hi'] at hg
    refine go_on ?_
    obtain ⟨x, hx9, hc⟩ := ((F.bytes (xs := b))).atm hi'
    (first | subst hx9 | (injection hx9 with hx9; subst hx9))
    have F := F.fact (f := Fact.cell _ _) hc
    refine go_on ?_
    generalize b[i] = u at hg hc F ⊢
    by_cases g2 : u = 0
    · subst g2
      refine go_on ?_
      exact e_round (i + 1) (sub_cons rfl rfl (sub_cons rfl rfl (sub_cons rfl rfl (sub_nil)))) ⟨_, F.wk, by omega, by rw [← hg]; simp [cleanB]⟩ (by omega)
    · have g3 : ¬ (u.toNat : Int) = 0 := fun h => g2 (UInt8.toNat_inj.1 (by show u.toNat = 0; omega))
      have e : cleanB b = false := by rw [← hg]; simp [cleanB, g2]
      rw [e]
      refine go_on ?_
      refine go_back ?_
      exact F.fin ⟨rfl, rfl, rfl⟩
  · have hi' : i = b.length := by omega
    subst hi'
    rw [List.drop_length] at hg
    rw [← hg]
    refine go_on ?_
    refine go_back ?_
    exact F.fin ⟨rfl, rfl, rfl⟩

theorem byteful2_c {q : Nat} {x y : Int} (h : True) : Con Try.prog 56 [.slice (some ⟨q, 0, none⟩) 2 2] [] [Thing.cells q [.int .i64 x, .int .i64 y]] [] fun r T Φ => r = .bool (decide (0 ≤ x ∧ x ≤ 255 ∧ 0 ≤ y ∧ y ≤ 255)) ∧ T = [] ∧ Φ = [] := by
  refine con_of (fun O0 w0 F => ?_)
  refine tidy F (fun F => ?_)
  refine fn_of _ Try.func56 rfl (by kernel_rfl) Try.ntmps56 rfl ?_
  refine go_on ?_
  by_cases g1 : x < 0
  · rw [decide_eq_false (by omega)]
    refine g_unroll 4 ?_; refine go_on ?_
    refine go_back ?_
    exact F.fin ⟨rfl, rfl, rfl⟩
  by_cases g2 : 255 < x
  · rw [decide_eq_false (by omega)]
    refine g_unroll 4 ?_; refine go_on ?_
    refine go_back ?_
    exact F.fin ⟨rfl, rfl, rfl⟩
  by_cases g3 : y < 0
  · rw [decide_eq_false (by omega)]
    refine g_unroll 4 ?_; refine go_on ?_
    refine go_back ?_
    exact F.fin ⟨rfl, rfl, rfl⟩
  by_cases g4 : 255 < y
  · rw [decide_eq_false (by omega)]
    refine g_unroll 4 ?_; refine go_on ?_
    refine go_back ?_
    exact F.fin ⟨rfl, rfl, rfl⟩
  rw [decide_eq_true (by omega)]
  refine g_unroll 4 ?_; refine go_on ?_
  refine go_back ?_
  exact F.fin ⟨rfl, rfl, rfl⟩

theorem be_at : ∀ (k x i : Nat), i < k → (be k x)[i]? = some (UInt8.ofNat (x / 2 ^ (8 * (k - 1 - i))))
  | 0, x, i, h => by omega
  | k + 1, x, i, h => by
    cases i with
    | zero => simp [be]
    | succ i =>
      have := be_at k x i (by omega)
      simp only [be, List.getElem?_cons_succ]
      rw [this, show k + 1 - 1 - (i + 1) = k - 1 - i from by omega]
def layC (cs : List Value) (off : Nat) (b : List UInt8) (i : Nat) : List Value := cs.take off ++ bytesV (b.take i) ++ cs.drop (off + i)
theorem layC_len {cs : List Value} {off i : Nat} {b : List UInt8} (h : off + b.length ≤ cs.length) (hi : i ≤ b.length) : (layC cs off b i).length = cs.length := by
  simp [layC, bytesV]; omega
theorem layC_0 (cs : List Value) (off : Nat) (b : List UInt8) : layC cs off b 0 = cs := by simp [layC, bytesV]
theorem layC_set {cs : List Value} {off i : Nat} {b : List UInt8} {c : UInt8} (h : off + b.length ≤ cs.length) (hi : b[i]? = some c) : (layC cs off b i).set (off + i) (byteV c) = layC cs off b (i + 1) := by
  have hi' := (List.getElem?_eq_some_iff.1 hi).1
  have hc : b[i] = c := (List.getElem?_eq_some_iff.1 hi).2
  unfold layC
  have hl : (cs.take off ++ bytesV (b.take i)).length = off + i := by simp [bytesV]; omega
  rw [List.set_append_right _ _ (by rw [hl]; exact Nat.le_refl _), hl, Nat.sub_self, List.drop_eq_getElem_cons (i := off + i) (by omega), List.set_cons_zero, List.take_succ_eq_append_getElem hi', hc]
  simp [bytesV, Nat.add_assoc]

theorem lay_c {q off k cap x : Nat} {cs : List Value} (h : off + k ≤ cs.length ∧ k ≤ 8 ∧ x < 18446744073709551616 ∧ cs.length ≤ 1000000) : Con Try.prog 57 [.slice (some ⟨q, off, none⟩) k cap, .int .u64 x] [Thing.cells q cs] [] [] fun r T Φ => T = [Thing.cells q (layC cs off (be k x) k)] ∧ Φ = [] := by
  obtain ⟨h1, h2, h3, h4⟩ := h
  have hb : off + (be k x).length ≤ cs.length := by rw [be_length]; exact h1
  refine con_of (fun O0 w0 F => ?_)
  refine tidy F (fun F => ?_)
  refine fn_of _ Try.func57 rfl (by kernel_rfl) Try.ntmps57 rfl ?_
  refine go_on ?_
  refine g_loop (X := Nat) (fun i => [(0, .slice (some ⟨q, off, none⟩) k cap), (1, .int .u64 x), (6, .int .i64 k), (7, .int .i64 i)])
    (fun i wr => ∃ O, Fr ([Thing.cells q cs].flatMap (·.bs)) O0 w0 O wr [(1, Thing.cells q (layC cs off (be k x) i))] [] ∧ i ≤ k) (fun i => k - i) 0 (sub_cons rfl rfl (sub_cons rfl rfl (sub_cons rfl rfl (sub_cons rfl rfl (sub_nil))))) ⟨_, by rw [layC_0]; exact F, by simp⟩ ?_
  clear F
  rintro i w ⟨O, F, hi⟩
  refine go_on ?_
  refine g_dec rfl (fun g => ?_) (fun g => ?_)
  · have hi' : i < k := by omega
    obtain ⟨e, he⟩ : ∃ e : Nat, (k : Int) - 1 - i = e := ⟨k - 1 - i, by omega⟩
    have hbe := be_at k x i hi'
    rw [show k - 1 - i = e from by omega] at hbe
    refine go_on ?_
    rw [he]
    refine r_y (y_mulN (k := .i64) (a := 8) (b := e) rfl rfl (by simp only [lim]; omega)) rfl ?_
    refine go_on ?_
    refine r_y (y_shrN (k := .u64) (a := x) (c := 8 * e) rfl rfl (by show 8 * e ≤ 64; omega)) rfl ?_
    refine go_on ?_
    rw [Addr.add_lit]
    refine f_store1 (cs := layC cs off (be k x) i) (i := off + i) F rfl rfl rfl (fun w F => ?_) (hc := .any) (hi := by rw [layC_len hb (by rw [be_length]; omega)]; omega)
    have e9 : (layC cs off (be k x) i).set (off + i) (.int .u8 (UInt8.ofNat (x / 2 ^ (8 * e))).toNat) = layC cs off (be k x) (i + 1) := layC_set hb hbe
    rw [e9] at F
    refine go_on ?_
    exact e_round (i + 1) (sub_cons rfl rfl (sub_cons rfl rfl (sub_cons rfl rfl (sub_cons rfl rfl (sub_nil))))) ⟨_, F.wk, by omega⟩ (by omega)
  · have hi' : i = k := by omega
    subst hi'
    refine go_on ?_
    refine go_back ?_
    exact F.fin ⟨rfl, rfl⟩
end Go.Proofs.Ytmohjmfcbhpldaa
