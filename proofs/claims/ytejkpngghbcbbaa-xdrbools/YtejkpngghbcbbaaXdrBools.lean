/- XdrBools answers true. -/
import Derived.Test.YtejkpngghbcbbaaXdrLaw
import Derived.Test.YtejkpngghbcbbaaXdrc
namespace Go.Proofs.Ytejkpngghbcbbaa
open Gk Go
set_option linter.unusedVariables false
attribute [local irreducible] Gk.E Gk.G Gk.R Gk.RD Gk.Y Gk.Ent Gk.Sat Gk.Round Gk.After Gk.Cell Gk.Sl Gk.SlA Gk.CB Gk.OK Gk.FnC Gk.Bytes Gk.BytesL Gk.StrL Gk.Buf Gk.MapI

theorem awake01_c (h : True) : Con Try.prog 17 [] [] [] [] fun r T Φ => r = .bool true ∧ T = [] ∧ Φ = [] :=
  con0 (fun O w hO _ => awake01_ok hO) fun O w r O' w' hO s ⟨h1, h2⟩ => ⟨_, _, ⟨h2, rfl, rfl⟩, left0⟩

def bB (b : Bool) : List UInt8 := be 4 (if b then 1 else 0)

theorem rdBool_put (b : Bool) (rest : List UInt8) : rdBool (bB b ++ rest) 0 = (b, rest, 0) := by
  unfold rdBool bB
  rw [rdN_be (by cases b <;> decide)]
  cases b <;> simp

theorem take_bools (l : List Bool) (i : Nat) (h : i < l.length) : (l.take (i + 1)).flatMap bB = (l.take i).flatMap bB ++ bB l[i] := by
  rw [List.take_succ_eq_append_getElem h, List.flatMap_append, List.flatMap_cons, List.flatMap_nil, List.append_nil]
theorem drop_bools (l : List Bool) (i : Nat) (h : i < l.length) : (l.drop i).flatMap bB = bB l[i] ++ (l.drop (i + 1)).flatMap bB := by
  rw [List.drop_eq_getElem_cons h, List.flatMap_cons]

theorem len_bools (l : List Bool) : (l.flatMap bB).length = 4 * l.length := by
  induction l with
  | nil => rfl
  | cons a l ih => simp only [List.flatMap_cons, List.length_append, List.length_cons, ih, bB, be_length]; omega

set_option maxHeartbeats 1000000 in
theorem XdrBools_ok {w0 : World} {vl : Value} {l : List Bool} {x : Nat} (hx : x < 4294967296) (F : Fr [] [] w0 [] w0 [] [Fact.sl vl l.length (l.map Value.bool)]) :
    FnC Try.prog 8 [vl, .int .u32 x] [] [] w0 fun r O' w' => r = .bool true := by
  obtain ⟨la, lc, rfl, _⟩ := F.sl.form
  refine fn_of _ Try.func8 rfl (by kernel_rfl) Try.ntmps8 rfl ?_
  refine go_on ?_
  refine f_call F rfl rfl awake01_c ?_
  clear F; rintro r O w T Φ ⟨rfl, rfl, rfl⟩ F0
  refine tidy F0 (fun F => ?_); clear F0
  refine go_on ?_
  refine g_dec rfl (fun h1 => ?_) (fun h1 => ?_)
  · refine go_on ?_
    refine go_back ?_
    exact F.law
  have hl : l.length ≤ 40 := by omega
  refine go_on ?_
  refine f_call F rfl rfl newWriter_c ?_
  clear F; rintro r O w T Φ ⟨p, rfl, rfl, rfl⟩ F0
  refine tidy F0 (fun F => ?_); clear F0
  refine go_on ?_
  refine g_loop (X := Nat × Value) (fun y => [(0, .slice la l.length lc), (1, .int .u32 x), (6, ptr p), (7, .int .i64 y.1)])
    (fun y wr => ∃ O, Fr [] [] w0 O wr [(2, Wr p y.2 ((l.take y.1).flatMap bB))] [Fact.sl (.slice la l.length lc) l.length (l.map Value.bool)] ∧ y.1 ≤ l.length) (fun y => l.length - y.1) (0, _) (sub_cons rfl rfl (sub_cons rfl rfl (sub_cons rfl rfl (sub_cons rfl rfl (sub_nil))))) ⟨_, F, by omega⟩ ?_
  rintro ⟨i, v⟩ w ⟨O, F, hi⟩
  dsimp only at F hi ⊢
  refine go_on ?_
  refine g_dec rfl (fun h => ?_) (fun h => ?_)
  · have hi' : i < l.length := by omega
    refine go_on ?_
    obtain ⟨x, rfl, hc⟩ := (F.sl).atm hi'
    have F := F.fact (f := Fact.cell _ _) hc
    refine go_on ?_
    have hlen : ((l.take i).flatMap bB).length ≤ 160 := by rw [len_bools]; simp; omega
    refine f_call F rfl rfl wbool_c ?_
    clear F; rintro r O w T Φ ⟨v, rfl, rfl, rfl⟩ F0
    refine tidy F0 (fun F => ?_); clear F0
    refine go_on ?_
    exact e_round (i + 1, v) (sub_cons rfl rfl (sub_cons rfl rfl (sub_cons rfl rfl (sub_cons rfl rfl (sub_nil))))) ⟨_, by rw [take_bools l i hi']; exact F.wk, by simp; omega⟩ (by simp only; omega)
  have hi' : i = l.length := by omega
  subst hi'
  rw [List.take_length] at F
  have hlen := len_bools l
  refine go_on ?_
  refine f_call F rfl rfl u32_c ?_
  clear F; rintro r O w T Φ ⟨v, rfl, rfl, rfl⟩ F0
  refine tidy F0 (fun F => ?_); clear F0
  refine go_on ?_
  refine f_call F rfl rfl out_c ?_ (hp := (by rw [List.length_append, len_bools, be_length]; omega))
  clear F; rintro r O w T Φ ⟨rfl, rfl⟩ F0
  refine tidy F0 (fun F => ?_); clear F0
  refine go_on ?_
  refine f_call F rfl rfl newReader_c ?_ (hp := (by rw [List.length_append, len_bools, be_length]; omega))
  clear F; rintro r O w T Φ ⟨q, rfl, rfl, rfl⟩ F0
  refine tidy F0 (fun F => ?_); clear F0
  refine go_on ?_
  refine g_loop (X := Nat) (fun i => [(0, .slice la l.length lc), (1, .int .u32 x), (8, ptr q), (9, .int .i64 i)])
    (fun i wr => ∃ O, Fr [] [] w0 O wr [(2, Rd q ((l.drop i).flatMap bB ++ be 4 x) 0)] [Fact.sl (.slice la l.length lc) l.length (l.map Value.bool)] ∧ i ≤ l.length) (fun i => l.length - i) 0 (sub_cons rfl rfl (sub_cons rfl rfl (sub_cons rfl rfl (sub_cons rfl rfl (sub_nil))))) ⟨_, F.wk, by omega⟩ ?_
  rintro i w ⟨O, F, hi⟩
  refine go_on ?_
  refine g_dec rfl (fun h => ?_) (fun h => ?_)
  · have hi' : i < l.length := by omega
    rw [drop_bools l i hi', List.append_assoc] at F
    obtain ⟨x, rfl, hc⟩ := (F.sl).atm hi'
    have F := F.fact (f := Fact.cell _ _) hc
    refine go_on ?_
    refine f_draw [] F [] [(0, true), (2, true), (3, true), (4, true), (5, true), (1, false), (6, true), (7, true), (8, true), (10, true), (11, true), (12, true), (13, true), (14, true), (9, false), (15, true), (16, true)] (by kernel_rfl) (by kernel_rfl) (fun w F hS => ?_); refine go_look ?_
    refine rd_do rfl ?_
    (try refine r_go rfl rfl ?_)
    refine f_call F rfl rfl rbool_c ?_
    clear F; rintro r O w T Φ ⟨rfl, rfl, rfl⟩ F0
    refine tidy F0 (fun F => ?_); clear F0
    refine r_nil ?_; refine e_afterS F.wk.fs (fun hS => ?_); refine go_look ?_
    rw [rdBool_put] at F ⊢
    dsimp only at F ⊢
    refine rd_open rfl ?_; (first | refine ro_n ?_ | refine ro_g rfl rfl ?_); refine rx_y rfl (fun _ hw => y_bne false rfl rfl (by simp)) (by assumption) ?_; refine go_look ?_
    refine go_look ?_
    refine rd_open rfl ?_; (first | refine ro_n ?_ | refine ro_g rfl rfl ?_); refine rx_y rfl (fun _ hw => y_mul64 rfl rfl (by omega)) (by assumption) ?_; refine go_look ?_
    refine rd_do rfl ?_
    (try refine r_go rfl rfl ?_)
    refine f_call F rfl rfl left_c ?_
    clear F; rintro r O w T Φ ⟨rfl, rfl, rfl⟩ F0
    refine tidy F0 (fun F => ?_); clear F0
    refine r_nil ?_; refine e_afterS F.wk.fs (fun hS => ?_); refine go_look ?_
    refine rd_done ?_; refine go_on ?_
    refine g_ndec rfl (fun h2 => absurd ?_ h2) (fun h2 => ?_)
    · rw [List.length_append, len_bools, be_length, List.length_drop]; omega
    refine go_on ?_
    exact e_round (i + 1) (sub_cons rfl rfl (sub_cons rfl rfl (sub_cons rfl rfl (sub_cons rfl rfl (sub_nil))))) ⟨_, F.wk, by omega⟩ (by omega)
  have hi' : i = l.length := by omega
  subst hi'
  rw [List.drop_length, List.flatMap_nil, List.nil_append] at F
  refine go_on ?_
  refine f_call F rfl rfl rbool_c ?_
  clear F; rintro r O w T Φ ⟨rfl, rfl, rfl⟩ F0
  refine tidy F0 (fun F => ?_); clear F0
  refine go_on ?_
  have e : rdBool (be 4 x) 0 = if 1 < x then (false, [], 11) else (decide (x = 1), [], 0) := by
    have := rdN_be (n := 4) (x := x) (by simpa using hx) []
    rw [List.append_nil] at this
    unfold rdBool
    rw [this]
    rfl
  rw [e] at F ⊢
  by_cases hx1 : 1 < x
  · rw [if_pos hx1] at F ⊢
    dsimp only at F ⊢
    refine go_on ?_
    refine r_y (y_beq true rfl rfl (by simp; omega)) rfl ?_
    refine go_on ?_
    refine f_call F rfl rfl end_c ?_
    clear F; rintro r O w T Φ ⟨rfl, rfl, rfl⟩ F0
    refine tidy F0 (fun F => ?_); clear F0
    refine go_on ?_
    refine r_y (y_beq true rfl rfl (by simp [endE]; omega)) rfl ?_
    refine go_on ?_
    rw [show decide ((x : Int) < 2) = false from by simp; omega]
    refine go_on ?_
    refine f_call F rfl rfl err_c ?_
    clear F; rintro r O w T Φ ⟨rfl, rfl, rfl⟩ F0
    refine tidy F0 (fun F => ?_); clear F0
    refine go_on ?_
    refine go_back ?_
    exact F.law
  · rw [if_neg hx1] at F ⊢
    dsimp only at F ⊢
    refine go_on ?_
    refine r_y (y_beq true rfl rfl (by simp; omega)) rfl ?_
    refine go_on ?_
    refine f_call F rfl rfl end_c ?_
    clear F; rintro r O w T Φ ⟨rfl, rfl, rfl⟩ F0
    refine tidy F0 (fun F => ?_); clear F0
    refine go_on ?_
    refine r_y (y_beq true rfl rfl (by simp [endE]; omega)) rfl ?_
    refine go_on ?_
    rw [show decide ((x : Int) < 2) = true from by simp; omega]
    refine go_on ?_
    refine go_back ?_
    exact F.law

theorem XdrBools_true {w : World} {v0 v1 : Value} (r0 : Reads Try.prog w 52 [v0]) (r1 : Reads Try.prog w 39 [v1]) :
    FnC Try.prog 8 [v0, v1] [] [] w fun r O' w' => r = .bool true := by
  obtain ⟨l, hl, _⟩ := reads_bools r0
  obtain ⟨x, hx, hlt⟩ := reads_nat (k := .u32) rfl r1
  injection hx with hx
  subst hx
  exact XdrBools_ok hlt ((Fr.start OK_nil).fact (f := Fact.sl v0 l.length (l.map Value.bool)) hl)
end Go.Proofs.Ytejkpngghbcbbaa
