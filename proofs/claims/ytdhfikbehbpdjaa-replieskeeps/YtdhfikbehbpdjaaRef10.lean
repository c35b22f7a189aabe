/- What the reference of layer 10 answers, and the laws' helpers. -/
import Derived.Test.YtdhfikbehbpdjaaTxnc
import Derived.Test.YtdhfikbehbpdjaaGkRead
namespace Go.Proofs.Ytdhfikbehbpdjaa
open Gk Go
set_option linter.unusedVariables false
set_option maxHeartbeats 4000000
set_option maxRecDepth 4000
set_option linter.unusedSimpArgs false
attribute [local irreducible] Int.decLt Int.decLe Int.decEq Int.instDecidableEq Gk.Rnds Gk.E Gk.G Gk.R Gk.RD Gk.RX Gk.RO Gk.Y Gk.Ent Gk.Sat Gk.Round Gk.After Gk.Cell Gk.Sl Gk.SlA Gk.CB Gk.OK Gk.FnC Gk.Bytes Gk.BytesL Gk.StrL Gk.Buf Gk.MapI
def Fact.strs (v : Value) (xs : List (List UInt8)) : Fact := Fact.sl v xs.length (xs.map str)
def rT (wv nv : Value) : Value := .agg #[wv, nv]
def WsR : Rel (Nat × List UInt8) := Rel.pure fun y => [.int .i64 y.1, str y.2]
def getL (l : List (List UInt8)) (i : Int) : List UInt8 := if 0 ≤ i ∧ i < l.length then l.getD i.toNat [] else []
def putEL (n : Nat) (i : Int) (xs : List UInt8) : Nat := if 0 ≤ i ∧ i < n then (if 96 < xs.length then 13 else 0) else 15
def putL (l : List (List UInt8)) (i : Int) (xs : List UInt8) : List (List UInt8) := if 0 ≤ i ∧ i < l.length ∧ xs.length ≤ 96 then l.set i.toNat xs else l

theorem rNew_c {a : Option Addr} {n c : Nat} (h : True) : Con Try.prog 7 [.slice a n c] [] [] [] fun r T Φ => r = rT (.slice a n c) (.slice a n c) ∧ T = [] ∧ Φ = [] := by
  refine con_of (fun O0 w0 F => ?_)
  refine tidy F (fun F => ?_)
  refine fn_of _ Try.func7 rfl (by kernel_rfl) Try.ntmps7 rfl ?_
  refine go_on ?_
  (first | refine f_alloc1 F rfl (fun z w F => ?_) | refine f_allocN F rfl (fun z w F => ?_)); refine go_on ?_
  refine f_storeAll F rfl rfl rfl (fun w F => ?_); refine go_on ?_
  refine go_back ?_
  exact F.fin ⟨rfl, rfl, rfl⟩

theorem rGet_c {wv nv : Value} {l : List (List UInt8)} {i : Int} (h : True) : Con Try.prog 22 [rT wv nv, .int .i64 i] [] [] [Fact.strs nv l] fun r T Φ => r = str (getL l i) ∧ T = [] ∧ Φ = [] := by
  refine con_of (fun O0 w0 F => ?_)
  refine tidy F (fun F => ?_)
  refine fn_of _ Try.func22 rfl (by kernel_rfl) Try.ntmps22 rfl ?_
  obtain ⟨a, c, rfl, _⟩ := (F.sl (v := nv) (cs := l.map str)).form
  refine go_on ?_
  (first | refine f_box1 F rfl rfl (fun q w F => ?_) | refine f_boxN F rfl rfl (fun q w F => ?_)); refine go_on ?_
  unfold getL
  by_cases g1 : i < 0
  · rw [if_neg (by omega)]
    refine go_on ?_
    refine go_back ?_
    exact F.fin ⟨rfl, rfl, rfl⟩
  obtain ⟨k, rfl⟩ := Int.eq_ofNat_of_zero_le (Int.not_lt.1 g1)
  by_cases g2 : k < l.length
  · rw [if_pos (by omega), List.getD_eq_getElem?_getD, Int.toNat_natCast, List.getElem?_eq_getElem g2]
    refine go_on ?_
    obtain ⟨x, hx9, hc⟩ := ((F.sl (cs := l.map str))).atm g2
    (first | subst hx9 | (injection hx9 with hx9; subst hx9))
    have F := F.fact (f := Fact.cell _ _) hc
    refine go_on ?_
    refine go_back ?_
    exact F.fin ⟨rfl, rfl, rfl⟩
  · rw [if_neg (by omega)]
    refine go_on ?_
    refine go_back ?_
    exact F.fin ⟨rfl, rfl, rfl⟩

theorem rPut_c {wa : Option Addr} {wn wc : Nat} {nv : Value} {l : List (List UInt8)} {i : Int} {xs : List UInt8} (hl : l.length ≤ 1000000) : Con Try.prog 14 [rT (.slice wa wn wc) nv, .int .i64 i, str xs] [] [] [Fact.strs nv l] fun r T Φ => ∃ nv', r = .tuple #[rT (.slice wa wn wc) nv', errT (putEL l.length i xs)] ∧ T = [] ∧ Φ = [Fact.strs nv' (putL l i xs)] := by
  refine con_of (fun O0 w0 F => ?_)
  refine tidy F (fun F => ?_)
  refine fn_of _ Try.func14 rfl (by kernel_rfl) Try.ntmps14 rfl ?_
  obtain ⟨a, c, rfl, _⟩ := (F.sl (v := nv) (cs := l.map str)).form
  refine go_on ?_
  (first | refine f_box1 F rfl rfl (fun q w F => ?_) | refine f_boxN F rfl rfl (fun q w F => ?_)); refine go_on ?_
  (first | refine f_alloc1 F rfl (fun z w F => ?_) | refine f_allocN F rfl (fun z w F => ?_)); refine go_on ?_
  unfold putEL putL
  by_cases g1 : i < 0
  · rw [if_neg (by omega), if_neg (by omega)]
    refine go_on ?_
    refine f_storeAll F rfl rfl rfl (fun w F => ?_); refine go_on ?_
    refine go_back ?_
    exact F.fin ⟨_, rfl, rfl, rfl⟩
  obtain ⟨k, rfl⟩ := Int.eq_ofNat_of_zero_le (Int.not_lt.1 g1)
  by_cases g2 : k < l.length
  · rw [if_pos (by omega)]
    by_cases g3 : 96 < xs.length
    · rw [if_pos g3, if_neg (by omega)]
      refine go_on ?_
      refine f_storeAll F rfl rfl rfl (fun w F => ?_); refine go_on ?_
      refine go_back ?_
      exact F.fin ⟨_, rfl, rfl, rfl⟩
    · rw [if_neg g3, if_pos (by omega)]
      refine go_on ?_
      have F := F.nilbuf 1
      refine f_append F rfl rfl rfl (F.srcSl (cs := l.map str) (m := l.length) (hl := by simp) (hv := by simp [str, Value.oneCell'])) (fun r w O F => ?_); refine go_on ?_
      rw [Nat.zero_add, List.nil_append] at F
      obtain ⟨b, cap, rest, rfl, hcap, _, F⟩ := F.openBuf (n := l.length) (by omega)
      refine go_on ?_
      refine f_store1 F rfl rfl rfl (fun w F => ?_) (hc := .any) (hi := by simp; omega)
      rw [List.set_append_left _ _ (by simpa using g2), ← List.map_set] at F
      refine go_on ?_
      refine f_storeAll F rfl rfl rfl (fun w F => ?_); refine go_on ?_
      obtain ⟨O, F⟩ := F.frzPre (n := l.length) ((l.set k xs).map str) hcap ⟨_, rfl⟩
      have F := F.fact (f := Fact.strs (.slice (some ⟨b, 0, none⟩) l.length cap) (l.set k xs)) (by
        have h := F.sl (v := .slice (some ⟨b, 0, none⟩) l.length cap) (cs := (l.set k xs).map str) (m := l.length)
        show Sl _ _ _ (l.set k xs).length _
        rw [List.length_set]
        exact h)
      refine go_back ?_
      exact F.fin ⟨_, rfl, rfl, rfl⟩
  · rw [if_neg (by omega), if_neg (by omega)]
    refine go_on ?_
    refine f_storeAll F rfl rfl rfl (fun w F => ?_); refine go_on ?_
    refine go_back ?_
    exact F.fin ⟨_, rfl, rfl, rfl⟩

end Go.Proofs.Ytdhfikbehbpdjaa
