/- What the functions of dir do. -/
import Derived.Test.YtcfpnghkkkphhaaGreatEn
import Derived.Test.YtcfpnghkkkphhaaGreatBits
namespace Go.Proofs.YtcfpnghkkkphhaaGreat
open Gk Go
set_option linter.unusedVariables false
set_option maxHeartbeats 4000000
set_option maxRecDepth 4000
set_option linter.unusedSimpArgs false
attribute [local irreducible] Int.decLt Int.decLe Int.decEq Int.instDecidableEq Gk.Rnds Gk.E Gk.G Gk.R Gk.RD Gk.RX Gk.RO Gk.Y Gk.Ent Gk.Sat Gk.Round Gk.After Gk.Cell Gk.Sl Gk.SlA Gk.CB Gk.OK Gk.FnC Gk.Bytes Gk.BytesL Gk.StrL Gk.Buf Gk.MapI
/-- The last entry's cookie. -/
def lastC (l : List En) : Nat := if h : l.length = 0 then 0 else (l[l.length - 1]'(by omega)).cookie
theorem dlast_c {v : Value} {l : List En} (h : l.length ≤ 1000000) : Con Tryz.prog 95 [v] [] [] [Fact.rel 4 EnR v l] fun r T Φ => r = .int .u64 (lastC l) ∧ T = [] ∧ Φ = [] := by
  refine con_of (fun O0 w0 F => ?_)
  refine tidy F (fun F => ?_)
  refine fn_of _ Tryz.func95 rfl (by kernel_rfl) Tryz.ntmps95 rfl ?_
  obtain ⟨a, c, rfl, _⟩ := (F.rel (v := v) (R := EnR)).form
  by_cases h0 : l.length = 0
  · have e : lastC l = 0 := dif_pos h0
    rw [e]
    refine go_on ?_
    refine go_back ?_
    exact F.fin ⟨rfl, rfl, rfl⟩
  · obtain ⟨k, hk⟩ : ∃ k, l.length = k + 1 := ⟨l.length - 1, by omega⟩
    have hk' : k < l.length := by omega
    have e : lastC l = l[k].cookie := by
      unfold lastC
      rw [dif_neg h0]
      congr 2
      omega
    rw [e]
    obtain ⟨x, row, rfl, hrl, hrow0, hrow⟩ := (F.rel (R := EnR) (ys := l)).elem hk'
    have hrow0 : row = [.int .u64 l[k].cookie, .int .u32 l[k].ino, .int .u32 l[k].gen, str l[k].name] := hrow0
    subst hrow0
    have F := F.fact hrow
    refine go_on ?_
    rw [show ((l.length : Int) - 1) = (k : Nat) from by omega]
    refine go_on ?_
    refine go_back ?_
    exact F.fin ⟨rfl, rfl, rfl⟩
theorem dfind1_c {e : En} {q : Nat} {nm : List UInt8} (h : True) : Con Tryz.prog 99 [.agg #[.int .u64 e.cookie, .int .u32 e.ino, .int .u32 e.gen, str e.name], .pointer (some ⟨q, 0, none⟩)] [] [Thing.cells q [str nm]] [] fun r T Φ => r = .bool (decide (e.name = nm)) ∧ T = [] ∧ Φ = [] := by
  refine con_of (fun O0 w0 F => ?_)
  refine tidy F (fun F => ?_)
  refine fn_of _ Tryz.func99 rfl (by kernel_rfl) Tryz.ntmps99 rfl ?_
  refine go_on ?_
  (first | refine f_box1 F rfl rfl (fun z w F => ?_) | refine f_boxN F rfl rfl (fun z w F => ?_)); refine go_on ?_
  refine go_on ?_
  refine go_back ?_
  exact F.fin ⟨rfl, rfl, rfl⟩
/-- Which entry a name is; below 0: none. -/
def findE : List En → List UInt8 → Int
  | [], _ => -1
  | e :: es, nm => if e.name = nm then 0 else if findE es nm < 0 then -1 else findE es nm + 1
theorem findE_ge : ∀ (l : List En) (nm : List UInt8), -1 ≤ findE l nm
  | [], _ => Int.le_refl _
  | e :: es, nm => by
    unfold findE
    have := findE_ge es nm
    split
    · omega
    · split <;> omega
def shiftE (i : Nat) (r : Int) : Int := if r < 0 then -1 else r + i
theorem findE_step {l : List En} {nm : List UInt8} {i : Nat} (hi : i < l.length) (h : l[i].name ≠ nm) : shiftE i (findE (l.drop i) nm) = shiftE (i + 1) (findE (l.drop (i + 1)) nm) := by
  rw [List.drop_eq_getElem_cons hi, findE, if_neg h]
  unfold shiftE
  by_cases g : findE (l.drop (i + 1)) nm < 0
  · rw [if_pos g, if_pos (by omega), if_pos g]
  · have := findE_ge (l.drop (i + 1)) nm
    rw [if_neg g, if_neg (by omega), if_neg g]
    omega
theorem dindex_c {v : Value} {l : List En} {q : Nat} {nm : List UInt8} (h : l.length ≤ 1000000) : Con Tryz.prog 98 [v, .func (.func 99) #[] #[.pointer (some ⟨q, 0, none⟩)]] [] [Thing.cells q [str nm]] [Fact.rel 4 EnR v l] fun r T Φ => r = .int .i64 (findE l nm) ∧ T = [] ∧ Φ = [] := by
  refine con_of (fun O0 w0 F => ?_)
  refine tidy F (fun F => ?_)
  refine fn_of _ Tryz.func98 rfl (by kernel_rfl) Tryz.ntmps98 rfl ?_
  obtain ⟨a, c, rfl, _⟩ := (F.rel (v := v) (R := EnR)).form
  refine go_on ?_
  refine g_loop (X := Nat) (fun i => [(0, .slice a l.length c), (1, .func (.func 99) #[] #[.pointer (some ⟨q, 0, none⟩)]), (7, .int .i64 l.length), (8, .int .i64 i)])
    (fun i wr => ∃ O, Fr [] O0 w0 O wr [(0, Thing.cells q [str nm])] [Fact.rel 4 EnR (.slice a l.length c) l] ∧ i ≤ l.length ∧ findE l nm = shiftE i (findE (l.drop i) nm)) (fun i => l.length - i) 0 (sub_cons rfl rfl (sub_cons rfl rfl (sub_cons rfl rfl (sub_cons rfl rfl (sub_nil))))) ⟨_, F.wk, Nat.zero_le _, ?_⟩ ?_
  · have := findE_ge l nm
    rw [List.drop_zero]
    unfold shiftE
    split <;> omega
  clear F
  rintro i w ⟨O, F, hi, hf⟩
  refine go_on ?_
  refine g_dec rfl (fun g => ?_) (fun g => ?_)
  · have hi' : i < l.length := by omega
    obtain ⟨x, row, rfl, hrl, hrow0, hrow⟩ := (F.rel (R := EnR) (ys := l)).elem hi'
    have hrow0 : row = [.int .u64 l[i].cookie, .int .u32 l[i].ino, .int .u32 l[i].gen, str l[i].name] := hrow0
    subst hrow0
    have F := F.fact hrow
    refine go_on ?_
    refine f_callv F rfl rfl rfl rfl (dfind1_c (e := l[i]) (q := q) (nm := nm)) ?_ (hp := trivial)
    clear F; rintro r O w T Φ ⟨rfl, rfl, rfl⟩ F0
    refine tidy F0 (fun F => ?_); clear F0
    by_cases hn : l[i].name = nm
    · have e : findE l nm = i := by
        rw [hf, List.drop_eq_getElem_cons hi', findE, if_pos hn]
        unfold shiftE
        rw [if_neg (by omega)]
        omega
      rw [e]
      refine go_on ?_
      refine go_back ?_
      exact F.fin ⟨rfl, rfl, rfl⟩
    · refine go_on ?_
      exact e_round (i + 1) (sub_cons rfl rfl (sub_cons rfl rfl (sub_cons rfl rfl (sub_cons rfl rfl (sub_nil))))) ⟨_, F.wk, by omega, hf.trans (findE_step hi' hn)⟩ (by omega)
  · obtain rfl : l.length = i := by omega
    have e : findE l nm = -1 := by
      rw [hf, List.drop_length]
      show shiftE l.length (-1) = -1
      unfold shiftE
      exact if_pos (by omega)
    rw [e]
    refine go_on ?_
    refine go_back ?_
    exact F.fin ⟨rfl, rfl, rfl⟩
theorem dfind_c {v : Value} {l : List En} {nm : List UInt8} (h : l.length ≤ 1000000) : Con Tryz.prog 94 [v, str nm] [] [] [Fact.rel 4 EnR v l] fun r T Φ => r = .int .i64 (findE l nm) ∧ T = [] ∧ Φ = [] := by
  refine con_of (fun O0 w0 F => ?_)
  refine tidy F (fun F => ?_)
  refine fn_of _ Tryz.func94 rfl (by kernel_rfl) Tryz.ntmps94 rfl ?_
  refine go_on ?_
  (first | refine f_box1 F rfl rfl (fun z w F => ?_) | refine f_boxN F rfl rfl (fun z w F => ?_)); refine go_on ?_
  refine go_on ?_
  refine f_call F rfl rfl (dindex_c (q := z) (nm := nm) (l := l)) ?_ (hp := h)
  clear F; rintro r O w T Φ ⟨rfl, rfl, rfl⟩ F0
  refine tidy F0 (fun F => ?_); clear F0
  refine go_on ?_
  refine go_back ?_
  exact F.fin ⟨rfl, rfl, rfl⟩
end Go.Proofs.YtcfpnghkkkphhaaGreat
