/- What the reference of layer 14 answers. -/
import Derived.Test.YtdhfikbehbpdjaaReplies
import Derived.Test.YtdhfikbehbpdjaaRef15
import Derived.Test.YtdhfikbehbpdjaaRef10
namespace Go.Proofs.Ytdhfikbehbpdjaa
open Gk Go
set_option linter.unusedVariables false
set_option maxHeartbeats 4000000
set_option maxRecDepth 4000
set_option linter.unusedSimpArgs false
attribute [local irreducible] Int.decLt Int.decLe Int.decEq Int.instDecidableEq Gk.Rnds Gk.E Gk.G Gk.R Gk.RD Gk.RX Gk.RO Gk.Y Gk.Ent Gk.Sat Gk.Round Gk.After Gk.Cell Gk.Sl Gk.SlA Gk.CB Gk.OK Gk.FnC Gk.Bytes Gk.BytesL Gk.StrL Gk.Buf Gk.MapI
attribute [local irreducible] rdN endE be Fact.strs
/-- A reply as the reference has it. -/
def rrV (r : Rp) (ev : Value) : Value := .agg #[.int .u32 r.client, .int .u32 r.xid, .int .i64 r.status, .int .u32 r.ino, .int .u32 r.gen, .int .u32 r.kind, .int .u32 r.mode, .int .u32 r.links, .int .u32 r.size, .int .u64 r.change, str r.data, ev, .bool r.eof, .int .u64 r.verf, .int .u32 r.free]

theorem rStatus14_c {e : Int} (h : True) : Con Try.prog 32 [.int .i64 e] [] [] [] fun r T Φ => r = .bool (decide (statB e)) ∧ T = [] ∧ Φ = [] := by
  refine con_of (fun O0 w0 F => ?_)
  refine tidy F (fun F => ?_)
  refine fn_of _ Try.func32 rfl (by kernel_rfl) Try.ntmps32 rfl ?_
  by_cases h0 : e = 0
  · have hs : statB e := .inl h0
    rw [decide_eq_true hs]
    refine go_on ?_
    refine go_back ?_
    exact F.fin ⟨rfl, rfl, rfl⟩
  by_cases h1 : 60 ≤ e
  · by_cases h2 : e ≤ 71
    · have hs : statB e := .inr ⟨h1, h2⟩
      refine go_on ?_
      refine go_back ?_
      exact F.fin ⟨by rw [decide_eq_true hs, decide_eq_true h2], rfl, rfl⟩
    · have hs : ¬ statB e := fun h => h.elim h0 (fun h => h2 h.2)
      refine go_on ?_
      refine go_back ?_
      exact F.fin ⟨by rw [decide_eq_false hs, decide_eq_false h2], rfl, rfl⟩
  · have hs : ¬ statB e := fun h => h.elim h0 (fun h => h1 h.1)
    refine go_on ?_
    refine go_back ?_
    exact F.fin ⟨by rw [decide_eq_false hs], rfl, rfl⟩

theorem rRead14_c {client : Nat} {b : List UInt8} (h : b.length ≤ 140737488355328) : Con Try.prog 36 [.int .u32 client, str b] [] [] [] fun r T Φ => r = .tuple #[rrV (repRead client b).1 nilV, errT (repRead client b).2] ∧ T = [] ∧ Φ = [] := by
  refine con_of (fun O0 w0 F => ?_)
  refine tidy F (fun F => ?_)
  refine fn_of _ Try.func36 rfl (by kernel_rfl) Try.ntmps36 rfl ?_
  obtain ⟨x1, b1, e1, r1⟩ : ∃ x b' e', rdN b 0 4 = (x, b', e') := ⟨_, _, _, rfl⟩
  obtain ⟨x2, b2, e2, r2⟩ : ∃ x b' e', rdN b1 e1 4 = (x, b', e') := ⟨_, _, _, rfl⟩
  obtain ⟨x3, b3, e3, r3⟩ : ∃ x b' e', rdN b2 e2 4 = (x, b', e') := ⟨_, _, _, rfl⟩
  obtain ⟨x4, b4, e4, r4⟩ : ∃ x b' e', rdN b3 e3 4 = (x, b', e') := ⟨_, _, _, rfl⟩
  obtain ⟨x5, b5, e5, r5⟩ : ∃ x b' e', rdN b4 e4 4 = (x, b', e') := ⟨_, _, _, rfl⟩
  obtain ⟨x6, b6, e6, r6⟩ : ∃ x b' e', rdN b5 e5 4 = (x, b', e') := ⟨_, _, _, rfl⟩
  obtain ⟨x7, b7, e7, r7⟩ : ∃ x b' e', rdN b6 e6 4 = (x, b', e') := ⟨_, _, _, rfl⟩
  obtain ⟨x8, b8, e8, r8⟩ : ∃ x b' e', rdN b7 e7 4 = (x, b', e') := ⟨_, _, _, rfl⟩
  obtain ⟨x9, b9, e9, r9⟩ : ∃ x b' e', rdN b8 e8 8 = (x, b', e') := ⟨_, _, _, rfl⟩
  obtain ⟨x10, b10, e10, r10⟩ : ∃ x b' e', rdN b9 e9 8 = (x, b', e') := ⟨_, _, _, rfl⟩
  obtain ⟨x11, b11, e11, r11⟩ : ∃ x b' e', rdN b10 e10 4 = (x, b', e') := ⟨_, _, _, rfl⟩
  have l1 := rdN_shrink r1
  have l2 := rdN_shrink r2
  have l3 := rdN_shrink r3
  have l4 := rdN_shrink r4
  have l5 := rdN_shrink r5
  have l6 := rdN_shrink r6
  have l7 := rdN_shrink r7
  have l8 := rdN_shrink r8
  have l9 := rdN_shrink r9
  have l10 := rdN_shrink r10
  have eg : repRead client b = if endE b11 e11 ≠ 0 then (.zero, endE b11 e11) else if ¬ statB x2 then (.zero, 11) else (⟨client, x1, x2, x3, x4, x5, x6, x7, x8, x9, [], [], false, x10, x11⟩, 0) := by
    unfold repRead
    simp only [r1, r2, r3, r4, r5, r6, r7, r8, r9, r10, r11]
  have k2 := rdN_lt b1 e1 4
  simp only [r2] at k2
  rw [eg]
  clear eg
  (refine go_on ?_; repeat (first | (refine f_store1 F rfl rfl rfl (fun w F => ?_); refine go_on ?_) | (refine f_storeAll F rfl rfl rfl (fun w F => ?_); refine go_on ?_) | (refine f_box1 F rfl rfl (fun q w F => ?_); refine go_on ?_) | (refine f_boxN F rfl rfl (fun q w F => ?_); refine go_on ?_) | (refine f_alloc1 F rfl (fun q w F => ?_); refine go_on ?_) | (refine f_allocN F rfl (fun q w F => ?_); refine go_on ?_) | (refine f_call F rfl rfl rStatus14_c ?_; clear F; rintro r O w T Φ ⟨rfl, rfl, rfl⟩ F0; refine tidy F0 (fun F => ?_); clear F0; refine go_on ?_) | (refine f_call F rfl rfl rRead32_g ?_; clear F; rintro r O w T Φ ⟨rfl, rfl, rfl⟩ F0; refine tidy F0 (fun F => ?_); clear F0; refine go_on ?_) | (refine f_call F rfl rfl rRead64_g ?_; clear F; rintro r O w T Φ ⟨rfl, rfl, rfl⟩ F0; refine tidy F0 (fun F => ?_); clear F0; refine go_on ?_) | (refine f_call F rfl rfl rEnd_c ?_; clear F; rintro r O w T Φ ⟨rfl, rfl, rfl⟩ F0; refine tidy F0 (fun F => ?_); clear F0; refine go_on ?_)))
  by_cases g1 : endE b11 e11 = 0
  · rw [if_neg (by simpa using g1)]
    (refine go_on ?_; repeat (first | (refine f_store1 F rfl rfl rfl (fun w F => ?_); refine go_on ?_) | (refine f_storeAll F rfl rfl rfl (fun w F => ?_); refine go_on ?_) | (refine f_box1 F rfl rfl (fun q w F => ?_); refine go_on ?_) | (refine f_boxN F rfl rfl (fun q w F => ?_); refine go_on ?_) | (refine f_alloc1 F rfl (fun q w F => ?_); refine go_on ?_) | (refine f_allocN F rfl (fun q w F => ?_); refine go_on ?_) | (refine f_call F rfl rfl rStatus14_c ?_; clear F; rintro r O w T Φ ⟨rfl, rfl, rfl⟩ F0; refine tidy F0 (fun F => ?_); clear F0; refine go_on ?_) | (refine f_call F rfl rfl rRead32_c ?_; clear F; rintro r O w T Φ ⟨rfl, rfl, rfl⟩ F0; refine tidy F0 (fun F => ?_); clear F0; refine go_on ?_) | (refine f_call F rfl rfl rRead32_g ?_; clear F; rintro r O w T Φ ⟨rfl, rfl, rfl⟩ F0; refine tidy F0 (fun F => ?_); clear F0; refine go_on ?_) | (refine f_call F rfl rfl rRead64_c ?_; clear F; rintro r O w T Φ ⟨rfl, rfl, rfl⟩ F0; refine tidy F0 (fun F => ?_); clear F0; refine go_on ?_) | (refine f_call F rfl rfl rRead64_g ?_; clear F; rintro r O w T Φ ⟨rfl, rfl, rfl⟩ F0; refine tidy F0 (fun F => ?_); clear F0; refine go_on ?_) | (refine f_call F rfl rfl rEnd_c ?_; clear F; rintro r O w T Φ ⟨rfl, rfl, rfl⟩ F0; refine tidy F0 (fun F => ?_); clear F0; refine go_on ?_)))
    by_cases g2 : statB x2
    · rw [decide_eq_true g2, if_neg (fun h => h g2)]
      (refine go_on ?_; repeat (first | (refine f_store1 F rfl rfl rfl (fun w F => ?_); refine go_on ?_) | (refine f_storeAll F rfl rfl rfl (fun w F => ?_); refine go_on ?_) | (refine f_box1 F rfl rfl (fun q w F => ?_); refine go_on ?_) | (refine f_boxN F rfl rfl (fun q w F => ?_); refine go_on ?_) | (refine f_alloc1 F rfl (fun q w F => ?_); refine go_on ?_) | (refine f_allocN F rfl (fun q w F => ?_); refine go_on ?_) | (refine f_call F rfl rfl rStatus14_c ?_; clear F; rintro r O w T Φ ⟨rfl, rfl, rfl⟩ F0; refine tidy F0 (fun F => ?_); clear F0; refine go_on ?_) | (refine f_call F rfl rfl rRead32_c ?_; clear F; rintro r O w T Φ ⟨rfl, rfl, rfl⟩ F0; refine tidy F0 (fun F => ?_); clear F0; refine go_on ?_) | (refine f_call F rfl rfl rRead32_g ?_; clear F; rintro r O w T Φ ⟨rfl, rfl, rfl⟩ F0; refine tidy F0 (fun F => ?_); clear F0; refine go_on ?_) | (refine f_call F rfl rfl rRead64_c ?_; clear F; rintro r O w T Φ ⟨rfl, rfl, rfl⟩ F0; refine tidy F0 (fun F => ?_); clear F0; refine go_on ?_) | (refine f_call F rfl rfl rRead64_g ?_; clear F; rintro r O w T Φ ⟨rfl, rfl, rfl⟩ F0; refine tidy F0 (fun F => ?_); clear F0; refine go_on ?_) | (refine f_call F rfl rfl rEnd_c ?_; clear F; rintro r O w T Φ ⟨rfl, rfl, rfl⟩ F0; refine tidy F0 (fun F => ?_); clear F0; refine go_on ?_)))
      refine go_back ?_
      exact F.fin ⟨rfl, rfl, rfl⟩
    · rw [decide_eq_false g2, if_pos g2]
      (refine go_on ?_; repeat (first | (refine f_store1 F rfl rfl rfl (fun w F => ?_); refine go_on ?_) | (refine f_storeAll F rfl rfl rfl (fun w F => ?_); refine go_on ?_) | (refine f_box1 F rfl rfl (fun q w F => ?_); refine go_on ?_) | (refine f_boxN F rfl rfl (fun q w F => ?_); refine go_on ?_) | (refine f_alloc1 F rfl (fun q w F => ?_); refine go_on ?_) | (refine f_allocN F rfl (fun q w F => ?_); refine go_on ?_) | (refine f_call F rfl rfl rStatus14_c ?_; clear F; rintro r O w T Φ ⟨rfl, rfl, rfl⟩ F0; refine tidy F0 (fun F => ?_); clear F0; refine go_on ?_) | (refine f_call F rfl rfl rRead32_c ?_; clear F; rintro r O w T Φ ⟨rfl, rfl, rfl⟩ F0; refine tidy F0 (fun F => ?_); clear F0; refine go_on ?_) | (refine f_call F rfl rfl rRead32_g ?_; clear F; rintro r O w T Φ ⟨rfl, rfl, rfl⟩ F0; refine tidy F0 (fun F => ?_); clear F0; refine go_on ?_) | (refine f_call F rfl rfl rRead64_c ?_; clear F; rintro r O w T Φ ⟨rfl, rfl, rfl⟩ F0; refine tidy F0 (fun F => ?_); clear F0; refine go_on ?_) | (refine f_call F rfl rfl rRead64_g ?_; clear F; rintro r O w T Φ ⟨rfl, rfl, rfl⟩ F0; refine tidy F0 (fun F => ?_); clear F0; refine go_on ?_) | (refine f_call F rfl rfl rEnd_c ?_; clear F; rintro r O w T Φ ⟨rfl, rfl, rfl⟩ F0; refine tidy F0 (fun F => ?_); clear F0; refine go_on ?_)))
      refine go_back ?_
      exact F.fin ⟨rfl, rfl, rfl⟩
  · rw [if_pos g1]
    (refine go_on ?_; repeat (first | (refine f_store1 F rfl rfl rfl (fun w F => ?_); refine go_on ?_) | (refine f_storeAll F rfl rfl rfl (fun w F => ?_); refine go_on ?_) | (refine f_box1 F rfl rfl (fun q w F => ?_); refine go_on ?_) | (refine f_boxN F rfl rfl (fun q w F => ?_); refine go_on ?_) | (refine f_alloc1 F rfl (fun q w F => ?_); refine go_on ?_) | (refine f_allocN F rfl (fun q w F => ?_); refine go_on ?_) | (refine f_call F rfl rfl rStatus14_c ?_; clear F; rintro r O w T Φ ⟨rfl, rfl, rfl⟩ F0; refine tidy F0 (fun F => ?_); clear F0; refine go_on ?_) | (refine f_call F rfl rfl rRead32_c ?_; clear F; rintro r O w T Φ ⟨rfl, rfl, rfl⟩ F0; refine tidy F0 (fun F => ?_); clear F0; refine go_on ?_) | (refine f_call F rfl rfl rRead32_g ?_; clear F; rintro r O w T Φ ⟨rfl, rfl, rfl⟩ F0; refine tidy F0 (fun F => ?_); clear F0; refine go_on ?_) | (refine f_call F rfl rfl rRead64_c ?_; clear F; rintro r O w T Φ ⟨rfl, rfl, rfl⟩ F0; refine tidy F0 (fun F => ?_); clear F0; refine go_on ?_) | (refine f_call F rfl rfl rRead64_g ?_; clear F; rintro r O w T Φ ⟨rfl, rfl, rfl⟩ F0; refine tidy F0 (fun F => ?_); clear F0; refine go_on ?_) | (refine f_call F rfl rfl rEnd_c ?_; clear F; rintro r O w T Φ ⟨rfl, rfl, rfl⟩ F0; refine tidy F0 (fun F => ?_); clear F0; refine go_on ?_)))
    refine go_back ?_
    exact F.fin ⟨rfl, rfl, rfl⟩
end Go.Proofs.Ytdhfikbehbpdjaa
