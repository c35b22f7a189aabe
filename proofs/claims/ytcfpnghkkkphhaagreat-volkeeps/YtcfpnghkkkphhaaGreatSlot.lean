/- What the functions of slot do. -/
import Derived.Test.YtcfpnghkkkphhaaGreatDadd
namespace Go.Proofs.YtcfpnghkkkphhaaGreat
open Gk Go
set_option linter.unusedVariables false
set_option maxHeartbeats 4000000
set_option maxRecDepth 4000
set_option linter.unusedSimpArgs false
attribute [local irreducible] Int.decLt Int.decLe Int.decEq Int.instDecidableEq Gk.Rnds Gk.E Gk.G Gk.R Gk.RD Gk.RX Gk.RO Gk.Y Gk.Ent Gk.Sat Gk.Round Gk.After Gk.Cell Gk.Sl Gk.SlA Gk.CB Gk.OK Gk.FnC Gk.Bytes Gk.BytesL Gk.StrL Gk.Buf Gk.MapI
/-- A thing. -/
structure Slt where
  ino : Nat
  kind : Nat
  gen : Nat
  links : Nat
  mode : Nat
  change : Nat
  cookie : Nat
  verf : Nat
  data : List UInt8
deriving DecidableEq
def sltC (s : Slt) (v : Value) : List Value := [.int .u32 s.ino, .int .u32 s.kind, .int .u32 s.gen, .int .u32 s.links, .int .u32 s.mode, .int .u64 s.change, .int .u64 s.cookie, .int .u64 s.verf, v]
def sltV (s : Slt) (v : Value) : Value := .agg (sltC s v).toArray
def Slt.bare (s : Slt) : Prop := s.links = 0 ∧ s.mode = 0 ∧ s.cookie = 0 ∧ s.verf = 0 ∧ s.data.length = 0
instance (s : Slt) : Decidable s.bare := by unfold Slt.bare; infer_instance
theorem sbare_c {s : Slt} {v : Value} (h : True) : Con Tryz.prog 47 [sltV s v] [] [] [Fact.bytes v s.data] fun r T Φ => r = .bool (decide s.bare) ∧ T = [] ∧ Φ = [] := by
  refine con_of (fun O0 w0 F => ?_)
  refine tidy F (fun F => ?_)
  refine fn_of _ Tryz.func47 rfl (by kernel_rfl) Tryz.ntmps47 rfl ?_
  obtain ⟨a, c, rfl, _⟩ := (F.bytes (v := v)).form
  unfold sltV sltC
  refine go_on ?_
  (first | refine f_box1 F rfl rfl (fun q w F => ?_) | refine f_boxN F rfl rfl (fun q w F => ?_)); refine go_on ?_
  have no : ¬ s.bare → decide s.bare = false := decide_eq_false
  by_cases h1 : s.links = 0
  · by_cases h2 : s.mode = 0
    · by_cases h3 : s.cookie = 0
      · by_cases h4 : s.verf = 0
        · by_cases h5 : s.data.length = 0
          · rw [decide_eq_true (show s.bare from ⟨h1, h2, h3, h4, h5⟩)]
            refine go_on ?_
            refine go_back ?_
            exact F.fin ⟨by first | rfl | rw [decide_eq_true (by omega)], rfl, rfl⟩
          · rw [no fun k => h5 k.2.2.2.2]
            refine go_on ?_
            refine go_back ?_
            exact F.fin ⟨by first | rfl | rw [decide_eq_false (by omega)], rfl, rfl⟩
        · rw [no fun k => h4 k.2.2.2.1]
          refine go_on ?_
          refine go_back ?_
          exact F.fin ⟨by first | rfl | rw [decide_eq_false (by omega)], rfl, rfl⟩
      · rw [no fun k => h3 k.2.2.1]
        refine go_on ?_
        refine go_back ?_
        exact F.fin ⟨by first | rfl | rw [decide_eq_false (by omega)], rfl, rfl⟩
    · rw [no fun k => h2 k.2.1]
      refine go_on ?_
      refine go_back ?_
      exact F.fin ⟨by first | rfl | rw [decide_eq_false (by omega)], rfl, rfl⟩
  · rw [no fun k => h1 k.1]
    refine go_on ?_
    refine go_back ?_
    exact F.fin ⟨by first | rfl | rw [decide_eq_false (by omega)], rfl, rfl⟩
/-- The three asks of Check, as it has them. -/
def Slt.small (s : Slt) : Prop := s.ino < 24 ∧ s.kind ≤ 3 ∧ s.data.length ≤ 768
instance (s : Slt) : Decidable s.small := by unfold Slt.small; infer_instance
def Slt.kindly (s : Slt) : Prop := (s.kind = 0 ∧ s.bare) ∨ (s.kind ≠ 0 ∧ 1 ≤ s.links)
instance (s : Slt) : Decidable s.kindly := by unfold Slt.kindly; infer_instance
theorem scheck1_c {q : Nat} {s : Slt} {v : Value} (h : True) : Con Tryz.prog 45 [.pointer (some ⟨q, 0, none⟩)] [] [Thing.cells q (sltC s v)] [Fact.bytes v s.data] fun r T Φ => r = .bool (decide s.small) ∧ T = [] ∧ Φ = [] := by
  refine con_of (fun O0 w0 F => ?_)
  refine tidy F (fun F => ?_)
  refine fn_of _ Tryz.func45 rfl (by kernel_rfl) Tryz.ntmps45 rfl ?_
  obtain ⟨a, c, rfl, _⟩ := (F.bytes (v := v)).form
  unfold sltC at F
  have no : ¬ s.small → decide s.small = false := decide_eq_false
  by_cases h1 : s.ino < 24
  · by_cases h2 : s.kind ≤ 3
    · by_cases h3 : s.data.length ≤ 768
      · rw [decide_eq_true (show s.small from ⟨h1, h2, h3⟩)]
        refine go_on ?_
        refine go_back ?_
        exact F.fin ⟨by first | rfl | rw [decide_eq_true (by omega)], rfl, rfl⟩
      · rw [no fun k => h3 k.2.2]
        refine go_on ?_
        refine go_back ?_
        exact F.fin ⟨by first | rfl | rw [decide_eq_false (by omega)], rfl, rfl⟩
    · rw [no fun k => h2 k.2.1]
      refine go_on ?_
      refine go_back ?_
      exact F.fin ⟨by first | rfl | rw [decide_eq_false (by omega)], rfl, rfl⟩
  · rw [no fun k => h1 k.1]
    refine go_on ?_
    refine go_back ?_
    exact F.fin ⟨by first | rfl | rw [decide_eq_false (by omega)], rfl, rfl⟩
theorem scheck2_c {q : Nat} {s : Slt} {v : Value} (h : True) : Con Tryz.prog 46 [.pointer (some ⟨q, 0, none⟩)] [] [Thing.cells q (sltC s v)] [Fact.bytes v s.data] fun r T Φ => r = .bool (decide s.kindly) ∧ T = [] ∧ Φ = [] := by
  refine con_of (fun O0 w0 F => ?_)
  refine tidy F (fun F => ?_)
  refine fn_of _ Tryz.func46 rfl (by kernel_rfl) Tryz.ntmps46 rfl ?_
  obtain ⟨a, c, rfl, _⟩ := (F.bytes (v := v)).form
  by_cases h1 : s.kind = 0
  · have e : decide s.kindly = decide s.bare := by
      rw [decide_eq_decide]
      exact ⟨fun k => k.elim (fun k => k.2) (fun k => absurd h1 k.1), fun k => .inl ⟨h1, k⟩⟩
    rw [e]
    unfold sltC at F
    refine go_on ?_
    refine f_call F rfl rfl (sbare_c (s := s) (v := .slice a s.data.length c)) ?_ (hp := trivial)
    clear F; rintro r O w T Φ ⟨rfl, rfl, rfl⟩ F0
    refine tidy F0 (fun F => ?_); clear F0
    by_cases h2 : s.bare
    · rw [decide_eq_true h2]
      refine go_on ?_
      refine go_back ?_
      exact F.fin ⟨rfl, rfl, rfl⟩
    · rw [decide_eq_false h2]
      refine go_on ?_
      refine go_back ?_
      exact F.fin ⟨rfl, rfl, rfl⟩
  · have e : decide s.kindly = decide (1 ≤ s.links) := by
      rw [decide_eq_decide]
      exact ⟨fun k => k.elim (fun k => absurd k.1 h1) (fun k => k.2), fun k => .inr ⟨h1, k⟩⟩
    rw [e]
    unfold sltC at F
    by_cases h2 : 1 ≤ s.links
    · rw [decide_eq_true h2]
      refine go_on ?_
      refine go_back ?_
      exact F.fin ⟨by first | rfl | rw [decide_eq_true (by omega)], rfl, rfl⟩
    · rw [decide_eq_false h2]
      refine go_on ?_
      refine go_back ?_
      exact F.fin ⟨by first | rfl | rw [decide_eq_false (by omega)], rfl, rfl⟩
end Go.Proofs.YtcfpnghkkkphhaaGreat
