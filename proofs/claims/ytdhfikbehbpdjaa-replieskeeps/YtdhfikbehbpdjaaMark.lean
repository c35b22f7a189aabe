/- What the functions of mark do. -/
import Derived.Test.YtdhfikbehbpdjaaXdrn
import Derived.Test.YtdhfikbehbpdjaaTxnc
namespace Go.Proofs.Ytdhfikbehbpdjaa
open Gk Go
set_option linter.unusedVariables false
set_option maxHeartbeats 4000000
set_option maxRecDepth 4000
set_option linter.unusedSimpArgs false
attribute [local irreducible] Int.decLt Int.decLe Int.decEq Int.instDecidableEq Gk.Rnds Gk.E Gk.G Gk.R Gk.RD Gk.RX Gk.RO Gk.Y Gk.Ent Gk.Sat Gk.Round Gk.After Gk.Cell Gk.Sl Gk.SlA Gk.CB Gk.OK Gk.FnC Gk.Bytes Gk.BytesL Gk.StrL Gk.Buf Gk.MapI
/-- How far a move has come. -/
structure Mk where
  owner : Bool
  phase : Nat
  peer : Nat
  epoch : Nat
  seq : Nat
  base : Nat
  goal : Nat
  next : Nat
  round : Nat
deriving DecidableEq

def mkCells (s : Mk) : List Value := [.bool s.owner, .int .u32 s.phase, .int .u32 s.peer, .int .u64 s.epoch, .int .u64 s.seq, .int .u64 s.base, .int .u64 s.goal, .int .u32 s.next, .int .u32 s.round]
def mkV (s : Mk) : Value := .agg (mkCells s).toArray
def Mk.zero : Mk := ⟨false, 0, 0, 0, 0, 0, 0, 0, 0⟩
def Mk.fit (s : Mk) : Prop := s.phase < 4294967296 ∧ s.peer < 4294967296 ∧ s.epoch < 18446744073709551616 ∧ s.seq < 18446744073709551616 ∧ s.base < 18446744073709551616 ∧ s.goal < 18446744073709551616 ∧ s.next < 4294967296 ∧ s.round < 4294967296
def Mk.may (s : Mk) : Prop := s.phase ≤ 5 ∧ s.next ≤ 34 ∧ s.peer < 16 ∧ s.base ≤ s.goal ∧ (s.phase = 3 ↔ 33 ≤ s.next) ∧ (s.phase = 1 ∨ s.phase = 2 → s.owner = true) ∧ (3 ≤ s.phase → s.owner = false)
instance (s : Mk) : Decidable s.may := by unfold Mk.may; infer_instance
def Mk.bytes (s : Mk) : List UInt8 := be 4 (if s.owner then 1 else 0) ++ be 4 s.phase ++ be 4 s.peer ++ be 8 s.epoch ++ be 8 s.seq ++ be 8 s.base ++ be 8 s.goal ++ be 4 s.next ++ be 4 s.round
def Mk.out (s : Mk) : List UInt8 := if s.may ∧ s ≠ .zero then s.bytes else []
theorem Mk.bytes_len (s : Mk) : s.bytes.length = 52 := by simp [Mk.bytes]

theorem mk_eq (s t : Mk) : eqCells [0, 1, 1, 1, 1, 1, 1, 1, 1] (mkCells s) (mkCells t) = some (decide (s = t)) := by
  obtain ⟨a0, a1, a2, a3, a4, a5, a6, a7, a8⟩ := s
  obtain ⟨b0, b1, b2, b3, b4, b5, b6, b7, b8⟩ := t
  simp only [mkCells, eqCells, kindEq, cond_true, Option.map_some, Option.some.injEq, Bool.and_true]
  rw [Bool.eq_iff_iff]
  simp only [Bool.and_eq_true, decide_eq_true_eq, beq_iff_eq, Mk.mk.injEq, Int.natCast_inj]

/-- The one of bytes, and the error. -/
def mkGet (b : List UInt8) : Mk × Nat :=
  if b = [] then (.zero, 0) else
  match rdBool b 0 with
  | (x0, b0, e0) => match rdN b0 e0 4 with
  | (x1, b1, e1) => match rdN b1 e1 4 with
  | (x2, b2, e2) => match rdN b2 e2 8 with
  | (x3, b3, e3) => match rdN b3 e3 8 with
  | (x4, b4, e4) => match rdN b4 e4 8 with
  | (x5, b5, e5) => match rdN b5 e5 8 with
  | (x6, b6, e6) => match rdN b6 e6 4 with
  | (x7, b7, e7) => match rdN b7 e7 4 with
  | (x8, b8, e8) => if endE b8 e8 ≠ 0 then (.zero, endE b8 e8) else if ¬ Mk.may ⟨x0, x1, x2, x3, x4, x5, x6, x7, x8⟩ ∨ (⟨x0, x1, x2, x3, x4, x5, x6, x7, x8⟩ : Mk) = .zero then (.zero, 11) else (⟨x0, x1, x2, x3, x4, x5, x6, x7, x8⟩, 0)

theorem ru32_g {p e : Nat} {bs : List UInt8} {x e' : Nat} {bs' : List UInt8} (h : rdN bs e 4 = (x, bs', e')) : Con Try.prog 45 [ptr p] [Rd p bs e] [] [] fun r T Φ => r = .int .u32 x ∧ T = [Rd p bs' e'] ∧ Φ = [] := by
  have := ru32_c (p := p) (e := e) (bs := bs) trivial
  rw [h] at this
  exact this
theorem ru64_g {p e : Nat} {bs : List UInt8} {x e' : Nat} {bs' : List UInt8} (h : rdN bs e 8 = (x, bs', e')) : Con Try.prog 46 [ptr p] [Rd p bs e] [] [] fun r T Φ => r = .int .u64 x ∧ T = [Rd p bs' e'] ∧ Φ = [] := by
  have := ru64_c (p := p) (e := e) (bs := bs) trivial
  rw [h] at this
  exact this
theorem rdBool_keep {bs bs' : List UInt8} {e : Nat} {x : Bool} (h : rdBool bs e = (x, bs', 0)) : e = 0 ∧ bs = be 4 (if x then 1 else 0) ++ bs' := by
  obtain ⟨y, b1, e1, hy⟩ : ∃ x b' e', rdN bs e 4 = (x, b', e') := ⟨_, _, _, rfl⟩
  unfold rdBool at h
  simp only [hy] at h
  split at h
  · simp only [Prod.mk.injEq] at h
    obtain ⟨_, _, h⟩ := h
    split at h
    · cases h
    · rename_i hn; exact absurd h hn
  · rename_i hn
    simp only [Prod.mk.injEq] at h
    obtain ⟨rfl, rfl, rfl⟩ := h
    have he : e = 0 := Decidable.byContradiction fun hne => by
      rw [rdN_err bs 4 hne] at hy
      injection hy with _ hy
      injection hy with _ hy
      exact hne hy
    subst he
    obtain ⟨k1, _⟩ := rdN_inv hy
    refine ⟨rfl, ?_⟩
    have : y = 0 ∨ y = 1 := by omega
    rcases this with rfl | rfl
    · exact k1
    · exact k1
theorem rdBool_be (x : Bool) (rest : List UInt8) : rdBool (be 4 (if x then 1 else 0) ++ rest) 0 = (x, rest, 0) := by
  unfold rdBool
  rw [rdN_be (by cases x <;> decide) rest]
  cases x <;> rfl
theorem rdN_keep0 {bs bs' : List UInt8} {e x n : Nat} (h : rdN bs e n = (x, bs', 0)) : e = 0 ∧ bs = be n x ++ bs' ∧ x < 256 ^ n := by
  have he : e = 0 := Decidable.byContradiction fun hn => by
    rw [rdN_err bs n hn] at h
    injection h with _ h
    injection h with _ h
    exact hn h
  subst he
  exact ⟨rfl, rdN_inv h⟩

theorem mkGet_nil : mkGet [] = (.zero, 0) := by unfold mkGet; rw [if_pos rfl]
theorem mkGet_bytes {s : Mk} (hf : s.fit) (hm : s.may) (hz : s ≠ .zero) : mkGet s.bytes = (s, 0) := by
  obtain ⟨h1, h2, h3, h4, h5, h6, h7, h8⟩ := hf
  have hl := s.bytes_len
  have hb : s.bytes ≠ [] := fun h => by rw [h] at hl; simp at hl
  have hg : s.bytes = be 4 (if s.owner then 1 else 0) ++ (be 4 s.phase ++ (be 4 s.peer ++ (be 8 s.epoch ++ (be 8 s.seq ++ (be 8 s.base ++ (be 8 s.goal ++ (be 4 s.next ++ (be 4 s.round ++ [])))))))) := by simp [Mk.bytes]
  unfold mkGet
  rw [if_neg hb, hg, rdBool_be]
  simp only [rdN_be (n := 4) h1, rdN_be (n := 4) h2, rdN_be (n := 8) h3, rdN_be (n := 8) h4, rdN_be (n := 8) h5, rdN_be (n := 8) h6, rdN_be (n := 4) h7, rdN_be (n := 4) h8]
  rw [if_neg (by simp [endE]), if_neg (fun h => h.elim (fun h => h hm) hz)]

theorem mkGet_inv {b : List UInt8} : (mkGet b).1.fit ∧ ((mkGet b).2 = 0 → (b = [] ∧ (mkGet b).1 = .zero) ∨ ((mkGet b).1.may ∧ (mkGet b).1 ≠ .zero ∧ b = (mkGet b).1.bytes)) ∧ ((mkGet b).2 ≠ 0 → (mkGet b).1 = .zero) := by
  have zf : Mk.zero.fit := ⟨by decide, by decide, by decide, by decide, by decide, by decide, by decide, by decide⟩
  by_cases hb : b = []
  · subst hb
    rw [mkGet_nil]
    exact ⟨zf, fun _ => .inl ⟨rfl, rfl⟩, fun h => absurd rfl h⟩
  obtain ⟨x0, b0, e0, r0⟩ : ∃ x b' e', rdBool b 0 = (x, b', e') := ⟨_, _, _, rfl⟩
  obtain ⟨x1, b1, e1, r1⟩ : ∃ x b' e', rdN b0 e0 4 = (x, b', e') := ⟨_, _, _, rfl⟩
  obtain ⟨x2, b2, e2, r2⟩ : ∃ x b' e', rdN b1 e1 4 = (x, b', e') := ⟨_, _, _, rfl⟩
  obtain ⟨x3, b3, e3, r3⟩ : ∃ x b' e', rdN b2 e2 8 = (x, b', e') := ⟨_, _, _, rfl⟩
  obtain ⟨x4, b4, e4, r4⟩ : ∃ x b' e', rdN b3 e3 8 = (x, b', e') := ⟨_, _, _, rfl⟩
  obtain ⟨x5, b5, e5, r5⟩ : ∃ x b' e', rdN b4 e4 8 = (x, b', e') := ⟨_, _, _, rfl⟩
  obtain ⟨x6, b6, e6, r6⟩ : ∃ x b' e', rdN b5 e5 8 = (x, b', e') := ⟨_, _, _, rfl⟩
  obtain ⟨x7, b7, e7, r7⟩ : ∃ x b' e', rdN b6 e6 4 = (x, b', e') := ⟨_, _, _, rfl⟩
  obtain ⟨x8, b8, e8, r8⟩ : ∃ x b' e', rdN b7 e7 4 = (x, b', e') := ⟨_, _, _, rfl⟩
  have k1 := rdN_lt b0 e0 4
  have k2 := rdN_lt b1 e1 4
  have k3 := rdN_lt b2 e2 8
  have k4 := rdN_lt b3 e3 8
  have k5 := rdN_lt b4 e4 8
  have k6 := rdN_lt b5 e5 8
  have k7 := rdN_lt b6 e6 4
  have k8 := rdN_lt b7 e7 4
  simp only [r1, r2, r3, r4, r5, r6, r7, r8] at k1 k2 k3 k4 k5 k6 k7 k8
  unfold mkGet
  rw [if_neg hb]
  simp only [r0, r1, r2, r3, r4, r5, r6, r7, r8]
  by_cases g1 : endE b8 e8 = 0
  · rw [if_neg (by simpa using g1)]
    by_cases g2 : ¬ Mk.may ⟨x0, x1, x2, x3, x4, x5, x6, x7, x8⟩ ∨ (⟨x0, x1, x2, x3, x4, x5, x6, x7, x8⟩ : Mk) = .zero
    · rw [if_pos g2]
      exact ⟨zf, (fun h => by cases h), fun _ => rfl⟩
    · rw [if_neg g2]
      refine ⟨⟨k1, k2, k3, k4, k5, k6, k7, k8⟩, fun _ => .inr ⟨Decidable.byContradiction fun h => g2 (.inl h), fun h => g2 (.inr h), ?_⟩, fun h => absurd rfl h⟩
      have h8 : e8 = 0 ∧ b8 = [] := by
        unfold endE at g1
        split at g1
        · rename_i h
          split at g1
          · rename_i h2; exact ⟨h, h2⟩
          · cases g1
        · rename_i h; exact absurd g1 h
      obtain ⟨rfl, rfl⟩ := h8
      obtain ⟨rfl, q8, _⟩ := rdN_keep0 r8
      obtain ⟨rfl, q7, _⟩ := rdN_keep0 r7
      obtain ⟨rfl, q6, _⟩ := rdN_keep0 r6
      obtain ⟨rfl, q5, _⟩ := rdN_keep0 r5
      obtain ⟨rfl, q4, _⟩ := rdN_keep0 r4
      obtain ⟨rfl, q3, _⟩ := rdN_keep0 r3
      obtain ⟨rfl, q2, _⟩ := rdN_keep0 r2
      obtain ⟨rfl, q1, _⟩ := rdN_keep0 r1
      obtain ⟨_, q0⟩ := rdBool_keep r0
      rw [q0, q1, q2, q3, q4, q5, q6, q7, q8]
      simp [Mk.bytes]
  · rw [if_pos g1]
    exact ⟨zf, fun h => absurd h g1, fun _ => rfl⟩

theorem Mk.alike {s t : Mk} (hs : s.fit) (ht : t.fit) (ms : s.may) (mt : t.may) : s.out = t.out ↔ s = t := by
  refine ⟨fun h => ?_, fun h => by rw [h]⟩
  have ls := s.bytes_len
  have lt := t.bytes_len
  unfold Mk.out at h
  by_cases zs : s = .zero <;> by_cases zt : t = .zero
  · rw [zs, zt]
  · rw [if_neg (fun h => h.2 zs), if_pos ⟨mt, zt⟩] at h
    rw [← h] at lt; simp at lt
  · rw [if_pos ⟨ms, zs⟩, if_neg (fun h => h.2 zt)] at h
    rw [h] at ls; simp at ls
  · rw [if_pos ⟨ms, zs⟩, if_pos ⟨mt, zt⟩] at h
    have h1 := mkGet_bytes hs ms zs
    have h2 := mkGet_bytes ht mt zt
    rw [h, h2] at h1
    exact ((Prod.mk.inj h1).1).symm
theorem mkGet_out {s : Mk} (hs : s.fit) (ms : s.may) : mkGet s.out = (s, 0) := by
  unfold Mk.out
  by_cases zs : s = .zero
  · rw [if_neg (fun h => h.2 zs), mkGet_nil, zs]
  · rw [if_pos ⟨ms, zs⟩, mkGet_bytes hs ms zs]
theorem Mk.out_len (s : Mk) : s.out.length = 0 ∨ s.out.length = 52 := by
  unfold Mk.out
  split
  · exact .inr s.bytes_len
  · exact .inl rfl
end Go.Proofs.Ytdhfikbehbpdjaa
