/- A journal is opened: what stands in memory then. -/
import Derived.Test.YtmohjmfcbhpldaaJchange
import Derived.Test.YtmohjmfcbhpldaaJcommit
import Derived.Test.YtmohjmfcbhpldaaJtold
namespace Go.Proofs.Ytmohjmfcbhpldaa
open Gk Go
set_option linter.unusedVariables false
set_option maxHeartbeats 4000000
set_option maxRecDepth 4000
set_option linter.unusedSimpArgs false
attribute [local irreducible] Int.decLt Int.decLe Int.decEq Int.instDecidableEq Gk.Rnds Gk.E Gk.G Gk.R Gk.RD Gk.RX Gk.RO Gk.Y Gk.Ent Gk.Sat Gk.Round Gk.After Gk.Cell Gk.Sl Gk.SlA Gk.CB Gk.OK Gk.FnC Gk.Bytes Gk.BytesL Gk.StrL Gk.Buf Gk.MapI
def homeOk (d : Dk) (log i : Nat) : Prop := d.is (1 + (log : Int) + (i : Int)) 1 = true ∧ (d.fm (1 + (log : Int) + (i : Int))).adr = i ∧ (d.fm (1 + (log : Int) + (i : Int))).body.length ≤ 96
instance homeOkDec (d : Dk) (log i : Nat) : Decidable (homeOk d log i) := by unfold homeOk; infer_instance
def opB (d : Dk) (log n : Nat) : Nat → List (List UInt8)
  | 0 => List.replicate n []
  | i + 1 => if homeOk d log i then (opB d log n i).set i (d.fm (1 + (log : Int) + (i : Int))).body else opB d log n i
theorem opB_len (d : Dk) (log n : Nat) : ∀ i, (opB d log n i).length = n
  | 0 => by simp [opB]
  | i + 1 => by
    unfold opB
    split
    · rw [List.length_set, opB_len d log n i]
    · exact opB_len d log n i
theorem opB_all (d : Dk) (log n : Nat) : ∀ i, ∀ b ∈ opB d log n i, b.length ≤ 96
  | 0 => fun b hb => by
    have := List.eq_of_mem_replicate hb
    subst this
    simp
  | i + 1 => fun b hb => by
    unfold opB at hb
    split at hb
    · rename_i h
      rcases List.mem_or_eq_of_mem_set hb with hb | rfl
      · exact opB_all d log n i b hb
      · exact h.2.2
    · exact opB_all d log n i b hb
def superOk (d : Dk) (log : Nat) : Prop := d.is 0 4 = true ∧ (d.fm 0).adr < log
instance superOkDec (d : Dk) (log : Nat) : Decidable (superOk d log) := by unfold superOk; infer_instance
def openA (d : Dk) (log n : Nat) : Jr := if superOk d log then ⟨log, opB d log n n, (d.fm 0).seq, (d.fm 0).adr, 0, 0⟩ else ⟨log, opB d log n n, 0, 0, 0, 0⟩
def redo (d : Dk) : Nat → Jr → List Int → Jr × List Int
  | 0, j, t => (j, t)
  | k + 1, j, t => if (j.change d).2 = true then redo d k (j.on (j.change d).1) (t ++ (j.change d).1.map (·.1)) else (j, t)
def homeAll : List Int → Jr × Dk → Jr × Dk
  | [], x => x
  | i :: l, x => homeAll l (x.1.home x.2 i.toNat)
theorem homeAll_snoc : ∀ (l : List Int) (i : Int) (x : Jr × Dk), homeAll (l ++ [i]) x = (homeAll l x).1.home (homeAll l x).2 i.toNat
  | [], _, _ => rfl
  | a :: l, i, x => by rw [List.cons_append, homeAll, homeAll_snoc]; rfl
theorem homeAll_waits : ∀ (l : List Int) (x : Jr × Dk), (homeAll l x).2.waits.length ≤ x.2.waits.length + l.length
  | [], _ => Nat.le_refl _
  | a :: l, x => by
    have h1 := homeAll_waits l (x.1.home x.2 a.toNat)
    have h2 := lay_waits x.1 x.2 (1 + (x.1.log : Int) + (a.toNat : Int)) (x.1.homeF a.toNat)
    have h3 : (x.1.home x.2 a.toNat).2.waits.length ≤ x.2.waits.length + 1 := h2
    rw [homeAll, List.length_cons]
    omega
theorem homeAll_like : ∀ (l : List Int) (x : Jr × Dk), x.1.like (homeAll l x).1 ∧ (homeAll l x).1.used = x.1.used
  | [], _ => ⟨.refl _, rfl⟩
  | a :: l, x => by
    have h1 := homeAll_like l (x.1.home x.2 a.toNat)
    have h2 := home_like x.1 x.2 a.toNat
    exact ⟨h2.1.trans h1.1, h1.2.trans h2.2⟩
/-- What is told of a change's writes. -/
def goodW (n : Nat) (l : List (Int × List UInt8)) : Prop := ∀ x ∈ l, (0 ≤ x.1 ∧ x.1 < n) ∧ x.2.length ≤ 96
theorem chGo_good {j : Jr} {d : Dk} : ∀ (k i cnt : Nat) (out : List (Int × List UInt8)) {o : List (Int × List UInt8)} {c : Nat}, goodW j.B.length out → j.chGo d k i cnt out = some (o, c) → goodW j.B.length o
  | 0, i, cnt, out, o, c, h, e => by
    simp only [Jr.chGo, Option.some.injEq, Prod.mk.injEq] at e
    obtain ⟨rfl, rfl⟩ := e
    exact h
  | k + 1, i, cnt, out, o, c, h, e => by
    unfold Jr.chGo at e
    split at e
    · simp only [Option.some.injEq, Prod.mk.injEq] at e
      obtain ⟨rfl, rfl⟩ := e
      exact h
    · split at e
      · cases e
      · rename_i hb
        unfold Jr.chBad at hb
        simp only [not_or] at hb
        refine chGo_good k _ _ _ (fun x hx => ?_) e
        rcases List.mem_append.1 hx with hx | hx
        · exact h x hx
        · simp only [List.mem_singleton] at hx
          subst hx
          exact ⟨⟨by simp only; omega, by simp only; omega⟩, by simp only; omega⟩
theorem change_good {j : Jr} {d : Dk} (h : (j.change d).2 = true) : goodW j.B.length (j.change d).1 ∧ 1 ≤ (j.change d).1.length ∧ j.used + ((j.change d).1.length + 1) ≤ j.log := by
  unfold Jr.change at h ⊢
  cases e : j.chGo d (j.log - j.used) 0 0 [] with
  | none => rw [e] at h; cases h
  | some y =>
    obtain ⟨o, c⟩ := y
    rw [e] at h
    dsimp only at h ⊢
    split at h
    · cases h
    · rename_i hb
      rw [if_neg hb]
      exact ⟨chGo_good _ _ _ [] (fun x hx => by cases hx) e, by dsimp only; omega, by dsimp only; omega⟩
end Go.Proofs.Ytmohjmfcbhpldaa
