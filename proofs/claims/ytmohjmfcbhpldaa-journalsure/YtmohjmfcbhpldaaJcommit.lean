/- A change is written. -/
import Derived.Test.YtmohjmfcbhpldaaJchange
namespace Go.Proofs.Ytmohjmfcbhpldaa
open Gk Go
set_option linter.unusedVariables false
set_option maxHeartbeats 4000000
set_option maxRecDepth 4000
set_option linter.unusedSimpArgs false
attribute [local irreducible] Int.decLt Int.decLe Int.decEq Int.instDecidableEq Gk.Rnds Gk.E Gk.G Gk.R Gk.RD Gk.RX Gk.RO Gk.Y Gk.Ent Gk.Sat Gk.Round Gk.After Gk.Cell Gk.Sl Gk.SlA Gk.CB Gk.OK Gk.FnC Gk.Bytes Gk.BytesL Gk.StrL Gk.Buf Gk.MapI
def Jr.putF (j : Jr) (l : List (Int × List UInt8)) (i : Nat) : Fm :=
  if i < l.length then ⟨2, i, l.length, (j.seq + 1) % 18446744073709551616, (wAt l i).1.toNat, (wAt l i).2⟩ else ⟨3, i, l.length, (j.seq + 1) % 18446744073709551616, 0, []⟩
def Jr.put1 (j : Jr) (l : List (Int × List UInt8)) (i : Nat) (x : Jr × Dk) : Jr × Dk :=
  if i < l.length then x.1.lay x.2 (j.chAt i) (j.putF l i) else (x.1.flush x.2).1.lay (x.1.flush x.2).2 (j.chAt i) (j.putF l i)
def Jr.puts (j : Jr) (l : List (Int × List UInt8)) (x : Jr × Dk) : Nat → Jr × Dk
  | 0 => x
  | k + 1 => j.put1 l k (j.puts l x k)
def homes (l : List (Int × List UInt8)) (x : Jr × Dk) : Nat → Jr × Dk
  | 0 => x
  | k + 1 => (homes l x k).1.home (homes l x k).2 (wAt l k).1.toNat
def Jr.room (j : Jr) (d : Dk) (l : List (Int × List UInt8)) : Jr × Dk := if j.log - j.used ≤ l.length then j.check d else (j, d)
def Jr.write (j : Jr) (d : Dk) (l : List (Int × List UInt8)) : Jr × Dk := (j.puts l (j, d) (l.length + 1)).1.flush (j.puts l (j, d) (l.length + 1)).2
def Jr.done (j : Jr) (d : Dk) (l : List (Int × List UInt8)) : Jr × Dk := homes l (j.on l, d) l.length
def Jr.commit (j : Jr) (d : Dk) (l : List (Int × List UInt8)) : (Jr × Dk) × Nat :=
  if j.e ≠ 0 then ((j, d), j.e) else if ¬ mayW j.B.length l then ((j, d), 1) else if j.log ≤ l.length then ((j, d), 21) else
  let c := j.room d l
  if c.1.e ≠ 0 then (c, c.1.e) else
  let b := c.1.write c.2 l
  if b.1.e ≠ 0 then (b, b.1.e) else (b.1.done b.2 l, 0)

/-- What stays. -/
def Jr.like (j k : Jr) : Prop := k.log = j.log ∧ k.place = j.place ∧ k.seq = j.seq ∧ k.B = j.B
theorem Jr.like.refl (j : Jr) : j.like j := ⟨rfl, rfl, rfl, rfl⟩
theorem Jr.like.trans {a b c : Jr} (h : a.like b) (k : b.like c) : a.like c := ⟨k.1.trans h.1, k.2.1.trans h.2.1, k.2.2.1.trans h.2.2.1, k.2.2.2.trans h.2.2.2⟩
theorem lay_like (j : Jr) (d : Dk) (i : Int) (f : Fm) : j.like (j.lay d i f).1 ∧ (j.lay d i f).1.used = j.used := by
  unfold Jr.lay
  split
  · exact ⟨⟨rfl, rfl, rfl, rfl⟩, rfl⟩
  · exact ⟨.refl _, rfl⟩
theorem flush_like (j : Jr) (d : Dk) : j.like (j.flush d).1 ∧ (j.flush d).1.used = j.used := by
  unfold Jr.flush
  split
  · exact ⟨⟨rfl, rfl, rfl, rfl⟩, rfl⟩
  · exact ⟨.refl _, rfl⟩
theorem put1_like (j0 j : Jr) (l : List (Int × List UInt8)) (i : Nat) (d : Dk) : j.like (j0.put1 l i (j, d)).1 ∧ (j0.put1 l i (j, d)).1.used = j.used := by
  unfold Jr.put1
  split
  · exact lay_like _ _ _ _
  · have h1 := flush_like j d
    have h2 := lay_like (j.flush d).1 (j.flush d).2 (j0.chAt i) (j0.putF l i)
    exact ⟨h1.1.trans h2.1, h2.2.trans h1.2⟩
theorem puts_like (j0 : Jr) (l : List (Int × List UInt8)) (x : Jr × Dk) : ∀ k, x.1.like (j0.puts l x k).1 ∧ (j0.puts l x k).1.used = x.1.used
  | 0 => ⟨.refl _, rfl⟩
  | k + 1 => by
    have h1 := puts_like j0 l x k
    have h2 := put1_like j0 (j0.puts l x k).1 l k (j0.puts l x k).2
    exact ⟨h1.1.trans h2.1, h2.2.trans h1.2⟩
theorem put1_waits (j0 j : Jr) (l : List (Int × List UInt8)) (i : Nat) (d : Dk) : (j0.put1 l i (j, d)).2.waits.length ≤ d.waits.length + 1 := by
  unfold Jr.put1
  split
  · exact lay_waits _ _ _ _
  · have h1 := flush_waits j d
    have h2 := lay_waits (j.flush d).1 (j.flush d).2 (j0.chAt i) (j0.putF l i)
    exact Nat.le_trans h2 (by omega)
theorem puts_waits (j0 : Jr) (l : List (Int × List UInt8)) (x : Jr × Dk) : ∀ k, (j0.puts l x k).2.waits.length ≤ x.2.waits.length + k
  | 0 => Nat.le_refl _
  | k + 1 => by
    have h1 := puts_waits j0 l x k
    have h2 := put1_waits j0 (j0.puts l x k).1 l k (j0.puts l x k).2
    exact Nat.le_trans h2 (by omega)
theorem check_waits (j : Jr) (d : Dk) : (j.check d).2.waits.length ≤ d.waits.length + 1 := by
  unfold Jr.check
  split
  · exact Nat.le_succ _
  · have h1 := flush_waits j d
    have h2 := lay_waits (j.flush d).1 (j.flush d).2 0 (j.flush d).1.superF
    have h3 := flush_waits ((j.flush d).1.lay (j.flush d).2 0 (j.flush d).1.superF).1 ((j.flush d).1.lay (j.flush d).2 0 (j.flush d).1.superF).2
    exact Nat.le_trans h3 (Nat.le_trans h2 (by omega))
theorem check_like (j : Jr) (d : Dk) : j.like (j.check d).1 ∧ ((j.check d).1.used = j.used ∨ (j.check d).1.used = 0) ∧ (j.used ≠ 0 → (j.check d).1.e = 0 → (j.check d).1.used = 0) := by
  unfold Jr.check
  split
  · rename_i h
    refine ⟨.refl _, .inl rfl, fun h1 h2 => ?_⟩
    rcases h with h | h
    · exact absurd h2 h
    · exact h
  · have h1 := flush_like j d
    have h2 := lay_like (j.flush d).1 (j.flush d).2 0 (j.flush d).1.superF
    have h3 := flush_like ((j.flush d).1.lay (j.flush d).2 0 (j.flush d).1.superF).1 ((j.flush d).1.lay (j.flush d).2 0 (j.flush d).1.superF).2
    have hl := (h1.1.trans h2.1).trans h3.1
    have hu := h3.2.trans (h2.2.trans h1.2)
    dsimp only
    split
    · exact ⟨⟨hl.1, hl.2.1, hl.2.2.1, hl.2.2.2⟩, .inr rfl, fun _ _ => rfl⟩
    · rename_i hne
      exact ⟨hl, .inl hu, fun _ h => absurd h hne⟩
theorem home_like (j : Jr) (d : Dk) (i : Nat) : j.like (j.home d i).1 ∧ (j.home d i).1.used = j.used := lay_like _ _ _ _
theorem homes_like (l : List (Int × List UInt8)) (x : Jr × Dk) : ∀ k, x.1.like (homes l x k).1 ∧ (homes l x k).1.used = x.1.used
  | 0 => ⟨.refl _, rfl⟩
  | k + 1 => by
    have h1 := homes_like l x k
    have h2 := home_like (homes l x k).1 (homes l x k).2 (wAt l k).1.toNat
    exact ⟨h1.1.trans h2.1, h2.2.trans h1.2⟩
theorem homes_waits (l : List (Int × List UInt8)) (x : Jr × Dk) : ∀ k, (homes l x k).2.waits.length ≤ x.2.waits.length + k
  | 0 => Nat.le_refl _
  | k + 1 => by
    have h1 := homes_waits l x k
    have h2 := lay_waits (homes l x k).1 (homes l x k).2 (1 + ((homes l x k).1.log : Int) + ((wAt l k).1.toNat : Int)) ((homes l x k).1.homeF (wAt l k).1.toNat)
    exact Nat.le_trans h2 (by omega)
end Go.Proofs.Ytmohjmfcbhpldaa
