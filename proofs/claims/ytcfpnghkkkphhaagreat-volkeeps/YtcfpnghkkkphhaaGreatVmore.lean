/- What the laws of layer 12 share: things that are handed in, and one that is saved. -/
import Derived.Test.YtcfpnghkkkphhaaGreatVawake
namespace Go.Proofs.YtcfpnghkkkphhaaGreat
open Gk Go
set_option linter.unusedVariables false
set_option maxHeartbeats 4000000
set_option maxRecDepth 4000
set_option linter.unusedSimpArgs false
attribute [local irreducible] Int.decLt Int.decLe Int.decEq Int.instDecidableEq Gk.Rnds Gk.E Gk.G Gk.R Gk.RD Gk.RX Gk.RO Gk.Y Gk.Ent Gk.Sat Gk.Round Gk.After Gk.Cell Gk.Sl Gk.SlA Gk.CB Gk.OK Gk.FnC Gk.Bytes Gk.BytesL Gk.StrL Gk.Buf Gk.MapI
theorem needN_nat (n : Nat) : needN (n : Int) = (n + 95) / 96 := by unfold needN; omega
theorem need0 (i : Nat) : needN ((slt0 i).data.length : Nat) = 0 := by show needN ((0 : Nat) : Int) = 0; rw [needN_nat]
/-- One thing is saved, or there is no room. -/
theorem Good.save_one {t : Tx} {S : Nat → Slt} {I : Nat → List Nat} (h : Good t S I) {s : Slt} (hok : s.ok) (hf : s.fit) :
    if usedS S + needN (s.data.length : Nat) ≤ t.was.length - 35 + needN ((S s.ino).data.length : Nat) then (volSave t [s]).1 = 0 ∧ (volSave t [s]).2.was = t.was ∧ (∃ I', Good (volSave t [s]).2 (upI S s.ino s) I') ∧ usedS (upI S s.ino s) + needN ((S s.ino).data.length : Nat) = usedS S + needN (s.data.length : Nat) else volSave t [s] = (66, t) := by
  have hs := h.save (mayS_one hok) (fun x hx => by rw [List.mem_singleton.1 hx]; exact hf)
  have hu := used_one (S := S) (s := s) hok.1.1
  by_cases g : usedS S + needN (s.data.length : Nat) ≤ t.was.length - 35 + needN ((S s.ino).data.length : Nat)
  · rw [if_pos g]
    rw [if_pos (by omega)] at hs
    obtain ⟨h1, h2, _, I', h3⟩ := hs
    exact ⟨h1, h2, ⟨I', h3⟩, hu⟩
  · rw [if_neg g]
    rw [if_neg (by omega)] at hs
    exact hs
theorem reads_slt {w : World} {l : List Value} (r : Reads Tryz.prog w 37 l) : ∃ s : Slt, SltR.φ [] w l s ∧ s.fit := by
  have hl := reads_agg (k := 9) (reads_structs (P := Tryz.prog) (t := 37) (i := 0) inferInstance) r
  match l, hl with
  | [a0, a1, a2, a3, a4, a5, a6, a7, a8], _ =>
    obtain ⟨m0, e0, k0⟩ := reads_nat (k := .u32) rfl (reads_field (i := 0) r)
    obtain ⟨m1, e1, k1⟩ := reads_nat (k := .u32) rfl (reads_field (i := 1) r)
    obtain ⟨m2, e2, k2⟩ := reads_nat (k := .u32) rfl (reads_field (i := 2) r)
    obtain ⟨m3, e3, k3⟩ := reads_nat (k := .u32) rfl (reads_field (i := 3) r)
    obtain ⟨m4, e4, k4⟩ := reads_nat (k := .u32) rfl (reads_field (i := 4) r)
    obtain ⟨m5, e5, k5⟩ := reads_nat (k := .u64) rfl (reads_field (i := 5) r)
    obtain ⟨m6, e6, k6⟩ := reads_nat (k := .u64) rfl (reads_field (i := 6) r)
    obtain ⟨m7, e7, k7⟩ := reads_nat (k := .u64) rfl (reads_field (i := 7) r)
    obtain ⟨d, e8, _⟩ := reads_bytes (v := a8) (reads_field (i := 8) r)
    simp only [List.drop_zero, List.take_succ_cons, List.take_zero, List.drop_succ_cons, List.cons.injEq, and_true] at e0 e1 e2 e3 e4 e5 e6 e7
    subst e0 e1 e2 e3 e4 e5 e6 e7
    exact ⟨⟨m0, m1, m2, m3, m4, m5, m6, m7, d⟩, ⟨a8, rfl, e8⟩, k0, k1, k2, k3, k4, k5, k6, k7⟩
theorem all2_fit {w : World} {p : Slt → Prop} : ∀ {rows : List (List Value)} {l : List Slt}, All2 (fun row s => SltR.φ [] w row s ∧ p s) rows l → All2 (SltR.φ [] w) rows l ∧ ∀ s, s ∈ l → p s
  | [], [], _ => ⟨trivial, fun s hs => by cases hs⟩
  | r :: rs, s :: l, h => by
    obtain ⟨k1, k2⟩ := all2_fit h.2
    exact ⟨⟨h.1.1, k1⟩, fun x hx => by
      rcases List.mem_cons.1 hx with rfl | hx
      · exact h.1.2
      · exact k2 x hx⟩
/-- Things that are handed in. -/
def SltsIn (w : World) (v : Value) (l : List Slt) : Prop := SlR 9 (SltR.φ [] w) [] w v l ∧ ∀ s, s ∈ l → s.fit
theorem reads_slts {w : World} {v : Value} (r : Reads Tryz.prog w 40 [v]) : ∃ l : List Slt, SltsIn w v l ∧ l.length ≤ maxLen := by
  obtain ⟨l, ⟨rows, h1, h2, h3⟩, hl⟩ := reads_slR (r := fun row s => SltR.φ [] w row s ∧ s.fit) r (fun row _ hr => reads_slt hr)
  obtain ⟨k1, k2⟩ := all2_fit h2
  exact ⟨l, ⟨⟨rows, h1, k1, h3⟩, k2⟩, hl⟩
end Go.Proofs.YtcfpnghkkkphhaaGreat
