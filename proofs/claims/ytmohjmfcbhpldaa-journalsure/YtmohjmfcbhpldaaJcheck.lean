/- The log is let free. -/
import Derived.Test.YtmohjmfcbhpldaaJacc
namespace Go.Proofs.Ytmohjmfcbhpldaa
open Gk Go
set_option linter.unusedVariables false
set_option maxHeartbeats 4000000
set_option maxRecDepth 4000
set_option linter.unusedSimpArgs false
attribute [local irreducible] Int.decLt Int.decLe Int.decEq Int.instDecidableEq Gk.Rnds Gk.E Gk.G Gk.R Gk.RD Gk.RX Gk.RO Gk.Y Gk.Ent Gk.Sat Gk.Round Gk.After Gk.Cell Gk.Sl Gk.SlA Gk.CB Gk.OK Gk.FnC Gk.Bytes Gk.BytesL Gk.StrL Gk.Buf Gk.MapI
theorem cnt_waits (d : Dk) : d.cnt.waits = d.waits := by
  unfold Dk.cnt
  split
  · rfl
  · split <;> rfl
theorem wD_waits (d : Dk) (i : Int) (b : List UInt8) : (d.wD i b).waits.length ≤ d.waits.length + 1 := by
  unfold Dk.wD
  split
  · omega
  · split
    · rw [cnt_waits]; omega
    · simp
theorem lay_waits (j : Jr) (d : Dk) (i : Int) (f : Fm) : (j.lay d i f).2.waits.length ≤ d.waits.length + 1 := by
  unfold Jr.lay
  split
  · show (d.lD i f).waits.length ≤ _
    unfold Dk.lD
    split
    · exact wD_waits _ _ _
    · omega
  · exact Nat.le_succ _
theorem flush_waits (j : Jr) (d : Dk) : (j.flush d).2.waits.length ≤ d.waits.length := by
  unfold Jr.flush
  split
  · show d.fD.waits.length ≤ _
    unfold Dk.fD
    split
    · omega
    · split
      · rw [cnt_waits]; omega
      · exact Nat.zero_le _
  · exact Nat.le_refl _
def Jr.superF (j : Jr) : Fm := ⟨4, 0, 0, j.seq, j.place, []⟩
def Jr.check (j : Jr) (d : Dk) : Jr × Dk :=
  if j.e ≠ 0 ∨ j.used = 0 then (j, d) else
  let a := j.flush d
  let b := a.1.lay a.2 0 a.1.superF
  let c := b.1.flush b.2
  (if c.1.e = 0 then { c.1 with used := 0 } else c.1, c.2)
theorem jcheck0_c (h : True) : Con Try.prog 16 [.pointer none] [] [] [] fun r T Φ => r = .int .i64 1 ∧ T = [] ∧ Φ = [] := by
  refine con_of (fun O0 w0 F => ?_)
  refine tidy F (fun F => ?_)
  refine fn_of _ Try.func16 rfl (by kernel_rfl) Try.ntmps16 rfl ?_
  refine go_on ?_
  refine go_back ?_
  exact F.fin ⟨rfl, rfl, rfl⟩

theorem jcheck_c {p q bq m : Nat} {v : Value} {j : Jr} {d : Dk} (h : d.waits.length ≤ 999990) : Con Try.prog 16 [dptr p] [Jt p q bq j, Dn q m v d] [] [] fun r T Φ => ∃ v', r = .int .i64 (j.check d).1.e ∧ T = [Jt p q bq (j.check d).1, Dn q m v' (j.check d).2] ∧ Φ = [] := by
  refine con_of (fun O0 w0 F => ?_)
  refine tidy F (fun F => ?_)
  refine fn_of _ Try.func16 rfl (by kernel_rfl) Try.ntmps16 rfl ?_
  obtain ⟨vs, hvl, hj, F⟩ := openJ F
  unfold jcells at F
  by_cases g1 : j.e = 0
  · by_cases g2 : j.used = 0
    · have e1 : j.check d = (j, d) := if_pos (Or.inr g2)
      rw [e1]
      refine go_on ?_
      have F := mkJ j F hj (vs := vs)
      refine go_back ?_
      exact F.fin ⟨_, rfl, rfl, rfl⟩
    · refine go_on ?_
      have F := mkJ j F hj (vs := vs)
      refine f_call F rfl rfl (doFlush_c (p := p) (q := q) (bq := bq) (m := m) (j := j) (d := d)) ?_ (hp := (by omega))
      clear F; rintro r O w T Φ ⟨v2, rfl, rfl⟩ F0
      refine tidy F0 (fun F => ?_); clear F0
      obtain ⟨j1, d1, f1⟩ : ∃ j1 d1, j.flush d = (j1, d1) := ⟨_, _, rfl⟩
      obtain ⟨j2, d2, f2⟩ : ∃ j2 d2, j1.lay d1 0 j1.superF = (j2, d2) := ⟨_, _, rfl⟩
      obtain ⟨j3, d3, f3⟩ : ∃ j3 d3, j2.flush d2 = (j3, d3) := ⟨_, _, rfl⟩
      have e1 : j.check d = (if j3.e = 0 then { j3 with used := 0 } else j3, d3) := by
        unfold Jr.check
        rw [if_neg (by omega)]
        simp only [f1, f2, f3]
      have k1 := flush_waits j d
      have k2 := lay_waits j1 d1 0 j1.superF
      rw [f1] at F k1
      rw [f2] at k2
      rw [e1]
      dsimp only at F k1 k2 ⊢
      clear hj
      obtain ⟨vs1, hvl1, hj, F⟩ := openJ F
      obtain ⟨h1, h2, h3, h4, h5, h6, h7, h8⟩ := id hj
      have hfit : j1.superF.fit := ⟨h4, by show j1.place < 4294967296; omega, by show 4 ≤ 1000000; omega, by show 0 ≤ 1000000; omega, by show 0 ≤ 1000000; omega, by show 0 ≤ 1000000; omega⟩
      have F := F.factB (xs := []) Bytes.nil
      unfold jcells at F
      refine go_on ?_
      refine f_draw [(1, Thing.cells p _)] F [11] [(0, true), (1, true), (2, true), (3, true), (4, true), (5, true), (6, true), (7, true), (8, true), (9, true), (10, true), (11, false)] (by kernel_rfl) (by kernel_rfl) (fun w F hS => ?_); refine go_look ?_
      have F := mkJ j1 F hj (vs := vs1)
      refine rd_do rfl ?_; (try refine r_go rfl rfl ?_)
      refine f_call F rfl rfl (jlay_c (qq := q) (bq := bq) (m := m) (j := j1) (d := d1) (f := j1.superF) (i := 0) (bv := .slice none 0 0)) ?_ (hp := ⟨by omega, hfit⟩)
      clear F; rintro r O w T Φ ⟨v3, rfl, rfl⟩ F0
      refine tidy F0 (fun F => ?_); clear F0
      rw [f2] at F
      dsimp only at F
      (try refine r_nil ?_); refine e_after (fun h => by cases h) ?_; refine go_look ?_
      refine rd_done ?_; refine go_on ?_
      obtain ⟨vs2, hvl2, hj2, F⟩ := openJ F
      unfold jcells at F
      refine go_on ?_
      have F := mkJ j2 F hj2 (vs := vs2)
      refine f_call F rfl rfl (doFlush_c (p := p) (q := q) (bq := bq) (m := m) (j := j2) (d := d2)) ?_ (hp := (by omega))
      clear F; rintro r O w T Φ ⟨v4, rfl, rfl⟩ F0
      refine tidy F0 (fun F => ?_); clear F0
      rw [f3] at F
      dsimp only at F
      obtain ⟨vs3, hvl3, hj3, F⟩ := openJ F
      have hj4 : Jr.ok { j3 with used := 0 } := by
        obtain ⟨h1, h2, h3, h4, h5, h6, h7, h8⟩ := hj3
        exact ⟨h1, h2, h3, h4, h5, Nat.zero_le _, h7, h8⟩
      unfold jcells at F
      by_cases g3 : j3.e = 0
      · rw [if_pos g3]
        refine go_on ?_
        refine f_store1 F rfl rfl rfl (fun w F => ?_); refine go_on ?_
        have F := mkJ { j3 with used := 0 } F hj4 (vs := vs3)
        refine go_back ?_
        exact F.fin ⟨_, rfl, rfl, rfl⟩
      · rw [if_neg g3]
        refine go_on ?_
        have F := mkJ j3 F hj3 (vs := vs3)
        refine go_back ?_
        exact F.fin ⟨_, rfl, rfl, rfl⟩
  · have e1 : j.check d = (j, d) := if_pos (Or.inl g1)
    rw [e1]
    refine go_on ?_
    have F := mkJ j F hj (vs := vs)
    refine go_back ?_
    exact F.fin ⟨_, rfl, rfl, rfl⟩
end Go.Proofs.Ytmohjmfcbhpldaa
