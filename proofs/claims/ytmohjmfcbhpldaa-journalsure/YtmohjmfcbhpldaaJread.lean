/- A block is read. -/
import Derived.Test.YtmohjmfcbhpldaaJopenw
import Derived.Test.YtmohjmfcbhpldaaJcommitw
namespace Go.Proofs.Ytmohjmfcbhpldaa
open Gk Go
set_option linter.unusedVariables false
set_option maxHeartbeats 4000000
set_option maxRecDepth 4000
set_option linter.unusedSimpArgs false
attribute [local irreducible] Int.decLt Int.decLe Int.decEq Int.instDecidableEq Gk.Rnds Gk.E Gk.G Gk.R Gk.RD Gk.RX Gk.RO Gk.Y Gk.Ent Gk.Sat Gk.Round Gk.After Gk.Cell Gk.Sl Gk.SlA Gk.CB Gk.OK Gk.FnC Gk.Bytes Gk.BytesL Gk.StrL Gk.Buf Gk.MapI
def Jr.rdB (j : Jr) (i : Int) : List UInt8 := if 0 ≤ i ∧ i < j.B.length then j.B.getD i.toNat [] else []
theorem jread_c {p q bq : Nat} {j : Jr} {i : Int} (h : True) : Con Try.prog 13 [dptr p, .int .i64 i] [] [Jt p q bq j] [] fun r T Φ => T = [Thing.buf 1 r (j.rdB i).length (bytesV (j.rdB i))] ∧ Φ = [] := by
  refine con_of (fun O0 w0 F => ?_)
  refine tidy F (fun F => ?_)
  refine fn_of _ Try.func13 rfl (by kernel_rfl) Try.ntmps13 rfl ?_
  obtain ⟨vs, hvl, hj, F⟩ := openJ F
  obtain ⟨h1, h2, h3, h4, h5, h6, h7, h8⟩ := id hj
  unfold jcells at F
  by_cases c1 : i < 0
  · have e : j.rdB i = [] := if_neg (by omega)
    rw [e]
    refine go_on ?_
    have F := F.nilbuf 1
    refine go_back ?_
    exact F.fin ⟨rfl, rfl⟩
  by_cases c2 : (j.B.length : Int) ≤ i
  · have e : j.rdB i = [] := if_neg (by omega)
    rw [e]
    refine go_on ?_
    have F := F.nilbuf 1
    refine go_back ?_
    exact F.fin ⟨rfl, rfl⟩
  · obtain ⟨k, rfl⟩ : ∃ k : Nat, i = k := ⟨i.toNat, by omega⟩
    have hk : k < j.B.length := by omega
    have e : j.rdB (k : Int) = j.B[k] := by
      unfold Jr.rdB
      rw [if_pos (by omega)]
      simp [hk]
    rw [e]
    obtain ⟨bv, hbv, F⟩ := F.bodyAt (hi := hk)
    obtain ⟨ba, bc, rfl, _⟩ := (F.bytes (v := bv) (xs := j.B[k])).form
    have hbl := h8 _ (List.getElem_mem hk)
    refine go_on ?_
    refine r_y (y_loadF rfl F (Sel.there Sel.here) hbv) rfl ?_; refine go_on ?_
    refine f_call F rfl rfl (bclone_c (b := j.B[k])) ?_ (hp := (by omega))
    clear F; rintro r O w T Φ ⟨rfl, rfl⟩ F0
    refine tidy F0 (fun F => ?_); clear F0
    refine go_on ?_
    refine go_back ?_
    exact F.fin ⟨rfl, rfl⟩
theorem jread0_c {i : Int} (h : True) : Con Try.prog 13 [.pointer none, .int .i64 i] [] [] [] fun r T Φ => r = .slice none 0 0 ∧ T = [] ∧ Φ = [] := by
  refine con_of (fun O0 w0 F => ?_)
  refine tidy F (fun F => ?_)
  refine fn_of _ Try.func13 rfl (by kernel_rfl) Try.ntmps13 rfl ?_
  refine go_on ?_
  refine go_back ?_
  exact F.fin ⟨rfl, rfl, rfl⟩
theorem jall0_c (h : True) : Con Try.prog 22 [.pointer none] [] [] [] fun r T Φ => r = .slice none 0 0 ∧ T = [] ∧ Φ = [] := by
  refine con_of (fun O0 w0 F => ?_)
  refine tidy F (fun F => ?_)
  refine fn_of _ Try.func22 rfl (by kernel_rfl) Try.ntmps22 rfl ?_
  refine go_on ?_
  refine go_back ?_
  exact F.fin ⟨rfl, rfl, rfl⟩
end Go.Proofs.Ytmohjmfcbhpldaa
