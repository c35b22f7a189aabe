/- InodeGets answers true. -/
import Derived.Test.YtejkpngghbcbbaaInodel
namespace Go.Proofs.Ytejkpngghbcbbaa
open Gk Go
set_option linter.unusedVariables false
set_option maxHeartbeats 4000000
set_option linter.unusedSimpArgs false
attribute [local irreducible] Int.decLt Int.decLe Int.decEq Int.instDecidableEq Gk.Rnds Gk.E Gk.G Gk.R Gk.RD Gk.RX Gk.RO Gk.Y Gk.Ent Gk.Sat Gk.Round Gk.After Gk.Cell Gk.Sl Gk.SlA Gk.CB Gk.OK Gk.FnC Gk.Bytes Gk.BytesL Gk.StrL Gk.Buf Gk.MapI
theorem InodeGets_ok {w0 : World} {b : List UInt8} {v : Value} (F : Fr [] [] w0 [] w0 [] [Fact.bytes v b]) :
    FnC Try.prog 12 [v] [] [] w0 fun r O' w' => r = .bool true := by
  obtain ⟨a, c, rfl, _⟩ := (F.bytes (v := v)).form
  refine fn_of _ Try.func12 rfl (by kernel_rfl) Try.ntmps12 rfl ?_
  refine go_on ?_
  refine f_call F rfl rfl awake07_c ?_
  clear F; rintro r O w T Φ ⟨rfl, rfl, rfl⟩ F0
  refine tidy F0 (fun F => ?_); clear F0
  refine go_on ?_
  by_cases g : 150 < b.length
  · refine go_on ?_
    refine go_back ?_
    exact F.law
  refine go_on ?_
  refine f_call F rfl rfl (inoGet_c (b := b)) ?_
  clear F; rintro r O w T Φ ⟨x, rfl, rfl, rfl⟩ F0
  refine tidy F0 (fun F => ?_); clear F0
  refine go_on ?_
  obtain ⟨xa, xc, rfl, _⟩ := (F.sl (v := x) (cs := (inoGet b).1.blocks.map u32V)).form
  refine go_on ?_
  (first | refine f_alloc1 F rfl (fun p w F => ?_) | refine f_allocN F rfl (fun p w F => ?_)); refine go_on ?_
  refine f_storeAll F rfl rfl rfl (fun w F => ?_); refine go_on ?_
  refine f_call F rfl rfl (rGet_c (b := b)) ?_
  clear F; rintro r O w T Φ ⟨y, rfl, rfl, rfl⟩ F0
  refine tidy F0 (fun F => ?_); clear F0
  refine go_on ?_
  obtain ⟨ya, yc, rfl, _⟩ := (F.sl (v := y) (cs := (inoGet b).1.blocks.map u32V)).form
  refine go_on ?_
  (first | refine f_alloc1 F rfl (fun q w F => ?_) | refine f_allocN F rfl (fun q w F => ?_)); refine go_on ?_
  refine f_storeAll F rfl rfl rfl (fun w F => ?_); refine go_on ?_
  have hf := inoGet_fit b
  have hi := inoGet_inv (b := b)
  generalize inoGet b = t at hf hi F ⊢
  obtain ⟨n, e⟩ := t
  dsimp only at hf hi F ⊢
  refine f_drawA F [] [(0, true), (1, true), (2, true), (3, true), (4, true), (6, true), (5, false), (7, false), (8, true), (9, true)] (by kernel_rfl) (by kernel_rfl) (fun w F hS => ?_); refine go_look ?_
  refine rd_do rfl ?_
  (try refine r_go rfl rfl ?_)
  refine f_call F rfl rfl (inodeOf_c (n := n)) ?_
  clear F; rintro r O w T Φ ⟨rfl, rfl, rfl⟩ F0
  refine tidy F0 (fun F => ?_); clear F0
  refine r_nil ?_; refine e_afterF F (fun hS => ?_); refine go_look ?_
  refine rd_do rfl ?_
  (try refine r_go rfl rfl ?_)
  refine f_call F rfl rfl (rSame_c (n := n) (m := n)) ?_
  clear F; rintro r O w T Φ ⟨rfl, rfl, rfl⟩ F0
  refine tidy F0 (fun F => ?_); clear F0
  refine r_nil ?_; refine e_afterF F (fun hS => ?_); refine go_look ?_
  refine rd_done ?_; refine go_on ?_
  have hs : decide (n = n) = true := by simp
  rw [hs]
  refine go_on ?_
  by_cases he : e = 0
  · have hi2 := hi he
    clear hi
    subst he
    refine go_on ?_
    refine f_call F rfl rfl (inoPut_c (n := n)) ?_
    clear F; rintro r O w T Φ ⟨u, rfl, rfl, rfl⟩ F0
    refine tidy F0 (fun F => ?_); clear F0
    refine go_on ?_
    rcases hi2 with ⟨rfl, rfl⟩ | ⟨hm, hz, hb⟩
    · rw [if_pos Ino.zero_may]
      rw [if_neg (fun h => h.2 Ino.zero_none)] at F
      refine go_on ?_
      refine go_back ?_
      exact F.lawb (by simp)
    · have hmz : n.may ∧ ¬ n.none := ⟨hm, hz⟩
      rw [if_pos hm]
      rw [if_pos hmz, ← hb] at F
      refine go_on ?_
      refine go_back ?_
      exact F.lawb (by simp)
  · refine go_on ?_
    refine go_back ?_
    exact F.law
theorem InodeGets_true {w : World} {v0 : Value} (r0 : Reads Try.prog w 22 [v0]) :
    FnC Try.prog 12 [v0] [] [] w fun r O' w' => r = .bool true := by
  obtain ⟨b, hb, _⟩ := reads_bytes r0
  exact InodeGets_ok ((Fr.start OK_nil).factB hb)
end Go.Proofs.Ytejkpngghbcbbaa
