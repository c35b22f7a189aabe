/- XdrOne answers true. -/
import Derived.Test.YtejkpngghbcbbaaXdrl
namespace Go.Proofs.Ytejkpngghbcbbaa
open Gk Go
set_option linter.unusedVariables false
attribute [local irreducible] Gk.E Gk.G Gk.R Gk.RD Gk.RX Gk.RO Gk.Y Gk.Ent Gk.Sat Gk.Round Gk.After Gk.Cell Gk.Sl Gk.SlA Gk.CB Gk.OK Gk.FnC Gk.Bytes Gk.BytesL Gk.StrL Gk.Buf Gk.MapI
set_option maxHeartbeats 2000000 in
theorem XdrOne_ok {w0 : World} {vb : Value} {b : List UInt8} (F : Fr [] [] w0 [] w0 [] [Fact.bytes vb b]) :
    FnC Try.prog 7 [vb] [] [] w0 fun r O' w' => r = .bool true := by
  obtain ⟨ba, bc, rfl, hbc⟩ := F.bytes.form
  refine fn_of _ Try.func7 rfl (by kernel_rfl) Try.ntmps7 rfl ?_
  refine go_on ?_
  refine f_call F rfl rfl awake01_c ?_
  clear F; rintro r O w T Φ ⟨rfl, rfl, rfl⟩ F0
  refine tidy F0 (fun F => ?_); clear F0
  refine go_on ?_
  refine g_dec rfl (fun h2 => ?_) (fun h2 => ?_)
  · refine go_on ?_
    refine go_back ?_
    exact F.law
  have hbl : b.length ≤ 100 := by omega
  refine go_on ?_
  refine f_call F rfl rfl newReader_c ?_
  clear F; rintro r O w T Φ ⟨q, rfl, rfl, rfl⟩ F0
  refine tidy F0 (fun F => ?_); clear F0
  refine go_on ?_
  refine f_call F rfl rfl ropaque_c ?_
  clear F; rintro r O w T Φ ⟨rfl, rfl⟩ F0
  refine tidy F0 (fun F => ?_); clear F0
  refine go_on ?_
  have hfail := rdOpaque_fail (bs := b) (e := 0) (most := 1000)
  have hinv : ∀ c rest, rdOpaque b 0 1000 = (c, rest, 0) → _ := fun c rest => rdOpaque_inv (bs := b) (c := c) (rest := rest) (most := 1000)
  generalize rdOpaque b 0 1000 = t at F hfail hinv
  obtain ⟨c, rest, e⟩ := t
  dsimp only at F hfail
  obtain ⟨da, dc, rfl, _⟩ := (F.bytes (v := r)).form
  refine f_call F rfl rfl err_c ?_
  clear F; rintro r O w T Φ ⟨rfl, rfl, rfl⟩ F0
  refine tidy F0 (fun F => ?_); clear F0
  refine go_on ?_
  refine g_ndec rfl (fun h3 => ?_) (fun h3 => ?_)
  · have := hfail (by simpa using h3)
    subst this
    refine go_on ?_
    refine go_back ?_
    exact F.law
  have he : e = 0 := by simpa using h3
  subst he
  obtain ⟨hbe, hcl, _⟩ := hinv _ _ rfl
  clear hfail hinv
  have hol := opaqueB_length c
  have hbl2 : b.length = (opaqueB c).length + rest.length := by rw [hbe]; simp
  refine go_on ?_
  refine f_call F rfl rfl newWriter_c ?_
  clear F; rintro r O w T Φ ⟨p, rfl, rfl, rfl⟩ F0
  refine tidy F0 (fun F => ?_); clear F0
  refine go_on ?_
  refine f_call F rfl rfl wopaque_c ?_
  clear F; rintro r O w T Φ ⟨v, rfl, rfl, rfl⟩ F0
  refine tidy F0 (fun F => ?_); clear F0
  refine go_on ?_
  refine f_call F rfl rfl out_c ?_
  clear F; rintro r O w T Φ ⟨rfl, rfl⟩ F0
  refine tidy F0 (fun F => ?_); clear F0
  refine go_on ?_
  obtain ⟨oa, oc, rfl, _⟩ := (F.bytes (v := r)).form
  have F := F.factB (v := cutV ba 1 0 (opaqueB c).length bc) (xs := opaqueB c) (by
    have := (F.bytes (v := .slice ba b.length bc)).cut (l := 0) (h := (opaqueB c).length) (k := bc) (by omega) (by omega) (by omega) (by omega)
    rw [hbe] at this
    simpa using this)
  refine go_on ?_
  refine f_draw [(2, Rd q rest 0)] F [] [(0, true), (1, true), (2, true), (3, true), (4, true), (5, true), (6, true), (7, true), (8, true), (9, true), (10, true), (11, true), (12, true), (13, true), (14, true), (15, true), (16, true), (18, true), (19, true), (20, true), (21, true), (22, true), (17, false), (23, true), (24, true), (25, true)] (by kernel_rfl) (by kernel_rfl) (fun w F hS => ?_); refine go_look ?_
  refine rd_open rfl ?_; (first | refine ro_n ?_ | refine ro_g rfl rfl ?_); refine rx_y rfl (fun _ hw => y_slice (mi := (bc : Int)) rfl rfl rfl rfl (by simp) (by omega)) (by assumption) ?_; refine go_look ?_
  refine rd_do rfl ?_
  (try refine r_go rfl rfl ?_)
  refine f_call F rfl rfl left_c ?_
  clear F; rintro r O w T Φ ⟨rfl, rfl, rfl⟩ F0
  refine tidy F0 (fun F => ?_); clear F0
  refine r_nil ?_; refine e_afterS F.wk.fs (fun hS => ?_); refine go_look ?_
  refine rd_done ?_; refine go_on ?_
  rw [show decide ((rest.length : Int) = (b.length : Int) - ((opaqueB c).length : Int)) = true from decide_eq_true (by omega)]
  refine go_on ?_
  refine go_back ?_
  exact F.law

theorem XdrOne_true {w : World} {v0 : Value} (r0 : Reads Try.prog w 22 [v0]) :
    FnC Try.prog 7 [v0] [] [] w fun r O' w' => r = .bool true := by
  obtain ⟨b, hb, _⟩ := reads_bytes r0
  exact XdrOne_ok ((Fr.start OK_nil).fact (f := Fact.bytes v0 b) hb)
end Go.Proofs.Ytejkpngghbcbbaa
