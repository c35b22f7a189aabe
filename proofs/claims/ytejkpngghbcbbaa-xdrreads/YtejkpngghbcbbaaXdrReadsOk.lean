/- XdrReads answers true. -/
import Derived.Test.YtejkpngghbcbbaaRef01
namespace Go.Proofs.Ytejkpngghbcbbaa
open Gk Go
set_option linter.unusedVariables false
attribute [local irreducible] Gk.Rnds Gk.E Gk.G Gk.R Gk.RD Gk.RX Gk.RO Gk.Y Gk.Ent Gk.Sat Gk.Round Gk.After Gk.Cell Gk.Sl Gk.SlA Gk.CB Gk.OK Gk.FnC Gk.Bytes Gk.BytesL Gk.StrL Gk.Buf Gk.MapI
set_option maxHeartbeats 4000000 in
theorem XdrReads_ok {w0 : World} {vb vc : Value} {b cs : List UInt8} (F : Fr [] [] w0 [] w0 [] [Fact.bytes vb b, Fact.bytes vc cs]) :
    FnC Try.prog 9 [vb, vc] [] [] w0 fun r O' w' => r = .bool true := by
  obtain ⟨ba, bc, rfl, _⟩ := (F.bytes (v := vb)).form
  obtain ⟨ca, cc, rfl, _⟩ := (F.bytes (v := vc)).form
  refine fn_of _ Try.func9 rfl (by kernel_rfl) Try.ntmps9 rfl ?_
  refine go_on ?_
  refine f_call F rfl rfl awake01_c ?_
  clear F; rintro r O w T Φ ⟨rfl, rfl, rfl⟩ F0
  refine tidy F0 (fun F => ?_); clear F0
  refine go_on ?_
  refine r_partd rfl rfl (fun h1 => ?_) (fun h1 => ?_)
  · refine go_on ?_
    refine go_back ?_
    exact F.law
  refine go_on ?_
  refine g_dec rfl (fun h2 => ?_) (fun h2 => ?_)
  · refine go_on ?_
    refine go_back ?_
    exact F.law
  refine go_on ?_
  refine f_call F rfl rfl newReader_c ?_
  clear F; rintro r O w T Φ ⟨q, rfl, rfl, rfl⟩ F0
  refine tidy F0 (fun F => ?_); clear F0
  refine go_on ?_
  (first | refine f_alloc1 F rfl (fun a w F => ?_) | refine f_allocN F rfl (fun a w F => ?_)); refine go_on ?_
  refine f_storeAll F rfl rfl rfl (fun w F => ?_); refine go_on ?_
  refine g_loop (X := Nat × List UInt8 × Nat) (fun y => [(0, .slice ba b.length bc), (1, .slice ca cs.length cc), (6, ptr q), (7, ptr a), (8, .int .i64 y.1)])
    (fun y wr => ∃ O, Fr [] [] w0 O wr [(2, Thing.cells a [str y.2.1, .int .i64 y.2.2]), (2, Rd q y.2.1 y.2.2)] [Fact.bytes (.slice ca cs.length cc) cs] ∧ y.1 ≤ cs.length ∧ y.2.1.length ≤ 200) (fun y => cs.length - y.1) (0, b, 0) (sub_cons rfl rfl (sub_cons rfl rfl (sub_cons rfl rfl (sub_cons rfl rfl (sub_cons rfl rfl (sub_nil)))))) ⟨_, F.wk, by simp, by simp only; omega⟩ ?_
  clear F; rintro ⟨i, bs, e⟩ w ⟨O, F, hi, hbl⟩
  dsimp only at F hi hbl ⊢
  refine go_on ?_
  refine g_dec rfl (fun h => ?_) (fun h => ?_)
  · have hi' : i < cs.length := by omega
    have hc8 := UInt8.toNat_lt cs[i]
    have hc4 : cs[i].toNat / 2 ^ 2 ≤ 255 := by have h := Nat.div_le_self cs[i].toNat (2 ^ 2); omega
    obtain ⟨x, rfl, hc⟩ := (F.bytes).atm hi'
    have F := F.fact (f := Fact.cell _ _) hc
    refine go_on ?_
    refine r_y (y_shrN (k := .u8) rfl rfl (by decide)) rfl ?_
    generalize cs[i].toNat / 2 ^ 2 = nn at hc4 ⊢
    refine go_on ?_
    refine r_y (y_andN (k := .u8) (b := 3) rfl rfl (by simp only [full]; omega) (by decide) (by have := Nat.and_le_right (n := cs[i].toNat) (m := 3); simp only [lim]; omega)) rfl ?_
    refine go_on ?_
    refine g_midB (X := List UInt8 × Nat) (fun y => [(0, .slice ba b.length bc), (1, .slice (some x) cs.length cc), (6, ptr q), (7, ptr a), (8, .int .i64 i), (10, .bool true)])
      (fun y wr => ∃ O, Fr [] [] w0 O wr [(2, Thing.cells a [str y.1, .int .i64 y.2]), (2, Rd q y.1 y.2)] [Fact.bytes (.slice (some x) cs.length cc) cs] ∧ y.1.length ≤ 200) ?_ ?_
    · refine g_dec rfl (fun g => ?_) (fun g => ?_)
      · refine go_on ?_
        refine f_call F rfl rfl ru32_c ?_
        clear F; rintro r O w T Φ ⟨rfl, rfl, rfl⟩ F0
        refine tidy F0 (fun F => ?_); clear F0
        refine go_on ?_
        refine f_call F rfl rfl rRead32_c ?_
        clear F; rintro r O w T Φ ⟨rfl, rfl, rfl⟩ F0
        refine tidy F0 (fun F => ?_); clear F0
        refine go_on ?_
        (first | refine f_alloc1 F rfl (fun c w F => ?_) | refine f_allocN F rfl (fun c w F => ?_)); refine go_on ?_
        refine f_storeAll F rfl rfl rfl (fun w F => ?_); refine go_on ?_
        refine f_storeAll F rfl rfl rfl (fun w F => ?_); refine go_on ?_
        have := rdN_rest bs e 4
        exact e_round (rdN bs e 4).2 (sub_cons rfl rfl (sub_cons rfl rfl (sub_cons rfl rfl (sub_cons rfl rfl (sub_cons rfl rfl (sub_cons rfl (by simp) sub_nil)))))) ⟨_, F.wk, by omega⟩ (by decide)
      refine go_on ?_
      refine g_dec rfl (fun g => ?_) (fun g => ?_)
      · refine go_on ?_
        refine f_call F rfl rfl ru64_c ?_
        clear F; rintro r O w T Φ ⟨rfl, rfl, rfl⟩ F0
        refine tidy F0 (fun F => ?_); clear F0
        refine go_on ?_
        refine f_call F rfl rfl rRead64_c ?_
        clear F; rintro r O w T Φ ⟨rfl, rfl, rfl⟩ F0
        refine tidy F0 (fun F => ?_); clear F0
        refine go_on ?_
        (first | refine f_alloc1 F rfl (fun c w F => ?_) | refine f_allocN F rfl (fun c w F => ?_)); refine go_on ?_
        refine f_storeAll F rfl rfl rfl (fun w F => ?_); refine go_on ?_
        refine f_storeAll F rfl rfl rfl (fun w F => ?_); refine go_on ?_
        have := rdN_rest bs e 8
        exact e_round (rdN bs e 8).2 (sub_cons rfl rfl (sub_cons rfl rfl (sub_cons rfl rfl (sub_cons rfl rfl (sub_cons rfl rfl (sub_cons rfl (by simp) sub_nil)))))) ⟨_, F.wk, by omega⟩ (by decide)
      refine go_on ?_
      refine g_dec rfl (fun g => ?_) (fun g => ?_)
      · refine go_on ?_
        refine f_call F rfl rfl rbool_c ?_
        clear F; rintro r O w T Φ ⟨rfl, rfl, rfl⟩ F0
        refine tidy F0 (fun F => ?_); clear F0
        refine go_on ?_
        refine f_call F rfl rfl rReadBool_c ?_
        clear F; rintro r O w T Φ ⟨rfl, rfl, rfl⟩ F0
        refine tidy F0 (fun F => ?_); clear F0
        refine go_on ?_
        (first | refine f_alloc1 F rfl (fun c w F => ?_) | refine f_allocN F rfl (fun c w F => ?_)); refine go_on ?_
        refine f_storeAll F rfl rfl rfl (fun w F => ?_); refine go_on ?_
        refine f_storeAll F rfl rfl rfl (fun w F => ?_); refine go_on ?_
        refine r_y (y_beq true rfl rfl (by simp)) rfl ?_
        refine go_on ?_
        have := rdBool_rest bs e
        exact e_round (rdBool bs e).2 (sub_cons rfl rfl (sub_cons rfl rfl (sub_cons rfl rfl (sub_cons rfl rfl (sub_cons rfl rfl (sub_cons rfl rfl (sub_nil))))))) ⟨_, F.wk, by omega⟩ (by decide)
      refine go_on ?_
      refine f_call F rfl rfl ropaque_c ?_
      clear F; rintro r O w T Φ ⟨rfl, rfl⟩ F0
      refine tidy F0 (fun F => ?_); clear F0
      refine go_on ?_
      refine f_call F rfl rfl rReadOpaque_c ?_
      clear F; rintro r O w T Φ ⟨rfl, rfl, rfl⟩ F0
      refine tidy F0 (fun F => ?_); clear F0
      refine go_on ?_
      (first | refine f_alloc1 F rfl (fun c w F => ?_) | refine f_allocN F rfl (fun c w F => ?_)); refine go_on ?_
      refine f_storeAll F rfl rfl rfl (fun w F => ?_); refine go_on ?_
      refine f_storeAll F rfl rfl rfl (fun w F => ?_); refine go_on ?_
      have := rdOpaque_rest bs e ((nn : Int) - 1)
      exact e_round (rdOpaque bs e ((nn : Int) - 1)).2 (sub_cons rfl rfl (sub_cons rfl rfl (sub_cons rfl rfl (sub_cons rfl rfl (sub_cons rfl rfl (sub_cons rfl (by simp) sub_nil)))))) ⟨_, F.wk, by omega⟩ (by decide)
    · clear F; rintro ⟨bs', e'⟩ w ⟨O, F, hbl'⟩
      dsimp only at F hbl' ⊢
      refine go_on ?_
      refine f_drawA F [] [(0, true), (1, true), (2, true), (3, true), (5, true), (6, true), (4, false), (7, true), (8, true), (9, true), (10, true), (12, true), (11, false), (13, false), (14, true), (15, true), (16, true), (17, true), (19, true), (20, true), (21, true), (18, false), (22, true), (23, true)] (by kernel_rfl) (by kernel_rfl) (fun w F hS => ?_); refine go_look ?_
      refine rd_do rfl ?_
      (try refine r_go rfl rfl ?_)
      refine f_call F rfl rfl err_c ?_
      clear F; rintro r O w T Φ ⟨rfl, rfl, rfl⟩ F0
      refine tidy F0 (fun F => ?_); clear F0
      refine r_nil ?_; refine e_afterF F (fun hS => ?_); refine go_look ?_
      refine rd_do rfl ?_
      (try refine r_go rfl rfl ?_)
      refine f_call F rfl rfl end_c ?_
      clear F; rintro r O w T Φ ⟨rfl, rfl, rfl⟩ F0
      refine tidy F0 (fun F => ?_); clear F0
      refine r_nil ?_; refine e_afterF F (fun hS => ?_); refine go_look ?_
      refine rd_do rfl ?_
      (try refine r_go rfl rfl ?_)
      refine f_call F rfl rfl rEnd_c ?_
      clear F; rintro r O w T Φ ⟨rfl, rfl, rfl⟩ F0
      refine tidy F0 (fun F => ?_); clear F0
      refine r_nil ?_; refine e_afterF F (fun hS => ?_); refine go_look ?_
      refine rd_do rfl ?_
      (try refine r_go rfl rfl ?_)
      refine f_call F rfl rfl left_c ?_
      clear F; rintro r O w T Φ ⟨rfl, rfl, rfl⟩ F0
      refine tidy F0 (fun F => ?_); clear F0
      refine r_nil ?_; refine e_afterF F (fun hS => ?_); refine go_look ?_
      refine rd_done ?_; refine go_on ?_
      exact e_round (i + 1, bs', e') (sub_cons rfl rfl (sub_cons rfl rfl (sub_cons rfl rfl (sub_cons rfl rfl (sub_cons rfl rfl (sub_nil)))))) ⟨_, F.wk, by simp only; omega, by simp only; omega⟩ (by simp only; omega)
  refine go_on ?_
  refine f_call F rfl rfl ru32n_c ?_
  clear F; rintro r O w T Φ ⟨rfl, rfl, rfl⟩ F0
  refine tidy F0 (fun F => ?_); clear F0
  refine go_on ?_
  refine f_call F rfl rfl ru64n_c ?_
  clear F; rintro r O w T Φ ⟨rfl, rfl, rfl⟩ F0
  refine tidy F0 (fun F => ?_); clear F0
  refine go_on ?_
  refine f_call F rfl rfl rbooln_c ?_
  clear F; rintro r O w T Φ ⟨rfl, rfl, rfl⟩ F0
  refine tidy F0 (fun F => ?_); clear F0
  refine go_on ?_
  refine f_call F rfl rfl ropaquen_c ?_
  clear F; rintro r O w T Φ ⟨rfl, rfl, rfl⟩ F0
  refine tidy F0 (fun F => ?_); clear F0
  refine go_on ?_
  refine f_call F rfl rfl leftn_c ?_
  clear F; rintro r O w T Φ ⟨rfl, rfl, rfl⟩ F0
  refine tidy F0 (fun F => ?_); clear F0
  refine go_on ?_
  refine f_call F rfl rfl errn_c ?_
  clear F; rintro r O w T Φ ⟨rfl, rfl, rfl⟩ F0
  refine tidy F0 (fun F => ?_); clear F0
  refine go_on ?_
  refine f_call F rfl rfl endn_c ?_
  clear F; rintro r O w T Φ ⟨rfl, rfl, rfl⟩ F0
  refine tidy F0 (fun F => ?_); clear F0
  refine go_on ?_
  refine go_back ?_
  exact F.law

theorem XdrReads_true {w : World} {v0 v1 : Value} (r0 : Reads Try.prog w 22 [v0]) (r1 : Reads Try.prog w 22 [v1]) :
    FnC Try.prog 9 [v0, v1] [] [] w fun r O' w' => r = .bool true := by
  obtain ⟨b, hb, _⟩ := reads_bytes r0
  obtain ⟨c, hc, _⟩ := reads_bytes r1
  exact XdrReads_ok (((Fr.start OK_nil).factB hc).factB hb)
end Go.Proofs.Ytejkpngghbcbbaa
