/- XdrStays answers true. -/
import Derived.Test.YtejkpngghbcbbaaXdrl
namespace Go.Proofs.Ytejkpngghbcbbaa
open Gk Go
set_option linter.unusedVariables false
attribute [local irreducible] Gk.E Gk.G Gk.R Gk.RD Gk.RX Gk.RO Gk.Y Gk.Ent Gk.Sat Gk.Round Gk.After Gk.Cell Gk.Sl Gk.SlA Gk.CB Gk.OK Gk.FnC Gk.Bytes Gk.BytesL Gk.StrL Gk.Buf Gk.MapI
set_option maxHeartbeats 2000000 in
theorem XdrStays_ok {w0 : World} {vb vc : Value} {b cs : List UInt8} (F : Fr [] [] w0 [] w0 [] [Fact.bytes vb b, Fact.bytes vc cs]) :
    FnC Try.prog 10 [vb, vc] [] [] w0 fun r O' w' => r = .bool true := by
  obtain ⟨ba, bc, rfl, _⟩ := (F.bytes (v := vb)).form
  obtain ⟨ca, cc, rfl, _⟩ := (F.bytes (v := vc)).form
  refine fn_of _ Try.func10 rfl (by kernel_rfl) Try.ntmps10 rfl ?_
  refine go_on ?_
  refine f_call F rfl rfl awake01_c ?_
  clear F; rintro r O w T Φ ⟨rfl, rfl, rfl⟩ F0
  refine tidy F0 (fun F => ?_); clear F0
  refine go_on ?_
  refine r_partd rfl rfl (fun h1 => ?_) (fun h1 => ?_)
  · refine go_on ?_
    refine go_back ?_
    exact F.law
  refine go_on ?_
  refine g_dec rfl (fun h2 => ?_) (fun h2 => ?_)
  · refine go_on ?_
    refine go_back ?_
    exact F.law
  refine go_on ?_
  refine f_call F rfl rfl newReader_c ?_
  clear F; rintro r O w T Φ ⟨q, rfl, rfl, rfl⟩ F0
  refine tidy F0 (fun F => ?_); clear F0
  refine go_on ?_
  refine g_loop (X := Nat × List UInt8 × Nat) (fun y => [(0, .slice ba b.length bc), (1, .slice ca cs.length cc), (6, ptr q), (7, .int .i64 y.2.2), (8, .int .i64 y.2.1.length), (9, .int .i64 y.1)])
    (fun y wr => ∃ O, Fr [] [] w0 O wr [(2, Rd q y.2.1 y.2.2)] [Fact.bytes (.slice ca cs.length cc) cs] ∧ y.1 ≤ cs.length) (fun y => cs.length - y.1) (0, b, 0) (sub_cons rfl rfl (sub_cons rfl rfl (sub_cons rfl rfl (sub_cons rfl rfl (sub_cons rfl rfl (sub_cons rfl rfl (sub_nil))))))) ⟨_, F.wk, by simp⟩ ?_
  rintro ⟨i, bs, e⟩ w ⟨O, F, hi⟩
  dsimp only at F hi ⊢
  refine go_on ?_
  refine g_dec rfl (fun h => ?_) (fun h => ?_)
  · have hi' : i < cs.length := by omega
    have hc8 := UInt8.toNat_lt cs[i]
    refine go_on ?_
    obtain ⟨x, rfl, hc⟩ := (F.bytes).atm hi'
    have F := F.fact (f := Fact.cell _ _) hc
    refine go_on ?_
    refine r_y (y_andN (k := .u8) (b := 3) rfl rfl (by simp only [full]; omega) (by decide) (by have := Nat.and_le_right (n := cs[i].toNat) (m := 3); simp only [lim]; omega)) rfl ?_
    refine go_on ?_
    refine g_midB (X := Nat × Bool × Value × List UInt8 × List UInt8 × Nat) (fun y => [(0, .slice ba b.length bc), (1, .slice (some x) cs.length cc), (6, ptr q), (7, .int .i64 e), (8, .int .i64 bs.length), (9, .int .i64 i), (10, .int .u64 y.1), (11, .bool y.2.1), (12, y.2.2.1)])
      (fun y wr => ∃ O, Fr [] [] w0 O wr [(2, Rd q y.2.2.2.2.1 y.2.2.2.2.2)] [Fact.bytes y.2.2.1 y.2.2.2.1, Fact.bytes (.slice (some x) cs.length cc) cs] ∧ (e ≠ 0 → y.1 = 0 ∧ y.2.1 = false ∧ y.2.2.2.1 = [] ∧ y.2.2.2.2.1 = bs ∧ y.2.2.2.2.2 = e) ∧ y.2.2.2.2.1.length ≤ bs.length) ?_ ?_
    · have Fn := F.fact (f := Fact.bytes (.slice none 0 0) []) Bytes.nil
      refine g_dec rfl (fun g => ?_) (fun g => ?_)
      · refine go_on ?_
        refine f_call F rfl rfl ru32_c ?_
        clear F; rintro r O w T Φ ⟨rfl, rfl, rfl⟩ F0
        refine tidy F0 (fun F => ?_); clear F0
        refine go_on ?_
        have hl := rdN_lt bs e 4
        refine go_on ?_
        have F := F.fact (f := Fact.bytes (.slice none 0 0) []) Bytes.nil
        refine e_round ((rdN bs e 4).1, false, .slice none 0 0, [], (rdN bs e 4).2) (sub_cons rfl rfl (sub_cons rfl rfl (sub_cons rfl rfl (sub_cons rfl rfl (sub_cons rfl rfl (sub_cons rfl rfl (sub_cons rfl rfl (sub_cons rfl rfl (sub_cons rfl rfl (sub_nil)))))))))) ⟨_, F.wk, fun he => ?_, rdN_rest bs e 4⟩ (by decide)
        rw [rdN_err _ _ he]; exact ⟨rfl, rfl, rfl, rfl, rfl⟩
      refine go_on ?_
      refine g_dec rfl (fun g => ?_) (fun g => ?_)
      · refine go_on ?_
        refine f_call F rfl rfl ru64_c ?_
        clear F; rintro r O w T Φ ⟨rfl, rfl, rfl⟩ F0
        refine tidy F0 (fun F => ?_); clear F0
        refine go_on ?_
        have F := F.fact (f := Fact.bytes (.slice none 0 0) []) Bytes.nil
        refine e_round ((rdN bs e 8).1, false, .slice none 0 0, [], (rdN bs e 8).2) (sub_cons rfl rfl (sub_cons rfl rfl (sub_cons rfl rfl (sub_cons rfl rfl (sub_cons rfl rfl (sub_cons rfl rfl (sub_cons rfl rfl (sub_cons rfl rfl (sub_cons rfl rfl (sub_nil)))))))))) ⟨_, F.wk, fun he => ?_, rdN_rest bs e 8⟩ (by decide)
        rw [rdN_err _ _ he]; exact ⟨rfl, rfl, rfl, rfl, rfl⟩
      refine go_on ?_
      refine g_dec rfl (fun g => ?_) (fun g => ?_)
      · refine go_on ?_
        refine f_call F rfl rfl rbool_c ?_
        clear F; rintro r O w T Φ ⟨rfl, rfl, rfl⟩ F0
        refine tidy F0 (fun F => ?_); clear F0
        refine go_on ?_
        have F := F.fact (f := Fact.bytes (.slice none 0 0) []) Bytes.nil
        refine e_round (0, (rdBool bs e).1, .slice none 0 0, [], (rdBool bs e).2) (sub_cons rfl rfl (sub_cons rfl rfl (sub_cons rfl rfl (sub_cons rfl rfl (sub_cons rfl rfl (sub_cons rfl rfl (sub_cons rfl rfl (sub_cons rfl rfl (sub_cons rfl rfl (sub_nil)))))))))) ⟨_, F.wk, fun he => ?_, rdBool_rest bs e⟩ (by decide)
        rw [rdBool_err _ he]; exact ⟨rfl, rfl, rfl, rfl, rfl⟩
      refine go_on ?_
      refine r_y (y_shrN (k := .u8) rfl rfl (by decide)) rfl ?_
      refine go_on ?_
      refine f_call F rfl rfl ropaque_c ?_ (hp := (by have h := Nat.div_le_self cs[i].toNat (2 ^ 2); generalize cs[i].toNat / 2 ^ 2 = z at h ⊢; omega))
      clear F; rintro r O w T Φ ⟨rfl, rfl⟩ F0
      refine tidy F0 (fun F => ?_); clear F0
      refine go_on ?_
      refine e_round (0, false, r, (rdOpaque bs e _).1, (rdOpaque bs e _).2) (sub_cons rfl rfl (sub_cons rfl rfl (sub_cons rfl rfl (sub_cons rfl rfl (sub_cons rfl rfl (sub_cons rfl rfl (sub_cons rfl rfl (sub_cons rfl rfl (sub_cons rfl rfl (sub_nil)))))))))) ⟨_, F.wk, fun he => ?_, rdOpaque_rest bs e _⟩ (by decide)
      rw [rdOpaque_err _ _ he]; exact ⟨rfl, rfl, rfl, rfl, rfl⟩
    · clear F; rintro ⟨n, t, v, c, bs', e'⟩ w ⟨O, F, hk, hle⟩
      dsimp only at F hk hle ⊢
      obtain ⟨va, vcap, rfl, _⟩ := (F.bytes (v := v)).form
      by_cases he : e = 0
      · clear hk
        refine go_on ?_
        refine f_call F rfl rfl left_c ?_
        clear F; rintro r O w T Φ ⟨rfl, rfl, rfl⟩ F0
        refine tidy F0 (fun F => ?_); clear F0
        refine go_on ?_
        refine go_on ?_
        refine f_call F rfl rfl err_c ?_
        clear F; rintro r O w T Φ ⟨rfl, rfl, rfl⟩ F0
        refine tidy F0 (fun F => ?_); clear F0
        refine go_on ?_
        refine go_on ?_
        refine f_call F rfl rfl left_c ?_
        clear F; rintro r O w T Φ ⟨rfl, rfl, rfl⟩ F0
        refine tidy F0 (fun F => ?_); clear F0
        refine go_on ?_
        refine go_on ?_
        exact e_round (i + 1, bs', e') (sub_cons rfl rfl (sub_cons rfl rfl (sub_cons rfl rfl (sub_cons rfl rfl (sub_cons rfl rfl (sub_cons rfl rfl (sub_nil))))))) ⟨_, F.wk, by simp only; omega⟩ (by simp only; omega)
      · obtain ⟨k1, k2, k3, k4, k5⟩ := hk he
        subst k1 k2 k3
        have k3 := congrArg List.length k4
        clear hk k4
        refine go_on ?_
        refine f_call F rfl rfl err_c ?_
        clear F; rintro r O w T Φ ⟨rfl, rfl, rfl⟩ F0
        refine tidy F0 (fun F => ?_); clear F0
        refine go_on ?_
        refine go_on ?_
        refine f_call F rfl rfl left_c ?_
        clear F; rintro r O w T Φ ⟨rfl, rfl, rfl⟩ F0
        refine tidy F0 (fun F => ?_); clear F0
        refine go_on ?_
        refine go_on ?_
        refine f_call F rfl rfl left_c ?_
        clear F; rintro r O w T Φ ⟨rfl, rfl, rfl⟩ F0
        refine tidy F0 (fun F => ?_); clear F0
        refine go_on ?_
        refine go_on ?_
        refine f_call F rfl rfl err_c ?_
        clear F; rintro r O w T Φ ⟨rfl, rfl, rfl⟩ F0
        refine tidy F0 (fun F => ?_); clear F0
        refine go_on ?_
        refine go_on ?_
        refine f_call F rfl rfl left_c ?_
        clear F; rintro r O w T Φ ⟨rfl, rfl, rfl⟩ F0
        refine tidy F0 (fun F => ?_); clear F0
        refine go_on ?_
        refine go_on ?_
        exact e_round (i + 1, bs', e') (sub_cons rfl rfl (sub_cons rfl rfl (sub_cons rfl rfl (sub_cons rfl rfl (sub_cons rfl rfl (sub_cons rfl rfl (sub_nil))))))) ⟨_, F.wk, by simp only; omega⟩ (by simp only; omega)
  refine go_on ?_
  refine go_back ?_
  exact F.law

theorem XdrStays_true {w : World} {v0 v1 : Value} (r0 : Reads Try.prog w 22 [v0]) (r1 : Reads Try.prog w 22 [v1]) :
    FnC Try.prog 10 [v0, v1] [] [] w fun r O' w' => r = .bool true := by
  obtain ⟨b, hb, _⟩ := reads_bytes r0
  obtain ⟨c, hc, _⟩ := reads_bytes r1
  exact XdrStays_ok (((Fr.start OK_nil).fact (f := Fact.bytes v1 c) hc).fact (f := Fact.bytes v0 b) hb)
end Go.Proofs.Ytejkpngghbcbbaa
