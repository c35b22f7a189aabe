/- VolChange answers true. -/
import Derived.Test.YtcfpnghkkkphhaaGreatVawake
namespace Go.Proofs.YtcfpnghkkkphhaaGreat
open Gk Go
set_option linter.unusedVariables false
set_option maxHeartbeats 4000000
set_option maxRecDepth 4000
set_option linter.unusedSimpArgs false
attribute [local irreducible] Int.decLt Int.decLe Int.decEq Int.instDecidableEq Gk.Rnds Gk.E Gk.G Gk.R Gk.RD Gk.RX Gk.RO Gk.Y Gk.Ent Gk.Sat Gk.Round Gk.After Gk.Cell Gk.Sl Gk.SlA Gk.CB Gk.OK Gk.FnC Gk.Bytes Gk.BytesL Gk.StrL Gk.Buf Gk.MapI
theorem volN : volChange ⟨[], []⟩ = (0, 1) := if_neg (fun k => absurd k.1 (by simp))
theorem VolChange_ok {w0 : World} {v : Value} {x : List Nat} (hx : ∀ y, y ∈ x → y < 18446744073709551616) (F : Fr [] [] w0 [] w0 [] [Fact.sl v x.length (x.map u64V)]) :
    FnC Tryz.prog 3 [v] [] [] w0 fun r O' w' => r = .bool true := by
  obtain ⟨xa, xc, rfl, _⟩ := (F.sl (cs := x.map u64V)).form
  refine fn_of _ Tryz.func3 rfl (by kernel_rfl) Tryz.ntmps3 rfl ?_
  refine go_on ?_
  refine f_call F rfl rfl awake12_c ?_ (hp := trivial)
  clear F; rintro r O w T Φ ⟨rfl, rfl, rfl⟩ F0
  refine tidy F0 (fun F => ?_); clear F0
  refine go_on ?_
  by_cases hl : x.length ≤ 20
  · refine go_on ?_
    refine f_make (l := 40) (c := 40) F rfl rfl rfl (fun q w F => ?_)
    obtain ⟨O, F⟩ := F.frzSl (Nat.le_refl 40)
    have F := F.fact (f := Fact.bytesL (.slice (some ⟨q, 0, none⟩) 40 40) (List.replicate 40 [])) (nil_bytesL (F.sl (v := .slice (some ⟨q, 0, none⟩) 40 40) (cs := List.replicate 40 (.slice none 0 0))))
    refine go_on ?_
    refine f_call F rfl rfl (txnNew_c (l := List.replicate 40 [])) ?_ (hp := ⟨by rw [List.length_replicate]; omega, fun b hb => by rw [List.eq_of_mem_replicate hb]; exact Nat.zero_le _⟩)
    clear F; rintro r O w T Φ ⟨p, m, rfl, rfl, rfl⟩ F0
    refine tidy F0 (fun F => ?_); clear F0
    change Fr _ _ _ _ _ ((2, Tn p m (tx0 40)) :: _) _ at F
    refine go_on ?_
    refine g_loop (X := Nat × Tx) (fun y => [(0, .slice xa x.length xc), (4, tptr p), (5, .int .i64 y.1)])
      (fun y wr => ∃ O, Fr [] [] w0 O wr [(2, Tn p m y.2)] [Fact.sl (.slice xa x.length xc) x.length (x.map u64V)] ∧ y.1 ≤ x.length ∧ Good y.2 slt0 (fun _ => []) ∧ y.2.was.length = 40) (fun y => x.length - y.1)
      (0, tx0 40) (sub_cons rfl rfl (sub_cons rfl rfl (sub_cons rfl rfl (sub_nil)))) ⟨_, F.wk, Nat.zero_le _, Good.new (by decide), List.length_replicate⟩ ?_
    clear F
    rintro ⟨i, t⟩ w ⟨O, F, hi, hG, hw⟩
    dsimp only at F hi hG hw ⊢
    refine go_on ?_
    refine g_dec rfl (fun g => ?_) (fun g => ?_)
    · have hi' : i < x.length := by omega
      obtain ⟨y, hy⟩ : ∃ y, x[i] = y := ⟨_, rfl⟩
      have hyl : y < 18446744073709551616 := hy ▸ hx _ (List.getElem_mem hi')
      obtain ⟨hG2, hcg⟩ := hG.set hyl
      have hr := hG.1.right
      have hf : volFree (t.put1 10 (metaB y)) = 5 := by rw [hG2.free, used0, Tx.put_was, hw]; rfl
      have hfine := hG2.fine
      have hw2 : (t.put1 10 (metaB y)).was.length = 40 := by rw [Tx.put_was, hw]
      refine go_on ?_
      obtain ⟨x, hx9, hc⟩ := ((F.sl (cs := x.map u64V))).atm hi'
      (first | subst hx9 | (injection hx9 with hx9; subst hx9))
      have F := F.fact (f := Fact.cell _ _) hc
      refine go_on ?_
      rw [hy]
      refine go_on ?_
      refine f_call F rfl rfl (vsetchange_c (t := t) (x := y)) ?_ (hp := hyl)
      clear F; rintro r O w T Φ ⟨rfl, rfl, rfl⟩ F0
      refine tidy F0 (fun F => ?_); clear F0
      rw [if_pos hr]
      rw [if_pos hr] at F
      generalize t.put1 10 (metaB y) = t2 at F hG2 hcg hf hfine hw2
      refine go_on ?_
      refine f_call F rfl rfl (vchange_c (t := t2)) ?_ (hp := trivial)
      clear F; rintro r O w T Φ ⟨rfl, rfl, rfl⟩ F0
      refine tidy F0 (fun F => ?_); clear F0
      rw [hcg]
      refine go_on ?_
      rw [hy]
      refine go_on ?_
      refine f_call F rfl rfl (vfree_c (t := t2)) ?_ (hp := trivial)
      clear F; rintro r O w T Φ ⟨rfl, rfl, rfl⟩ F0
      refine tidy F0 (fun F => ?_); clear F0
      rw [hf]
      refine go_on ?_
      refine f_call F rfl rfl (vwrong_c (t := t2)) ?_ (hp := trivial)
      clear F; rintro r O w T Φ ⟨ws, rfl, rfl, rfl, hws⟩ F0
      refine tidy F0 (fun F => ?_); clear F0
      obtain rfl := hws.2 hfine
      refine go_on ?_
      exact e_round (i + 1, t2) (sub_cons rfl rfl (sub_cons rfl rfl (sub_cons rfl rfl (sub_nil)))) ⟨_, F.wk, by simp only; omega, hG2, hw2⟩ (by simp only; omega)
    · have F := F.fact (f := Fact.bytesL (.slice none 0 0) []) (BytesL.mk (vs := []) Sl.nil trivial)
      have hl24 : volLoad t 24 = (.zero, 15) := by unfold volLoad; rw [if_pos hG.1.right, if_pos (.inr (Int.le_refl 24))]
      refine go_on ?_
      refine f_call F rfl rfl (txnNew_c (l := [])) ?_ (hp := ⟨by decide, fun b hb => by cases hb⟩)
      clear F; rintro r O w T Φ ⟨p3, m3, rfl, rfl, rfl⟩ F0
      refine tidy F0 (fun F => ?_); clear F0
      refine go_on ?_
      refine f_call F rfl rfl (vchange_c (p := p3) (m := m3) (t := ⟨[], []⟩)) ?_ (hp := trivial)
      clear F; rintro r O w T Φ ⟨rfl, rfl, rfl⟩ F0
      refine tidy F0 (fun F => ?_); clear F0
      rw [volN]
      refine go_on ?_
      refine f_call F rfl rfl (vload_c (t := t) (ino := 24)) ?_ (hp := trivial)
      clear F; rintro r O w T Φ ⟨dv, rfl, rfl, rfl⟩ F0
      refine tidy F0 (fun F => ?_); clear F0
      rw [hl24] at F
      rw [hl24]
      obtain ⟨da, dc, rfl, _⟩ := (F.bytes (v := dv)).form
      unfold sltV sltC
      refine go_on ?_
      (first | refine f_alloc1 F rfl (fun q10 w F => ?_) | refine f_allocN F rfl (fun q10 w F => ?_)); refine go_on ?_
      refine f_storeAll F rfl rfl rfl (fun w F => ?_); refine go_on ?_
      refine go_on ?_
      refine f_call F rfl rfl valln_c ?_ (hp := trivial)
      clear F; rintro r O w T Φ ⟨rfl, rfl, rfl⟩ F0
      refine tidy F0 (fun F => ?_); clear F0
      refine go_on ?_
      refine f_call F rfl rfl vfreen_c ?_ (hp := trivial)
      clear F; rintro r O w T Φ ⟨rfl, rfl, rfl⟩ F0
      refine tidy F0 (fun F => ?_); clear F0
      refine go_on ?_
      refine f_call F rfl rfl (vsetchangen_c (x := 1)) ?_ (hp := trivial)
      clear F; rintro r O w T Φ ⟨rfl, rfl, rfl⟩ F0
      refine tidy F0 (fun F => ?_); clear F0
      refine go_on ?_
      refine f_call F rfl rfl vsaven_c ?_ (hp := trivial)
      clear F; rintro r O w T Φ ⟨rfl, rfl, rfl⟩ F0
      refine tidy F0 (fun F => ?_); clear F0
      refine go_on ?_
      refine f_call F rfl rfl vwrongn_c ?_ (hp := trivial)
      clear F; rintro r O w T Φ ⟨ws, rfl, rfl, rfl, hws⟩ F0
      refine tidy F0 (fun F => ?_); clear F0
      refine go_on ?_
      rw [decide_eq_false hws]
      refine go_back ?_
      exact F.law
  · refine go_on ?_
    refine go_back ?_
    exact F.law
theorem VolChange_true {w : World} {v0 : Value} (r0 : Reads Tryz.prog w 22 [v0]) :
    FnC Tryz.prog 3 [v0] [] [] w fun r O' w' => r = .bool true := by
  obtain ⟨x, hx, _, hlt⟩ := reads_nats (k := .u64) rfl r0
  exact VolChange_ok hlt ((Fr.start OK_nil).fact (f := Fact.sl v0 x.length (x.map u64V)) hx)
end Go.Proofs.YtcfpnghkkkphhaaGreat
