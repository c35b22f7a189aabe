/- Bytes, part by part. -/
import Derived.Test.YtcfpnghkkkphhaaGreatVall
namespace Go.Proofs.YtcfpnghkkkphhaaGreat
open Gk Go
set_option linter.unusedVariables false
set_option maxHeartbeats 4000000
set_option maxRecDepth 4000
set_option linter.unusedSimpArgs false
attribute [local irreducible] Int.decLt Int.decLe Int.decEq Int.instDecidableEq Gk.Rnds Gk.E Gk.G Gk.R Gk.RD Gk.RX Gk.RO Gk.Y Gk.Ent Gk.Sat Gk.Round Gk.After Gk.Cell Gk.Sl Gk.SlA Gk.CB Gk.OK Gk.FnC Gk.Bytes Gk.BytesL Gk.StrL Gk.Buf Gk.MapI
theorem schunk_c {u : Value} (h : u.oneCell' = true) : Con Tryz.prog 65 [u, .int .i64 96] [] [] [] fun r T Φ => ∃ b2 b3, r = .func (.func 77) #[] #[bptr b2, bptr b3] ∧ T = [Thing.cells b3 [.int .i64 96], Thing.cells b2 [u]] ∧ Φ = [] := by
  refine con_of (fun O0 w0 F => ?_)
  refine tidy F (fun F => ?_)
  refine fn_of _ Tryz.func65 rfl (by kernel_rfl) Tryz.ntmps65 rfl ?_
  refine go_on ?_
  refine f_box1 F rfl rfl (fun q2 w F => ?_) (hv := h)
  refine go_on ?_
  (first | refine f_box1 F rfl rfl (fun q3 w F => ?_) | refine f_boxN F rfl rfl (fun q3 w F => ?_)); refine go_on ?_
  refine go_on ?_
  refine go_back ?_
  exact F.fin ⟨_, _, rfl, rfl, rfl⟩
theorem schunk1_c {X S : Type} {ly b2 b3 : Nat} {u : Value} {d : List UInt8} {J : X → List Thing} {JF : X → List Fact} {JP : Nat → X → Prop} {SJ : S → List Thing} {SF : S → List Fact} {SP : S → Prop} {x0 : X}
    (hY : ∀ i x v, 96 * i < d.length → JP i x → YCon Tryz.prog ly [v] (J x) (Fact.bytes v ((d.drop (96 * i)).take 96) :: JF x) (fun r T Φ => (∃ x', r = .bool true ∧ JP (i + 1) x' ∧ T = J x' ∧ Φ = JF x') ∨ ∃ s, r = .bool false ∧ SP s ∧ T = SJ s ∧ Φ = SF s))
    (h0 : JP 0 x0) (hn : d.length ≤ 1000000) :
    Con Tryz.prog 77 [.func (.yield ly) #[] #[], bptr b2, bptr b3] (J x0) [Thing.cells b3 [.int .i64 96], Thing.cells b2 [u]] (Fact.bytes u d :: JF x0) fun r T Φ => (∃ x, JP (needN d.length) x ∧ T = J x ∧ Φ = JF x) ∨ ∃ s, SP s ∧ T = SJ s ∧ Φ = SF s := by
  refine con_of (fun O0 w0 F => ?_)
  have F := F.perm List.perm_append_comm
  change Fr _ _ _ _ _ ((0, Thing.cells b3 _) :: (0, Thing.cells b2 _) :: (J x0).map (fun t => (1, t))) _ at F
  obtain ⟨a, c, rfl, hcap⟩ := (F.bytes (v := u) (xs := d)).form
  refine fn_of _ Tryz.func77 rfl (by kernel_rfl) Tryz.ntmps77 rfl ?_
  refine go_on ?_
  refine g_loop (X := Nat × X) (fun y => [(0, .func (.yield ly) #[] #[]), (1, bptr b2), (2, bptr b3), (4, .int .i64 (96 * y.1 : Nat))])
    (fun y wr => ∃ O, Fr ((J x0).flatMap (·.bs)) O0 w0 O wr ((0, Thing.cells b3 [.int .i64 96]) :: (0, Thing.cells b2 [.slice a d.length c]) :: (J y.2).map (fun t => (1, t))) (Fact.bytes (.slice a d.length c) d :: JF y.2) ∧ y.1 ≤ needN d.length ∧ JP y.1 y.2) (fun y => needN d.length - y.1)
    (0, x0) (sub_cons rfl rfl (sub_cons rfl rfl (sub_cons rfl rfl (sub_cons rfl rfl (sub_nil))))) ⟨_, F, Nat.zero_le _, h0⟩ ?_
  clear F
  rintro ⟨i, xx⟩ w ⟨O, F, hi, hJ⟩
  dsimp only at F hi hJ ⊢
  have hneed : needN d.length = (d.length + 95) / 96 := by unfold needN; omega
  refine go_on ?_
  refine g_dec rfl (fun g2 => ?_) (fun g2 => ?_)
  · have hi' : 96 * i < d.length := by omega
    obtain ⟨n, hnn⟩ : ∃ n, n = if d.length - 96 * i < 96 then d.length - 96 * i else 96 := ⟨_, rfl⟩
    have hn1 : 96 * i + n ≤ d.length ∧ n ≤ 96 ∧ 1 ≤ n := by subst hnn; split <;> omega
    have htk : ((d.drop (96 * i)).take (96 * i + n - 96 * i)) = (d.drop (96 * i)).take 96 := by
      rw [Nat.add_sub_cancel_left]
      by_cases g : d.length - 96 * i < 96
      · rw [hnn, if_pos g, List.take_of_length_le (by rw [List.length_drop]; omega), List.take_of_length_le (by rw [List.length_drop]; omega)]
      · rw [hnn, if_neg g]
    refine go_on ?_
    refine f_drawA F [] [(0, true), (1, true), (2, true), (3, true), (4, true), (5, true), (6, true)] (by kernel_rfl) (by kernel_rfl) (fun w F hS => ?_); refine go_look ?_
    refine rd_open rfl ?_; (first | refine ro_n ?_ | refine ro_g rfl rfl ?_); refine rx_y rfl (fun _ hw => y_slice (li := ((96 * i : Nat) : Int)) (hi' := ((d.length : Nat) : Int)) (mi := ((c : Nat) : Int)) rfl rfl rfl rfl (by simp) (by omega)) (by assumption) ?_; refine go_look ?_
    refine rd_open rfl ?_; (first | refine ro_n ?_ | refine ro_g rfl rfl ?_); refine rx_y rfl (fun _ hw => y_min2 rfl rfl) (by assumption) ?_; refine go_look ?_
    refine rd_done ?_; refine go_on ?_
    rw [show (((96 * i : Nat) : Int) + (if (((((d.length : Nat) : Int).toNat - (((96 * i : Nat) : Int)).toNat : Nat)) : Int) < 96 then ((((d.length : Nat) : Int).toNat - (((96 * i : Nat) : Int)).toNat : Nat) : Int) else 96)) = ((96 * i + n : Nat) : Int) from by
      subst hnn; rw [Int.toNat_natCast, Int.toNat_natCast]; split <;> split <;> omega]
    refine r_y (y_slice (li := ((96 * i : Nat) : Int)) (hi' := ((96 * i + n : Nat) : Int)) (mi := ((96 * i + n : Nat) : Int)) rfl rfl rfl rfl (by simp) (by omega)) rfl ?_
    have hcut := Bytes.cut (F.bytes (v := .slice a d.length c) (xs := d)) (l := 96 * i) (h := 96 * i + n) (k := 96 * i + n) (by omega) (by omega) (by omega) (by omega)
    rw [htk] at hcut
    have F := F.factB (v := cutV a 1 (((96 * i : Nat) : Int)).toNat (((96 * i + n : Nat) : Int)).toNat (((96 * i + n : Nat) : Int)).toNat) (xs := (d.drop (96 * i)).take 96) hcut
    refine go_on ?_
    refine f_yield (k := 1) (A := J xx) [(0, Thing.cells b3 [.int .i64 96]), (0, Thing.cells b2 [.slice a d.length c])] F rfl rfl rfl (hY i xx _ hi' hJ) (fun f hf => by
      rcases List.mem_cons.1 hf with rfl | hf
      · simp
      · simp [hf]) (.inl rfl) (fun r O w T Φ hK F => ?_)
    rcases hK with ⟨x', rfl, hJ', rfl, rfl⟩ | ⟨s, rfl, hS', rfl, rfl⟩
    · have F := F.wkF (Φ' := Fact.bytes (.slice a d.length c) d :: JF x') (fun f hf => by
        rcases List.mem_cons.1 hf with rfl | hf
        · simp
        · simp [hf])
      refine go_on ?_
      rw [show (((96 * i : Nat) : Int) + 96) = ((96 * (i + 1) : Nat) : Int) from by omega]
      exact e_round (i + 1, x') (sub_cons rfl rfl (sub_cons rfl rfl (sub_cons rfl rfl (sub_cons rfl rfl (sub_nil))))) ⟨_, F, by simp only; omega, hJ'⟩ (by simp only; omega)
    · refine go_on ?_
      refine go_back ?_
      exact Fr.finL (own := [(0, Thing.cells b3 [.int .i64 96]), (0, Thing.cells b2 [.slice a d.length c])]) F (.inr ⟨s, hS', rfl, rfl⟩) (fun f hf => by simp [hf]) (.inl rfl)
  · have hi' : i = needN d.length := by omega
    subst hi'
    refine go_on ?_
    refine go_back ?_
    exact Fr.finL (own := [(0, Thing.cells b3 [.int .i64 96]), (0, Thing.cells b2 [.slice a d.length c])]) F (.inl ⟨xx, hJ, rfl, rfl⟩) (fun f hf => by simp [hf]) (.inl rfl)
end Go.Proofs.YtcfpnghkkkphhaaGreat
