/- VolFull answers true. -/
import Derived.Test.YtcfpnghkkkphhaaGreatVawake
namespace Go.Proofs.YtcfpnghkkkphhaaGreat
open Gk Go
set_option linter.unusedVariables false
set_option maxHeartbeats 4000000
set_option maxRecDepth 4000
set_option linter.unusedSimpArgs false
attribute [local irreducible] Int.decLt Int.decLe Int.decEq Int.instDecidableEq Gk.Rnds Gk.E Gk.G Gk.R Gk.RD Gk.RX Gk.RO Gk.Y Gk.Ent Gk.Sat Gk.Round Gk.After Gk.Cell Gk.Sl Gk.SlA Gk.CB Gk.OK Gk.FnC Gk.Bytes Gk.BytesL Gk.StrL Gk.Buf Gk.MapI
theorem needN_nat (n : Nat) : needN (n : Int) = (n + 95) / 96 := by unfold needN; omega
theorem need0 (i : Nat) : needN ((slt0 i).data.length : Nat) = 0 := by show needN ((0 : Nat) : Int) = 0; rw [needN_nat]
theorem needOne (i n : Nat) : needN ((sOne i (List.replicate n 0)).data.length : Nat) = (n + 95) / 96 := by
  show needN (((List.replicate n (0 : UInt8)).length : Nat) : Int) = _
  rw [List.length_replicate, needN_nat]
/-- One thing is saved, or there is no room. -/
theorem Good.save_one {t : Tx} {S : Nat → Slt} {I : Nat → List Nat} (h : Good t S I) {s : Slt} (hok : s.ok) (hf : s.fit) :
    if usedS S + needN (s.data.length : Nat) ≤ t.was.length - 35 + needN ((S s.ino).data.length : Nat) then (volSave t [s]).1 = 0 ∧ (volSave t [s]).2.was = t.was ∧ (∃ I', Good (volSave t [s]).2 (upI S s.ino s) I') ∧ usedS (upI S s.ino s) + needN ((S s.ino).data.length : Nat) = usedS S + needN (s.data.length : Nat) else volSave t [s] = (66, t) := by
  have hs := h.save (mayS_one hok) (fun x hx => by rw [List.mem_singleton.1 hx]; exact hf)
  have hu := used_one (S := S) (s := s) hok.1.1
  by_cases g : usedS S + needN (s.data.length : Nat) ≤ t.was.length - 35 + needN ((S s.ino).data.length : Nat)
  · rw [if_pos g]
    rw [if_pos (by omega)] at hs
    obtain ⟨h1, h2, _, I', h3⟩ := hs
    exact ⟨h1, h2, ⟨I', h3⟩, hu⟩
  · rw [if_neg g]
    rw [if_neg (by omega)] at hs
    exact hs
theorem VolFull_ok {w0 : World} {a b c : Nat} (F : Fr [] [] w0 [] w0 [] []) :
    FnC Tryz.prog 6 [.int .u16 a, .int .u16 b, .int .u16 c] [] [] w0 fun r O' w' => r = .bool true := by
  have hG := Good.new (n := 43) (by decide)
  have hw : (tx0 43).was.length = 43 := List.length_replicate
  obtain ⟨A, hA⟩ : ∃ A, a % 769 = A := ⟨_, rfl⟩
  obtain ⟨B, hB⟩ : ∃ B, b % 769 = B := ⟨_, rfl⟩
  obtain ⟨C, hC⟩ : ∃ C, c % 769 = C := ⟨_, rfl⟩
  have hA1 : A ≤ 768 := by omega
  have hB1 : B ≤ 768 := by omega
  have hC1 : C ≤ 768 := by omega
  obtain ⟨ok1, fit1⟩ := sOne_ok (i := 1) (d := List.replicate A 0) (by decide) (by rw [List.length_replicate]; omega)
  obtain ⟨ok2, fit2⟩ := sOne_ok (i := 2) (d := List.replicate B 0) (by decide) (by rw [List.length_replicate]; omega)
  obtain ⟨ok3, fit3⟩ := sOne_ok (i := 3) (d := List.replicate C 0) (by decide) (by rw [List.length_replicate]; omega)
  have hs := hG.save_one ok1 fit1
  rw [used0, needOne, need0, hw, if_pos (by omega)] at hs
  obtain ⟨hs1, hs2, ⟨I1, hG1⟩, hu1⟩ := hs
  have hw1 : (volSave (tx0 43) [sOne 1 (List.replicate A 0)]).2.was.length = 43 := by rw [hs2, hw]
  refine fn_of _ Tryz.func6 rfl (by kernel_rfl) Tryz.ntmps6 rfl ?_
  refine go_on ?_
  refine f_call F rfl rfl awake12_c ?_ (hp := trivial)
  clear F; rintro r O w T Φ ⟨rfl, rfl, rfl⟩ F0
  refine tidy F0 (fun F => ?_); clear F0
  refine go_on ?_
  refine f_make (l := 43) (c := 43) F rfl rfl rfl (fun q w F => ?_)
  obtain ⟨O, F⟩ := F.frzSl (Nat.le_refl 43)
  have F := F.fact (f := Fact.bytesL (.slice (some ⟨q, 0, none⟩) 43 43) (List.replicate 43 [])) (nil_bytesL (F.sl (v := .slice (some ⟨q, 0, none⟩) 43 43) (cs := List.replicate 43 (.slice none 0 0))))
  refine go_on ?_
  refine f_call F rfl rfl (txnNew_c (l := List.replicate 43 [])) ?_ (hp := ⟨by rw [List.length_replicate]; omega, fun b hb => by rw [List.eq_of_mem_replicate hb]; exact Nat.zero_le _⟩)
  clear F; rintro r O w T Φ ⟨p, m, rfl, rfl, rfl⟩ F0
  refine tidy F0 (fun F => ?_); clear F0
  change Fr _ _ _ _ _ ((2, Tn p m (tx0 43)) :: _) _ at F
  refine go_on ?_
  refine r_y (y_remN (b := 769) rfl rfl (by decide)) rfl ?_
  rw [hA]
  refine go_on ?_
  refine f_make (l := A) (c := A) F rfl rfl rfl (fun qa w F => ?_)
  rw [bytesV_rep] at F
  obtain ⟨O, F⟩ := F.frzSl (q := qa) (cs := bytesV (List.replicate A 0)) (Nat.le_refl A)
  have F := F.factB (v := .slice (some ⟨qa, 0, none⟩) A A) (xs := List.replicate A 0) (by have := F.sl (v := .slice (some ⟨qa, 0, none⟩) A A) (cs := bytesV (List.replicate A 0)); exact Sl.bytes (by rw [List.length_replicate]; exact this))
  refine go_on ?_
  refine r_y (y_remN (b := 769) rfl rfl (by decide)) rfl ?_
  rw [hB]
  refine go_on ?_
  refine f_make (l := B) (c := B) F rfl rfl rfl (fun qb w F => ?_)
  rw [bytesV_rep] at F
  obtain ⟨O, F⟩ := F.frzSl (q := qb) (cs := bytesV (List.replicate B 0)) (Nat.le_refl B)
  have F := F.factB (v := .slice (some ⟨qb, 0, none⟩) B B) (xs := List.replicate B 0) (by have := F.sl (v := .slice (some ⟨qb, 0, none⟩) B B) (cs := bytesV (List.replicate B 0)); exact Sl.bytes (by rw [List.length_replicate]; exact this))
  refine go_on ?_
  refine r_y (y_remN (b := 769) rfl rfl (by decide)) rfl ?_
  rw [hC]
  refine go_on ?_
  refine f_make (l := C) (c := C) F rfl rfl rfl (fun qc w F => ?_)
  rw [bytesV_rep] at F
  obtain ⟨O, F⟩ := F.frzSl (q := qc) (cs := bytesV (List.replicate C 0)) (Nat.le_refl C)
  have F := F.factB (v := .slice (some ⟨qc, 0, none⟩) C C) (xs := List.replicate C 0) (by have := F.sl (v := .slice (some ⟨qc, 0, none⟩) C C) (cs := bytesV (List.replicate C 0)); exact Sl.bytes (by rw [List.length_replicate]; exact this))
  refine go_on ?_
  refine f_buildSlice (cs := [.int .u32 1, .int .u32 1, .int .u32 0, .int .u32 1, .int .u32 0, .int .u64 0, .int .u64 0, .int .u64 0, .slice (some ⟨qa, 0, none⟩) A A]) F rfl rfl rfl rfl (fun qs w F => ?_)
  obtain ⟨O, F⟩ := frzSlts F (q := qs) (n := 1) (rows := [sltC (sOne 1 (List.replicate A 0)) (.slice (some ⟨qa, 0, none⟩) A A)]) (l := [sOne 1 (List.replicate A 0)]) rfl (by decide) ⟨⟨_, rfl, F.bytes⟩, trivial⟩ (fun row hr => by rw [List.mem_singleton.1 hr]; rfl)
  refine go_on ?_
  refine f_call F rfl rfl (vsave_c (t := tx0 43) (l := [sOne 1 (List.replicate A 0)])) ?_ (hp := ⟨by simp, hG.low, hG.nine, fun s hs => by rw [List.mem_singleton.1 hs]; exact fit1⟩)
  clear F; rintro r O w T Φ ⟨m2, rfl, rfl, rfl⟩ F0
  refine tidy F0 (fun F => ?_); clear F0
  rw [hs1]
  change Good _ (upI slt0 1 (sOne 1 (List.replicate A 0))) _ at hG1
  change usedS (upI slt0 1 (sOne 1 (List.replicate A 0))) + _ = _ at hu1
  generalize (volSave (tx0 43) [sOne 1 (List.replicate A 0)]).2 = t1 at F hs2 hG1 hw1
  have hn1 : needN ((upI slt0 1 (sOne 1 (List.replicate A 0)) 1).data.length : Nat) = (A + 95) / 96 := by rw [upI_at, needOne]
  have hn2 : needN ((upI slt0 1 (sOne 1 (List.replicate A 0)) 2).data.length : Nat) = 0 := by rw [upI_ne _ (by decide), need0]
  have hn3 : needN ((upI slt0 1 (sOne 1 (List.replicate A 0)) 3).data.length : Nat) = 0 := by rw [upI_ne _ (by decide), need0]
  generalize upI slt0 1 (sOne 1 (List.replicate A 0)) = S1 at hG1 hu1 hn1 hn2 hn3
  have hfr : volFree t1 = ((8 - (A + 95) / 96 : Nat) : Int) := by rw [hG1.free, hw1]; omega
  clear hs1 hs2 hG
  refine go_on ?_
  refine f_call F rfl rfl (vfree_c (t := t1)) ?_ (hp := trivial)
  clear F; rintro r O w T Φ ⟨rfl, rfl, rfl⟩ F0
  refine tidy F0 (fun F => ?_); clear F0
  rw [hfr]
  refine go_on ?_
  refine f_buildSlice (cs := [.int .u32 2, .int .u32 1, .int .u32 0, .int .u32 1, .int .u32 0, .int .u64 0, .int .u64 0, .int .u64 0, .slice (some ⟨qb, 0, none⟩) B B]) F rfl rfl rfl rfl (fun qs w F => ?_)
  obtain ⟨O, F⟩ := frzSlts F (q := qs) (n := 1) (rows := [sltC (sOne 2 (List.replicate B 0)) (.slice (some ⟨qb, 0, none⟩) B B)]) (l := [sOne 2 (List.replicate B 0)]) rfl (by decide) ⟨⟨_, rfl, F.bytes⟩, trivial⟩ (fun row hr => by rw [List.mem_singleton.1 hr]; rfl)
  refine go_on ?_
  refine f_call F rfl rfl (vsave_c (t := t1) (l := [sOne 2 (List.replicate B 0)])) ?_ (hp := ⟨by simp, hG1.low, hG1.nine, fun s hs => by rw [List.mem_singleton.1 hs]; exact fit2⟩)
  clear F; rintro r O w T Φ ⟨m3, rfl, rfl, rfl⟩ F0
  refine tidy F0 (fun F => ?_); clear F0
  refine go_on ?_
  refine r_y (y_quo64 rfl rfl ⟨by omega, by omega, by omega⟩) rfl ?_
  rw [show (((A : Int) + 95) / 96) = (((A + 95) / 96 : Nat) : Int) from by omega]
  refine go_on ?_
  refine r_y (y_quo64 rfl rfl ⟨by omega, by omega, by omega⟩) rfl ?_
  rw [show (((B : Int) + 95) / 96) = (((B + 95) / 96 : Nat) : Int) from by omega]
  have hs := hG1.save_one ok2 fit2
  rw [needOne, show (sOne 2 (List.replicate B 0)).ino = 2 from rfl, hn2, hw1] at hs
  apply r_join (X := Nat × Nat × Tx × (Nat → Slt) × (Nat → List Nat)) (fun y => [(8, tptr p), (83, tptr p), (84, sltV (slt0 1) (.slice none 0 0)), (86, sltV (sOne 3 (List.replicate C 0)) (.slice (some ⟨qc, 0, none⟩) C C)), (11, .slice (some ⟨qc, 0, none⟩) C C), (16, .int .i64 y.1)])
    (fun y w => ∃ O, Fr [] [] w0 O w [(2, Tn p y.2.1 y.2.2.1)] [Fact.bytes (.slice (some ⟨qc, 0, none⟩) C C) (List.replicate C 0)] ∧ Good y.2.2.1 y.2.2.2.1 y.2.2.2.2 ∧ y.2.2.1.was.length = 43 ∧ usedS y.2.2.2.1 = (A + 95) / 96 + y.1 ∧ y.1 ≤ 8 ∧ needN ((y.2.2.2.1 1).data.length : Nat) = (A + 95) / 96 ∧ needN ((y.2.2.2.1 3).data.length : Nat) = 0)
  · intro K
    have F := F
    by_cases g1 : (A + 95) / 96 + (B + 95) / 96 ≤ 8
    · rw [if_pos (by omega)] at hs
      obtain ⟨hs1, hs2, ⟨I2, hG2⟩, hu2⟩ := hs
      change usedS (upI S1 2 (sOne 2 (List.replicate B 0))) + _ = _ at hu2
      rw [hs1]
      have hw2 : (volSave t1 [sOne 2 (List.replicate B 0)]).2.was.length = 43 := by rw [hs2, hw1]
      generalize (volSave t1 [sOne 2 (List.replicate B 0)]).2 = t2 at F hs2 hG2 hw2
      refine go_on ?_
      rw [show (!(decide (((0 : Nat) : Int) = 0) == decide ((((A + 95) / 96 : Nat) : Int) + (((B + 95) / 96 : Nat) : Int) ≤ 8))) = false from by rw [decide_eq_true (show ((0 : Nat) : Int) = 0 from rfl), decide_eq_true (by omega)]; rfl]
      refine go_on ?_
      refine K ((B + 95) / 96, m3, t2, upI S1 2 (sOne 2 (List.replicate B 0)), I2) _ _ ⟨_, F.wk, hG2, hw2, by dsimp only; omega, by dsimp only; omega, by show needN ((upI S1 2 (sOne 2 (List.replicate B 0)) 1).data.length : Nat) = _; rw [upI_ne _ (by decide)]; exact hn1, by show needN ((upI S1 2 (sOne 2 (List.replicate B 0)) 3).data.length : Nat) = _; rw [upI_ne _ (by decide)]; exact hn3⟩ (sub_cons rfl rfl (sub_cons rfl rfl (sub_cons rfl rfl (sub_cons rfl rfl (sub_cons rfl rfl (sub_cons rfl rfl (sub_nil)))))))
    · rw [if_neg (by omega)] at hs
      rw [hs]
      rw [hs] at F
      refine go_on ?_
      rw [show (!(decide (((66 : Nat) : Int) = 0) == decide ((((A + 95) / 96 : Nat) : Int) + (((B + 95) / 96 : Nat) : Int) ≤ 8))) = false from by rw [decide_eq_false (show ¬ ((66 : Nat) : Int) = 0 from by omega), decide_eq_false (by omega)]; rfl]
      refine go_on ?_
      refine f_call F rfl rfl (vfree_c (t := t1)) ?_ (hp := trivial)
      clear F; rintro r O w T Φ ⟨rfl, rfl, rfl⟩ F0
      refine tidy F0 (fun F => ?_); clear F0
      rw [hfr]
      refine go_on ?_
      refine K (0, m3, t1, _, I1) _ _ ⟨_, F.wk, hG1, hw1, by dsimp only; omega, by dsimp only; omega, hn1, hn3⟩ (sub_cons rfl rfl (sub_cons rfl rfl (sub_cons rfl rfl (sub_cons rfl rfl (sub_cons rfl rfl (sub_cons rfl rfl (sub_nil)))))))
  rintro ⟨M, m3, t, S, I⟩ w ⟨O, F, hG, hw2, hu, hM, hN1, hN3⟩
  dsimp only at F hG hw2 hu hM hN1 hN3 ⊢
  have ok0 : (slt0 1).ok ∧ (slt0 1).fit := ((Good.new (n := 43) (by decide)).1.ok 1 (by decide) trivial).imp id And.right
  have hm : mayS [slt0 1, sOne 3 (List.replicate C 0)] := fun i hi => by
    match i, hi with
    | 0, _ => exact ⟨ok0.1, fun x hx => by cases hx⟩
    | 1, _ => exact ⟨ok3, fun x hx => by rw [List.mem_singleton.1 hx]; show (1 : Nat) ≠ 3; decide⟩
  have hfits : ∀ s, s ∈ [slt0 1, sOne 3 (List.replicate C 0)] → s.fit := fun s hs => by
    rcases List.mem_cons.1 hs with rfl | hs
    · exact ok0.2
    · rw [List.mem_singleton.1 hs]; exact fit3
  have hs := hG.save hm hfits
  have hu1 := used_one (S := S) (s := slt0 1) (by decide)
  have hu2 := used_one (S := updS S [slt0 1]) (s := sOne 3 (List.replicate C 0)) (by show 3 < 24; decide)
  have hu3 : usedS (updS S [slt0 1, sOne 3 (List.replicate C 0)]) = M + (C + 95) / 96 := by
    rw [need0, show (slt0 1).ino = 1 from rfl, hN1] at hu1
    have e3 : needN ((updS S [slt0 1] (sOne 3 (List.replicate C 0)).ino).data.length : Nat) = 0 := by show needN ((upI S 1 (slt0 1) 3).data.length : Nat) = 0; rw [upI_ne _ (by decide)]; exact hN3
    rw [e3, needOne] at hu2
    show usedS (updS (updS S [slt0 1]) [sOne 3 (List.replicate C 0)]) = _
    omega
  rw [hu3, hw2] at hs
  refine f_buildSlice (cs := [.int .u32 1, .int .u32 0, .int .u32 0, .int .u32 0, .int .u32 0, .int .u64 0, .int .u64 0, .int .u64 0, .slice none 0 0, .int .u32 3, .int .u32 1, .int .u32 0, .int .u32 1, .int .u32 0, .int .u64 0, .int .u64 0, .int .u64 0, .slice (some ⟨qc, 0, none⟩) C C]) F rfl rfl rfl rfl (fun qs w F => ?_)
  have F := F.factB (v := .slice none 0 0) (xs := []) Bytes.nil
  obtain ⟨O, F⟩ := frzSlts F (q := qs) (n := 2) (rows := [sltC (slt0 1) (.slice none 0 0), sltC (sOne 3 (List.replicate C 0)) (.slice (some ⟨qc, 0, none⟩) C C)]) (l := [slt0 1, sOne 3 (List.replicate C 0)]) rfl (by decide) ⟨⟨_, rfl, Bytes.nil⟩, ⟨_, rfl, F.bytes⟩, trivial⟩ (fun row hr => by
    rcases List.mem_cons.1 hr with rfl | hr
    · rfl
    · rw [List.mem_singleton.1 hr]; rfl)
  refine go_on ?_
  refine f_call F rfl rfl (vsave_c (t := t) (l := [slt0 1, sOne 3 (List.replicate C 0)])) ?_ (hp := ⟨by simp, hG.low, hG.nine, hfits⟩)
  clear F; rintro r O w T Φ ⟨m4, rfl, rfl, rfl⟩ F0
  refine tidy F0 (fun F => ?_); clear F0
  by_cases g : M + (C + 95) / 96 ≤ 8
  · rw [if_pos (by omega)] at hs
    obtain ⟨hs1, hs2, _, I4, hG4⟩ := hs
    rw [hs1]
    have hw4 : (volSave t [slt0 1, sOne 3 (List.replicate C 0)]).2.was.length = 43 := by rw [hs2, hw2]
    generalize (volSave t [slt0 1, sOne 3 (List.replicate C 0)]).2 = t4 at F hs2 hG4 hw4
    have hfr4 : volFree t4 = ((8 - M - (C + 95) / 96 : Nat) : Int) := by rw [hG4.free, hw4, hu3]; omega
    refine go_on ?_
    refine r_y (y_quo64 rfl rfl ⟨by omega, by omega, by omega⟩) rfl ?_
    rw [show (((C : Int) + 95) / 96) = (((C + 95) / 96 : Nat) : Int) from by omega]
    refine go_on ?_
    rw [show (decide (((0 : Nat) : Int) = 0) == decide (((M : Nat) : Int) + (((C + 95) / 96 : Nat) : Int) ≤ 8)) = true from by rw [decide_eq_true (show ((0 : Nat) : Int) = 0 from rfl), decide_eq_true (by omega)]; rfl]
    refine go_on ?_
    refine f_call F rfl rfl (vwrong_c (t := t4)) ?_ (hp := trivial)
    clear F; rintro r O w T Φ ⟨ws, rfl, rfl, rfl, hws⟩ F0
    refine tidy F0 (fun F => ?_); clear F0
    obtain rfl := hws.2 hG4.fine
    refine go_on ?_
    refine f_call F rfl rfl (vfree_c (t := t4)) ?_ (hp := trivial)
    clear F; rintro r O w T Φ ⟨rfl, rfl, rfl⟩ F0
    refine tidy F0 (fun F => ?_); clear F0
    rw [hfr4]
    refine go_on ?_
    rw [show ((8 : Int) - (M : Int) - (((C + 95) / 96 : Nat) : Int)) = ((8 - M - (C + 95) / 96 : Nat) : Int) from by omega]
    refine go_on ?_
    refine go_back ?_
    exact F.lawb (by simp)
  · rw [if_neg (by omega)] at hs
    rw [hs]
    rw [hs] at F
    refine go_on ?_
    refine r_y (y_quo64 rfl rfl ⟨by omega, by omega, by omega⟩) rfl ?_
    rw [show (((C : Int) + 95) / 96) = (((C + 95) / 96 : Nat) : Int) from by omega]
    refine go_on ?_
    rw [show (decide (((66 : Nat) : Int) = 0) == decide (((M : Nat) : Int) + (((C + 95) / 96 : Nat) : Int) ≤ 8)) = true from by rw [decide_eq_false (show ¬ ((66 : Nat) : Int) = 0 from by omega), decide_eq_false (by omega)]; rfl]
    refine go_on ?_
    refine f_call F rfl rfl (vwrong_c (t := t)) ?_ (hp := trivial)
    clear F; rintro r O w T Φ ⟨ws, rfl, rfl, rfl, hws⟩ F0
    refine tidy F0 (fun F => ?_); clear F0
    obtain rfl := hws.2 hG.fine
    refine go_on ?_
    refine go_back ?_
    exact F.lawb (by simp)
theorem VolFull_true {w : World} {v0 v1 v2 : Value} (r0 : Reads Tryz.prog w 46 [v0]) (r1 : Reads Tryz.prog w 46 [v1]) (r2 : Reads Tryz.prog w 46 [v2]) :
    FnC Tryz.prog 6 [v0, v1, v2] [] [] w fun r O' w' => r = .bool true := by
  obtain ⟨a, h1, _⟩ := reads_nat (k := .u16) rfl r0
  obtain ⟨b, h2, _⟩ := reads_nat (k := .u16) rfl r1
  obtain ⟨c, h3, _⟩ := reads_nat (k := .u16) rfl r2
  injection h1 with h1
  injection h2 with h2
  injection h3 with h3
  subst h1 h2 h3
  exact VolFull_ok (Fr.start OK_nil)
end Go.Proofs.YtcfpnghkkkphhaaGreat
