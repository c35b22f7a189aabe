/- MarkPuts answers true. -/
import Derived.Test.YtipnelbpkekdkaaMarkl
namespace Go.Proofs.Ytipnelbpkekdkaa
open Gk Go
set_option linter.unusedVariables false
set_option maxHeartbeats 4000000
set_option maxRecDepth 4000
set_option linter.unusedSimpArgs false
attribute [local irreducible] Int.decLt Int.decLe Int.decEq Int.instDecidableEq Gk.Rnds Gk.E Gk.G Gk.R Gk.RD Gk.RX Gk.RO Gk.Y Gk.Ent Gk.Sat Gk.Round Gk.After Gk.Cell Gk.Sl Gk.SlA Gk.CB Gk.OK Gk.FnC Gk.Bytes Gk.BytesL Gk.StrL Gk.Buf Gk.MapI
theorem MarkPuts_ok {w0 : World} {s : Mk} (hf : s.fit) (F : Fr [] [] w0 [] w0 [] []) :
    FnC Try.prog 10 [mkV s] [] [] w0 fun r O' w' => r = .bool true := by
  have hs : decide (s = s) = true := by simp
  have hlen : s.out.length ≤ 96 := by rcases s.out_len with h | h <;> omega
  refine fn_of _ Try.func10 rfl (by kernel_rfl) Try.ntmps10 rfl ?_
  refine go_on ?_
  (first | refine f_box1 F rfl rfl (fun z w F => ?_) | refine f_boxN F rfl rfl (fun z w F => ?_)); refine go_on ?_
  refine f_call F rfl rfl awake15_c ?_
  clear F; rintro r O w T Φ ⟨rfl, rfl, rfl⟩ F0
  refine tidy F0 (fun F => ?_); clear F0
  refine go_on ?_
  refine f_call F rfl rfl (mkPut_c (s := s)) ?_
  clear F; rintro r O w T Φ ⟨u, rfl, rfl, rfl⟩ F0
  refine tidy F0 (fun F => ?_); clear F0
  refine go_on ?_
  obtain ⟨O, F⟩ := F.frzB
  obtain ⟨ua, uc, rfl, _⟩ := (F.bytes (v := u)).form
  refine go_on ?_
  refine f_call F rfl rfl (stateOf_c (s := s)) ?_
  clear F; rintro r O w T Φ ⟨rfl, rfl, rfl⟩ F0
  refine tidy F0 (fun F => ?_); clear F0
  refine go_on ?_
  refine f_call F rfl rfl (rPut15_c (s := s)) ?_
  clear F; rintro r O w T Φ ⟨rfl, rfl, rfl⟩ F0
  refine tidy F0 (fun F => ?_); clear F0
  refine go_on ?_
  refine f_make (l := 3) (c := 3) F rfl rfl rfl (fun q w F => ?_)
  obtain ⟨O, F⟩ := F.frzSl (Nat.le_refl 3)
  have F := F.fact (f := Fact.bytesL (.slice (some ⟨q, 0, none⟩) 3 3) (List.replicate 3 [])) (nil_bytesL (F.sl (cs := List.replicate 3 (.slice none 0 0))))
  refine go_on ?_
  refine f_call F rfl rfl (txnNew_c (l := List.replicate 3 [])) ?_ (hp := ⟨by decide, fun b hb => by rw [List.eq_of_mem_replicate hb]; exact Nat.zero_le _⟩)
  clear F; rintro r O w T Φ ⟨p, m, rfl, rfl, rfl⟩ F0
  refine tidy F0 (fun F => ?_); clear F0
  refine go_on ?_
  change Fr _ _ _ _ _ ((2, Tn p m t3) :: _) _ at F
  refine f_call F rfl rfl (mkSave_c (t := t3) (s := s)) ?_
  clear F; rintro r O w T Φ ⟨rfl, rfl, rfl⟩ F0
  refine tidy F0 (fun F => ?_); clear F0
  refine go_on ?_
  by_cases hm : s.may
  · have hp := t3_putE hlen
    have hget := t3_get1 hlen
    have hg := mkGet_out hf hm
    rw [if_pos hm] at F ⊢
    rw [if_pos hm, hp]
    generalize s.out = xs at hlen hget hg F ⊢
    refine go_on ?_
    refine f_call F rfl rfl (mkLoad_c (t := t3.put1 0 xs)) ?_ (hp := (by rw [hget]; omega))
    clear F; rintro r O w T Φ ⟨rfl, rfl, rfl⟩ F0
    refine tidy F0 (fun F => ?_); clear F0
    refine go_on ?_
    rw [hget, hg]
    dsimp only
    (first | refine f_alloc1 F rfl (fun b w F => ?_) | refine f_allocN F rfl (fun b w F => ?_)); refine go_on ?_
    refine f_storeAll F rfl rfl rfl (fun w F => ?_); refine go_on ?_
    refine f_drawA F [] [(0, true), (2, true), (1, false), (3, false), (4, false), (5, true), (6, true), (7, true), (8, true), (9, true), (10, true), (11, true), (12, true), (13, true), (14, true), (15, true), (16, true), (17, true), (18, true), (19, true), (20, true), (21, true), (22, true), (23, true), (24, true), (25, true)] (by kernel_rfl) (by kernel_rfl) (fun w F hS => ?_); refine go_look ?_
    refine rd_do rfl ?_
    (try refine r_go rfl rfl ?_)
    refine f_call F rfl rfl (mkCheck_c (s := s)) ?_
    clear F; rintro r O w T Φ ⟨rfl, rfl, rfl⟩ F0
    refine tidy F0 (fun F => ?_); clear F0
    refine r_nil ?_; refine e_afterF F (fun hS => ?_); refine go_look ?_
    refine rd_do rfl ?_
    (try refine r_go rfl rfl ?_)
    refine f_call F rfl rfl (stateOf_c (s := s)) ?_
    clear F; rintro r O w T Φ ⟨rfl, rfl, rfl⟩ F0
    refine tidy F0 (fun F => ?_); clear F0
    refine r_nil ?_; refine e_afterF F (fun hS => ?_); refine go_look ?_
    refine rd_do rfl ?_
    (try refine r_go rfl rfl ?_)
    refine f_call F rfl rfl (rCheck15_c (s := s)) ?_
    clear F; rintro r O w T Φ ⟨rfl, rfl, rfl⟩ F0
    refine tidy F0 (fun F => ?_); clear F0
    refine r_nil ?_; refine e_afterF F (fun hS => ?_); refine go_look ?_
    refine rd_done ?_; refine go_on ?_
    refine f_call F rfl rfl (mkGet_c (b := xs)) ?_
    clear F; rintro r O w T Φ ⟨rfl, rfl, rfl⟩ F0
    refine tidy F0 (fun F => ?_); clear F0
    refine go_on ?_
    rw [hg]
    dsimp only
    (first | refine f_alloc1 F rfl (fun c w F => ?_) | refine f_allocN F rfl (fun c w F => ?_)); refine go_on ?_
    refine f_storeAll F rfl rfl rfl (fun w F => ?_); refine go_on ?_
    refine r_y (y_agg_eq (r := decide (s = s)) rfl rfl (mk_eq s s)) rfl ?_
    rw [hs]
    refine go_on ?_
    refine r_y (y_agg_eq (r := decide (s = s)) rfl rfl (mk_eq s s)) rfl ?_
    rw [hs]
    refine go_on ?_
    refine go_back ?_
    exact F.lawb (by simp)
  · rw [if_neg hm] at F ⊢
    rw [if_neg hm]
    generalize s.out = xs at hlen F ⊢
    refine go_on ?_
    refine f_call F rfl rfl (mkLoad_c (t := t3)) ?_ (hp := (by rw [t3_get0]; exact Nat.zero_le _))
    clear F; rintro r O w T Φ ⟨rfl, rfl, rfl⟩ F0
    refine tidy F0 (fun F => ?_); clear F0
    refine go_on ?_
    rw [t3_get0, mkGet_nil]
    dsimp only
    (first | refine f_alloc1 F rfl (fun b w F => ?_) | refine f_allocN F rfl (fun b w F => ?_)); refine go_on ?_
    refine f_storeAll F rfl rfl rfl (fun w F => ?_); refine go_on ?_
    refine f_drawA F [] [(0, true), (2, true), (1, false), (3, false), (4, false), (5, true), (6, true), (7, true), (8, true), (9, true), (10, true), (11, true), (12, true), (13, true), (14, true), (15, true), (16, true), (17, true), (18, true), (19, true), (20, true), (21, true), (22, true), (23, true), (24, true), (25, true)] (by kernel_rfl) (by kernel_rfl) (fun w F hS => ?_); refine go_look ?_
    refine rd_do rfl ?_
    (try refine r_go rfl rfl ?_)
    refine f_call F rfl rfl (mkCheck_c (s := s)) ?_
    clear F; rintro r O w T Φ ⟨rfl, rfl, rfl⟩ F0
    refine tidy F0 (fun F => ?_); clear F0
    refine r_nil ?_; refine e_afterF F (fun hS => ?_); refine go_look ?_
    refine rd_do rfl ?_
    (try refine r_go rfl rfl ?_)
    refine f_call F rfl rfl (stateOf_c (s := s)) ?_
    clear F; rintro r O w T Φ ⟨rfl, rfl, rfl⟩ F0
    refine tidy F0 (fun F => ?_); clear F0
    refine r_nil ?_; refine e_afterF F (fun hS => ?_); refine go_look ?_
    refine rd_do rfl ?_
    (try refine r_go rfl rfl ?_)
    refine f_call F rfl rfl (rCheck15_c (s := s)) ?_
    clear F; rintro r O w T Φ ⟨rfl, rfl, rfl⟩ F0
    refine tidy F0 (fun F => ?_); clear F0
    refine r_nil ?_; refine e_afterF F (fun hS => ?_); refine go_look ?_
    refine rd_done ?_; refine go_on ?_
    have hz : decide (Mk.zero = Mk.zero) = true := by simp
    refine r_y (y_agg_eq (r := decide (Mk.zero = Mk.zero)) rfl rfl (mk_eq .zero .zero)) rfl ?_
    rw [hz]
    refine go_on ?_
    refine f_call F rfl rfl (txnChanges_c (t := t3)) ?_
    clear F; rintro r O w T Φ ⟨rfl, rfl⟩ F0
    refine tidy F0 (fun F => ?_); clear F0
    refine go_on ?_
    obtain ⟨ra, rc, rfl, _⟩ := (F.rel (R := WrR) (ys := t3.changes)).form
    refine go_on ?_
    refine go_back ?_
    exact F.lawb (by rw [t3_chg]; simp)
theorem MarkPuts_true {w : World} {l : List Value} (r0 : Reads Try.prog w 77 l) :
    FnC Try.prog 10 [.agg l.toArray] [] [] w fun r O' w' => r = .bool true := by
  obtain ⟨s, e, hf⟩ := reads_mk r0
  rw [e]
  exact MarkPuts_ok hf (Fr.start OK_nil)
end Go.Proofs.Ytipnelbpkekdkaa
