/- What the laws of layer 15 share. -/
import Derived.Test.YtipnelbpkekdkaaRef15
namespace Go.Proofs.Ytipnelbpkekdkaa
open Gk Go
set_option linter.unusedVariables false
set_option maxHeartbeats 4000000
set_option maxRecDepth 4000
set_option linter.unusedSimpArgs false
attribute [local irreducible] Int.decLt Int.decLe Int.decEq Int.instDecidableEq Gk.Rnds Gk.E Gk.G Gk.R Gk.RD Gk.RX Gk.RO Gk.Y Gk.Ent Gk.Sat Gk.Round Gk.After Gk.Cell Gk.Sl Gk.SlA Gk.CB Gk.OK Gk.FnC Gk.Bytes Gk.BytesL Gk.StrL Gk.Buf Gk.MapI
def t3 : Tx := ⟨List.replicate 3 [], []⟩
theorem t3_in : 0 ≤ (0 : Int) ∧ (0 : Int) < t3.was.length := ⟨by omega, by simp [t3]⟩
theorem t3_putE {xs : List UInt8} (h : xs.length ≤ 96) : t3.putE 0 xs = 0 := by unfold Tx.putE; rw [if_pos t3_in, if_neg (by omega)]
theorem t3_get1 {xs : List UInt8} (h : xs.length ≤ 96) : (t3.put1 0 xs).get 0 = xs := by
  have e : t3.put1 0 xs = t3.set 0 xs := by unfold Tx.put1; rw [if_pos ⟨t3_in.1, t3_in.2, h⟩]
  rw [e]
  unfold Tx.get
  rw [if_pos (show 0 ≤ (0 : Int) ∧ (0 : Int) < (t3.set 0 xs).was.length from t3_in), Tx.now_set]
  simp
theorem t3_get0 : t3.get 0 = [] := by
  unfold Tx.get
  rw [if_pos t3_in]
  rfl
theorem t3_chg : t3.changes = [] := rfl

def mk1 : Mk := ⟨true, 0, 0, 0, 0, 0, 0, 0, 0⟩
def mk2 : Mk := ⟨false, 1, 0, 0, 0, 0, 0, 0, 0⟩

theorem awake15_c (h : True) : Con Try.prog 30 [] [] [] [] fun r T Φ => r = .bool true ∧ T = [] ∧ Φ = [] := by
  have hf : mk1.fit := ⟨by decide, by decide, by decide, by decide, by decide, by decide, by decide, by decide⟩
  have hm : mk1.may := by decide
  have hm2 : ¬ mk2.may := by decide
  have hg := mkGet_out hf hm
  have hl : mk1.out.length = 52 := by
    unfold Mk.out
    rw [if_pos ⟨hm, by decide⟩]
    exact mk1.bytes_len
  have hp := t3_putE (xs := mk1.out) (by omega)
  have hget := t3_get1 (xs := mk1.out) (by omega)
  refine con_of (fun O0 w0 F => ?_)
  refine tidy F (fun F => ?_)
  refine fn_of _ Try.func30 rfl (by kernel_rfl) Try.ntmps30 rfl ?_
  refine go_on ?_
  refine f_call F rfl rfl (mkPut_c (s := mk1)) ?_
  clear F; rintro r O w T Φ ⟨u, rfl, rfl, rfl⟩ F0
  refine tidy F0 (fun F => ?_); clear F0
  refine go_on ?_
  rw [if_pos hm]
  obtain ⟨O, F⟩ := F.frzB
  obtain ⟨ua, uc, rfl, _⟩ := (F.bytes (v := u)).form
  refine go_on ?_
  refine f_call F rfl rfl (mkGet_c (b := mk1.out)) ?_
  clear F; rintro r O w T Φ ⟨rfl, rfl, rfl⟩ F0
  refine tidy F0 (fun F => ?_); clear F0
  refine go_on ?_
  rw [hg]
  dsimp only
  (first | refine f_alloc1 F rfl (fun a w F => ?_) | refine f_allocN F rfl (fun a w F => ?_)); refine go_on ?_
  refine f_storeAll F rfl rfl rfl (fun w F => ?_); refine go_on ?_
  refine f_make (l := 3) (c := 3) F rfl rfl rfl (fun q w F => ?_)
  obtain ⟨O, F⟩ := F.frzSl (Nat.le_refl 3)
  have F := F.fact (f := Fact.bytesL (.slice (some ⟨q, 0, none⟩) 3 3) (List.replicate 3 [])) (nil_bytesL (F.sl (cs := List.replicate 3 (.slice none 0 0))))
  refine go_on ?_
  refine f_call F rfl rfl (txnNew_c (l := List.replicate 3 [])) ?_ (hp := ⟨by decide, fun b hb => by rw [List.eq_of_mem_replicate hb]; exact Nat.zero_le _⟩)
  clear F; rintro r O w T Φ ⟨p, m, rfl, rfl, rfl⟩ F0
  refine tidy F0 (fun F => ?_); clear F0
  refine go_on ?_
  change Fr _ _ _ _ _ ((2, Tn p m t3) :: _) _ at F
  refine f_call F rfl rfl (mkSave_c (t := t3) (s := mk1)) ?_
  clear F; rintro r O w T Φ ⟨rfl, rfl, rfl⟩ F0
  refine tidy F0 (fun F => ?_); clear F0
  refine go_on ?_
  rw [if_pos hm] at F ⊢
  rw [hp]
  refine go_on ?_
  refine f_call F rfl rfl (mkLoad_c (t := t3.put1 0 mk1.out)) ?_ (hp := (by rw [hget]; omega))
  clear F; rintro r O w T Φ ⟨rfl, rfl, rfl⟩ F0
  refine tidy F0 (fun F => ?_); clear F0
  refine go_on ?_
  rw [hget, hg]
  dsimp only
  (first | refine f_alloc1 F rfl (fun b w F => ?_) | refine f_allocN F rfl (fun b w F => ?_)); refine go_on ?_
  refine f_storeAll F rfl rfl rfl (fun w F => ?_); refine go_on ?_
  refine r_y (y_agg_eq (r := decide (mk1 = mk1)) rfl rfl (mk_eq mk1 mk1)) rfl ?_
  have he : decide (mk1 = mk1) = true := by simp
  rw [he]
  refine go_on ?_
  refine f_call F rfl rfl (mkCheck_c (s := mk2)) ?_
  clear F; rintro r O w T Φ ⟨rfl, rfl, rfl⟩ F0
  refine tidy F0 (fun F => ?_); clear F0
  refine go_on ?_
  rw [if_neg hm2]
  refine go_on ?_
  rw [show decide (((1 : Nat) : Int) = 1) = true from by simp]
  refine go_on ?_
  refine go_back ?_
  exact F.fin ⟨by simp, rfl, rfl⟩

theorem reads_mk {w : World} {l : List Value} (r : Reads Try.prog w 77 l) : ∃ s : Mk, Value.agg l.toArray = mkV s ∧ s.fit := by
  have hl := reads_agg (k := 9) (reads_structs (P := Try.prog) (t := 77) (i := 0) inferInstance) r
  match l, hl with
  | [a0, a1, a2, a3, a4, a5, a6, a7, a8], _ =>
    obtain ⟨m0, e0⟩ := reads_bool (reads_field (i := 0) r)
    obtain ⟨m1, e1, k1⟩ := reads_nat (k := .u32) rfl (reads_field (i := 1) r)
    obtain ⟨m2, e2, k2⟩ := reads_nat (k := .u32) rfl (reads_field (i := 2) r)
    obtain ⟨m3, e3, k3⟩ := reads_nat (k := .u64) rfl (reads_field (i := 3) r)
    obtain ⟨m4, e4, k4⟩ := reads_nat (k := .u64) rfl (reads_field (i := 4) r)
    obtain ⟨m5, e5, k5⟩ := reads_nat (k := .u64) rfl (reads_field (i := 5) r)
    obtain ⟨m6, e6, k6⟩ := reads_nat (k := .u64) rfl (reads_field (i := 6) r)
    obtain ⟨m7, e7, k7⟩ := reads_nat (k := .u32) rfl (reads_field (i := 7) r)
    obtain ⟨m8, e8, k8⟩ := reads_nat (k := .u32) rfl (reads_field (i := 8) r)
    simp only [List.drop_zero, List.take_succ_cons, List.take_zero, List.drop_succ_cons, List.cons.injEq, and_true] at e0 e1 e2 e3 e4 e5 e6 e7 e8
    subst e0 e1 e2 e3 e4 e5 e6 e7 e8
    exact ⟨⟨m0, m1, m2, m3, m4, m5, m6, m7, m8⟩, rfl, k1, k2, k3, k4, k5, k6, k7, k8⟩
end Go.Proofs.Ytipnelbpkekdkaa
