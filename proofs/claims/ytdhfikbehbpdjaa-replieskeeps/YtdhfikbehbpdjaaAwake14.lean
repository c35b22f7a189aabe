/- The example of layer 14. -/
import Derived.Test.YtdhfikbehbpdjaaRepl
namespace Go.Proofs.Ytdhfikbehbpdjaa
open Gk Go
set_option linter.unusedVariables false
set_option maxHeartbeats 4000000
set_option maxRecDepth 4000
set_option linter.unusedSimpArgs false
attribute [local irreducible] Int.decLt Int.decLe Int.decEq Int.instDecidableEq Gk.Rnds Gk.E Gk.G Gk.R Gk.RD Gk.RX Gk.RO Gk.Y Gk.Ent Gk.Sat Gk.Round Gk.After Gk.Cell Gk.Sl Gk.SlA Gk.CB Gk.OK Gk.FnC Gk.Bytes Gk.BytesL Gk.StrL Gk.Buf Gk.MapI
def r25 : Rp := ⟨2, 5, 61, 0, 0, 0, 0, 0, 0, 0, [], [], false, 0, 0⟩
theorem awake14_c (h : True) : Con Try.prog 5 [] [] [] [] fun r T Φ => r = .bool true ∧ T = [] ∧ Φ = [] := by
  have hf : r25.fit := ⟨by decide, by decide, by decide, by decide, by decide, by decide, by decide, by decide, by decide, by decide, by decide⟩
  have hm : r25.may := ⟨by decide, .inr ⟨by show (60 : Int) ≤ 61; omega, by show (61 : Int) ≤ 71; omega⟩, rfl, rfl⟩
  have hl := r25.bytes_len
  have hp : t40.putE (1 + r25.client) r25.bytes = 0 := by
    unfold Tx.putE
    rw [if_pos (show 0 ≤ (1 + (r25.client : Int)) ∧ 1 + (r25.client : Int) < t40.was.length from ⟨by omega, by show 1 + ((2 : Nat) : Int) < ((40 : Nat) : Int); omega⟩), if_neg (by omega)]
  have hw : t40.was.length = 40 := rfl
  have hg : ∀ c, repGet (t40.put1 (1 + r25.client) r25.bytes) c = if c = 2 then (r25, true, 0) else repGet t40 c := fun c => repGet_put hf hm hw
  have hn : ∀ c : Nat, ((t40.put1 (1 + r25.client) r25.bytes).get (1 + (c : Int))).length ≤ 52 := fun c => by
    rw [Tx.get_put1]
    split
    · omega
    · rw [t40_get]; exact Nat.zero_le _
  have hr : (t40.put1 (1 + r25.client) r25.bytes).get (1 + ((2 : Nat) : Int)) = r25.bytes := by
    rw [Tx.get_put1, if_pos (show 0 ≤ (1 + (r25.client : Int)) ∧ 1 + (r25.client : Int) < t40.was.length ∧ r25.bytes.length ≤ 96 ∧ 1 + ((2 : Nat) : Int) = 1 + (r25.client : Int) from ⟨by omega, by show 1 + ((2 : Nat) : Int) < ((40 : Nat) : Int); omega, by omega, rfl⟩)]
  have k1 : r25.status = 61 := rfl
  have k2 : r25.client = 2 := rfl
  refine con_of (fun O0 w0 F => ?_)
  refine tidy F (fun F => ?_)
  refine fn_of _ Try.func5 rfl (by kernel_rfl) Try.ntmps5 rfl ?_
  refine go_on ?_
  refine f_make (l := 40) (c := 40) F rfl rfl rfl (fun q w F => ?_)
  obtain ⟨O, F⟩ := F.frzSl (Nat.le_refl 40)
  have F := F.fact (f := Fact.bytesL (.slice (some ⟨q, 0, none⟩) 40 40) (List.replicate 40 [])) (nil_bytesL (F.sl (cs := List.replicate 40 (.slice none 0 0))))
  refine go_on ?_
  refine f_call F rfl rfl (txnNew_c (l := List.replicate 40 [])) ?_ (hp := ⟨by decide, fun b hb => by rw [List.eq_of_mem_replicate hb]; exact Nat.zero_le _⟩)
  clear F; rintro r O w T Φ ⟨p, m, rfl, rfl, rfl⟩ F0
  refine tidy F0 (fun F => ?_); clear F0
  refine go_on ?_
  change Fr _ _ _ _ _ ((2, Tn p m t40) :: _) _ at F
  have F := F.fact (f := Fact.bytes nilV []) Bytes.nil
  have F := F.fact (f := Fact.rel 4 EnR nilV []) SlR.nil
  refine f_call F rfl rfl (repPut_c (t := t40) (r := r25) (dv := nilV) (ev := nilV)) ?_ (hp := ⟨hf, by decide, by decide, by show (-9223372036854775808 : Int) ≤ 61; omega, by show (61 : Int) ≤ 9223372036854775807; omega⟩)
  clear F; rintro r O w T Φ ⟨rfl, rfl, rfl⟩ F0
  refine tidy F0 (fun F => ?_); clear F0
  refine go_on ?_
  rw [if_pos hm] at F ⊢
  rw [hp]
  generalize t40.put1 (1 + r25.client) r25.bytes = t1 at F hg hn hr
  have a5 : repAsk t1 2 5 = (1, r25) := by unfold repAsk; rw [hg]; rfl
  have a6 : repAsk t1 2 6 = (0, .zero) := by unfold repAsk; rw [hg]; rfl
  have a4 : repAsk t1 2 4 = (2, .zero) := by unfold repAsk; rw [hg]; rfl
  have g3 : repGet t1 3 = (.zero, false, 0) := by rw [hg]; exact repGet_t40 3
  refine f_call F rfl rfl (repAsk_c (t := t1) (client := 2) (xid := 5)) ?_ (hp := ⟨by decide, Nat.le_trans (hn 2) (by decide)⟩)
  clear F; rintro r O w T Φ ⟨rfl, rfl, rfl⟩ F0
  refine tidy F0 (fun F => ?_); clear F0
  refine go_on ?_
  rw [a5]
  dsimp only
  (first | refine f_alloc1 F rfl (fun y1 w F => ?_) | refine f_allocN F rfl (fun y1 w F => ?_)); refine go_on ?_
  refine f_storeAll F rfl rfl rfl (fun w F => ?_); refine go_on ?_
  refine f_call F rfl rfl (repAsk_c (t := t1) (client := 2) (xid := 6)) ?_ (hp := ⟨by decide, Nat.le_trans (hn 2) (by decide)⟩)
  clear F; rintro r O w T Φ ⟨rfl, rfl, rfl⟩ F0
  refine tidy F0 (fun F => ?_); clear F0
  refine go_on ?_
  rw [a6]
  dsimp only
  (first | refine f_alloc1 F rfl (fun y2 w F => ?_) | refine f_allocN F rfl (fun y2 w F => ?_)); refine go_on ?_
  refine f_storeAll F rfl rfl rfl (fun w F => ?_); refine go_on ?_
  refine f_call F rfl rfl (repAsk_c (t := t1) (client := 2) (xid := 4)) ?_ (hp := ⟨by decide, Nat.le_trans (hn 2) (by decide)⟩)
  clear F; rintro r O w T Φ ⟨rfl, rfl, rfl⟩ F0
  refine tidy F0 (fun F => ?_); clear F0
  refine go_on ?_
  rw [a4]
  dsimp only
  (first | refine f_alloc1 F rfl (fun y3 w F => ?_) | refine f_allocN F rfl (fun y3 w F => ?_)); refine go_on ?_
  refine f_storeAll F rfl rfl rfl (fun w F => ?_); refine go_on ?_
  refine f_call F rfl rfl (repGet_c (t := t1) (client := 3)) ?_ (hp := ⟨by decide, Nat.le_trans (hn 3) (by decide)⟩)
  clear F; rintro r O w T Φ ⟨rfl, rfl, rfl⟩ F0
  refine tidy F0 (fun F => ?_); clear F0
  refine go_on ?_
  rw [g3]
  dsimp only
  (first | refine f_alloc1 F rfl (fun y4 w F => ?_) | refine f_allocN F rfl (fun y4 w F => ?_)); refine go_on ?_
  refine f_storeAll F rfl rfl rfl (fun w F => ?_); refine go_on ?_
  refine f_call F rfl rfl (repRaw_c (t := t1) (client := 2)) ?_
  clear F; rintro r O w T Φ ⟨rfl, rfl⟩ F0
  refine tidy F0 (fun F => ?_); clear F0
  refine go_on ?_
  rw [if_pos (show 2 < 8 by decide), hr] at F
  obtain ⟨O, F⟩ := F.frzB
  obtain ⟨ra, rc, rfl, _⟩ := (F.bytes (xs := r25.bytes)).form
  refine go_on ?_
  refine f_buildSlice (cs := [_]) F rfl rfl rfl rfl (fun q w F => ?_); refine go_on ?_
  refine f_mark F rfl rfl (fun w F => ?_)
  refine go_on ?_
  obtain ⟨O, F⟩ := F.frzSl (Nat.le_refl 1)
  have F := F.fact (f := Fact.bytes (.slice (some ⟨q, 0, none⟩) 1 1) [120]) (Sl.bytes (xs := [120]) (F.sl (cs := [.int .u8 120])))
  have hx : (repRead 1 [120]).2 ≠ 0 := by decide
  refine go_on ?_
  refine f_call F rfl rfl (repSetRaw_c (t := t1) (client := 1) (b := [120])) ?_
  clear F; rintro r O w T Φ ⟨rfl, rfl, rfl⟩ F0
  refine tidy F0 (fun F => ?_); clear F0
  refine go_on ?_
  rw [if_pos (show 1 < 8 by decide), if_pos ⟨by decide, hx⟩]
  refine go_on ?_
  refine go_back ?_
  exact F.fin ⟨by simp, rfl, rfl⟩
end Go.Proofs.Ytdhfikbehbpdjaa
