/- RepliesAsk answers true. -/
import Derived.Test.YtipnelbpkekdkaaAwake14
namespace Go.Proofs.Ytipnelbpkekdkaa
open Gk Go
set_option linter.unusedVariables false
set_option maxHeartbeats 4000000
set_option maxRecDepth 4000
set_option linter.unusedSimpArgs false
attribute [local irreducible] Int.decLt Int.decLe Int.decEq Int.instDecidableEq Gk.Rnds Gk.E Gk.G Gk.R Gk.RD Gk.RX Gk.RO Gk.Y Gk.Ent Gk.Sat Gk.Round Gk.After Gk.Cell Gk.Sl Gk.SlA Gk.CB Gk.OK Gk.FnC Gk.Bytes Gk.BytesL Gk.StrL Gk.Buf Gk.MapI
def rAsk (client last : Nat) : Rp := ⟨client, last, 0, 0, 0, 0, 0, 0, 0, 0, [], [], false, 7, 0⟩
theorem RepliesAsk_ok {w0 : World} {client last xid : Nat} (h1 : client < 4294967296) (h2 : last < 4294967296) (h3 : xid < 4294967296) (F : Fr [] [] w0 [] w0 [] []) :
    FnC Try.prog 8 [.int .u32 client, .int .u32 last, .int .u32 xid] [] [] w0 fun r O' w' => r = .bool true := by
  have hf : (rAsk client last).fit := by refine ⟨h1, h2, ?_⟩; simp [rAsk]
  have hl := (rAsk client last).bytes_len
  have hw : t40.was.length = 40 := rfl
  have hn0 : (t40.get (1 + (client : Int))).length ≤ 140737488355328 := by rw [t40_get]; exact Nat.zero_le _
  have a0 : repAsk t40 client xid = (0, .zero) := by unfold repAsk; rw [repGet_t40]; simp
  refine fn_of _ Try.func8 rfl (by kernel_rfl) Try.ntmps8 rfl ?_
  refine go_on ?_
  refine f_call F rfl rfl awake14_c ?_
  clear F; rintro r O w T Φ ⟨rfl, rfl, rfl⟩ F0
  refine tidy F0 (fun F => ?_); clear F0
  refine go_on ?_
  refine f_make (l := 40) (c := 40) F rfl rfl rfl (fun q w F => ?_)
  obtain ⟨O, F⟩ := F.frzSl (Nat.le_refl 40)
  have F := F.fact (f := Fact.bytesL (.slice (some ⟨q, 0, none⟩) 40 40) (List.replicate 40 [])) (nil_bytesL (F.sl (cs := List.replicate 40 (.slice none 0 0))))
  refine go_on ?_
  refine f_call F rfl rfl (txnNew_c (l := List.replicate 40 [])) ?_ (hp := ⟨by decide, fun b hb => by rw [List.eq_of_mem_replicate hb]; exact Nat.zero_le _⟩)
  clear F; rintro r O w T Φ ⟨p, m, rfl, rfl, rfl⟩ F0
  refine tidy F0 (fun F => ?_); clear F0
  refine go_on ?_
  change Fr _ _ _ _ _ ((2, Tn p m t40) :: _) _ at F
  have F := F.fact (f := Fact.bytes nilV []) Bytes.nil
  have F := F.fact (f := Fact.rel 4 EnR nilV []) SlR.nil
  refine f_call F rfl rfl (repAsk_c (t := t40) (client := client) (xid := xid)) ?_
  clear F; rintro r O w T Φ ⟨rfl, rfl, rfl⟩ F0
  refine tidy F0 (fun F => ?_); clear F0
  refine go_on ?_
  rw [a0]
  dsimp only
  (refine go_on ?_; repeat (first | (refine f_store1 F rfl rfl rfl (fun w F => ?_); refine go_on ?_) | (refine f_storeAll F rfl rfl rfl (fun w F => ?_); refine go_on ?_) | (refine f_box1 F rfl rfl (fun q w F => ?_); refine go_on ?_) | (refine f_boxN F rfl rfl (fun q w F => ?_); refine go_on ?_) | (refine f_alloc1 F rfl (fun q w F => ?_); refine go_on ?_) | (refine f_allocN F rfl (fun q w F => ?_); refine go_on ?_) | (refine f_call F rfl rfl awake14_c ?_; clear F; rintro r O w T Φ ⟨rfl, rfl, rfl⟩ F0; refine tidy F0 (fun F => ?_); clear F0; refine go_on ?_) | (refine f_call F rfl rfl txnNew_c ?_; clear F; rintro r O w T Φ ⟨p, m, rfl, rfl, rfl⟩ F0; refine tidy F0 (fun F => ?_); clear F0; refine go_on ?_) | (refine f_call F rfl rfl repPut_c ?_; clear F; rintro r O w T Φ ⟨rfl, rfl, rfl⟩ F0; refine tidy F0 (fun F => ?_); clear F0; refine go_on ?_) | (refine f_call F rfl rfl repAsk_c ?_; clear F; rintro r O w T Φ ⟨rfl, rfl, rfl⟩ F0; refine tidy F0 (fun F => ?_); clear F0; refine go_on ?_) | (refine f_call F rfl rfl txnChanges_c ?_; clear F; rintro r O w T Φ ⟨rfl, rfl⟩ F0; refine tidy F0 (fun F => ?_); clear F0; refine go_on ?_) | (refine f_call F rfl rfl txnChangesn_c ?_; clear F; rintro r O w T Φ ⟨rfl, rfl, rfl⟩ F0; refine tidy F0 (fun F => ?_); clear F0; refine go_on ?_)))
  refine f_call F rfl rfl (repPut_c (t := t40) (r := rAsk client last) (dv := nilV) (ev := nilV)) ?_ (hp := ⟨hf, Nat.zero_le _, Nat.zero_le _, by show (-9223372036854775808 : Int) ≤ 0; omega, by show (0 : Int) ≤ 9223372036854775807; omega⟩)
  clear F; rintro r O w T Φ ⟨rfl, rfl, rfl⟩ F0
  refine tidy F0 (fun F => ?_); clear F0
  refine go_on ?_
  by_cases g : client < 8
  · have hm : (rAsk client last).may := ⟨g, .inl rfl, rfl, rfl⟩
    have hp : t40.putE (1 + (rAsk client last).client) (rAsk client last).bytes = 0 := by
      unfold Tx.putE
      rw [if_pos (show 0 ≤ (1 + ((rAsk client last).client : Int)) ∧ 1 + ((rAsk client last).client : Int) < t40.was.length from ⟨by omega, by show 1 + (client : Int) < ((40 : Nat) : Int); omega⟩), if_neg (by omega)]
    have hg := repGet_put (t := t40) (c := client) hf hm hw
    rw [if_pos (show client = (rAsk client last).client from rfl)] at hg
    have hn : ((t40.put1 (1 + (rAsk client last).client) (rAsk client last).bytes).get (1 + (client : Int))).length ≤ 140737488355328 := by
      rw [Tx.get_put1]
      split
      · omega
      · rw [t40_get]; exact Nat.zero_le _
    rw [if_pos hm] at F ⊢
    rw [hp]
    generalize t40.put1 (1 + (rAsk client last).client) (rAsk client last).bytes = t1 at F hg hn
    refine f_call F rfl rfl (repAsk_c (t := t1) (client := client) (xid := xid)) ?_
    clear F; rintro r O w T Φ ⟨rfl, rfl, rfl⟩ F0
    refine tidy F0 (fun F => ?_); clear F0
    refine go_on ?_
    by_cases g1 : last < xid
    · have a1 : repAsk t1 client xid = (0, .zero) := by unfold repAsk; rw [hg]; simp [rAsk, g1]
      rw [a1]
      dsimp only
      (refine go_on ?_; repeat (first | (refine f_store1 F rfl rfl rfl (fun w F => ?_); refine go_on ?_) | (refine f_storeAll F rfl rfl rfl (fun w F => ?_); refine go_on ?_) | (refine f_box1 F rfl rfl (fun q w F => ?_); refine go_on ?_) | (refine f_boxN F rfl rfl (fun q w F => ?_); refine go_on ?_) | (refine f_alloc1 F rfl (fun q w F => ?_); refine go_on ?_) | (refine f_allocN F rfl (fun q w F => ?_); refine go_on ?_) | (refine f_call F rfl rfl awake14_c ?_; clear F; rintro r O w T Φ ⟨rfl, rfl, rfl⟩ F0; refine tidy F0 (fun F => ?_); clear F0; refine go_on ?_) | (refine f_call F rfl rfl txnNew_c ?_; clear F; rintro r O w T Φ ⟨p, m, rfl, rfl, rfl⟩ F0; refine tidy F0 (fun F => ?_); clear F0; refine go_on ?_) | (refine f_call F rfl rfl repPut_c ?_; clear F; rintro r O w T Φ ⟨rfl, rfl, rfl⟩ F0; refine tidy F0 (fun F => ?_); clear F0; refine go_on ?_) | (refine f_call F rfl rfl repAsk_c ?_; clear F; rintro r O w T Φ ⟨rfl, rfl, rfl⟩ F0; refine tidy F0 (fun F => ?_); clear F0; refine go_on ?_) | (refine f_call F rfl rfl txnChanges_c ?_; clear F; rintro r O w T Φ ⟨rfl, rfl⟩ F0; refine tidy F0 (fun F => ?_); clear F0; refine go_on ?_) | (refine f_call F rfl rfl txnChangesn_c ?_; clear F; rintro r O w T Φ ⟨rfl, rfl, rfl⟩ F0; refine tidy F0 (fun F => ?_); clear F0; refine go_on ?_)))
      refine go_back ?_
      exact F.lawb (by simp [Rp.zero])
    · by_cases g2 : last = xid
      · have a1 : repAsk t1 client xid = (1, rAsk client last) := by unfold repAsk; rw [hg]; simp [rAsk, g2]
        rw [a1]
        dsimp only
        (refine go_on ?_; repeat (first | (refine f_store1 F rfl rfl rfl (fun w F => ?_); refine go_on ?_) | (refine f_storeAll F rfl rfl rfl (fun w F => ?_); refine go_on ?_) | (refine f_box1 F rfl rfl (fun q w F => ?_); refine go_on ?_) | (refine f_boxN F rfl rfl (fun q w F => ?_); refine go_on ?_) | (refine f_alloc1 F rfl (fun q w F => ?_); refine go_on ?_) | (refine f_allocN F rfl (fun q w F => ?_); refine go_on ?_) | (refine f_call F rfl rfl awake14_c ?_; clear F; rintro r O w T Φ ⟨rfl, rfl, rfl⟩ F0; refine tidy F0 (fun F => ?_); clear F0; refine go_on ?_) | (refine f_call F rfl rfl txnNew_c ?_; clear F; rintro r O w T Φ ⟨p, m, rfl, rfl, rfl⟩ F0; refine tidy F0 (fun F => ?_); clear F0; refine go_on ?_) | (refine f_call F rfl rfl repPut_c ?_; clear F; rintro r O w T Φ ⟨rfl, rfl, rfl⟩ F0; refine tidy F0 (fun F => ?_); clear F0; refine go_on ?_) | (refine f_call F rfl rfl repAsk_c ?_; clear F; rintro r O w T Φ ⟨rfl, rfl, rfl⟩ F0; refine tidy F0 (fun F => ?_); clear F0; refine go_on ?_) | (refine f_call F rfl rfl txnChanges_c ?_; clear F; rintro r O w T Φ ⟨rfl, rfl⟩ F0; refine tidy F0 (fun F => ?_); clear F0; refine go_on ?_) | (refine f_call F rfl rfl txnChangesn_c ?_; clear F; rintro r O w T Φ ⟨rfl, rfl, rfl⟩ F0; refine tidy F0 (fun F => ?_); clear F0; refine go_on ?_)))
        refine go_back ?_
        exact F.lawb (by simp [rAsk])
      · have a1 : repAsk t1 client xid = (2, .zero) := by unfold repAsk; rw [hg]; simp [rAsk, g1, g2]
        rw [a1]
        dsimp only
        (refine go_on ?_; repeat (first | (refine f_store1 F rfl rfl rfl (fun w F => ?_); refine go_on ?_) | (refine f_storeAll F rfl rfl rfl (fun w F => ?_); refine go_on ?_) | (refine f_box1 F rfl rfl (fun q w F => ?_); refine go_on ?_) | (refine f_boxN F rfl rfl (fun q w F => ?_); refine go_on ?_) | (refine f_alloc1 F rfl (fun q w F => ?_); refine go_on ?_) | (refine f_allocN F rfl (fun q w F => ?_); refine go_on ?_) | (refine f_call F rfl rfl awake14_c ?_; clear F; rintro r O w T Φ ⟨rfl, rfl, rfl⟩ F0; refine tidy F0 (fun F => ?_); clear F0; refine go_on ?_) | (refine f_call F rfl rfl txnNew_c ?_; clear F; rintro r O w T Φ ⟨p, m, rfl, rfl, rfl⟩ F0; refine tidy F0 (fun F => ?_); clear F0; refine go_on ?_) | (refine f_call F rfl rfl repPut_c ?_; clear F; rintro r O w T Φ ⟨rfl, rfl, rfl⟩ F0; refine tidy F0 (fun F => ?_); clear F0; refine go_on ?_) | (refine f_call F rfl rfl repAsk_c ?_; clear F; rintro r O w T Φ ⟨rfl, rfl, rfl⟩ F0; refine tidy F0 (fun F => ?_); clear F0; refine go_on ?_) | (refine f_call F rfl rfl txnChanges_c ?_; clear F; rintro r O w T Φ ⟨rfl, rfl⟩ F0; refine tidy F0 (fun F => ?_); clear F0; refine go_on ?_) | (refine f_call F rfl rfl txnChangesn_c ?_; clear F; rintro r O w T Φ ⟨rfl, rfl, rfl⟩ F0; refine tidy F0 (fun F => ?_); clear F0; refine go_on ?_)))
        refine go_back ?_
        exact F.lawb (by simp [Rp.zero])
  · have hm : ¬ (rAsk client last).may := fun h => g h.1
    rw [if_neg hm] at F ⊢
    refine f_call F rfl rfl (repAsk_c (t := t40) (client := client) (xid := xid)) ?_
    clear F; rintro r O w T Φ ⟨rfl, rfl, rfl⟩ F0
    refine tidy F0 (fun F => ?_); clear F0
    refine go_on ?_
    rw [a0]
    dsimp only
    (refine go_on ?_; repeat (first | (refine f_store1 F rfl rfl rfl (fun w F => ?_); refine go_on ?_) | (refine f_storeAll F rfl rfl rfl (fun w F => ?_); refine go_on ?_) | (refine f_box1 F rfl rfl (fun q w F => ?_); refine go_on ?_) | (refine f_boxN F rfl rfl (fun q w F => ?_); refine go_on ?_) | (refine f_alloc1 F rfl (fun q w F => ?_); refine go_on ?_) | (refine f_allocN F rfl (fun q w F => ?_); refine go_on ?_) | (refine f_call F rfl rfl awake14_c ?_; clear F; rintro r O w T Φ ⟨rfl, rfl, rfl⟩ F0; refine tidy F0 (fun F => ?_); clear F0; refine go_on ?_) | (refine f_call F rfl rfl txnNew_c ?_; clear F; rintro r O w T Φ ⟨p, m, rfl, rfl, rfl⟩ F0; refine tidy F0 (fun F => ?_); clear F0; refine go_on ?_) | (refine f_call F rfl rfl repPut_c ?_; clear F; rintro r O w T Φ ⟨rfl, rfl, rfl⟩ F0; refine tidy F0 (fun F => ?_); clear F0; refine go_on ?_) | (refine f_call F rfl rfl repAsk_c ?_; clear F; rintro r O w T Φ ⟨rfl, rfl, rfl⟩ F0; refine tidy F0 (fun F => ?_); clear F0; refine go_on ?_) | (refine f_call F rfl rfl txnChanges_c ?_; clear F; rintro r O w T Φ ⟨rfl, rfl⟩ F0; refine tidy F0 (fun F => ?_); clear F0; refine go_on ?_) | (refine f_call F rfl rfl txnChangesn_c ?_; clear F; rintro r O w T Φ ⟨rfl, rfl, rfl⟩ F0; refine tidy F0 (fun F => ?_); clear F0; refine go_on ?_)))
    have hc : t40.changes = [] := rfl
    obtain ⟨ca, cc, rfl, _⟩ := (F.rel (R := WrR)).form
    rw [hc]
    (refine go_on ?_; repeat (first | (refine f_store1 F rfl rfl rfl (fun w F => ?_); refine go_on ?_) | (refine f_storeAll F rfl rfl rfl (fun w F => ?_); refine go_on ?_) | (refine f_box1 F rfl rfl (fun q w F => ?_); refine go_on ?_) | (refine f_boxN F rfl rfl (fun q w F => ?_); refine go_on ?_) | (refine f_alloc1 F rfl (fun q w F => ?_); refine go_on ?_) | (refine f_allocN F rfl (fun q w F => ?_); refine go_on ?_) | (refine f_call F rfl rfl awake14_c ?_; clear F; rintro r O w T Φ ⟨rfl, rfl, rfl⟩ F0; refine tidy F0 (fun F => ?_); clear F0; refine go_on ?_) | (refine f_call F rfl rfl txnNew_c ?_; clear F; rintro r O w T Φ ⟨p, m, rfl, rfl, rfl⟩ F0; refine tidy F0 (fun F => ?_); clear F0; refine go_on ?_) | (refine f_call F rfl rfl repPut_c ?_; clear F; rintro r O w T Φ ⟨rfl, rfl, rfl⟩ F0; refine tidy F0 (fun F => ?_); clear F0; refine go_on ?_) | (refine f_call F rfl rfl repAsk_c ?_; clear F; rintro r O w T Φ ⟨rfl, rfl, rfl⟩ F0; refine tidy F0 (fun F => ?_); clear F0; refine go_on ?_) | (refine f_call F rfl rfl txnChanges_c ?_; clear F; rintro r O w T Φ ⟨rfl, rfl⟩ F0; refine tidy F0 (fun F => ?_); clear F0; refine go_on ?_) | (refine f_call F rfl rfl txnChangesn_c ?_; clear F; rintro r O w T Φ ⟨rfl, rfl, rfl⟩ F0; refine tidy F0 (fun F => ?_); clear F0; refine go_on ?_)))
    refine go_back ?_
    exact F.lawb (by simp)
theorem RepliesAsk_true {w : World} {v0 v1 v2 : Value} (r0 : Reads Try.prog w 31 [v0]) (r1 : Reads Try.prog w 31 [v1]) (r2 : Reads Try.prog w 31 [v2]) :
    FnC Try.prog 8 [v0, v1, v2] [] [] w fun r O' w' => r = .bool true := by
  obtain ⟨x, hx, h1⟩ := reads_nat (k := .u32) rfl r0
  obtain ⟨y, hy, h2⟩ := reads_nat (k := .u32) rfl r1
  obtain ⟨z, hz, h3⟩ := reads_nat (k := .u32) rfl r2
  injection hx with hx
  injection hy with hy
  injection hz with hz
  subst hx hy hz
  exact RepliesAsk_ok h1 h2 h3 (Fr.start OK_nil)
end Go.Proofs.Ytipnelbpkekdkaa
