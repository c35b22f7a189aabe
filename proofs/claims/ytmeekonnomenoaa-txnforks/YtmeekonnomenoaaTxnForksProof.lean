/- Proved here: the law 'TxnForks' returns true for every input that the statement's row lets in (what it reads is of bulk at most 1048576), and its arguments read behind the call as ahead of it. -/
import Derived.Test.YtmeekonnomenoaaRows
import Derived.WalkKit
import Derived.ProofKit
import Derived.OpenShut
import Derived.ShutString
import Derived.ChangeOld
import Derived.Below
import Derived.JoinedCond
import Derived.Test.YtmeekonnomenoaaForks10
namespace Go.Proofs.Ytmeekonnomenoaa.txnForks
open Go.ChangeShapes Go.WideShapes Go.ChangeAt Go.RowKit
set_option linter.unusedVariables false

theorem own : ownKnob Try.prog.godebug = none := by kernel_rfl
theorem laidOut : laidOutB Try.prog = true := by kernel_rfl

set_option maxRecDepth 100000 in
set_option maxHeartbeats 4000000 in
mutual
theorem bulk1 {H : Type} : ∀ d : DataW H, Rows.uptoBulk d = Gk.bulk d
  | .lit l => by cases l <;> simp [Rows.uptoBulk, Gk.bulk]
  | .nil => by simp [Rows.uptoBulk, Gk.bulk]
  | .ptr d => by simp [Rows.uptoBulk, Gk.bulk, bulk1 d]
  | .slice e s => by simp [Rows.uptoBulk, Gk.bulk, bulk_eq e, bulk_eq s]
  | .agg p => by simp [Rows.uptoBulk, Gk.bulk, bulk_eq p]
  | .iface _ d => by simp [Rows.uptoBulk, Gk.bulk, bulk1 d]
  | .map e => by simp [Rows.uptoBulk, Gk.bulk, bulk3 e]
  | .held _ => by simp [Rows.uptoBulk, Gk.bulk]
theorem bulk_eq {H : Type} : ∀ l : List (DataW H), Rows.uptoBulkAll l = Gk.bulkAll l
  | [] => by simp [Rows.uptoBulkAll, Gk.bulkAll]
  | d :: r => by simp [Rows.uptoBulkAll, Gk.bulkAll, bulk1 d, bulk_eq r]
theorem bulk3 {H : Type} : ∀ l : List (Lit × DataW H), Rows.uptoBulkEntries l = Gk.bulkEntries l
  | [] => by simp [Rows.uptoBulkEntries, Gk.bulkEntries]
  | x :: r => by simp [Rows.uptoBulkEntries, Gk.bulkEntries, bulk4 x, bulk3 r]
theorem bulk4 {H : Type} : ∀ x : Lit × DataW H, Rows.uptoBulkEntry x = Gk.bulkEntry x
  | (l, d) => by cases l <;> simp [Rows.uptoBulkEntry, Gk.bulkEntry, bulk1 d]
end

set_option maxRecDepth 100000 in
set_option maxHeartbeats 4000000 in
theorem lifted (os : Os) (started : os.Started) (H : Type) (enc : TypeId × Value → H) (F : Stop.Interp) :
    ReturnsInHanded {} Try.checked os 6 .any ((Rows.OpenSpec.upto Rows.txnForksSpec).pre6 enc Try.prog Try.f6 Rows.txnForksUptoRow.domain false) (((Rows.OpenSpec.upto Rows.txnForksSpec).at F).post enc Try.prog Try.f6 false true false false) := by
  refine returnsInHanded_of_cond (C := Try.checked) (s := (Rows.OpenSpec.upto Rows.txnForksSpec)) (k := Rows.uptoSmall) rfl own started (by kernel_rfl) Try.func6
    (OpenSpec.witness (enc := enc) (C := Try.checked) (s := (Rows.OpenSpec.upto Rows.txnForksSpec)) (k := Rows.uptoSmall) rfl false ⟨#[], #[.slice none 0 0, .slice none 0 0, .slice none 0 0], []⟩ 8 (by kernel_rfl) (by kernel_rfl) (by kernel_rfl)
      (x := ([.nil, .nil, .nil], [], [])) (by kernel_rfl) (by kernel_rfl) (by kernel_rfl)) ?_
  intro W base args ds gs before hval0 hW hcnd hk _
  have hval : ∀ (j : Nat) t v, Try.f6.params[j]? = some t → args[j]? = some v → Value.okWide Try.prog W .any base t v := hval0
  have hW' := hW
  obtain ⟨p, q, hA0, hV, rfl, hfz, hnd⟩ := hW
  have hA : DataW.TrodAll enc Try.prog W 0 (fun _ => true) true Try.f6.params.toList args.toList ds p := hA0
  rw [Try.params6] at hA hval
  obtain ⟨v0, vs0, d0, ds0, p0, q0, hargs, rfl, rfl, h0, r0⟩ := trodAll_cons hA
  obtain ⟨v1, vs1, d1, ds1, p1, q1, rfl, rfl, rfl, h1, r1⟩ := trodAll_cons r0
  obtain ⟨v2, vs2, d2, ds2, p2, q2, rfl, rfl, rfl, h2, r2⟩ := trodAll_cons r1
  obtain ⟨rfl, rfl, rfl⟩ := trodAll_nil r2
  obtain rfl : args = #[v0, v1, v2] := by cases args; simp_all
  obtain ⟨rfl, rfl⟩ := trodVars_none hV
  obtain ⟨a0, len0, cap0, rfl⟩ := okWide_slice Try.underlying22 (hval 0 22 v0 rfl rfl)
  have lt0 : ∀ x ∈ p0, x.block < W.heap.size := by obtain ⟨m, hm⟩ := h0; exact DataW.trod_lt m _ _ _ hm
  obtain ⟨a1, len1, cap1, rfl⟩ := okWide_slice Try.underlying23 (hval 1 23 v1 rfl rfl)
  have lt1 : ∀ x ∈ p1, x.block < W.heap.size := by obtain ⟨m, hm⟩ := h1; exact DataW.trod_lt m _ _ _ hm
  obtain ⟨a2, len2, cap2, rfl⟩ := okWide_slice Try.underlying23 (hval 2 23 v2 rfl rfl)
  have lt2 : ∀ x ∈ p2, x.block < W.heap.size := by obtain ⟨m, hm⟩ := h2; exact DataW.trod_lt m _ _ _ hm
  simp only [List.append_nil, Rows.uptoSmall, bulk_eq, Gk.bulkAll, decide_eq_true_eq] at hk
  have b0 : Gk.bulk d0 ≤ 1048576 := by omega
  have b1 : Gk.bulk d1 ≤ 1048576 := by omega
  have b2 : Gk.bulk d2 ≤ 1048576 := by omega
  clear hA0 hval0
  refine (TxnForks_true (Gk.readsN_of h0 b0) (Gk.readsN_of h1 b1) (Gk.readsN_of h2 b2)).2.mono fun e W' ⟨r, O', he, st, hr⟩ => ?_
  subst hr; subst he
  have bel := Gk.Step.below st
  exact ⟨_, rfl, _, _, _, [], _, [], hW', trodAll_mk1 (shut_bool Try.underlying4 _), (trodAll_cons_mk (Below.trod laidOut (by kernel_rfl) (of_decide_eq_true (by kernel_rfl)) h0 bel lt0) (trodAll_cons_mk (Below.trod laidOut (by kernel_rfl) (of_decide_eq_true (by kernel_rfl)) h1 bel lt1) (trodAll_cons_mk (Below.trod laidOut (by kernel_rfl) (of_decide_eq_true (by kernel_rfl)) h2 bel lt2) trodAll_mk0))), rfl, bel.frame _, fun h => by cases h⟩

theorem over : Rows.txnForksUptoRow.holds Try.pinned (Rows.OpenSpec.upto Rows.txnForksSpec) :=
  OpenClaim.holds_of_cond 6 Try.f6 rfl rfl rfl rfl rfl rfl rfl ⟨rfl, rfl, rfl, rfl, rfl⟩ rfl rfl rfl rfl rfl (by kernel_rfl) Try.func6 (by kernel_rfl)
    (of_decide_eq_true (by kernel_rfl)) (by unfold Func.isWrapper; first | (rw [if_pos (by decide +kernel)]; kernel_rfl) | (rw [if_neg (by decide +kernel)]; exact ⟨rfl, rfl⟩))
    (fun os started H enc _ F0 => lifted os started H enc F0)

theorem proved : Rows.TxnForksUptoSaid := over
end Go.Proofs.Ytmeekonnomenoaa.txnForks
