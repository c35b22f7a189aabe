/- What the reference of layer 14 answers: what is told. -/
import Derived.Test.YtdhfikbehbpdjaaRef14
namespace Go.Proofs.Ytdhfikbehbpdjaa
open Gk Go
set_option linter.unusedVariables false
set_option maxHeartbeats 4000000
set_option maxRecDepth 4000
set_option linter.unusedSimpArgs false
attribute [local irreducible] Int.decLt Int.decLe Int.decEq Int.instDecidableEq Gk.Rnds Gk.E Gk.G Gk.R Gk.RD Gk.RX Gk.RO Gk.Y Gk.Ent Gk.Sat Gk.Round Gk.After Gk.Cell Gk.Sl Gk.SlA Gk.CB Gk.OK Gk.FnC Gk.Bytes Gk.BytesL Gk.StrL Gk.Buf Gk.MapI
attribute [local irreducible] repRead
/-- What is told of a block's bytes. -/
def repGetB (b : List UInt8) (client : Nat) : Rp × Bool × Nat :=
  if client < 8 then (if b = [] then (.zero, false, 0) else ((repRead client b).1, decide ((repRead client b).2 = 0), (repRead client b).2)) else (.zero, false, 1)
theorem repGetB_eq (t : Tx) (client : Nat) : repGet t client = repGetB (t.get (1 + client)) client := rfl
def repAskB (b : List UInt8) (client xid : Nat) : Int × Rp :=
  if (repGetB b client).2.1 = false ∨ (repGetB b client).1.xid < xid then (0, .zero) else if (repGetB b client).1.xid = xid then (1, (repGetB b client).1) else (2, .zero)
theorem repAskB_eq (t : Tx) (client xid : Nat) : repAsk t client xid = repAskB (t.get (1 + client)) client xid := rfl

theorem rGet14_c {wv nv : Value} {l : List (List UInt8)} {client : Nat} (h : client < 4294967296 ∧ (getL l (1 + client)).length ≤ 140737488355328) :
    Con Try.prog 16 [rT wv nv, .int .u32 client] [] [] [Fact.strs nv l] fun r T Φ => r = .tuple #[rrV (repGetB (getL l (1 + client)) client).1 nilV, .bool (repGetB (getL l (1 + client)) client).2.1, errT (repGetB (getL l (1 + client)) client).2.2] ∧ T = [] ∧ Φ = [] := by
  obtain ⟨h1, h2⟩ := h
  refine con_of (fun O0 w0 F => ?_)
  refine tidy F (fun F => ?_)
  refine fn_of _ Try.func16 rfl (by kernel_rfl) Try.ntmps16 rfl ?_
  unfold repGetB
  (refine go_on ?_; repeat (first | (refine f_store1 F rfl rfl rfl (fun w F => ?_); refine go_on ?_) | (refine f_storeAll F rfl rfl rfl (fun w F => ?_); refine go_on ?_) | (refine f_box1 F rfl rfl (fun q w F => ?_); refine go_on ?_) | (refine f_boxN F rfl rfl (fun q w F => ?_); refine go_on ?_) | (refine f_alloc1 F rfl (fun q w F => ?_); refine go_on ?_) | (refine f_allocN F rfl (fun q w F => ?_); refine go_on ?_) | (refine f_call F rfl rfl rGet_c ?_; clear F; rintro r O w T Φ ⟨rfl, rfl, rfl⟩ F0; refine tidy F0 (fun F => ?_); clear F0; refine go_on ?_) | (refine f_call F rfl rfl rRead14_c ?_; clear F; rintro r O w T Φ ⟨rfl, rfl, rfl⟩ F0; refine tidy F0 (fun F => ?_); clear F0; refine go_on ?_)))
  by_cases g : client < 8
  · rw [if_pos g]
    (refine go_on ?_; repeat (first | (refine f_store1 F rfl rfl rfl (fun w F => ?_); refine go_on ?_) | (refine f_storeAll F rfl rfl rfl (fun w F => ?_); refine go_on ?_) | (refine f_box1 F rfl rfl (fun q w F => ?_); refine go_on ?_) | (refine f_boxN F rfl rfl (fun q w F => ?_); refine go_on ?_) | (refine f_alloc1 F rfl (fun q w F => ?_); refine go_on ?_) | (refine f_allocN F rfl (fun q w F => ?_); refine go_on ?_) | (refine f_call F rfl rfl rGet_c ?_; clear F; rintro r O w T Φ ⟨rfl, rfl, rfl⟩ F0; refine tidy F0 (fun F => ?_); clear F0; refine go_on ?_) | (refine f_call F rfl rfl rRead14_c ?_; clear F; rintro r O w T Φ ⟨rfl, rfl, rfl⟩ F0; refine tidy F0 (fun F => ?_); clear F0; refine go_on ?_)))
    generalize getL l (1 + client) = b at h2 ⊢
    by_cases g2 : b = []
    · rw [if_pos g2]
      (refine go_on ?_; repeat (first | (refine f_store1 F rfl rfl rfl (fun w F => ?_); refine go_on ?_) | (refine f_storeAll F rfl rfl rfl (fun w F => ?_); refine go_on ?_) | (refine f_box1 F rfl rfl (fun q w F => ?_); refine go_on ?_) | (refine f_boxN F rfl rfl (fun q w F => ?_); refine go_on ?_) | (refine f_alloc1 F rfl (fun q w F => ?_); refine go_on ?_) | (refine f_allocN F rfl (fun q w F => ?_); refine go_on ?_) | (refine f_call F rfl rfl rGet_c ?_; clear F; rintro r O w T Φ ⟨rfl, rfl, rfl⟩ F0; refine tidy F0 (fun F => ?_); clear F0; refine go_on ?_) | (refine f_call F rfl rfl rRead14_c ?_; clear F; rintro r O w T Φ ⟨rfl, rfl, rfl⟩ F0; refine tidy F0 (fun F => ?_); clear F0; refine go_on ?_)))
      refine go_back ?_
      exact F.fin ⟨rfl, rfl, rfl⟩
    · rw [if_neg g2]
      refine go_on ?_
      refine f_call F rfl rfl (rRead14_c (client := client) (b := b)) ?_
      clear F; rintro r O w T Φ ⟨rfl, rfl, rfl⟩ F0
      refine tidy F0 (fun F => ?_); clear F0
      refine go_on ?_
      generalize repRead client b = g
      (refine go_on ?_; repeat (first | (refine f_store1 F rfl rfl rfl (fun w F => ?_); refine go_on ?_) | (refine f_storeAll F rfl rfl rfl (fun w F => ?_); refine go_on ?_) | (refine f_box1 F rfl rfl (fun q w F => ?_); refine go_on ?_) | (refine f_boxN F rfl rfl (fun q w F => ?_); refine go_on ?_) | (refine f_alloc1 F rfl (fun q w F => ?_); refine go_on ?_) | (refine f_allocN F rfl (fun q w F => ?_); refine go_on ?_) | (refine f_call F rfl rfl rGet_c ?_; clear F; rintro r O w T Φ ⟨rfl, rfl, rfl⟩ F0; refine tidy F0 (fun F => ?_); clear F0; refine go_on ?_) | (refine f_call F rfl rfl rRead14_c ?_; clear F; rintro r O w T Φ ⟨rfl, rfl, rfl⟩ F0; refine tidy F0 (fun F => ?_); clear F0; refine go_on ?_)))
      refine go_back ?_
      refine F.fin ⟨?_, rfl, rfl⟩
      have : decide ((g.2 : Int) = 0) = decide (g.2 = 0) := by rw [decide_eq_decide]; omega
      rw [this]; rfl
  · rw [if_neg g]
    (refine go_on ?_; repeat (first | (refine f_store1 F rfl rfl rfl (fun w F => ?_); refine go_on ?_) | (refine f_storeAll F rfl rfl rfl (fun w F => ?_); refine go_on ?_) | (refine f_box1 F rfl rfl (fun q w F => ?_); refine go_on ?_) | (refine f_boxN F rfl rfl (fun q w F => ?_); refine go_on ?_) | (refine f_alloc1 F rfl (fun q w F => ?_); refine go_on ?_) | (refine f_allocN F rfl (fun q w F => ?_); refine go_on ?_) | (refine f_call F rfl rfl rGet_c ?_; clear F; rintro r O w T Φ ⟨rfl, rfl, rfl⟩ F0; refine tidy F0 (fun F => ?_); clear F0; refine go_on ?_) | (refine f_call F rfl rfl rRead14_c ?_; clear F; rintro r O w T Φ ⟨rfl, rfl, rfl⟩ F0; refine tidy F0 (fun F => ?_); clear F0; refine go_on ?_)))
    refine go_back ?_
    exact F.fin ⟨rfl, rfl, rfl⟩

theorem rAsk14_c {wv nv : Value} {l : List (List UInt8)} {client xid : Nat} (h : client < 4294967296 ∧ (getL l (1 + client)).length ≤ 140737488355328) :
    Con Try.prog 18 [rT wv nv, .int .u32 client, .int .u32 xid] [] [] [Fact.strs nv l] fun r T Φ => r = .tuple #[.int .i64 (repAskB (getL l (1 + client)) client xid).1, rrV (repAskB (getL l (1 + client)) client xid).2 nilV] ∧ T = [] ∧ Φ = [] := by
  obtain ⟨h1, h2⟩ := h
  refine con_of (fun O0 w0 F => ?_)
  refine tidy F (fun F => ?_)
  refine fn_of _ Try.func18 rfl (by kernel_rfl) Try.ntmps18 rfl ?_
  unfold repAskB
  (refine go_on ?_; repeat (first | (refine f_store1 F rfl rfl rfl (fun w F => ?_); refine go_on ?_) | (refine f_storeAll F rfl rfl rfl (fun w F => ?_); refine go_on ?_) | (refine f_box1 F rfl rfl (fun q w F => ?_); refine go_on ?_) | (refine f_boxN F rfl rfl (fun q w F => ?_); refine go_on ?_) | (refine f_alloc1 F rfl (fun q w F => ?_); refine go_on ?_) | (refine f_allocN F rfl (fun q w F => ?_); refine go_on ?_) | (refine f_call F rfl rfl rGet14_c ?_; clear F; rintro r O w T Φ ⟨rfl, rfl, rfl⟩ F0; refine tidy F0 (fun F => ?_); clear F0; refine go_on ?_)))
  generalize repGetB (getL l (1 + client)) client = g at F ⊢
  obtain ⟨r, is, e⟩ := g
  dsimp only at F ⊢
  cases is
  · rw [if_pos (.inl rfl)]
    (refine go_on ?_; repeat (first | (refine f_store1 F rfl rfl rfl (fun w F => ?_); refine go_on ?_) | (refine f_storeAll F rfl rfl rfl (fun w F => ?_); refine go_on ?_) | (refine f_box1 F rfl rfl (fun q w F => ?_); refine go_on ?_) | (refine f_boxN F rfl rfl (fun q w F => ?_); refine go_on ?_) | (refine f_alloc1 F rfl (fun q w F => ?_); refine go_on ?_) | (refine f_allocN F rfl (fun q w F => ?_); refine go_on ?_) | (refine f_call F rfl rfl rGet14_c ?_; clear F; rintro r O w T Φ ⟨rfl, rfl, rfl⟩ F0; refine tidy F0 (fun F => ?_); clear F0; refine go_on ?_)))
    (try refine g_ret ?_); (repeat (first | refine e_then_ret ?_ | refine e_block_ret ?_)); refine retR2 (.inl rfl) rfl (res_tmp rfl) (res_aggF (by exact rfl) (by assumption)) ?_
    exact F.fin ⟨rfl, rfl, rfl⟩
  · by_cases g1 : r.xid < xid
    · rw [if_pos (.inr g1)]
      (refine go_on ?_; repeat (first | (refine f_store1 F rfl rfl rfl (fun w F => ?_); refine go_on ?_) | (refine f_storeAll F rfl rfl rfl (fun w F => ?_); refine go_on ?_) | (refine f_box1 F rfl rfl (fun q w F => ?_); refine go_on ?_) | (refine f_boxN F rfl rfl (fun q w F => ?_); refine go_on ?_) | (refine f_alloc1 F rfl (fun q w F => ?_); refine go_on ?_) | (refine f_allocN F rfl (fun q w F => ?_); refine go_on ?_) | (refine f_call F rfl rfl rGet14_c ?_; clear F; rintro r O w T Φ ⟨rfl, rfl, rfl⟩ F0; refine tidy F0 (fun F => ?_); clear F0; refine go_on ?_)))
      (try refine g_ret ?_); (repeat (first | refine e_then_ret ?_ | refine e_block_ret ?_)); refine retR2 (.inl rfl) rfl (res_tmp rfl) (res_aggF (by exact rfl) (by assumption)) ?_
      exact F.fin ⟨rfl, rfl, rfl⟩
    · rw [if_neg (by simp [g1])]
      by_cases g2 : r.xid = xid
      · rw [if_pos g2]
        (refine go_on ?_; repeat (first | (refine f_store1 F rfl rfl rfl (fun w F => ?_); refine go_on ?_) | (refine f_storeAll F rfl rfl rfl (fun w F => ?_); refine go_on ?_) | (refine f_box1 F rfl rfl (fun q w F => ?_); refine go_on ?_) | (refine f_boxN F rfl rfl (fun q w F => ?_); refine go_on ?_) | (refine f_alloc1 F rfl (fun q w F => ?_); refine go_on ?_) | (refine f_allocN F rfl (fun q w F => ?_); refine go_on ?_) | (refine f_call F rfl rfl rGet14_c ?_; clear F; rintro r O w T Φ ⟨rfl, rfl, rfl⟩ F0; refine tidy F0 (fun F => ?_); clear F0; refine go_on ?_)))
        refine f_draw [(2, Thing.cells _ [_, _, _, _, _, _, _, _, _, _, _, _, _, _, _])] F [] [(0, true), (1, true), (2, false)] (by kernel_rfl) (by kernel_rfl) (fun w F hS => ?_); refine go_look ?_
        (repeat (first | (refine rd_do rfl ?_; (try refine r_go rfl rfl ?_); refine f_store1 F rfl rfl rfl (fun w F => ?_); (try refine r_nil ?_); refine e_afterF F (fun hS => ?_); refine go_look ?_) | (refine rd_do rfl ?_; (try refine r_go rfl rfl ?_); refine f_storeAll F rfl rfl rfl (fun w F => ?_); (try refine r_nil ?_); refine e_afterF F (fun hS => ?_); refine go_look ?_) | (refine rd_do rfl ?_; (try refine r_go rfl rfl ?_); refine f_box1 F rfl rfl (fun q w F => ?_); (try refine r_nil ?_); refine e_afterF F (fun hS => ?_); refine go_look ?_) | (refine rd_do rfl ?_; (try refine r_go rfl rfl ?_); refine f_boxN F rfl rfl (fun q w F => ?_); (try refine r_nil ?_); refine e_afterF F (fun hS => ?_); refine go_look ?_) | (refine rd_do rfl ?_; (try refine r_go rfl rfl ?_); refine f_alloc1 F rfl (fun q w F => ?_); (try refine r_nil ?_); refine e_afterF F (fun hS => ?_); refine go_look ?_) | (refine rd_do rfl ?_; (try refine r_go rfl rfl ?_); refine f_allocN F rfl (fun q w F => ?_); (try refine r_nil ?_); refine e_afterF F (fun hS => ?_); refine go_look ?_) | (refine rd_do rfl ?_; (try refine r_go rfl rfl ?_); refine f_call F rfl rfl rGet14_c ?_; clear F; rintro r O w T Φ ⟨rfl, rfl, rfl⟩ F0; refine tidy F0 (fun F => ?_); clear F0; refine r_nil ?_; refine e_afterF F (fun hS => ?_); refine go_look ?_)))
        refine rd_done ?_; refine go_on ?_
        (try refine g_ret ?_); (repeat (first | refine e_then_ret ?_ | refine e_block_ret ?_)); refine retR2 (.inl rfl) rfl (res_tmp rfl) (res_aggF (by exact rfl) (by assumption)) ?_
        exact F.fin ⟨rfl, rfl, rfl⟩
      · rw [if_neg g2]
        (refine go_on ?_; repeat (first | (refine f_store1 F rfl rfl rfl (fun w F => ?_); refine go_on ?_) | (refine f_storeAll F rfl rfl rfl (fun w F => ?_); refine go_on ?_) | (refine f_box1 F rfl rfl (fun q w F => ?_); refine go_on ?_) | (refine f_boxN F rfl rfl (fun q w F => ?_); refine go_on ?_) | (refine f_alloc1 F rfl (fun q w F => ?_); refine go_on ?_) | (refine f_allocN F rfl (fun q w F => ?_); refine go_on ?_) | (refine f_call F rfl rfl rGet14_c ?_; clear F; rintro r O w T Φ ⟨rfl, rfl, rfl⟩ F0; refine tidy F0 (fun F => ?_); clear F0; refine go_on ?_)))
        (try refine g_ret ?_); (repeat (first | refine e_then_ret ?_ | refine e_block_ret ?_)); refine retR2 (.inl rfl) rfl (res_tmp rfl) (res_aggF (by exact rfl) (by assumption)) ?_
        exact F.fin ⟨rfl, rfl, rfl⟩

theorem rSetRaw14_c {wa : Option Addr} {wn wc : Nat} {nv : Value} {l : List (List UInt8)} {client : Nat} {b : List UInt8} (h : client < 4294967296 ∧ b.length ≤ 140737488355328 ∧ l.length ≤ 1000000) :
    Con Try.prog 12 [rT (.slice wa wn wc) nv, .int .u32 client, str b] [] [] [Fact.strs nv l] fun r T Φ => ∃ nv', r = .tuple #[rT (.slice wa wn wc) nv', errT (if client < 8 then (if b ≠ [] ∧ (repRead client b).2 ≠ 0 then 11 else putEL l.length (1 + client) b) else 1)] ∧ T = [] ∧ Φ = [Fact.strs nv' (if client < 8 ∧ ¬ (b ≠ [] ∧ (repRead client b).2 ≠ 0) then putL l (1 + client) b else l)] := by
  obtain ⟨h1, h2, h3⟩ := h
  refine con_of (fun O0 w0 F => ?_)
  refine tidy F (fun F => ?_)
  refine fn_of _ Try.func12 rfl (by kernel_rfl) Try.ntmps12 rfl ?_
  obtain ⟨na, nc, rfl, _⟩ := (F.sl (v := nv) (cs := l.map str)).form
  (refine go_on ?_; repeat (first | (refine f_store1 F rfl rfl rfl (fun w F => ?_); refine go_on ?_) | (refine f_storeAll F rfl rfl rfl (fun w F => ?_); refine go_on ?_) | (refine f_box1 F rfl rfl (fun q w F => ?_); refine go_on ?_) | (refine f_boxN F rfl rfl (fun q w F => ?_); refine go_on ?_) | (refine f_alloc1 F rfl (fun q w F => ?_); refine go_on ?_) | (refine f_allocN F rfl (fun q w F => ?_); refine go_on ?_) | (refine f_call F rfl rfl rPut_c ?_; clear F; rintro r O w T Φ ⟨nv', rfl, rfl, rfl⟩ F0; refine tidy F0 (fun F => ?_); clear F0; refine go_on ?_) | (refine f_call F rfl rfl rRead14_c ?_; clear F; rintro r O w T Φ ⟨rfl, rfl, rfl⟩ F0; refine tidy F0 (fun F => ?_); clear F0; refine go_on ?_)))
  by_cases g : client < 8
  · rw [if_pos g]
    refine go_on ?_
    refine f_call F rfl rfl (rRead14_c (client := client) (b := b)) ?_
    clear F; rintro r O w T Φ ⟨rfl, rfl, rfl⟩ F0
    refine tidy F0 (fun F => ?_); clear F0
    refine go_on ?_
    generalize repRead client b = gr
    (refine go_on ?_; repeat (first | (refine f_store1 F rfl rfl rfl (fun w F => ?_); refine go_on ?_) | (refine f_storeAll F rfl rfl rfl (fun w F => ?_); refine go_on ?_) | (refine f_box1 F rfl rfl (fun q w F => ?_); refine go_on ?_) | (refine f_boxN F rfl rfl (fun q w F => ?_); refine go_on ?_) | (refine f_alloc1 F rfl (fun q w F => ?_); refine go_on ?_) | (refine f_allocN F rfl (fun q w F => ?_); refine go_on ?_) | (refine f_call F rfl rfl rPut_c ?_; clear F; rintro r O w T Φ ⟨nv', rfl, rfl, rfl⟩ F0; refine tidy F0 (fun F => ?_); clear F0; refine go_on ?_) | (refine f_call F rfl rfl rRead14_c ?_; clear F; rintro r O w T Φ ⟨rfl, rfl, rfl⟩ F0; refine tidy F0 (fun F => ?_); clear F0; refine go_on ?_)))
    by_cases g2 : b = []
    · rw [if_neg (fun h => h.1 g2), if_pos ⟨g, fun h => h.1 g2⟩]
      (refine go_on ?_; repeat (first | (refine f_store1 F rfl rfl rfl (fun w F => ?_); refine go_on ?_) | (refine f_storeAll F rfl rfl rfl (fun w F => ?_); refine go_on ?_) | (refine f_box1 F rfl rfl (fun q w F => ?_); refine go_on ?_) | (refine f_boxN F rfl rfl (fun q w F => ?_); refine go_on ?_) | (refine f_alloc1 F rfl (fun q w F => ?_); refine go_on ?_) | (refine f_allocN F rfl (fun q w F => ?_); refine go_on ?_) | (refine f_call F rfl rfl rPut_c ?_; clear F; rintro r O w T Φ ⟨nv', rfl, rfl, rfl⟩ F0; refine tidy F0 (fun F => ?_); clear F0; refine go_on ?_) | (refine f_call F rfl rfl rRead14_c ?_; clear F; rintro r O w T Φ ⟨rfl, rfl, rfl⟩ F0; refine tidy F0 (fun F => ?_); clear F0; refine go_on ?_)))
      obtain ⟨va, vc, rfl, _⟩ := (F.sl (v := nv') (cs := (putL l (1 + client) b).map str)).form
      (refine go_on ?_; repeat (first | (refine f_store1 F rfl rfl rfl (fun w F => ?_); refine go_on ?_) | (refine f_storeAll F rfl rfl rfl (fun w F => ?_); refine go_on ?_) | (refine f_box1 F rfl rfl (fun q w F => ?_); refine go_on ?_) | (refine f_boxN F rfl rfl (fun q w F => ?_); refine go_on ?_) | (refine f_alloc1 F rfl (fun q w F => ?_); refine go_on ?_) | (refine f_allocN F rfl (fun q w F => ?_); refine go_on ?_) | (refine f_call F rfl rfl rPut_c ?_; clear F; rintro r O w T Φ ⟨nv', rfl, rfl, rfl⟩ F0; refine tidy F0 (fun F => ?_); clear F0; refine go_on ?_) | (refine f_call F rfl rfl rRead14_c ?_; clear F; rintro r O w T Φ ⟨rfl, rfl, rfl⟩ F0; refine tidy F0 (fun F => ?_); clear F0; refine go_on ?_)))
      refine go_back ?_
      exact F.fin ⟨_, rfl, rfl, rfl⟩
    · by_cases g4 : gr.2 = 0
      · rw [if_neg (fun h => h.2 g4), if_pos ⟨g, fun h => h.2 g4⟩, g4]
        (refine go_on ?_; repeat (first | (refine f_store1 F rfl rfl rfl (fun w F => ?_); refine go_on ?_) | (refine f_storeAll F rfl rfl rfl (fun w F => ?_); refine go_on ?_) | (refine f_box1 F rfl rfl (fun q w F => ?_); refine go_on ?_) | (refine f_boxN F rfl rfl (fun q w F => ?_); refine go_on ?_) | (refine f_alloc1 F rfl (fun q w F => ?_); refine go_on ?_) | (refine f_allocN F rfl (fun q w F => ?_); refine go_on ?_) | (refine f_call F rfl rfl rPut_c ?_; clear F; rintro r O w T Φ ⟨nv', rfl, rfl, rfl⟩ F0; refine tidy F0 (fun F => ?_); clear F0; refine go_on ?_) | (refine f_call F rfl rfl rRead14_c ?_; clear F; rintro r O w T Φ ⟨rfl, rfl, rfl⟩ F0; refine tidy F0 (fun F => ?_); clear F0; refine go_on ?_)))
        obtain ⟨va, vc, rfl, _⟩ := (F.sl (v := nv') (cs := (putL l (1 + client) b).map str)).form
        (refine go_on ?_; repeat (first | (refine f_store1 F rfl rfl rfl (fun w F => ?_); refine go_on ?_) | (refine f_storeAll F rfl rfl rfl (fun w F => ?_); refine go_on ?_) | (refine f_box1 F rfl rfl (fun q w F => ?_); refine go_on ?_) | (refine f_boxN F rfl rfl (fun q w F => ?_); refine go_on ?_) | (refine f_alloc1 F rfl (fun q w F => ?_); refine go_on ?_) | (refine f_allocN F rfl (fun q w F => ?_); refine go_on ?_) | (refine f_call F rfl rfl rPut_c ?_; clear F; rintro r O w T Φ ⟨nv', rfl, rfl, rfl⟩ F0; refine tidy F0 (fun F => ?_); clear F0; refine go_on ?_) | (refine f_call F rfl rfl rRead14_c ?_; clear F; rintro r O w T Φ ⟨rfl, rfl, rfl⟩ F0; refine tidy F0 (fun F => ?_); clear F0; refine go_on ?_)))
        refine go_back ?_
        exact F.fin ⟨_, rfl, rfl, rfl⟩
      · rw [if_pos ⟨g2, g4⟩, if_neg (fun h => h.2 ⟨g2, g4⟩)]
        (refine go_on ?_; repeat (first | (refine f_store1 F rfl rfl rfl (fun w F => ?_); refine go_on ?_) | (refine f_storeAll F rfl rfl rfl (fun w F => ?_); refine go_on ?_) | (refine f_box1 F rfl rfl (fun q w F => ?_); refine go_on ?_) | (refine f_boxN F rfl rfl (fun q w F => ?_); refine go_on ?_) | (refine f_alloc1 F rfl (fun q w F => ?_); refine go_on ?_) | (refine f_allocN F rfl (fun q w F => ?_); refine go_on ?_) | (refine f_call F rfl rfl rPut_c ?_; clear F; rintro r O w T Φ ⟨nv', rfl, rfl, rfl⟩ F0; refine tidy F0 (fun F => ?_); clear F0; refine go_on ?_) | (refine f_call F rfl rfl rRead14_c ?_; clear F; rintro r O w T Φ ⟨rfl, rfl, rfl⟩ F0; refine tidy F0 (fun F => ?_); clear F0; refine go_on ?_)))
        refine go_back ?_
        exact F.fin ⟨_, rfl, rfl, rfl⟩
  · rw [if_neg g, if_neg (fun h => g h.1)]
    (refine go_on ?_; repeat (first | (refine f_store1 F rfl rfl rfl (fun w F => ?_); refine go_on ?_) | (refine f_storeAll F rfl rfl rfl (fun w F => ?_); refine go_on ?_) | (refine f_box1 F rfl rfl (fun q w F => ?_); refine go_on ?_) | (refine f_boxN F rfl rfl (fun q w F => ?_); refine go_on ?_) | (refine f_alloc1 F rfl (fun q w F => ?_); refine go_on ?_) | (refine f_allocN F rfl (fun q w F => ?_); refine go_on ?_) | (refine f_call F rfl rfl rPut_c ?_; clear F; rintro r O w T Φ ⟨nv', rfl, rfl, rfl⟩ F0; refine tidy F0 (fun F => ?_); clear F0; refine go_on ?_) | (refine f_call F rfl rfl rRead14_c ?_; clear F; rintro r O w T Φ ⟨rfl, rfl, rfl⟩ F0; refine tidy F0 (fun F => ?_); clear F0; refine go_on ?_)))
    refine go_back ?_
    exact F.fin ⟨_, rfl, rfl, rfl⟩
end Go.Proofs.Ytdhfikbehbpdjaa
