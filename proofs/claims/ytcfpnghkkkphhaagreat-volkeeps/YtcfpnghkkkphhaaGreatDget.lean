/- The entries of bytes. -/
import Derived.Test.YtcfpnghkkkphhaaGreatDmay
import Derived.Test.YtcfpnghkkkphhaaGreatInodeg
namespace Go.Proofs.YtcfpnghkkkphhaaGreat
open Gk Go
set_option linter.unusedVariables false
set_option maxHeartbeats 4000000
set_option maxRecDepth 4000
set_option linter.unusedSimpArgs false
attribute [local irreducible] Int.decLt Int.decLe Int.decEq Int.instDecidableEq Gk.Rnds Gk.E Gk.G Gk.R Gk.RD Gk.RX Gk.RO Gk.Y Gk.Ent Gk.Sat Gk.Round Gk.After Gk.Cell Gk.Sl Gk.SlA Gk.CB Gk.OK Gk.FnC Gk.Bytes Gk.BytesL Gk.StrL Gk.Buf Gk.MapI
/-- One entry that is read. -/
def rdE (bs : List UInt8) (e : Nat) : En × List UInt8 × Nat :=
  match rdN bs e 8 with
  | (x1, b1, e1) =>
    match rdN b1 e1 4 with
    | (x2, b2, e2) =>
      match rdN b2 e2 4 with
      | (x3, b3, e3) =>
        match rdOpaque b3 e3 24 with
        | (nm, b4, e4) => (⟨x1, x2, x3, nm⟩, b4, e4)
/-- The entries of bytes, one by one. -/
def rdEs : Nat → List UInt8 → List En → List En × Nat
  | 0, _, acc => (acc, 0)
  | n + 1, bs, acc => if bs = [] then (acc, 0) else if (rdE bs 0).2.2 = 0 then rdEs n (rdE bs 0).2.1 (acc ++ [(rdE bs 0).1]) else ([], (rdE bs 0).2.2)
/-- The entries of bytes, and the error. -/
def dirGet (b : List UInt8) : List En × Nat := if (rdEs b.length b []).2 = 0 then (if mayE (rdEs b.length b []).1 then ((rdEs b.length b []).1, 0) else ([], 11)) else ([], (rdEs b.length b []).2)
theorem rdN_e0 {bs : List UInt8} {e n : Nat} (h : (rdN bs e n).2.2 = 0) : e = 0 := by
  by_cases g : e = 0
  · exact g
  · rw [rdN_err _ _ g] at h; exact h
theorem rdOp_e0 {bs : List UInt8} {e : Nat} {m : Int} (h : (rdOpaque bs e m).2.2 = 0) : e = 0 := by
  by_cases g : e = 0
  · exact g
  · rw [rdOpaque_err _ _ g] at h; exact h
/-- An entry that is read takes bytes, and has a short name. -/
theorem rdE_ok {bs : List UInt8} (h : (rdE bs 0).2.2 = 0) : (rdE bs 0).2.1.length < bs.length ∧ (rdE bs 0).1.name.length ≤ 24 := by
  obtain ⟨x1, b1, e1, r1⟩ : ∃ x b' e', rdN bs 0 8 = (x, b', e') := ⟨_, _, _, rfl⟩
  obtain ⟨x2, b2, e2, r2⟩ : ∃ x b' e', rdN b1 e1 4 = (x, b', e') := ⟨_, _, _, rfl⟩
  obtain ⟨x3, b3, e3, r3⟩ : ∃ x b' e', rdN b2 e2 4 = (x, b', e') := ⟨_, _, _, rfl⟩
  obtain ⟨nm, b4, e4, r4⟩ : ∃ x b' e', rdOpaque b3 e3 24 = (x, b', e') := ⟨_, _, _, rfl⟩
  have hE : rdE bs 0 = (⟨x1, x2, x3, nm⟩, b4, e4) := by unfold rdE; simp only [r1, r2, r3, r4]
  rw [hE] at h ⊢
  dsimp only at h ⊢
  subst h
  have z3 : e3 = 0 := rdOp_e0 (by rw [r4])
  subst z3
  have z2 : e2 = 0 := rdN_e0 (by rw [r3])
  subst z2
  have z1 : e1 = 0 := rdN_e0 (by rw [r2])
  subst z1
  have l1 := congrArg List.length (rdN_inv r1).1
  have l2 := congrArg List.length (rdN_inv r2).1
  have l3 := congrArg List.length (rdN_inv r3).1
  obtain ⟨g4, _, g5⟩ := rdOpaque_inv r4
  have l4 := congrArg List.length g4
  rw [List.length_append] at l1 l2 l3 l4
  rw [be_length] at l1 l2 l3
  exact ⟨by omega, by omega⟩
theorem dget_c {u : Value} {b : List UInt8} (h : b.length ≤ 100000) : Con Tryz.prog 67 [u] [] [] [Fact.bytes u b] fun r T Φ => ∃ v, r = .tuple #[v, errV (dirGet b).2] ∧ T = [] ∧ Φ = [Fact.rel 4 EnR v (dirGet b).1] := by
  refine con_of (fun O0 w0 F => ?_)
  refine tidy F (fun F => ?_)
  refine fn_of _ Tryz.func67 rfl (by kernel_rfl) Tryz.ntmps67 rfl ?_
  obtain ⟨a, c, rfl, _⟩ := (F.bytes (v := u)).form
  have F := F.fact (f := Fact.rel 4 EnR (.slice none 0 0) ([] : List En)) SlR.nil
  refine go_on ?_
  refine f_call F rfl rfl newReader_c ?_
  clear F; rintro r O w T Φ ⟨p, rfl, rfl, rfl⟩ F0
  refine tidy F0 (fun F => ?_); clear F0
  refine go_on ?_
  have F := (F.nilbuf 4).all0 4 EnR
  refine g_loop (X := List UInt8 × List En × Value × List (List Value)) (fun y => [(4, ptr p), (5, y.2.2.1)])
    (fun y wr => ∃ O n, Fr [] O0 w0 O wr [(2, Thing.buf 4 y.2.2.1 y.2.1.length y.2.2.2.flatten), (2, Rd p y.1 0)] [Fact.all 4 EnR y.2.2.2 y.2.1, Fact.rel 4 EnR (.slice none 0 0) ([] : List En)] ∧ rdEs b.length b [] = rdEs n y.1 y.2.1 ∧ y.1.length ≤ n ∧ y.1.length + y.2.1.length ≤ b.length ∧ ∀ e ∈ y.2.1, e.name.length ≤ 24) (fun y => y.1.length)
    (b, [], .slice none 0 0, []) (sub_cons rfl rfl (sub_cons rfl rfl (sub_nil))) ⟨_, b.length, F.wk, rfl, Nat.le_refl _, Nat.le_refl _, by simp⟩ ?_
  clear F
  rintro ⟨bs, acc, v, rows⟩ w ⟨O, n, F, hr, hn, hlen, hnm⟩
  dsimp only at F hr hn hlen hnm ⊢
  obtain ⟨va, vc, rfl, _⟩ := (F.bufAt (v := v)).form
  refine go_on ?_
  refine f_call F rfl rfl (left_c (bs := bs)) ?_ (hp := trivial)
  clear F; rintro r O w T Φ ⟨rfl, rfl, rfl⟩ F0
  refine tidy F0 (fun F => ?_); clear F0
  refine go_on ?_
  by_cases h0 : bs.length = 0
  · have hbs : bs = [] := List.length_eq_zero_iff.1 h0
    subst hbs
    have hd : rdEs b.length b [] = (acc, 0) := by
      rw [hr]
      cases n with
      | zero => rfl
      | succ n => rw [rdEs, if_pos rfl]
    obtain ⟨O, F⟩ := F.frzRel (R := EnR) (ys := acc) rfl
    refine go_on ?_
    refine f_call F rfl rfl (dmay_c (l := acc)) ?_ (hp := ⟨by simp only [List.length_nil] at hlen; omega, fun e he => Nat.le_trans (hnm e he) (by omega)⟩)
    clear F; rintro r O w T Φ ⟨rfl, rfl, rfl⟩ F0
    refine tidy F0 (fun F => ?_); clear F0
    by_cases hm : mayE acc
    · have e : dirGet b = (acc, 0) := by unfold dirGet; rw [hd, if_pos rfl, if_pos hm]
      rw [e, decide_eq_true hm]
      refine go_on ?_
      refine go_back ?_
      exact F.fin ⟨_, rfl, rfl, rfl⟩
    · have e : dirGet b = ([], 11) := by unfold dirGet; rw [hd, if_pos rfl, if_neg hm]
      rw [e, decide_eq_false hm]
      refine go_on ?_
      refine go_back ?_
      exact F.fin ⟨_, rfl, rfl, rfl⟩
  · obtain ⟨k, rfl⟩ : ∃ k, n = k + 1 := ⟨n - 1, by omega⟩
    have hne : bs ≠ [] := fun e => h0 (by rw [e]; rfl)
    rw [rdEs, if_neg hne] at hr
    have hok := rdE_ok (bs := bs)
    obtain ⟨x1, b1, e1, r1⟩ : ∃ x b' e', rdN bs 0 8 = (x, b', e') := ⟨_, _, _, rfl⟩
    obtain ⟨x2, b2, e2, r2⟩ : ∃ x b' e', rdN b1 e1 4 = (x, b', e') := ⟨_, _, _, rfl⟩
    obtain ⟨x3, b3, e3, r3⟩ : ∃ x b' e', rdN b2 e2 4 = (x, b', e') := ⟨_, _, _, rfl⟩
    obtain ⟨nm, b4, e4, r4⟩ : ∃ x b' e', rdOpaque b3 e3 24 = (x, b', e') := ⟨_, _, _, rfl⟩
    have hE : rdE bs 0 = (⟨x1, x2, x3, nm⟩, b4, e4) := by unfold rdE; simp only [r1, r2, r3, r4]
    rw [hE] at hr hok
    dsimp only at hr hok
    refine go_on ?_
    (first | refine f_alloc1 F rfl (fun q6 w F => ?_) | refine f_allocN F rfl (fun q6 w F => ?_)); refine go_on ?_
    refine go_on ?_
    refine f_call F rfl rfl ru64_g ?_
    clear F; rintro r O w T Φ ⟨rfl, rfl, rfl⟩ F0
    refine tidy F0 (fun F => ?_); clear F0
    refine go_on ?_
    refine f_store1 F rfl rfl rfl (fun w F => ?_); refine go_on ?_
    refine f_call F rfl rfl ru32_g ?_
    clear F; rintro r O w T Φ ⟨rfl, rfl, rfl⟩ F0
    refine tidy F0 (fun F => ?_); clear F0
    refine go_on ?_
    refine f_store1 F rfl rfl rfl (fun w F => ?_); refine go_on ?_
    refine f_call F rfl rfl ru32_g ?_
    clear F; rintro r O w T Φ ⟨rfl, rfl, rfl⟩ F0
    refine tidy F0 (fun F => ?_); clear F0
    refine go_on ?_
    refine f_store1 F rfl rfl rfl (fun w F => ?_); refine go_on ?_
    refine f_call F rfl rfl (ropaque_c (bs := b3) (e := e3) (most := 24)) ?_ (hp := (by omega))
    clear F; rintro r O w T Φ ⟨rfl, rfl⟩ F0
    refine tidy F0 (fun F => ?_); clear F0
    rw [r4] at F
    dsimp only at F
    obtain ⟨na, nc, rfl, _⟩ := (F.bytes (xs := nm)).form
    refine go_on ?_
    refine f_store1 F rfl rfl rfl (fun w F => ?_); refine go_on ?_
    refine f_call F rfl rfl err_c ?_
    clear F; rintro r O w T Φ ⟨rfl, rfl, rfl⟩ F0
    refine tidy F0 (fun F => ?_); clear F0
    refine go_on ?_
    by_cases g : e4 = 0
    · subst g
      rw [if_pos rfl] at hr
      obtain ⟨hlt, hnl⟩ := hok rfl
      refine go_on ?_
      refine f_buildSlice (cs := [.int .u64 x1, .int .u32 x2, .int .u32 x3, str nm]) F rfl rfl rfl rfl (fun q8 w F => ?_)
      refine go_on ?_
      refine f_append F rfl rfl rfl (F.srcRow) (fun r w O F => ?_); refine go_on ?_
      have F := F.allSnoc (R := EnR) (y := ⟨x1, x2, x3, nm⟩) (row := [.int .u64 x1, .int .u32 x2, .int .u32 x3, str nm]) rfl rfl
      have e8 : rows.flatten ++ [Value.int .u64 x1, .int .u32 x2, .int .u32 x3, str nm] = (rows ++ [[Value.int .u64 x1, .int .u32 x2, .int .u32 x3, str nm]]).flatten := (flat_snoc _ _).symm
      have e9 : acc.length + 1 = (acc ++ [(⟨x1, x2, x3, nm⟩ : En)]).length := by rw [List.length_append]; rfl
      rw [e8, e9] at F
      refine e_round (b4, acc ++ [⟨x1, x2, x3, nm⟩], _, _) (sub_cons rfl rfl (sub_cons rfl rfl (sub_nil))) ⟨_, k, F.wk, hr, by simp only; omega, by simp only [List.length_append, List.length_cons, List.length_nil]; omega, fun e he => ?_⟩ (by simp only; omega)
      rcases List.mem_append.1 he with he | he
      · exact hnm e he
      · simp at he; subst he; exact hnl
    · rw [if_neg g] at hr
      have e : dirGet b = ([], e4) := by unfold dirGet; rw [hr, if_neg g]
      rw [e]
      refine go_on ?_
      refine go_back ?_
      exact F.fin ⟨_, rfl, rfl, rfl⟩
end Go.Proofs.YtcfpnghkkkphhaaGreat
