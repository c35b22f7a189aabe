/- What Put and Get of the reference of layer 7 answer. -/
import Derived.Test.YtejkpngghbcbbaaRef07
namespace Go.Proofs.Ytejkpngghbcbbaa
open Gk Go
set_option linter.unusedVariables false
set_option maxHeartbeats 4000000
set_option linter.unusedSimpArgs false
attribute [local irreducible] Int.decLt Int.decLe Int.decEq Int.instDecidableEq Gk.Rnds Gk.E Gk.G Gk.R Gk.RD Gk.RX Gk.RO Gk.Y Gk.Ent Gk.Sat Gk.Round Gk.After Gk.Cell Gk.Sl Gk.SlA Gk.CB Gk.OK Gk.FnC Gk.Bytes Gk.BytesL Gk.StrL Gk.Buf Gk.MapI
theorem Ino.none_of {n : Ino} (h : n.may) : (n.kind = 0 ∧ n.gen = 0 ∧ n.change = 0) ↔ n.none := by
  obtain ⟨_, _, h3, _, h5⟩ := h
  constructor
  · rintro ⟨k1, k2, k3⟩
    rw [if_pos k1] at h5
    obtain ⟨m1, m2, m3, m4, m5⟩ := h5
    refine ⟨k1, k2, m1, m2, m3, k3, m4, m5, ?_⟩
    rw [h3, m3]; rfl
  · rintro ⟨k1, k2, _, _, _, k3, _⟩
    exact ⟨k1, k2, k3⟩

theorem rPut_c {n : Ino} {v : Value} (h : n.fit) : Con Try.prog 43 [inoV n v] [] [] [Fact.u32s v n.blocks] fun r T Φ => r = .tuple #[str (if n.may ∧ ¬ n.none then n.bytes else []), errV (if n.may then 0 else 1)] ∧ T = [] ∧ Φ = [] := by
  have hf := h
  have hlen := n.bytes_len
  obtain ⟨h1, h2, h3, h4, h5, h6, h7, h8, h9, h10⟩ := h
  refine con_of (fun O0 w0 F => ?_)
  refine tidy F (fun F => ?_)
  refine fn_of _ Try.func43 rfl (by kernel_rfl) Try.ntmps43 rfl ?_
  obtain ⟨a, c, rfl, _⟩ := (F.sl (v := v) (cs := n.blocks.map u32V)).form
  refine go_on ?_
  (first | refine f_box1 F rfl rfl (fun q w F => ?_) | refine f_boxN F rfl rfl (fun q w F => ?_)); refine go_on ?_
  refine f_call F rfl rfl (rCheck_c (n := n)) ?_
  clear F; rintro r O w T Φ ⟨rfl, rfl, rfl⟩ F0
  refine tidy F0 (fun F => ?_); clear F0
  refine go_on ?_
  by_cases g : n.may
  · rw [if_pos g]
    refine go_on ?_
    refine f_call F rfl rfl (rEmpty_c (n := n)) ?_
    clear F; rintro r O w T Φ ⟨rfl, rfl, rfl⟩ F0
    refine tidy F0 (fun F => ?_); clear F0
    refine go_on ?_
    have hn := Ino.none_of g
    by_cases g2 : n.none
    · have e : ¬ (n.may ∧ ¬ n.none) := fun h => h.2 g2
      have e2 := hn.2 g2
      rw [if_neg e]
      refine go_on ?_
      refine go_back ?_
      exact F.fin ⟨rfl, rfl, rfl⟩
    · have e : n.may ∧ ¬ n.none := ⟨g, g2⟩
      have e2 : ¬ (n.kind = 0 ∧ n.gen = 0 ∧ n.change = 0) := fun h => g2 (hn.1 h)
      rw [if_pos e]
      refine go_on ?_
      refine f_drawA F [] [(0, true), (1, true), (3, true), (4, true), (7, true), (8, true), (11, true), (12, true), (15, true), (16, true), (2, false), (5, false), (6, true), (9, false), (10, true), (13, false), (14, true), (17, false), (18, true), (19, true)] (by kernel_rfl) (by kernel_rfl) (fun w F hS => ?_); refine go_look ?_
      refine rd_do rfl ?_
      (try refine r_go rfl rfl ?_)
      refine f_call F rfl rfl rU32_c ?_
      clear F; rintro r O w T Φ ⟨rfl, rfl, rfl⟩ F0
      refine tidy F0 (fun F => ?_); clear F0
      refine r_nil ?_; refine e_afterF F (fun hS => ?_); refine go_look ?_
      refine rd_do rfl ?_
      (try refine r_go rfl rfl ?_)
      refine f_call F rfl rfl rU32_c ?_
      clear F; rintro r O w T Φ ⟨rfl, rfl, rfl⟩ F0
      refine tidy F0 (fun F => ?_); clear F0
      refine r_nil ?_; refine e_afterF F (fun hS => ?_); refine go_look ?_
      refine rd_do rfl ?_
      (try refine r_go rfl rfl ?_)
      refine f_call F rfl rfl rU32_c ?_
      clear F; rintro r O w T Φ ⟨rfl, rfl, rfl⟩ F0
      refine tidy F0 (fun F => ?_); clear F0
      refine r_nil ?_; refine e_afterF F (fun hS => ?_); refine go_look ?_
      refine rd_do rfl ?_
      (try refine r_go rfl rfl ?_)
      refine f_call F rfl rfl rU32_c ?_
      clear F; rintro r O w T Φ ⟨rfl, rfl, rfl⟩ F0
      refine tidy F0 (fun F => ?_); clear F0
      refine r_nil ?_; refine e_afterF F (fun hS => ?_); refine go_look ?_
      refine rd_do rfl ?_
      (try refine r_go rfl rfl ?_)
      refine f_call F rfl rfl rU32_c ?_
      clear F; rintro r O w T Φ ⟨rfl, rfl, rfl⟩ F0
      refine tidy F0 (fun F => ?_); clear F0
      refine r_nil ?_; refine e_afterF F (fun hS => ?_); refine go_look ?_
      refine rd_done ?_; refine go_on ?_
      refine f_drawA F [] [(0, true), (1, true), (2, true), (4, true), (5, true), (8, true), (9, true), (12, true), (13, true), (14, true), (15, true), (3, false), (6, false), (7, true), (10, false), (11, true), (16, false), (17, true), (18, true), (19, true)] (by kernel_rfl) (by kernel_rfl) (fun w F hS => ?_); refine go_look ?_
      refine rd_do rfl ?_
      (try refine r_go rfl rfl ?_)
      refine f_call F rfl rfl rU64_c ?_
      clear F; rintro r O w T Φ ⟨rfl, rfl, rfl⟩ F0
      refine tidy F0 (fun F => ?_); clear F0
      refine r_nil ?_; refine e_afterF F (fun hS => ?_); refine go_look ?_
      refine rd_do rfl ?_
      (try refine r_go rfl rfl ?_)
      refine f_call F rfl rfl rU64_c ?_
      clear F; rintro r O w T Φ ⟨rfl, rfl, rfl⟩ F0
      refine tidy F0 (fun F => ?_); clear F0
      refine r_nil ?_; refine e_afterF F (fun hS => ?_); refine go_look ?_
      refine rd_do rfl ?_
      (try refine r_go rfl rfl ?_)
      refine f_call F rfl rfl rU64_c ?_
      clear F; rintro r O w T Φ ⟨rfl, rfl, rfl⟩ F0
      refine tidy F0 (fun F => ?_); clear F0
      refine r_nil ?_; refine e_afterF F (fun hS => ?_); refine go_look ?_
      refine rd_do rfl ?_
      (try refine r_go rfl rfl ?_)
      refine f_call F rfl rfl rU32_c ?_
      clear F; rintro r O w T Φ ⟨rfl, rfl, rfl⟩ F0
      refine tidy F0 (fun F => ?_); clear F0
      refine r_nil ?_; refine e_afterF F (fun hS => ?_); refine go_look ?_
      refine rd_done ?_; refine go_on ?_
      refine g_loop (X := Nat) (fun y => [(1, ptr q), (3, .int .i64 0), (5, str (nB 4 [n.kind, n.gen, n.links, n.mode, n.size] ++ nB 8 [n.change, n.cookie, n.verf] ++ be 4 n.blocks.length ++ nB 4 (n.blocks.take y))), (6, .int .i64 y)])
        (fun y wr => ∃ O, Fr [] O0 w0 O wr [(2, Thing.cells q [.int .u32 n.kind, .int .u32 n.gen, .int .u32 n.links, .int .u32 n.mode, .int .u32 n.size, .int .u64 n.change, .int .u64 n.cookie, .int .u64 n.verf, .slice a n.blocks.length c])] [Fact.u32s (.slice a n.blocks.length c) n.blocks] ∧ y ≤ n.blocks.length) (fun y => n.blocks.length - y) 0
        (sub_cons rfl rfl (sub_cons rfl rfl (sub_cons rfl (by simp [nB]) (sub_cons rfl rfl sub_nil)))) ⟨_, F.wk, Nat.zero_le _⟩ ?_
      clear F
      rintro i w ⟨O, F, hi⟩
      refine go_on ?_
      refine g_dec rfl (fun g => ?_) (fun g => ?_)
      · have hi' : i < n.blocks.length := by omega
        have hx := h9 n.blocks[i] (List.getElem_mem hi')
        refine go_on ?_
        obtain ⟨x, rfl, hc⟩ := ((F.sl (cs := n.blocks.map u32V))).atm hi'
        have F := F.fact (f := Fact.cell _ _) hc
        refine go_on ?_
        refine f_call F rfl rfl rU32_c ?_
        clear F; rintro r O w T Φ ⟨rfl, rfl, rfl⟩ F0
        refine tidy F0 (fun F => ?_); clear F0
        refine go_on ?_
        exact e_round (i + 1) (sub_cons rfl rfl (sub_cons rfl rfl (sub_cons rfl (by rw [nB_take 4 n.blocks i hi']; simp only [List.append_assoc]) (sub_cons rfl rfl sub_nil)))) ⟨_, F.wk, by omega⟩ (by omega)
      · have hi' : i = n.blocks.length := by omega
        subst hi'
        rw [List.take_length]
        refine go_on ?_
        refine go_back ?_
        exact F.fin ⟨rfl, rfl, rfl⟩
  · have e : ¬ (n.may ∧ ¬ n.none) := fun h => g h.1
    rw [if_neg g, if_neg e]
    refine go_on ?_
    refine go_back ?_
    exact F.fin ⟨rfl, rfl, rfl⟩

theorem rRead32_g {bs : List UInt8} {e x e' : Nat} {bs' : List UInt8} (h : rdN bs e 4 = (x, bs', e') ∧ bs.length < 9223372036854775808) : Con Try.prog 36 [rv bs e] [] [] [] fun r T Φ => r = .tuple #[rv bs' e', .int .u32 x] ∧ T = [] ∧ Φ = [] := by
  have := rRead32_c (bs := bs) (e := e) h.2
  rw [h.1] at this
  exact this
theorem rRead64_g {bs : List UInt8} {e x e' : Nat} {bs' : List UInt8} (h : rdN bs e 8 = (x, bs', e') ∧ bs.length < 9223372036854775808) : Con Try.prog 37 [rv bs e] [] [] [] fun r T Φ => r = .tuple #[rv bs' e', .int .u64 x] ∧ T = [] ∧ Φ = [] := by
  have := rRead64_c (bs := bs) (e := e) h.2
  rw [h.1] at this
  exact this
theorem rdN_shrink {bs bs' : List UInt8} {e e' x n : Nat} (h : rdN bs e n = (x, bs', e')) : bs'.length ≤ bs.length := by
  have := rdN_rest bs e n
  rw [h] at this
  exact this
theorem rdNs_rest (k : Nat) : ∀ (m : Nat) (bs : List UInt8) (e : Nat), (rdNs k m bs e).2.1.length ≤ bs.length
  | 0, bs, e => Nat.le_refl _
  | m + 1, bs, e => Nat.le_trans (rdNs_rest k m _ _) (rdN_rest bs e k)

theorem rGet_c {b : List UInt8} (h : b.length ≤ 140737488355328) : Con Try.prog 51 [str b] [] [] [] fun r T Φ => ∃ v, r = .tuple #[inoV (inoGet b).1 v, errV (inoGet b).2] ∧ T = [] ∧ Φ = [Fact.u32s v (inoGet b).1.blocks] := by
  refine con_of (fun O0 w0 F => ?_)
  refine tidy F (fun F => ?_)
  refine fn_of _ Try.func51 rfl (by kernel_rfl) Try.ntmps51 rfl ?_
  by_cases hb : b = []
  · have e : inoGet b = (.zero, 0) := by unfold inoGet; rw [if_pos hb]
    rw [e]
    refine go_on ?_
    (first | refine f_alloc1 F rfl (fun z w F => ?_) | refine f_allocN F rfl (fun z w F => ?_)); refine go_on ?_
    refine f_storeAll F rfl rfl rfl (fun w F => ?_); refine go_on ?_
    refine go_back ?_
    exact (F.fact (f := Fact.u32s (.slice none 0 0) []) Sl.nil).fin ⟨_, rfl, rfl, rfl⟩
  obtain ⟨x1, b1, e1, r1⟩ : ∃ x b' e', rdN b 0 4 = (x, b', e') := ⟨_, _, _, rfl⟩
  obtain ⟨x2, b2, e2, r2⟩ : ∃ x b' e', rdN b1 e1 4 = (x, b', e') := ⟨_, _, _, rfl⟩
  obtain ⟨x3, b3, e3, r3⟩ : ∃ x b' e', rdN b2 e2 4 = (x, b', e') := ⟨_, _, _, rfl⟩
  obtain ⟨x4, b4, e4, r4⟩ : ∃ x b' e', rdN b3 e3 4 = (x, b', e') := ⟨_, _, _, rfl⟩
  obtain ⟨x5, b5, e5, r5⟩ : ∃ x b' e', rdN b4 e4 4 = (x, b', e') := ⟨_, _, _, rfl⟩
  obtain ⟨x6, b6, e6, r6⟩ : ∃ x b' e', rdN b5 e5 8 = (x, b', e') := ⟨_, _, _, rfl⟩
  obtain ⟨x7, b7, e7, r7⟩ : ∃ x b' e', rdN b6 e6 8 = (x, b', e') := ⟨_, _, _, rfl⟩
  obtain ⟨x8, b8, e8, r8⟩ : ∃ x b' e', rdN b7 e7 8 = (x, b', e') := ⟨_, _, _, rfl⟩
  obtain ⟨x9, b9, e9, r9⟩ : ∃ x b' e', rdN b8 e8 4 = (x, b', e') := ⟨_, _, _, rfl⟩
  have l1 := rdN_shrink r1
  have l2 := rdN_shrink r2
  have l3 := rdN_shrink r3
  have l4 := rdN_shrink r4
  have l5 := rdN_shrink r5
  have l6 := rdN_shrink r6
  have l7 := rdN_shrink r7
  have l8 := rdN_shrink r8
  have l9 := rdN_shrink r9
  have hx9 : x9 < 256 ^ 4 := by have := rdN_lt b8 e8 4; rw [r9] at this; exact this
  have eg : inoGet b = if e9 ≠ 0 then (.zero, e9) else if 8 < x9 then (.zero, 13) else
      match rdNs 4 x9 b9 e9 with
      | (bl, b10, e10) => if endE b10 e10 ≠ 0 then (.zero, endE b10 e10) else if ¬ (Ino.of [x1, x2, x3, x4, x5] [x6, x7, x8] bl).may ∨ (Ino.of [x1, x2, x3, x4, x5] [x6, x7, x8] bl).none then (.zero, 11) else (.of [x1, x2, x3, x4, x5] [x6, x7, x8] bl, 0) := by
    unfold inoGet
    rw [if_neg hb]
    simp only [rdNs, r1, r2, r3, r4, r5, r6, r7, r8, r9]
  rw [eg]
  clear eg
  refine go_on ?_
  (first | refine f_alloc1 F rfl (fun z w F => ?_) | refine f_allocN F rfl (fun z w F => ?_)); refine go_on ?_
  (first | refine f_alloc1 F rfl (fun m w F => ?_) | refine f_allocN F rfl (fun m w F => ?_)); refine go_on ?_
  refine f_storeAll F rfl rfl rfl (fun w F => ?_); refine go_on ?_
  refine f_call F rfl rfl rRead32_g ?_
  clear F; rintro r O w T Φ ⟨rfl, rfl, rfl⟩ F0
  refine tidy F0 (fun F => ?_); clear F0
  refine go_on ?_
  (first | refine f_alloc1 F rfl (fun c w F => ?_) | refine f_allocN F rfl (fun c w F => ?_)); refine go_on ?_
  refine f_storeAll F rfl rfl rfl (fun w F => ?_); refine go_on ?_
  refine f_store1 F rfl rfl rfl (fun w F => ?_); refine go_on ?_
  refine f_call F rfl rfl rRead32_g ?_
  clear F; rintro r O w T Φ ⟨rfl, rfl, rfl⟩ F0
  refine tidy F0 (fun F => ?_); clear F0
  refine go_on ?_
  refine f_storeAll F rfl rfl rfl (fun w F => ?_); refine go_on ?_
  refine f_store1 F rfl rfl rfl (fun w F => ?_); refine go_on ?_
  refine f_call F rfl rfl rRead32_g ?_
  clear F; rintro r O w T Φ ⟨rfl, rfl, rfl⟩ F0
  refine tidy F0 (fun F => ?_); clear F0
  refine go_on ?_
  refine f_storeAll F rfl rfl rfl (fun w F => ?_); refine go_on ?_
  refine f_store1 F rfl rfl rfl (fun w F => ?_); refine go_on ?_
  refine f_call F rfl rfl rRead32_g ?_
  clear F; rintro r O w T Φ ⟨rfl, rfl, rfl⟩ F0
  refine tidy F0 (fun F => ?_); clear F0
  refine go_on ?_
  refine f_storeAll F rfl rfl rfl (fun w F => ?_); refine go_on ?_
  refine f_store1 F rfl rfl rfl (fun w F => ?_); refine go_on ?_
  refine f_call F rfl rfl rRead32_g ?_
  clear F; rintro r O w T Φ ⟨rfl, rfl, rfl⟩ F0
  refine tidy F0 (fun F => ?_); clear F0
  refine go_on ?_
  refine f_storeAll F rfl rfl rfl (fun w F => ?_); refine go_on ?_
  refine f_store1 F rfl rfl rfl (fun w F => ?_); refine go_on ?_
  refine f_call F rfl rfl rRead64_g ?_
  clear F; rintro r O w T Φ ⟨rfl, rfl, rfl⟩ F0
  refine tidy F0 (fun F => ?_); clear F0
  refine go_on ?_
  refine f_storeAll F rfl rfl rfl (fun w F => ?_); refine go_on ?_
  refine f_store1 F rfl rfl rfl (fun w F => ?_); refine go_on ?_
  refine f_call F rfl rfl rRead64_g ?_
  clear F; rintro r O w T Φ ⟨rfl, rfl, rfl⟩ F0
  refine tidy F0 (fun F => ?_); clear F0
  refine go_on ?_
  refine f_storeAll F rfl rfl rfl (fun w F => ?_); refine go_on ?_
  refine f_store1 F rfl rfl rfl (fun w F => ?_); refine go_on ?_
  refine f_call F rfl rfl rRead64_g ?_
  clear F; rintro r O w T Φ ⟨rfl, rfl, rfl⟩ F0
  refine tidy F0 (fun F => ?_); clear F0
  refine go_on ?_
  refine f_storeAll F rfl rfl rfl (fun w F => ?_); refine go_on ?_
  refine f_store1 F rfl rfl rfl (fun w F => ?_); refine go_on ?_
  refine f_call F rfl rfl rRead32_g ?_
  clear F; rintro r O w T Φ ⟨rfl, rfl, rfl⟩ F0
  refine tidy F0 (fun F => ?_); clear F0
  refine go_on ?_
  refine f_storeAll F rfl rfl rfl (fun w F => ?_); refine go_on ?_
  by_cases g1 : e9 = 0
  · rw [if_neg (by simpa using g1)]
    by_cases g2 : 8 < x9
    · rw [if_pos g2]
      refine go_on ?_
      refine f_storeAll F rfl rfl rfl (fun w F => ?_); refine go_on ?_
      refine go_back ?_
      exact (F.fact (f := Fact.u32s (.slice none 0 0) []) Sl.nil).fin ⟨_, rfl, rfl, rfl⟩
    · rw [if_neg g2]
      refine go_on ?_
      have F := F.nilbuf 1
      refine g_loop (X := Nat × Value) (fun y => [(2, ptr z), (4, ptr m), (5, ptr c), (8, .int .i64 x9), (9, .int .i64 y.1)])
        (fun y wr => ∃ O, Fr [] O0 w0 O wr [(2, Thing.cells z [.int .u32 0, .int .u32 0, .int .u32 0, .int .u32 0, .int .u32 0, .int .u64 0, .int .u64 0, .int .u64 0, .slice none 0 0]), (2, Thing.cells m [.int .u32 x1, .int .u32 x2, .int .u32 x3, .int .u32 x4, .int .u32 x5, .int .u64 x6, .int .u64 x7, .int .u64 x8, y.2]), (2, Thing.cells c [str (rdNs 4 y.1 b9 e9).2.1, .int .i64 (rdNs 4 y.1 b9 e9).2.2]), (2, Thing.buf 1 y.2 y.1 ((rdNs 4 y.1 b9 e9).1.map u32V))] [] ∧ y.1 ≤ x9) (fun y => x9 - y.1) (0, .slice none 0 0) (sub_cons rfl rfl (sub_cons rfl rfl (sub_cons rfl rfl (sub_cons rfl rfl (sub_cons rfl rfl (sub_nil)))))) ⟨_, F.wk, Nat.zero_le _⟩ ?_
      clear F
      rintro ⟨i, v⟩ w ⟨O, F, hi⟩
      dsimp only at F hi ⊢
      refine go_on ?_
      refine g_dec rfl (fun h => ?_) (fun h => ?_)
      · have hi' : i < x9 := by omega
        obtain ⟨x, b', e', rr⟩ : ∃ x b' e', rdN (rdNs 4 i b9 e9).2.1 (rdNs 4 i b9 e9).2.2 4 = (x, b', e') := ⟨_, _, _, rfl⟩
        have lr := rdNs_rest 4 i b9 e9
        refine go_on ?_
        refine f_call F rfl rfl rRead32_g ?_
        clear F; rintro r O w T Φ ⟨rfl, rfl, rfl⟩ F0
        refine tidy F0 (fun F => ?_); clear F0
        refine go_on ?_
        refine f_storeAll F rfl rfl rfl (fun w F => ?_); refine go_on ?_
        refine f_buildSlice (cs := [_]) F rfl rfl rfl rfl (fun q w F => ?_); refine go_on ?_
        refine f_append F rfl rfl rfl (F.srcOne) (fun r w O F => ?_); refine go_on ?_
        obtain ⟨ra, rc, rfl, _⟩ := (F.bufAt (v := r)).form
        refine f_store1 F rfl rfl rfl (fun w F => ?_); refine go_on ?_
        refine e_round (i + 1, .slice ra (i + 1) rc) (sub_cons rfl rfl (sub_cons rfl rfl (sub_cons rfl rfl (sub_cons rfl rfl (sub_cons rfl rfl (sub_nil)))))) ⟨O, ?_, by simp only; omega⟩ (by simp only; omega)
        dsimp only
        rw [rdNs_succ, List.map_append, rr]
        exact F.wk
      · have hi' : i = x9 := by omega
        subst hi'
        obtain ⟨bl, b10, e10, rr⟩ : ∃ bl b' e', rdNs 4 i b9 e9 = (bl, b', e') := ⟨_, _, _, rfl⟩
        have hl := rdNs_len 4 i b9 e9
        have hlt := rdNs_lt 4 i b9 e9
        have lr := rdNs_rest 4 i b9 e9
        rw [rr] at F hl hlt lr
        rw [rr]
        dsimp only at F hl hlt lr ⊢
        subst hl
        have hfit : (Ino.of [x1, x2, x3, x4, x5] [x6, x7, x8] bl).fit := by
          have k1 := rdN_lt b 0 4
          have k2 := rdN_lt b1 e1 4
          have k3 := rdN_lt b2 e2 4
          have k4 := rdN_lt b3 e3 4
          have k5 := rdN_lt b4 e4 4
          have k6 := rdN_lt b5 e5 8
          have k7 := rdN_lt b6 e6 8
          have k8 := rdN_lt b7 e7 8
          simp only [r1, r2, r3, r4, r5, r6, r7, r8] at k1 k2 k3 k4 k5 k6 k7 k8
          exact ⟨k1, k2, k3, k4, k5, k6, k7, k8, hlt, by show bl.length ≤ 1000000; omega⟩
        refine go_on ?_
        refine f_call F rfl rfl rEnd_c ?_
        clear F; rintro r O w T Φ ⟨rfl, rfl, rfl⟩ F0
        refine tidy F0 (fun F => ?_); clear F0
        refine go_on ?_
        obtain ⟨O, F⟩ := F.frzBuf
        obtain ⟨va, vc, rfl, _⟩ := (F.sl (v := v)).form
        by_cases g3 : endE b10 e10 = 0
        · rw [if_neg (by simpa using g3)]
          refine go_on ?_
          refine f_call F rfl rfl (rCheck_c (n := Ino.of [x1, x2, x3, x4, x5] [x6, x7, x8] bl)) ?_
          clear F; rintro r O w T Φ ⟨rfl, rfl, rfl⟩ F0
          refine tidy F0 (fun F => ?_); clear F0
          refine go_on ?_
          by_cases g4 : (Ino.of [x1, x2, x3, x4, x5] [x6, x7, x8] bl).may
          · rw [if_pos g4]
            refine go_on ?_
            refine f_call F rfl rfl (rEmpty_c (n := Ino.of [x1, x2, x3, x4, x5] [x6, x7, x8] bl)) ?_
            clear F; rintro r O w T Φ ⟨rfl, rfl, rfl⟩ F0
            refine tidy F0 (fun F => ?_); clear F0
            refine go_on ?_
            have hn := Ino.none_of g4
            by_cases g5 : (Ino.of [x1, x2, x3, x4, x5] [x6, x7, x8] bl).none
            · have g6 := hn.2 g5
              rw [if_pos (.inr g5)]
              refine go_on ?_
              refine f_storeAll F rfl rfl rfl (fun w F => ?_); refine go_on ?_
              refine go_back ?_
              exact (F.fact (f := Fact.u32s (.slice none 0 0) []) Sl.nil).fin ⟨_, rfl, rfl, rfl⟩
            · have g6 := fun h => g5 (hn.1 h)
              rw [if_neg (fun h => h.elim (fun h => h g4) g5)]
              refine go_on ?_
              refine f_storeAll F rfl rfl rfl (fun w F => ?_); refine go_on ?_
              refine go_back ?_
              exact F.fin ⟨_, rfl, rfl, rfl⟩
          · rw [if_neg g4, if_pos (.inl g4)]
            refine go_on ?_
            refine f_storeAll F rfl rfl rfl (fun w F => ?_); refine go_on ?_
            refine go_back ?_
            exact (F.fact (f := Fact.u32s (.slice none 0 0) []) Sl.nil).fin ⟨_, rfl, rfl, rfl⟩
        · rw [if_pos g3]
          refine go_on ?_
          refine f_storeAll F rfl rfl rfl (fun w F => ?_); refine go_on ?_
          refine go_back ?_
          exact (F.fact (f := Fact.u32s (.slice none 0 0) []) Sl.nil).fin ⟨_, rfl, rfl, rfl⟩
  · rw [if_pos g1]
    refine go_on ?_
    refine f_draw [(2, Thing.cells c _)] F [] [(0, true), (1, true), (2, true), (3, false), (4, true)] (by kernel_rfl) (by kernel_rfl) (fun w F hS => ?_); refine go_look ?_
    refine rd_do rfl ?_; (try refine r_go rfl rfl ?_)
    refine f_storeAll F rfl rfl rfl (fun w F => ?_); refine go_on ?_
    (try refine r_nil ?_); refine e_afterF F (fun hS => ?_); refine go_look ?_
    refine rd_done ?_; refine go_on ?_
    refine go_back ?_
    exact (F.fact (f := Fact.u32s (.slice none 0 0) []) Sl.nil).fin ⟨_, rfl, rfl, rfl⟩
end Go.Proofs.Ytejkpngghbcbbaa
