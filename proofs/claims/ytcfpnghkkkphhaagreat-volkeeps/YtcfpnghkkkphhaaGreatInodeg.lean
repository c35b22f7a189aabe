/- What Get of inode does. -/
import Derived.Test.YtcfpnghkkkphhaaGreatInode
namespace Go.Proofs.YtcfpnghkkkphhaaGreat
open Gk Go
set_option linter.unusedVariables false
set_option maxHeartbeats 4000000
set_option maxRecDepth 4000
set_option linter.unusedSimpArgs false
attribute [local irreducible] Int.decLt Int.decLe Int.decEq Int.instDecidableEq Gk.Rnds Gk.E Gk.G Gk.R Gk.RD Gk.RX Gk.RO Gk.Y Gk.Ent Gk.Sat Gk.Round Gk.After Gk.Cell Gk.Sl Gk.SlA Gk.CB Gk.OK Gk.FnC Gk.Bytes Gk.BytesL Gk.StrL Gk.Buf Gk.MapI
/-! ### getting -/

def rdNs (k : Nat) : Nat → List UInt8 → Nat → List Nat × List UInt8 × Nat
  | 0, bs, e => ([], bs, e)
  | m + 1, bs, e => ((rdN bs e k).1 :: (rdNs k m (rdN bs e k).2.1 (rdN bs e k).2.2).1, (rdNs k m (rdN bs e k).2.1 (rdN bs e k).2.2).2)

theorem rdNs_succ (k : Nat) : ∀ (m : Nat) (bs : List UInt8) (e : Nat), rdNs k (m + 1) bs e = ((rdNs k m bs e).1 ++ [(rdN (rdNs k m bs e).2.1 (rdNs k m bs e).2.2 k).1], (rdN (rdNs k m bs e).2.1 (rdNs k m bs e).2.2 k).2)
  | 0, bs, e => by simp [rdNs]
  | m + 1, bs, e => by
    rw [rdNs, rdNs_succ k m]
    simp [rdNs]
theorem rdNs_len (k : Nat) : ∀ (m : Nat) (bs : List UInt8) (e : Nat), (rdNs k m bs e).1.length = m
  | 0, bs, e => rfl
  | m + 1, bs, e => by simp [rdNs, rdNs_len k m]
theorem rdNs_lt (k : Nat) : ∀ (m : Nat) (bs : List UInt8) (e x : Nat), x ∈ (rdNs k m bs e).1 → x < 256 ^ k
  | 0, bs, e, x, h => by cases h
  | m + 1, bs, e, x, h => by
    rcases List.mem_cons.1 h with rfl | h
    · exact rdN_lt bs e k
    · exact rdNs_lt k m _ _ x h

def Ino.zero : Ino := ⟨0, 0, 0, 0, 0, 0, 0, 0, []⟩

def Ino.of (l m k : List Nat) : Ino := ⟨l.getD 0 0, l.getD 1 0, l.getD 2 0, l.getD 3 0, l.getD 4 0, m.getD 0 0, m.getD 1 0, m.getD 2 0, k⟩

/-- The one of bytes, and the error. -/
def inoGet (b : List UInt8) : Ino × Nat :=
  if b = [] then (.zero, 0) else
  match rdNs 4 5 b 0 with
  | (l, b1, e1) =>
    match rdNs 8 3 b1 e1 with
    | (m, b2, e2) =>
      match rdN b2 e2 4 with
      | (k, b3, e3) =>
        if e3 ≠ 0 then (.zero, e3) else if 8 < k then (.zero, 13) else
        match rdNs 4 k b3 e3 with
        | (bl, b4, e4) => if endE b4 e4 ≠ 0 then (.zero, endE b4 e4) else if ¬ (Ino.of l m bl).may ∨ (Ino.of l m bl).none then (.zero, 11) else (.of l m bl, 0)

theorem ru32_g {p e : Nat} {bs : List UInt8} {x e' : Nat} {bs' : List UInt8} (h : rdN bs e 4 = (x, bs', e')) : Con Tryz.prog 56 [ptr p] [Rd p bs e] [] [] fun r T Φ => r = .int .u32 x ∧ T = [Rd p bs' e'] ∧ Φ = [] := by
  have := ru32_c (p := p) (e := e) (bs := bs) trivial
  rw [h] at this
  exact this
theorem ru64_g {p e : Nat} {bs : List UInt8} {x e' : Nat} {bs' : List UInt8} (h : rdN bs e 8 = (x, bs', e')) : Con Tryz.prog 30 [ptr p] [Rd p bs e] [] [] fun r T Φ => r = .int .u64 x ∧ T = [Rd p bs' e'] ∧ Φ = [] := by
  have := ru64_c (p := p) (e := e) (bs := bs) trivial
  rw [h] at this
  exact this

theorem inoGet_c {u : Value} {b : List UInt8} (h : b.length ≤ 140737488355328) : Con Tryz.prog 36 [u] [] [] [Fact.bytes u b] fun r T Φ => ∃ v, r = .tuple #[inoV (inoGet b).1 v, errV (inoGet b).2] ∧ T = [] ∧ Φ = [Fact.u32s v (inoGet b).1.blocks] := by
  refine con_of (fun O0 w0 F => ?_)
  refine tidy F (fun F => ?_)
  refine fn_of _ Tryz.func36 rfl (by kernel_rfl) Tryz.ntmps36 rfl ?_
  obtain ⟨a, c, rfl, _⟩ := (F.bytes (v := u)).form
  by_cases hb : b = []
  · have e : inoGet b = (.zero, 0) := by unfold inoGet; rw [if_pos hb]
    rw [e]
    subst hb
    refine go_on ?_
    (first | refine f_alloc1 F rfl (fun z w F => ?_) | refine f_allocN F rfl (fun z w F => ?_)); refine go_on ?_
    refine f_storeAll F rfl rfl rfl (fun w F => ?_); refine go_on ?_
    refine go_back ?_
    exact (F.fact (f := Fact.u32s (.slice none 0 0) []) Sl.nil).fin ⟨_, rfl, rfl, rfl⟩
  have hbl : b.length ≠ 0 := fun h => hb (List.length_eq_zero_iff.1 h)
  obtain ⟨x1, b1, e1, r1⟩ : ∃ x b' e', rdN b 0 4 = (x, b', e') := ⟨_, _, _, rfl⟩
  obtain ⟨x2, b2, e2, r2⟩ : ∃ x b' e', rdN b1 e1 4 = (x, b', e') := ⟨_, _, _, rfl⟩
  obtain ⟨x3, b3, e3, r3⟩ : ∃ x b' e', rdN b2 e2 4 = (x, b', e') := ⟨_, _, _, rfl⟩
  obtain ⟨x4, b4, e4, r4⟩ : ∃ x b' e', rdN b3 e3 4 = (x, b', e') := ⟨_, _, _, rfl⟩
  obtain ⟨x5, b5, e5, r5⟩ : ∃ x b' e', rdN b4 e4 4 = (x, b', e') := ⟨_, _, _, rfl⟩
  obtain ⟨x6, b6, e6, r6⟩ : ∃ x b' e', rdN b5 e5 8 = (x, b', e') := ⟨_, _, _, rfl⟩
  obtain ⟨x7, b7, e7, r7⟩ : ∃ x b' e', rdN b6 e6 8 = (x, b', e') := ⟨_, _, _, rfl⟩
  obtain ⟨x8, b8, e8, r8⟩ : ∃ x b' e', rdN b7 e7 8 = (x, b', e') := ⟨_, _, _, rfl⟩
  obtain ⟨x9, b9, e9, r9⟩ : ∃ x b' e', rdN b8 e8 4 = (x, b', e') := ⟨_, _, _, rfl⟩
  have hx9 : x9 < 256 ^ 4 := by have := rdN_lt b8 e8 4; rw [r9] at this; exact this
  have eg : inoGet b = if e9 ≠ 0 then (.zero, e9) else if 8 < x9 then (.zero, 13) else
      match rdNs 4 x9 b9 e9 with
      | (bl, b10, e10) => if endE b10 e10 ≠ 0 then (.zero, endE b10 e10) else if ¬ (Ino.of [x1, x2, x3, x4, x5] [x6, x7, x8] bl).may ∨ (Ino.of [x1, x2, x3, x4, x5] [x6, x7, x8] bl).none then (.zero, 11) else (.of [x1, x2, x3, x4, x5] [x6, x7, x8] bl, 0) := by
    unfold inoGet
    rw [if_neg hb]
    simp only [rdNs, r1, r2, r3, r4, r5, r6, r7, r8, r9]
  rw [eg]
  clear eg
  refine go_on ?_
  (first | refine f_alloc1 F rfl (fun z w F => ?_) | refine f_allocN F rfl (fun z w F => ?_)); refine go_on ?_
  refine f_call F rfl rfl newReader_c ?_
  clear F; rintro r O w T Φ ⟨p, rfl, rfl, rfl⟩ F0
  refine tidy F0 (fun F => ?_); clear F0
  refine go_on ?_
  (first | refine f_alloc1 F rfl (fun m w F => ?_) | refine f_allocN F rfl (fun m w F => ?_)); refine go_on ?_
  refine f_buildSlice (cs := [_, _, _, _, _]) F rfl rfl rfl rfl (fun q w F => ?_); refine go_on ?_
  refine g_unroll 7 ?_; refine go_on ?_
  refine f_call F rfl rfl ru32_g ?_
  clear F; rintro r O w T Φ ⟨rfl, rfl, rfl⟩ F0
  refine tidy F0 (fun F => ?_); clear F0
  refine go_on ?_
  refine f_store1 F rfl rfl rfl (fun w F => ?_); refine go_on ?_
  refine f_call F rfl rfl ru32_g ?_
  clear F; rintro r O w T Φ ⟨rfl, rfl, rfl⟩ F0
  refine tidy F0 (fun F => ?_); clear F0
  refine go_on ?_
  refine f_store1 F rfl rfl rfl (fun w F => ?_); refine go_on ?_
  refine f_call F rfl rfl ru32_g ?_
  clear F; rintro r O w T Φ ⟨rfl, rfl, rfl⟩ F0
  refine tidy F0 (fun F => ?_); clear F0
  refine go_on ?_
  refine f_store1 F rfl rfl rfl (fun w F => ?_); refine go_on ?_
  refine f_call F rfl rfl ru32_g ?_
  clear F; rintro r O w T Φ ⟨rfl, rfl, rfl⟩ F0
  refine tidy F0 (fun F => ?_); clear F0
  refine go_on ?_
  refine f_store1 F rfl rfl rfl (fun w F => ?_); refine go_on ?_
  refine f_call F rfl rfl ru32_g ?_
  clear F; rintro r O w T Φ ⟨rfl, rfl, rfl⟩ F0
  refine tidy F0 (fun F => ?_); clear F0
  refine go_on ?_
  refine f_store1 F rfl rfl rfl (fun w F => ?_); refine go_on ?_
  refine f_buildSlice (cs := [_, _, _]) F rfl rfl rfl rfl (fun q w F => ?_); refine go_on ?_
  refine g_unroll 5 ?_; refine go_on ?_
  refine f_call F rfl rfl ru64_g ?_
  clear F; rintro r O w T Φ ⟨rfl, rfl, rfl⟩ F0
  refine tidy F0 (fun F => ?_); clear F0
  refine go_on ?_
  refine f_store1 F rfl rfl rfl (fun w F => ?_); refine go_on ?_
  refine f_call F rfl rfl ru64_g ?_
  clear F; rintro r O w T Φ ⟨rfl, rfl, rfl⟩ F0
  refine tidy F0 (fun F => ?_); clear F0
  refine go_on ?_
  refine f_store1 F rfl rfl rfl (fun w F => ?_); refine go_on ?_
  refine f_call F rfl rfl ru64_g ?_
  clear F; rintro r O w T Φ ⟨rfl, rfl, rfl⟩ F0
  refine tidy F0 (fun F => ?_); clear F0
  refine go_on ?_
  refine f_store1 F rfl rfl rfl (fun w F => ?_); refine go_on ?_
  refine f_call F rfl rfl ru32_g ?_
  clear F; rintro r O w T Φ ⟨rfl, rfl, rfl⟩ F0
  refine tidy F0 (fun F => ?_); clear F0
  refine go_on ?_
  refine f_call F rfl rfl err_c ?_
  clear F; rintro r O w T Φ ⟨rfl, rfl, rfl⟩ F0
  refine tidy F0 (fun F => ?_); clear F0
  refine go_on ?_
  by_cases g1 : e9 = 0
  · rw [if_neg (by simpa using g1)]
    by_cases g2 : 8 < x9
    · rw [if_pos g2]
      refine go_on ?_
      refine f_storeAll F rfl rfl rfl (fun w F => ?_); refine go_on ?_
      refine go_back ?_
      exact (F.fact (f := Fact.u32s (.slice none 0 0) []) Sl.nil).fin ⟨_, rfl, rfl, rfl⟩
    · rw [if_neg g2]
      refine go_on ?_
      have F := F.nilbuf 1
      refine g_loop (X := Nat × Value) (fun y => [(2, ptr z), (4, ptr p), (5, ptr m), (60, .int .u32 x9), (61, .int .u32 y.1)])
        (fun y wr => ∃ O, Fr [] O0 w0 O wr [(2, Thing.cells z [.int .u32 0, .int .u32 0, .int .u32 0, .int .u32 0, .int .u32 0, .int .u64 0, .int .u64 0, .int .u64 0, .slice none 0 0]), (2, Thing.cells m [.int .u32 x1, .int .u32 x2, .int .u32 x3, .int .u32 x4, .int .u32 x5, .int .u64 x6, .int .u64 x7, .int .u64 x8, y.2]), (2, Thing.buf 1 y.2 y.1 ((rdNs 4 y.1 b9 e9).1.map u32V)), (2, Rd p (rdNs 4 y.1 b9 e9).2.1 (rdNs 4 y.1 b9 e9).2.2)] [] ∧ y.1 ≤ x9) (fun y => x9 - y.1) (0, .slice none 0 0) (sub_cons rfl rfl (sub_cons rfl rfl (sub_cons rfl rfl (sub_cons rfl rfl (sub_cons rfl rfl (sub_nil)))))) ⟨_, F.wk, Nat.zero_le _⟩ ?_
      clear F
      rintro ⟨i, v⟩ w ⟨O, F, hi⟩
      dsimp only at F hi ⊢
      refine go_on ?_
      refine g_dec rfl (fun h => ?_) (fun h => ?_)
      · have hi' : i < x9 := by omega
        obtain ⟨x, b', e', rr⟩ : ∃ x b' e', rdN (rdNs 4 i b9 e9).2.1 (rdNs 4 i b9 e9).2.2 4 = (x, b', e') := ⟨_, _, _, rfl⟩
        refine go_on ?_
        refine f_draw [(2, Thing.cells m _)] F [7] [(0, true), (1, true), (2, true), (3, false), (4, false), (5, false), (6, true), (7, false)] (by kernel_rfl) (by kernel_rfl) (fun w F hS => ?_); refine go_look ?_
        refine rd_do rfl ?_
        (try refine r_go rfl rfl ?_)
        refine f_call F rfl rfl ru32_g ?_
        clear F; rintro r O w T Φ ⟨rfl, rfl, rfl⟩ F0
        refine tidy F0 (fun F => ?_); clear F0
        refine r_nil ?_; refine e_afterF F (fun hS => ?_); refine go_look ?_
        refine rd_do rfl ?_; (try refine r_go rfl rfl ?_)
        refine f_buildSlice (cs := [_]) F rfl rfl rfl rfl (fun q w F => ?_); refine go_on ?_
        (try refine r_nil ?_); refine e_afterF F (fun hS => ?_); refine go_look ?_
        refine rd_do rfl ?_; (try refine r_go rfl rfl ?_)
        refine f_append F rfl rfl rfl (F.srcOne) (fun r w O F => ?_); refine go_on ?_
        obtain ⟨ra, rc, rfl, _⟩ := (F.bufAt (v := r)).form
        (try refine r_nil ?_); refine e_afterF F (fun hS => ?_); refine go_look ?_
        refine rd_do rfl ?_; (try refine r_go rfl rfl ?_)
        refine f_store1 F rfl rfl rfl (fun w F => ?_); refine go_on ?_
        (try refine r_nil ?_); refine e_after (fun h => by cases h) ?_; refine go_look ?_
        refine rd_done ?_; refine go_on ?_
        refine r_y (y_addN (k := .u32) rfl rfl (by simp only [lim]; omega)) rfl ?_
        refine go_on ?_
        refine e_round (i + 1, .slice ra (i + 1) rc) (sub_cons rfl rfl (sub_cons rfl rfl (sub_cons rfl rfl (sub_cons rfl rfl (sub_cons rfl rfl (sub_nil)))))) ⟨O, ?_, by simp only; omega⟩ (by simp only; omega)
        dsimp only
        rw [rdNs_succ, List.map_append, rr]
        exact F.wk
      · have hi' : i = x9 := by omega
        subst hi'
        obtain ⟨bl, b10, e10, rr⟩ : ∃ bl b' e', rdNs 4 i b9 e9 = (bl, b', e') := ⟨_, _, _, rfl⟩
        have hl := rdNs_len 4 i b9 e9
        have hlt := rdNs_lt 4 i b9 e9
        rw [rr] at F hl hlt
        rw [rr]
        dsimp only at F hl hlt ⊢
        subst hl
        have hfit : (Ino.of [x1, x2, x3, x4, x5] [x6, x7, x8] bl).fit := by
          have k1 := rdN_lt b 0 4
          have k2 := rdN_lt b1 e1 4
          have k3 := rdN_lt b2 e2 4
          have k4 := rdN_lt b3 e3 4
          have k5 := rdN_lt b4 e4 4
          have k6 := rdN_lt b5 e5 8
          have k7 := rdN_lt b6 e6 8
          have k8 := rdN_lt b7 e7 8
          simp only [r1, r2, r3, r4, r5, r6, r7, r8] at k1 k2 k3 k4 k5 k6 k7 k8
          exact ⟨k1, k2, k3, k4, k5, k6, k7, k8, hlt, by show bl.length ≤ 1000000; omega⟩
        refine go_on ?_
        refine f_call F rfl rfl end_c ?_
        clear F; rintro r O w T Φ ⟨rfl, rfl, rfl⟩ F0
        refine tidy F0 (fun F => ?_); clear F0
        refine go_on ?_
        obtain ⟨O, F⟩ := F.frzBuf
        obtain ⟨va, vc, rfl, _⟩ := (F.sl (v := v)).form
        by_cases g3 : endE b10 e10 = 0
        · rw [if_neg (by simpa using g3)]
          refine go_on ?_
          refine f_call F rfl rfl (check_c (n := Ino.of [x1, x2, x3, x4, x5] [x6, x7, x8] bl)) ?_
          clear F; rintro r O w T Φ ⟨rfl, rfl, rfl⟩ F0
          refine tidy F0 (fun F => ?_); clear F0
          refine go_on ?_
          by_cases g4 : (Ino.of [x1, x2, x3, x4, x5] [x6, x7, x8] bl).may
          · rw [if_pos g4]
            refine go_on ?_
            refine f_call F rfl rfl (empty_c (n := Ino.of [x1, x2, x3, x4, x5] [x6, x7, x8] bl)) ?_
            clear F; rintro r O w T Φ ⟨rfl, rfl, rfl⟩ F0
            refine tidy F0 (fun F => ?_); clear F0
            refine go_on ?_
            by_cases g5 : (Ino.of [x1, x2, x3, x4, x5] [x6, x7, x8] bl).none
            · rw [if_pos (.inr g5)]
              refine go_on ?_
              refine f_storeAll F rfl rfl rfl (fun w F => ?_); refine go_on ?_
              refine go_back ?_
              exact (F.fact (f := Fact.u32s (.slice none 0 0) []) Sl.nil).fin ⟨_, rfl, rfl, rfl⟩
            · rw [if_neg (fun h => h.elim (fun h => h g4) g5)]
              refine go_on ?_
              refine f_storeAll F rfl rfl rfl (fun w F => ?_); refine go_on ?_
              refine go_back ?_
              exact F.fin ⟨_, rfl, rfl, rfl⟩
          · rw [if_neg g4, if_pos (.inl g4)]
            refine go_on ?_
            refine f_storeAll F rfl rfl rfl (fun w F => ?_); refine go_on ?_
            refine go_back ?_
            exact (F.fact (f := Fact.u32s (.slice none 0 0) []) Sl.nil).fin ⟨_, rfl, rfl, rfl⟩
        · rw [if_pos g3]
          refine go_on ?_
          refine f_storeAll F rfl rfl rfl (fun w F => ?_); refine go_on ?_
          refine go_back ?_
          exact (F.fact (f := Fact.u32s (.slice none 0 0) []) Sl.nil).fin ⟨_, rfl, rfl, rfl⟩
  · rw [if_pos g1]
    refine go_on ?_
    refine f_storeAll F rfl rfl rfl (fun w F => ?_); refine go_on ?_
    refine go_back ?_
    exact (F.fact (f := Fact.u32s (.slice none 0 0) []) Sl.nil).fin ⟨_, rfl, rfl, rfl⟩
end Go.Proofs.YtcfpnghkkkphhaaGreat
