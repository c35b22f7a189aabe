/- The plain law of layer 7: what is put is got, and the other way; what its laws share. -/
import Derived.Test.YtejkpngghbcbbaaRef07g
namespace Go.Proofs.Ytejkpngghbcbbaa
open Gk Go
set_option linter.unusedVariables false
set_option maxHeartbeats 4000000
set_option linter.unusedSimpArgs false
attribute [local irreducible] Int.decLt Int.decLe Int.decEq Int.instDecidableEq Gk.Rnds Gk.E Gk.G Gk.R Gk.RD Gk.RX Gk.RO Gk.Y Gk.Ent Gk.Sat Gk.Round Gk.After Gk.Cell Gk.Sl Gk.SlA Gk.CB Gk.OK Gk.FnC Gk.Bytes Gk.BytesL Gk.StrL Gk.Buf Gk.MapI
theorem rdNs_nB (k : Nat) : ∀ (l : List Nat) (rest : List UInt8), (∀ x, x ∈ l → x < 256 ^ k) → rdNs k l.length (nB k l ++ rest) 0 = (l, rest, 0)
  | [], rest, _ => rfl
  | x :: l, rest, h => by
    have h1 := rdN_be (n := k) (h x (by simp)) (nB k l ++ rest)
    have h2 := rdNs_nB k l rest (fun y hy => h y (by simp [hy]))
    have e : nB k (x :: l) ++ rest = be k x ++ (nB k l ++ rest) := by simp [nB]
    rw [e, List.length_cons, rdNs, h1, h2]

theorem rdN_keep {bs bs' : List UInt8} {e x n : Nat} (h : rdN bs e n = (x, bs', 0)) : e = 0 ∧ bs = be n x ++ bs' ∧ x < 256 ^ n := by
  have he : e = 0 := Decidable.byContradiction fun hn => by
    rw [rdN_err bs n hn] at h
    injection h with _ h
    injection h with _ h
    exact hn h
  subst he
  exact ⟨rfl, rdN_inv h⟩

theorem rdNs_keep (k : Nat) : ∀ (m : Nat) (bs : List UInt8) (e : Nat) (l : List Nat) (rest : List UInt8), rdNs k m bs e = (l, rest, 0) → e = 0 ∧ bs = nB k l ++ rest
  | 0, bs, e, l, rest, h => by
    simp only [rdNs, Prod.mk.injEq] at h
    obtain ⟨rfl, rfl, rfl⟩ := h
    exact ⟨rfl, rfl⟩
  | m + 1, bs, e, l, rest, h => by
    obtain ⟨x, b1, e1, h1⟩ : ∃ x b' e', rdN bs e k = (x, b', e') := ⟨_, _, _, rfl⟩
    obtain ⟨l2, b2, e2, h2⟩ : ∃ x b' e', rdNs k m b1 e1 = (x, b', e') := ⟨_, _, _, rfl⟩
    simp only [rdNs, h1, h2, Prod.mk.injEq] at h
    obtain ⟨rfl, rfl, rfl⟩ := h
    obtain ⟨rfl, h3⟩ := rdNs_keep k m b1 e1 l2 b2 h2
    obtain ⟨rfl, h4, _⟩ := rdN_keep h1
    exact ⟨rfl, by rw [h4, h3]; simp [nB]⟩

theorem inoGet_bytes {n : Ino} (hf : n.fit) (hm : n.may) (hn : ¬ n.none) : inoGet n.bytes = (n, 0) := by
  have hlen := n.bytes_len
  obtain ⟨h1, h2, h3, h4, h5, h6, h7, h8, h9, h10⟩ := hf
  have hb : n.bytes ≠ [] := fun h => by rw [h] at hlen; simp at hlen; omega
  have k1 := rdNs_nB 4 [n.kind, n.gen, n.links, n.mode, n.size] (nB 8 [n.change, n.cookie, n.verf] ++ (be 4 n.blocks.length ++ nB 4 n.blocks)) (by simp only [List.mem_cons, List.not_mem_nil, or_false, forall_eq_or_imp, forall_eq]; omega)
  have k2 := rdNs_nB 8 [n.change, n.cookie, n.verf] (be 4 n.blocks.length ++ nB 4 n.blocks) (by simp only [List.mem_cons, List.not_mem_nil, or_false, forall_eq_or_imp, forall_eq]; omega)
  have k3 := rdN_be (n := 4) (x := n.blocks.length) (by omega) (nB 4 n.blocks)
  have k4 := rdNs_nB 4 n.blocks [] (fun x hx => by have := h9 x hx; omega)
  rw [List.append_nil] at k4
  have e : n.bytes = nB 4 [n.kind, n.gen, n.links, n.mode, n.size] ++ (nB 8 [n.change, n.cookie, n.verf] ++ (be 4 n.blocks.length ++ nB 4 n.blocks)) := by simp [Ino.bytes]
  simp only [List.length_cons, List.length_nil, Nat.zero_add, Nat.reduceAdd] at k1 k2
  have eo : Ino.of [n.kind, n.gen, n.links, n.mode, n.size] [n.change, n.cookie, n.verf] n.blocks = n := rfl
  unfold inoGet
  rw [if_neg hb, e, k1]
  simp only [k2, k3, k4, eo]
  rw [if_neg (by simp), if_neg (by have := hm.2.1; omega), if_neg (by simp [endE]), if_neg (fun h => h.elim (fun h => h hm) hn)]

theorem inoGet_nil : inoGet [] = (.zero, 0) := by unfold inoGet; rw [if_pos rfl]

theorem Ino.zero_of {n : Ino} (h : n.none) : n = .zero := by
  obtain ⟨k1, k2, k3, k4, k5, k6, k7, k8, k9⟩ := n
  obtain ⟨h1, h2, h3, h4, h5, h6, h7, h8, h9⟩ := h
  simp only at h1 h2 h3 h4 h5 h6 h7 h8 h9
  have := List.length_eq_zero_iff.1 h9
  subst h1 h2 h3 h4 h5 h6 h7 h8 this
  rfl

theorem Ino.zero_fit : Ino.zero.fit := ⟨by decide, by decide, by decide, by decide, by decide, by decide, by decide, by decide, (fun x h => by cases h), by decide⟩
theorem Ino.zero_may : Ino.zero.may := by decide
theorem Ino.zero_none : Ino.zero.none := by decide

theorem inoGet_fit (b : List UInt8) : (inoGet b).1.fit := by
  unfold inoGet
  split
  · exact Ino.zero_fit
  have k1 := rdNs_lt 4 5 b 0
  have n1 := rdNs_len 4 5 b 0
  generalize rdNs 4 5 b 0 = t1 at k1 n1 ⊢
  obtain ⟨l, b1, e1⟩ := t1
  dsimp only at k1 n1 ⊢
  have k2 := rdNs_lt 8 3 b1 e1
  have n2 := rdNs_len 8 3 b1 e1
  generalize rdNs 8 3 b1 e1 = t2 at k2 n2 ⊢
  obtain ⟨m, b2, e2⟩ := t2
  dsimp only at k2 n2 ⊢
  generalize rdN b2 e2 4 = t3
  obtain ⟨k, b3, e3⟩ := t3
  dsimp only
  split
  · exact Ino.zero_fit
  split
  · exact Ino.zero_fit
  have k4 := rdNs_lt 4 k b3 e3
  have n4 := rdNs_len 4 k b3 e3
  generalize rdNs 4 k b3 e3 = t4 at k4 n4 ⊢
  obtain ⟨bl, b4, e4⟩ := t4
  dsimp only at k4 n4 ⊢
  split
  · exact Ino.zero_fit
  split
  · exact Ino.zero_fit
  · match l, n1, m, n2 with
    | [x1, x2, x3, x4, x5], _, [x6, x7, x8], _ =>
      simp only [List.mem_cons, List.not_mem_nil, or_false, forall_eq_or_imp, forall_eq] at k1 k2
      obtain ⟨a1, a2, a3, a4, a5⟩ := k1
      obtain ⟨a6, a7, a8⟩ := k2
      exact ⟨a1, a2, a3, a4, a5, a6, a7, a8, k4, by show bl.length ≤ 1000000; omega⟩

theorem inoGet_inv {b : List UInt8} (h : (inoGet b).2 = 0) : (b = [] ∧ (inoGet b).1 = .zero) ∨ ((inoGet b).1.may ∧ ¬ (inoGet b).1.none ∧ b = (inoGet b).1.bytes) := by
  by_cases hb : b = []
  · subst hb; exact .inl ⟨rfl, by rw [inoGet_nil]⟩
  refine .inr ?_
  unfold inoGet at h ⊢
  rw [if_neg hb] at h ⊢
  have n1 := rdNs_len 4 5 b 0
  have q1 := rdNs_keep 4 5 b 0
  generalize rdNs 4 5 b 0 = t1 at n1 q1 h ⊢
  obtain ⟨l, b1, e1⟩ := t1
  dsimp only at n1 q1 h ⊢
  have n2 := rdNs_len 8 3 b1 e1
  have q2 := rdNs_keep 8 3 b1 e1
  generalize rdNs 8 3 b1 e1 = t2 at n2 q2 h ⊢
  obtain ⟨m, b2, e2⟩ := t2
  dsimp only at n2 q2 h ⊢
  have q3 := @rdN_keep b2
  generalize ht : rdN b2 e2 4 = t3 at h ⊢
  obtain ⟨k, b3, e3⟩ := t3
  dsimp only at h ⊢
  by_cases g3 : e3 = 0
  · rw [if_neg (by simpa using g3)] at h ⊢
    by_cases g4 : 8 < k
    · rw [if_pos g4] at h; cases h
    rw [if_neg g4] at h ⊢
    have n4 := rdNs_len 4 k b3 e3
    have q4 := rdNs_keep 4 k b3 e3
    generalize rdNs 4 k b3 e3 = t4 at n4 q4 h ⊢
    obtain ⟨bl, b4, e4⟩ := t4
    dsimp only at n4 q4 h ⊢
    by_cases g5 : endE b4 e4 = 0
    · rw [if_neg (by simpa using g5)] at h ⊢
      by_cases g6 : ¬ (Ino.of l m bl).may ∨ (Ino.of l m bl).none
      · rw [if_pos g6] at h; cases h
      rw [if_neg g6] at h ⊢
      have g7 : (Ino.of l m bl).may := Decidable.byContradiction fun hn => g6 (.inl hn)
      have g8 : ¬ (Ino.of l m bl).none := fun hn => g6 (.inr hn)
      refine ⟨g7, g8, ?_⟩
      by_cases g9 : b4 = []
      · have h4 : e4 = 0 := by
          by_cases h : e4 = 0
          · exact h
          · unfold endE at g5; rw [if_neg h] at g5; exact g5
        subst h4
        subst g9
        obtain ⟨_, r4⟩ := q4 _ _ rfl
        subst g3
        obtain ⟨r30, r3, _⟩ := q3 ht
        subst r30
        obtain ⟨r20, r2⟩ := q2 _ _ rfl
        subst r20
        obtain ⟨_, r1⟩ := q1 _ _ rfl
        match l, n1, m, n2 with
        | [x1, x2, x3, x4, x5], _, [x6, x7, x8], _ =>
          rw [r1, r2, r3, r4, ← n4]
          simp [Ino.bytes, Ino.of]
      · exfalso
        unfold endE at g5
        rw [if_neg g9] at g5
        split at g5
        · cases g5
        · rename_i h; exact h g5
    · rw [if_pos g5] at h; exact absurd h g5
  · rw [if_pos g3] at h; exact absurd h g3

theorem Ino.bytes_inj {n m : Ino} (hn : n.fit) (hm : m.fit) (an : n.may) (am : m.may) (zn : ¬ n.none) (zm : ¬ m.none) (h : n.bytes = m.bytes) : n = m := by
  have h1 := inoGet_bytes hn an zn
  have h2 := inoGet_bytes hm am zm
  rw [h, h2] at h1
  exact ((Prod.mk.inj h1).1).symm

theorem inodeOf_c {n : Ino} {a : Option Addr} {l c : Nat} (h : True) : Con Try.prog 44 [inoV n (.slice a l c)] [] [] [] fun r T Φ => r = inoV n (.slice a l c) ∧ T = [] ∧ Φ = [] := by
  refine con_of (fun O0 w0 F => ?_)
  refine tidy F (fun F => ?_)
  refine fn_of _ Try.func44 rfl (by kernel_rfl) Try.ntmps44 rfl ?_
  refine go_on ?_
  (first | refine f_box1 F rfl rfl (fun q w F => ?_) | refine f_boxN F rfl rfl (fun q w F => ?_)); refine go_on ?_
  (first | refine f_alloc1 F rfl (fun z w F => ?_) | refine f_allocN F rfl (fun z w F => ?_)); refine go_on ?_
  refine f_storeAll F rfl rfl rfl (fun w F => ?_); refine go_on ?_
  refine go_back ?_
  exact F.fin ⟨rfl, rfl, rfl⟩

def ino0 : Ino := ⟨1, 2, 1, 0, 97, 0, 0, 0, [4, 9]⟩
def ino1 : Ino := ⟨1, 0, 0, 0, 0, 0, 0, 0, []⟩

theorem awake07_c (h : True) : Con Try.prog 41 [] [] [] [] fun r T Φ => r = .bool true ∧ T = [] ∧ Φ = [] := by
  have hf : ino0.fit := ⟨by decide, by decide, by decide, by decide, by decide, by decide, by decide, by decide, by decide, by decide⟩
  have hm : ino0.may := by decide
  have hn : ¬ ino0.none := by decide
  have hg := inoGet_bytes hf hm hn
  have hmn : ino0.may ∧ ¬ ino0.none := ⟨hm, hn⟩
  have hl : ino0.bytes.length = 56 := by decide
  have hl3 : 3 < ino0.bytes.length := by decide
  have h3 : (ino0.bytes[3]).toNat = 1 := rfl
  have hf1 : ino1.fit := ⟨by decide, by decide, by decide, by decide, by decide, by decide, by decide, by decide, by decide, by decide⟩
  have hm1 : ¬ ino1.may := by decide
  have n97 : needN 97 = 2 := rfl
  have n96 : needN 96 = 1 := rfl
  have hb1 : 1 < [4, 9].length := by decide
  generalize hxs : ino0.bytes = xs at hg hl hl3 h3
  refine con_of (fun O0 w0 F => ?_)
  refine tidy F (fun F => ?_)
  refine fn_of _ Try.func41 rfl (by kernel_rfl) Try.ntmps41 rfl ?_
  refine go_on ?_
  refine f_buildSlice (cs := [_, _]) F rfl rfl rfl rfl (fun q w F => ?_); refine go_on ?_
  obtain ⟨O, F⟩ := F.frzSl (Nat.le_refl 2)
  (first | refine f_alloc1 F rfl (fun a w F => ?_) | refine f_allocN F rfl (fun a w F => ?_)); refine go_on ?_
  refine f_storeAll F rfl rfl rfl (fun w F => ?_); refine go_on ?_
  refine f_call F rfl rfl (inoPut_c (n := ino0)) ?_
  clear F; rintro r O w T Φ ⟨u, rfl, rfl, rfl⟩ F0
  refine tidy F0 (fun F => ?_); clear F0
  refine go_on ?_
  rw [if_pos hm]
  rw [if_pos hmn, hxs] at F
  refine go_on ?_
  refine f_call F rfl rfl inoGet_c ?_
  clear F; rintro r O w T Φ ⟨v, rfl, rfl, rfl⟩ F0
  refine tidy F0 (fun F => ?_); clear F0
  refine go_on ?_
  rw [hg] at F ⊢
  dsimp only at F ⊢
  obtain ⟨ua, uc, rfl, _⟩ := (F.bytes (v := u)).form
  obtain ⟨va, vc, rfl, _⟩ := (F.sl (v := v) (cs := ino0.blocks.map u32V)).form
  refine go_on ?_
  (first | refine f_alloc1 F rfl (fun b w F => ?_) | refine f_allocN F rfl (fun b w F => ?_)); refine go_on ?_
  refine f_storeAll F rfl rfl rfl (fun w F => ?_); refine go_on ?_
  have F := F.factB Bytes.nil
  refine f_call F rfl rfl (inoGet_c (b := [])) ?_
  clear F; rintro r O w T Φ ⟨v0, rfl, rfl, rfl⟩ F0
  refine tidy F0 (fun F => ?_); clear F0
  refine go_on ?_
  rw [inoGet_nil] at F ⊢
  dsimp only at F ⊢
  obtain ⟨v0a, v0c, rfl, _⟩ := (F.sl (v := v0) (cs := [])).form
  refine go_on ?_
  (first | refine f_alloc1 F rfl (fun c w F => ?_) | refine f_allocN F rfl (fun c w F => ?_)); refine go_on ?_
  refine f_storeAll F rfl rfl rfl (fun w F => ?_); refine go_on ?_
  refine f_call F rfl rfl need_c ?_
  clear F; rintro r O w T Φ ⟨rfl, rfl, rfl⟩ F0
  refine tidy F0 (fun F => ?_); clear F0
  refine go_on ?_
  refine f_call F rfl rfl need_c ?_
  clear F; rintro r O w T Φ ⟨rfl, rfl, rfl⟩ F0
  refine tidy F0 (fun F => ?_); clear F0
  refine go_on ?_
  obtain ⟨x, rfl, hc⟩ := ((F.bytes (xs := xs))).atm hl3
  have F := F.fact (f := Fact.cell _ _) hc
  refine go_on ?_
  obtain ⟨x, rfl, hc⟩ := ((F.sl (v := .slice va 2 vc) (cs := [4, 9].map u32V))).atm hb1
  have F := F.fact (f := Fact.cell _ _) hc
  refine go_on ?_
  have F := F.fact (f := Fact.u32s (.slice none 0 0) []) Sl.nil
  refine f_call F rfl rfl (check_c (n := ino1)) ?_
  clear F; rintro r O w T Φ ⟨rfl, rfl, rfl⟩ F0
  refine tidy F0 (fun F => ?_); clear F0
  refine go_on ?_
  rw [if_neg hm1]
  refine go_on ?_
  refine go_back ?_
  exact F.fin ⟨by simp, rfl, rfl⟩

def Ino.out (n : Ino) : List UInt8 := if n.may ∧ ¬ n.none then n.bytes else []
theorem Ino.alike {n m : Ino} (hn : n.fit) (hm : m.fit) (an : n.may) (am : m.may) : (n.out = m.out) ↔ n = m := by
  refine ⟨fun h => ?_, fun h => by rw [h]⟩
  have ln := n.bytes_len
  have lm := m.bytes_len
  unfold Ino.out at h
  by_cases zn : n.none <;> by_cases zm : m.none
  · rw [Ino.zero_of zn, Ino.zero_of zm]
  · rw [if_neg (fun h => h.2 zn), if_pos ⟨am, zm⟩] at h
    rw [← h] at lm; simp at lm; omega
  · rw [if_pos ⟨an, zn⟩, if_neg (fun h => h.2 zm)] at h
    rw [h] at ln; simp at ln; omega
  · rw [if_pos ⟨an, zn⟩, if_pos ⟨am, zm⟩] at h
    exact Ino.bytes_inj hn hm an am zn zm h

/-- What is read of one that is handed in. -/
theorem reads_ino {w : World} {l : List Value} (r : Reads Try.prog w 69 l) : ∃ (n : Ino) (v : Value), Value.agg l.toArray = inoV n v ∧ (Fact.u32s v n.blocks).φ [] w ∧ (n.blocks.length ≤ 1000000 → n.fit) := by
  have hl := reads_agg (k := 9) (reads_structs (P := Try.prog) (t := 69) (i := 0) inferInstance) r
  match l, hl with
  | [a0, a1, a2, a3, a4, a5, a6, a7, a8], _ =>
    obtain ⟨m0, e0, k0⟩ := reads_nat (k := .u32) rfl (reads_field (i := 0) r)
    obtain ⟨m1, e1, k1⟩ := reads_nat (k := .u32) rfl (reads_field (i := 1) r)
    obtain ⟨m2, e2, k2⟩ := reads_nat (k := .u32) rfl (reads_field (i := 2) r)
    obtain ⟨m3, e3, k3⟩ := reads_nat (k := .u32) rfl (reads_field (i := 3) r)
    obtain ⟨m4, e4, k4⟩ := reads_nat (k := .u32) rfl (reads_field (i := 4) r)
    obtain ⟨m5, e5, k5⟩ := reads_nat (k := .u64) rfl (reads_field (i := 5) r)
    obtain ⟨m6, e6, k6⟩ := reads_nat (k := .u64) rfl (reads_field (i := 6) r)
    obtain ⟨m7, e7, k7⟩ := reads_nat (k := .u64) rfl (reads_field (i := 7) r)
    obtain ⟨bl, e8, _, k8⟩ := reads_nats (k := .u32) (v := a8) rfl (reads_field (i := 8) r)
    simp only [List.drop_zero, List.take_succ_cons, List.take_zero, List.drop_succ_cons, List.cons.injEq, and_true] at e0 e1 e2 e3 e4 e5 e6 e7
    subst e0 e1 e2 e3 e4 e5 e6 e7
    exact ⟨⟨m0, m1, m2, m3, m4, m5, m6, m7, bl⟩, a8, rfl, e8, fun h => ⟨k0, k1, k2, k3, k4, k5, k6, k7, k8, h⟩⟩
end Go.Proofs.Ytejkpngghbcbbaa
