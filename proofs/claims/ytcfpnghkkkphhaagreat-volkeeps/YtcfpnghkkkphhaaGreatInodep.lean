/- The plain law of inodes: what is put is got, and the other way. -/
import Derived.Test.YtcfpnghkkkphhaaGreatInodeg
namespace Go.Proofs.YtcfpnghkkkphhaaGreat
open Gk Go
set_option linter.unusedVariables false
set_option maxHeartbeats 4000000
set_option maxRecDepth 4000
set_option linter.unusedSimpArgs false
attribute [local irreducible] Int.decLt Int.decLe Int.decEq Int.instDecidableEq Gk.Rnds Gk.E Gk.G Gk.R Gk.RD Gk.RX Gk.RO Gk.Y Gk.Ent Gk.Sat Gk.Round Gk.After Gk.Cell Gk.Sl Gk.SlA Gk.CB Gk.OK Gk.FnC Gk.Bytes Gk.BytesL Gk.StrL Gk.Buf Gk.MapI
theorem rdNs_nB (k : Nat) : ∀ (l : List Nat) (rest : List UInt8), (∀ x, x ∈ l → x < 256 ^ k) → rdNs k l.length (nB k l ++ rest) 0 = (l, rest, 0)
  | [], rest, _ => rfl
  | x :: l, rest, h => by
    have h1 := rdN_be (n := k) (h x (by simp)) (nB k l ++ rest)
    have h2 := rdNs_nB k l rest (fun y hy => h y (by simp [hy]))
    have e : nB k (x :: l) ++ rest = be k x ++ (nB k l ++ rest) := by simp [nB]
    rw [e, List.length_cons, rdNs, h1, h2]

theorem rdN_keep {bs bs' : List UInt8} {e x n : Nat} (h : rdN bs e n = (x, bs', 0)) : e = 0 ∧ bs = be n x ++ bs' ∧ x < 256 ^ n := by
  have he : e = 0 := Decidable.byContradiction fun hn => by
    rw [rdN_err bs n hn] at h
    injection h with _ h
    injection h with _ h
    exact hn h
  subst he
  exact ⟨rfl, rdN_inv h⟩

theorem rdNs_keep (k : Nat) : ∀ (m : Nat) (bs : List UInt8) (e : Nat) (l : List Nat) (rest : List UInt8), rdNs k m bs e = (l, rest, 0) → e = 0 ∧ bs = nB k l ++ rest
  | 0, bs, e, l, rest, h => by
    simp only [rdNs, Prod.mk.injEq] at h
    obtain ⟨rfl, rfl, rfl⟩ := h
    exact ⟨rfl, rfl⟩
  | m + 1, bs, e, l, rest, h => by
    obtain ⟨x, b1, e1, h1⟩ : ∃ x b' e', rdN bs e k = (x, b', e') := ⟨_, _, _, rfl⟩
    obtain ⟨l2, b2, e2, h2⟩ : ∃ x b' e', rdNs k m b1 e1 = (x, b', e') := ⟨_, _, _, rfl⟩
    simp only [rdNs, h1, h2, Prod.mk.injEq] at h
    obtain ⟨rfl, rfl, rfl⟩ := h
    obtain ⟨rfl, h3⟩ := rdNs_keep k m b1 e1 l2 b2 h2
    obtain ⟨rfl, h4, _⟩ := rdN_keep h1
    exact ⟨rfl, by rw [h4, h3]; simp [nB]⟩

theorem inoGet_bytes {n : Ino} (hf : n.fit) (hm : n.may) (hn : ¬ n.none) : inoGet n.bytes = (n, 0) := by
  have hlen := n.bytes_len
  obtain ⟨h1, h2, h3, h4, h5, h6, h7, h8, h9, h10⟩ := hf
  have hb : n.bytes ≠ [] := fun h => by rw [h] at hlen; simp at hlen; omega
  have k1 := rdNs_nB 4 [n.kind, n.gen, n.links, n.mode, n.size] (nB 8 [n.change, n.cookie, n.verf] ++ (be 4 n.blocks.length ++ nB 4 n.blocks)) (by simp only [List.mem_cons, List.not_mem_nil, or_false, forall_eq_or_imp, forall_eq]; omega)
  have k2 := rdNs_nB 8 [n.change, n.cookie, n.verf] (be 4 n.blocks.length ++ nB 4 n.blocks) (by simp only [List.mem_cons, List.not_mem_nil, or_false, forall_eq_or_imp, forall_eq]; omega)
  have k3 := rdN_be (n := 4) (x := n.blocks.length) (by omega) (nB 4 n.blocks)
  have k4 := rdNs_nB 4 n.blocks [] (fun x hx => by have := h9 x hx; omega)
  rw [List.append_nil] at k4
  have e : n.bytes = nB 4 [n.kind, n.gen, n.links, n.mode, n.size] ++ (nB 8 [n.change, n.cookie, n.verf] ++ (be 4 n.blocks.length ++ nB 4 n.blocks)) := by simp [Ino.bytes]
  simp only [List.length_cons, List.length_nil, Nat.zero_add, Nat.reduceAdd] at k1 k2
  have eo : Ino.of [n.kind, n.gen, n.links, n.mode, n.size] [n.change, n.cookie, n.verf] n.blocks = n := rfl
  unfold inoGet
  rw [if_neg hb, e, k1]
  simp only [k2, k3, k4, eo]
  rw [if_neg (by simp), if_neg (by have := hm.2.1; omega), if_neg (by simp [endE]), if_neg (fun h => h.elim (fun h => h hm) hn)]

theorem inoGet_nil : inoGet [] = (.zero, 0) := by unfold inoGet; rw [if_pos rfl]

theorem Ino.zero_of {n : Ino} (h : n.none) : n = .zero := by
  obtain ⟨k1, k2, k3, k4, k5, k6, k7, k8, k9⟩ := n
  obtain ⟨h1, h2, h3, h4, h5, h6, h7, h8, h9⟩ := h
  simp only at h1 h2 h3 h4 h5 h6 h7 h8 h9
  have := List.length_eq_zero_iff.1 h9
  subst h1 h2 h3 h4 h5 h6 h7 h8 this
  rfl

theorem Ino.zero_fit : Ino.zero.fit := ⟨by decide, by decide, by decide, by decide, by decide, by decide, by decide, by decide, (fun x h => by cases h), by decide⟩
theorem Ino.zero_may : Ino.zero.may := by decide
theorem Ino.zero_none : Ino.zero.none := by decide

theorem inoGet_fit (b : List UInt8) : (inoGet b).1.fit := by
  unfold inoGet
  split
  · exact Ino.zero_fit
  have k1 := rdNs_lt 4 5 b 0
  have n1 := rdNs_len 4 5 b 0
  generalize rdNs 4 5 b 0 = t1 at k1 n1 ⊢
  obtain ⟨l, b1, e1⟩ := t1
  dsimp only at k1 n1 ⊢
  have k2 := rdNs_lt 8 3 b1 e1
  have n2 := rdNs_len 8 3 b1 e1
  generalize rdNs 8 3 b1 e1 = t2 at k2 n2 ⊢
  obtain ⟨m, b2, e2⟩ := t2
  dsimp only at k2 n2 ⊢
  generalize rdN b2 e2 4 = t3
  obtain ⟨k, b3, e3⟩ := t3
  dsimp only
  split
  · exact Ino.zero_fit
  split
  · exact Ino.zero_fit
  have k4 := rdNs_lt 4 k b3 e3
  have n4 := rdNs_len 4 k b3 e3
  generalize rdNs 4 k b3 e3 = t4 at k4 n4 ⊢
  obtain ⟨bl, b4, e4⟩ := t4
  dsimp only at k4 n4 ⊢
  split
  · exact Ino.zero_fit
  split
  · exact Ino.zero_fit
  · match l, n1, m, n2 with
    | [x1, x2, x3, x4, x5], _, [x6, x7, x8], _ =>
      simp only [List.mem_cons, List.not_mem_nil, or_false, forall_eq_or_imp, forall_eq] at k1 k2
      obtain ⟨a1, a2, a3, a4, a5⟩ := k1
      obtain ⟨a6, a7, a8⟩ := k2
      exact ⟨a1, a2, a3, a4, a5, a6, a7, a8, k4, by show bl.length ≤ 1000000; omega⟩

theorem inoGet_inv {b : List UInt8} (h : (inoGet b).2 = 0) : (b = [] ∧ (inoGet b).1 = .zero) ∨ ((inoGet b).1.may ∧ ¬ (inoGet b).1.none ∧ b = (inoGet b).1.bytes) := by
  by_cases hb : b = []
  · subst hb; exact .inl ⟨rfl, by rw [inoGet_nil]⟩
  refine .inr ?_
  unfold inoGet at h ⊢
  rw [if_neg hb] at h ⊢
  have n1 := rdNs_len 4 5 b 0
  have q1 := rdNs_keep 4 5 b 0
  generalize rdNs 4 5 b 0 = t1 at n1 q1 h ⊢
  obtain ⟨l, b1, e1⟩ := t1
  dsimp only at n1 q1 h ⊢
  have n2 := rdNs_len 8 3 b1 e1
  have q2 := rdNs_keep 8 3 b1 e1
  generalize rdNs 8 3 b1 e1 = t2 at n2 q2 h ⊢
  obtain ⟨m, b2, e2⟩ := t2
  dsimp only at n2 q2 h ⊢
  have q3 := @rdN_keep b2
  generalize ht : rdN b2 e2 4 = t3 at h ⊢
  obtain ⟨k, b3, e3⟩ := t3
  dsimp only at h ⊢
  by_cases g3 : e3 = 0
  · rw [if_neg (by simpa using g3)] at h ⊢
    by_cases g4 : 8 < k
    · rw [if_pos g4] at h; cases h
    rw [if_neg g4] at h ⊢
    have n4 := rdNs_len 4 k b3 e3
    have q4 := rdNs_keep 4 k b3 e3
    generalize rdNs 4 k b3 e3 = t4 at n4 q4 h ⊢
    obtain ⟨bl, b4, e4⟩ := t4
    dsimp only at n4 q4 h ⊢
    by_cases g5 : endE b4 e4 = 0
    · rw [if_neg (by simpa using g5)] at h ⊢
      by_cases g6 : ¬ (Ino.of l m bl).may ∨ (Ino.of l m bl).none
      · rw [if_pos g6] at h; cases h
      rw [if_neg g6] at h ⊢
      have g7 : (Ino.of l m bl).may := Decidable.byContradiction fun hn => g6 (.inl hn)
      have g8 : ¬ (Ino.of l m bl).none := fun hn => g6 (.inr hn)
      refine ⟨g7, g8, ?_⟩
      by_cases g9 : b4 = []
      · have h4 : e4 = 0 := by
          by_cases h : e4 = 0
          · exact h
          · unfold endE at g5; rw [if_neg h] at g5; exact g5
        subst h4
        subst g9
        obtain ⟨_, r4⟩ := q4 _ _ rfl
        subst g3
        obtain ⟨r30, r3, _⟩ := q3 ht
        subst r30
        obtain ⟨r20, r2⟩ := q2 _ _ rfl
        subst r20
        obtain ⟨_, r1⟩ := q1 _ _ rfl
        match l, n1, m, n2 with
        | [x1, x2, x3, x4, x5], _, [x6, x7, x8], _ =>
          rw [r1, r2, r3, r4, ← n4]
          simp [Ino.bytes, Ino.of]
      · exfalso
        unfold endE at g5
        rw [if_neg g9] at g5
        split at g5
        · cases g5
        · rename_i h; exact h g5
    · rw [if_pos g5] at h; exact absurd h g5
  · rw [if_pos g3] at h; exact absurd h g3

theorem Ino.bytes_inj {n m : Ino} (hn : n.fit) (hm : m.fit) (an : n.may) (am : m.may) (zn : ¬ n.none) (zm : ¬ m.none) (h : n.bytes = m.bytes) : n = m := by
  have h1 := inoGet_bytes hn an zn
  have h2 := inoGet_bytes hm am zm
  rw [h, h2] at h1
  exact ((Prod.mk.inj h1).1).symm
end Go.Proofs.YtcfpnghkkkphhaaGreat
