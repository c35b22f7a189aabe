/- The plain law of bits: what With sets Has tells, how many there are, and which are free. -/
import Derived.Test.YtcfpnghkkkphhaaGreatVsaver
namespace Go.Proofs.YtcfpnghkkkphhaaGreat
open Gk Go
set_option linter.unusedVariables false
set_option maxHeartbeats 4000000
set_option maxRecDepth 4000
set_option linter.unusedSimpArgs false
attribute [local irreducible] Int.decLt Int.decLe Int.decEq Int.instDecidableEq Gk.Rnds Gk.E Gk.G Gk.R Gk.RD Gk.RX Gk.RO Gk.Y Gk.Ent Gk.Sat Gk.Round Gk.After Gk.Cell Gk.Sl Gk.SlA Gk.CB Gk.OK Gk.FnC Gk.Bytes Gk.BytesL Gk.StrL Gk.Buf Gk.MapI
theorem bit255 : ∀ j, j < 8 → ∀ m, m < 8 → (255 - 2 ^ j).testBit m = !decide (m = j) := by decide
theorem bitPow : ∀ j, j < 8 → ∀ m, m < 8 → (2 ^ j).testBit m = decide (m = j) := by decide
theorem hasB_cut (b : List UInt8) (k : Nat) : hasB (cutB0 b) k = hasB b k := by
  have key : ∀ n, n ≤ b.length → (∀ j, n ≤ j → b.getD j 0 = 0) → ∀ j, (b.take (cutN b n)).getD j 0 = b.getD j 0 := by
    intro n
    induction n with
    | zero =>
      intro _ hz j
      rw [show cutN b 0 = 0 from rfl, List.take_zero, List.getD_nil, hz j (Nat.zero_le _)]
    | succ n ih =>
      intro hn hz j
      rw [cutN]
      split
      · rename_i hb
        refine ih (by omega) (fun i hi => ?_) j
        by_cases e : i = n
        · subst e; exact hb
        · exact hz i (by omega)
      · by_cases hj : j < n + 1
        · rw [List.getD_eq_getElem?_getD, List.getElem?_take, if_pos hj, List.getD_eq_getElem?_getD]
        · rw [hz j (by omega), List.getD_eq_getElem?_getD, List.getElem?_take, if_neg hj]; rfl
  unfold hasB cutB0
  rw [key b.length (Nat.le_refl _) (fun j hj => by rw [List.getD_eq_getElem?_getD, List.getElem?_eq_none hj]; rfl)]
theorem hasB_pad (b : List UInt8) (n k : Nat) : hasB (padB b n) k = hasB b k := by
  unfold hasB padB
  congr 2
  rw [List.getD_eq_getElem?_getD, List.getD_eq_getElem?_getD, List.getElem?_append]
  split
  · rfl
  · rename_i h
    rw [List.getElem?_replicate, List.getElem?_eq_none (by omega : b.length ≤ k / 8)]
    split <;> rfl
theorem turn_bit {x i m : Nat} (hm : m < 8) (t : Bool) : (turnN x i t).testBit m = if m = 7 - i % 8 then t else x.testBit m := by
  have hj : 7 - i % 8 < 8 := by omega
  have h1 := bitPow (7 - i % 8) hj m hm
  have h2 := bit255 (7 - i % 8) hj m hm
  unfold turnN maskN
  cases t with
  | true =>
    simp only [if_true]
    rw [Nat.testBit_or, h1]
    by_cases e : m = 7 - i % 8
    · rw [if_pos e, decide_eq_true e, Bool.or_true]
    · rw [if_neg e, decide_eq_false e, Bool.or_false]
  | false =>
    simp only [Bool.false_eq_true, if_false]
    rw [Nat.testBit_and, h2]
    by_cases e : m = 7 - i % 8
    · rw [if_pos e, decide_eq_true e]; simp
    · rw [if_neg e, decide_eq_false e]; simp
/-- What With sets Has tells. -/
theorem hasB_with (b : List UInt8) (i k : Nat) (t : Bool) : hasB (withB b i t) k = if k = i then t else hasB b k := by
  unfold withB
  split
  · rename_i h
    rw [hasB_cut]
    split
    · rename_i e
      rw [e, h.1, hasB_out h.2]
    · rfl
  · rw [hasB_cut]
    have hl : i / 8 < (padB b (i / 8 + 1)).length := by rw [padB_len]; split <;> omega
    have hp := hasB_pad b (i / 8 + 1) k
    generalize padB b (i / 8 + 1) = pb at hl hp ⊢
    rw [← hp]
    unfold hasB
    have hx := (pb.getD (i / 8) 0).toNat_lt
    by_cases e : k / 8 = i / 8
    · have e1 : (pb.set (i / 8) (UInt8.ofNat (turnN ((pb.getD (i / 8) 0).toNat) i t))).getD (k / 8) 0 = UInt8.ofNat (turnN ((pb.getD (i / 8) 0).toNat) i t) := by
        rw [e, List.getD_eq_getElem?_getD, List.getElem?_set_self hl]; rfl
      rw [e1, UInt8.toNat_ofNat_of_lt' (turnN_lt hx i t), turn_bit (by omega), e]
      by_cases e2 : k = i
      · rw [if_pos e2, if_pos (by rw [e2])]
      · rw [if_neg e2, if_neg (by omega)]
    · rw [if_neg (fun h => e (by rw [h]))]
      rw [List.getD_eq_getElem?_getD, List.getElem?_set_ne (fun h => e h.symm), List.getD_eq_getElem?_getD]
theorem freeB_cnt (b : List UInt8) : ∀ n, (freeB b n).length + cntB b n = n
  | 0 => rfl
  | n + 1 => by
    have := freeB_cnt b n
    rw [freeB, cntB]
    cases hasB b n with
    | true => simp only [if_true]; omega
    | false => simp only [Bool.false_eq_true, if_false, List.length_append, List.length_singleton]; omega
theorem freeB_mem (b : List UInt8) : ∀ n x, x ∈ freeB b n ↔ x < n ∧ hasB b x = false
  | 0, x => by constructor <;> intro h; cases h; exact absurd h.1 (Nat.not_lt_zero _)
  | n + 1, x => by
    have ih := freeB_mem b n x
    rw [freeB]
    split
    · rename_i h
      rw [ih]
      constructor
      · exact fun k => ⟨by omega, k.2⟩
      · intro k
        refine ⟨?_, k.2⟩
        by_cases e : x = n
        · subst e; rw [h] at k; exact absurd k.2 (by decide)
        · omega
    · rename_i h
      rw [List.mem_append, ih, List.mem_singleton]
      constructor
      · rintro (k | k)
        · exact ⟨by omega, k.2⟩
        · subst k; exact ⟨by omega, by simpa using h⟩
      · intro k
        by_cases e : x = n
        · exact .inr e
        · exact .inl ⟨by omega, k.2⟩
theorem freeB_nodup (b : List UInt8) : ∀ n, (freeB b n).Nodup
  | 0 => List.nodup_nil
  | n + 1 => by
    rw [freeB]
    split
    · exact freeB_nodup b n
    · rw [List.nodup_append]
      exact ⟨freeB_nodup b n, by simp, fun x hx y hy => by
        have := freeB_lt b n x hx
        simp at hy
        omega⟩
theorem drawB_mem {b : List UInt8} {n many x : Nat} (h : x ∈ drawB b n many) : x < n ∧ hasB b x = false := by
  unfold drawB at h
  split at h
  · cases h
  · exact (freeB_mem b n x).1 (List.mem_of_mem_take h)
theorem drawB_nodup (b : List UInt8) (n many : Nat) : (drawB b n many).Nodup := by
  unfold drawB
  split
  · exact List.nodup_nil
  · exact (freeB_nodup b n).sublist (List.take_sublist _ _)
theorem drawE_cnt (b : List UInt8) (n many : Nat) : drawE b n many = if cntB b n + many ≤ n then 0 else 66 := by
  have := freeB_cnt b n
  unfold drawE
  split
  · rw [if_neg (by omega)]
  · rw [if_pos (by omega)]
/-- A list without doubles is no longer than one that has all of it. -/
theorem nodup_le {α : Type} [DecidableEq α] : ∀ {l m : List α}, l.Nodup → (∀ x, x ∈ l → x ∈ m) → l.length ≤ m.length
  | [], m, _, _ => Nat.zero_le _
  | a :: l, m, hn, hs => by
    rw [List.nodup_cons] at hn
    have ha := hs a List.mem_cons_self
    have := nodup_le (l := l) (m := m.erase a) hn.2 (fun x hx => (List.mem_erase_of_ne (fun e : x = a => hn.1 (e ▸ hx))).2 (hs x (List.mem_cons_of_mem _ hx)))
    rw [List.length_erase_of_mem ha] at this
    have hp : 0 < m.length := List.length_pos_of_mem ha
    rw [List.length_cons]
    omega
theorem nodup_len {α : Type} [DecidableEq α] {l m : List α} (hl : l.Nodup) (hm : m.Nodup) (h : ∀ x, x ∈ l ↔ x ∈ m) : l.length = m.length :=
  Nat.le_antisymm (nodup_le hl fun x hx => (h x).1 hx) (nodup_le hm fun x hx => (h x).2 hx)
/-- The taken ones below a number. -/
theorem cntB_list (b : List UInt8) : ∀ n, cntB b n = ((List.range n).filter (hasB b)).length
  | 0 => rfl
  | n + 1 => by
    rw [cntB, cntB_list b n, List.range_succ, List.filter_append, List.length_append]
    cases h : hasB b n <;> simp [h]
end Go.Proofs.YtcfpnghkkkphhaaGreat
