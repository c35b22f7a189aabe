/- What is put is read as it was: the plain law. -/
import Derived.Test.YtcfpnghkkkphhaaGreatXdr
namespace Go.Proofs.YtcfpnghkkkphhaaGreat
open Gk Go
set_option linter.unusedVariables false

theorem numB_cons (c : UInt8) (bs : List UInt8) : numB (c :: bs) = c.toNat * 256 ^ bs.length + numB bs := by
  show bs.foldl _ (0 * 256 + c.toNat) = _
  rw [foldl_num]; simp

theorem numB_be : ∀ (n x : Nat), numB (be n x) = x % 256 ^ n
  | 0, x => by simp [be, numB, Nat.mod_one]
  | n + 1, x => by
    have e8 : 2 ^ (8 * n) = 256 ^ n := by rw [Nat.pow_mul]
    rw [be, numB_cons, be_length, numB_be n x, e8]
    simp only [UInt8.toNat_ofNat']
    have e3 : 256 ^ (n + 1) = 256 ^ n * 256 := Nat.pow_succ 256 n
    rw [e3]
    have := Nat.mod_mul (x := x) (a := 256 ^ n) (b := 256)
    rw [this, Nat.mul_comm (256 ^ n)]
    have e2 : x / 256 ^ n % 2 ^ 8 = x / 256 ^ n % 256 := rfl
    rw [e2]; omega

theorem takeR_all {xs rest : List UInt8} {n : Nat} (h : xs.length = n) : takeR (xs ++ rest) 0 n = (xs, rest, 0) := by
  unfold takeR
  subst h
  simp

theorem rdN_be {n x : Nat} (h : x < 256 ^ n) (rest : List UInt8) : rdN (be n x ++ rest) 0 n = (x, rest, 0) := by
  unfold rdN
  rw [takeR_all (be_length n x)]
  simp [numB_be, Nat.mod_eq_of_lt h]

theorem fillN_zero (n : Nat) : (n + fillN n) % 4 = 0 := by unfold fillN; omega
theorem fillN_lt (n : Nat) : fillN n < 4 := Nat.mod_lt _ (by decide)

theorem rdOpaque_put {b rest : List UInt8} {most : Int} (hb : b.length < 4294967296) (hm : (b.length : Int) ≤ most) : rdOpaque (opaqueB b ++ rest) 0 most = (b, rest, 0) := by
  unfold rdOpaque opaqueB
  rw [Nat.mod_eq_of_lt hb, List.append_assoc, List.append_assoc, rdN_be (by simpa using hb)]
  simp only [ne_eq, not_true_eq_false, if_false]
  rw [if_neg (by omega), ← List.append_assoc, takeR_all (by simp)]
  simp only [not_true_eq_false, if_false, List.drop_left, List.take_left]
  rw [if_neg]
  rintro ⟨c, hc, hn⟩
  exact hn (List.mem_replicate.1 hc).2

theorem rdOpaque_big {b rest : List UInt8} {most : Int} (hb : b.length < 4294967296) (hm : most < (b.length : Int)) : rdOpaque (opaqueB b ++ rest) 0 most = ([], b ++ List.replicate (fillN b.length) 0 ++ rest, 13) := by
  unfold rdOpaque opaqueB
  rw [Nat.mod_eq_of_lt hb, List.append_assoc, List.append_assoc, rdN_be (by simpa using hb)]
  simp only [ne_eq, not_true_eq_false, if_false]
  rw [if_pos (.inr hm), List.append_assoc]

theorem rdOpaque_pad {b pad rest : List UInt8} {most : Int} (hb : b.length < 4294967296) (hm : (b.length : Int) ≤ most) (hp : pad.length = fillN b.length) :
    rdOpaque (be 4 b.length ++ b ++ pad ++ rest) 0 most = if ∃ c, c ∈ pad ∧ c ≠ 0 then ([], rest, 11) else (b, rest, 0) := by
  unfold rdOpaque
  rw [List.append_assoc, List.append_assoc, rdN_be (by simpa using hb)]
  simp only [ne_eq, not_true_eq_false, if_false]
  rw [if_neg (by omega), ← List.append_assoc, takeR_all (by simp [hp])]
  simp only [not_true_eq_false, if_false, List.drop_left, List.take_left]

theorem set_noughts {n j : Nat} {x : UInt8} (h : j < n) : (∃ c, c ∈ (List.replicate n (0 : UInt8)).set j x ∧ c ≠ 0) ↔ x ≠ 0 := by
  constructor
  · rintro ⟨c, hc, hn⟩
    rcases List.mem_or_eq_of_mem_set hc with h1 | h1
    · exact absurd (List.mem_replicate.1 h1).2 hn
    · rw [← h1]; exact hn
  · intro hx
    exact ⟨x, List.mem_set (by simpa using h) x, hx⟩

theorem opaqueB_set {b : List UInt8} {j : Nat} {x : UInt8} (hb : b.length < 4294967296) : (opaqueB b).set (4 + b.length + j) x = be 4 b.length ++ b ++ (List.replicate (fillN b.length) 0).set j x := by
  unfold opaqueB
  rw [Nat.mod_eq_of_lt hb, List.set_append_right _ _ (by simp [be_length])]
  congr 2
  simp [be_length]

theorem rdN_err (bs : List UInt8) {e : Nat} (n : Nat) (h : e ≠ 0) : rdN bs e n = (0, bs, e) := by
  unfold rdN; rw [takeR_err _ _ _ h]; rfl

theorem rdOpaque_err (bs : List UInt8) {e : Nat} (most : Int) (h : e ≠ 0) : rdOpaque bs e most = ([], bs, e) := by
  unfold rdOpaque; rw [rdN_err _ _ h]; simp [h]

theorem rdBool_err (bs : List UInt8) {e : Nat} (h : e ≠ 0) : rdBool bs e = (false, bs, e) := by
  unfold rdBool; rw [rdN_err _ _ h]; simp

theorem opaqueB_length (b : List UInt8) : (opaqueB b).length = 4 + b.length + fillN b.length := by simp [opaqueB, be_length]; omega

theorem be_mod : ∀ (n a x : Nat), be n (a * 256 ^ n + x) = be n x
  | 0, a, x => rfl
  | n + 1, a, x => by
    have e8 : 2 ^ (8 * n) = 256 ^ n := by rw [Nat.pow_mul]
    have e3 : 256 ^ (n + 1) = 256 ^ n * 256 := Nat.pow_succ 256 n
    have hpos : 0 < 256 ^ n := Nat.pow_pos (by decide)
    have e4 : a * (256 ^ n * 256) + x = (a * 256) * 256 ^ n + x := by rw [Nat.mul_assoc, Nat.mul_comm 256]
    rw [be, be, e8, e3, e4, be_mod n]
    congr 1
    apply UInt8.toNat_inj.1
    simp only [UInt8.toNat_ofNat']
    rw [Nat.add_comm, Nat.add_mul_div_right _ _ hpos]
    omega

theorem be_numB : ∀ xs : List UInt8, be xs.length (numB xs) = xs
  | [] => rfl
  | c :: xs => by
    have e8 : 2 ^ (8 * xs.length) = 256 ^ xs.length := by rw [Nat.pow_mul]
    have hpos : 0 < 256 ^ xs.length := Nat.pow_pos (by decide)
    rw [List.length_cons, be, numB_cons, be_mod, be_numB xs, e8, Nat.add_comm, Nat.add_mul_div_right _ _ hpos, Nat.div_eq_of_lt (numB_lt xs)]
    simp

theorem rdN_inv {bs rest : List UInt8} {n x : Nat} (h : rdN bs 0 n = (x, rest, 0)) : bs = be n x ++ rest ∧ x < 256 ^ n := by
  have hlt := rdN_lt bs 0 n
  rw [h] at hlt
  refine ⟨?_, hlt⟩
  unfold rdN at h
  injection h with h1 h2
  obtain ⟨_, hn, ht⟩ := takeR_ok bs 0 n (by rw [h2])
  rw [ht] at h1 h2
  injection h2 with h2 _
  have hl : (bs.take n).length = n := by simp; omega
  have := be_numB (bs.take n)
  rw [hl] at this
  rw [← h1, ← h2, this, List.take_append_drop]

theorem rdOpaque_inv {bs c rest : List UInt8} {most : Int} (h : rdOpaque bs 0 most = (c, rest, 0)) : bs = opaqueB c ++ rest ∧ c.length < 4294967296 ∧ (c.length : Int) ≤ most := by
  unfold rdOpaque at h
  generalize hn : rdN bs 0 4 = n at h
  obtain ⟨n, cs, e⟩ := n
  dsimp only at h
  by_cases he : e ≠ 0
  · rw [if_pos he] at h; injection h with _ h; injection h with _ h; exact absurd h he
  rw [if_neg he] at h
  have he : e = 0 := by simpa using he
  subst he
  obtain ⟨h1, h2⟩ := rdN_inv hn
  by_cases hm : most < 0 ∨ most < n
  · rw [if_pos hm] at h; injection h with _ h; injection h with _ h; cases h
  rw [if_neg hm] at h
  have htk := takeR_ok cs 0 (n + fillN n)
  generalize takeR cs 0 (n + fillN n) = t at h htk
  obtain ⟨t1, t2, t3⟩ := t
  dsimp only at h htk
  by_cases he : t3 ≠ 0
  · rw [if_pos he] at h; injection h with _ h; injection h with _ h; exact absurd h he
  rw [if_neg he] at h
  have he : t3 = 0 := by simpa using he
  obtain ⟨_, hle, ht⟩ := htk he
  injection ht with ht1 ht
  injection ht with ht2 _
  by_cases hz : ∃ x, x ∈ t1.drop n ∧ x ≠ 0
  · rw [if_pos hz] at h; injection h with _ h; injection h with _ h; cases h
  rw [if_neg hz] at h
  injection h with h3 h
  injection h with h4 _
  have hl1 : t1.length = n + fillN n := by rw [ht1]; simp; omega
  have hcl : c.length = n := by rw [← h3]; simp; omega
  have hd : t1.drop n = List.replicate (fillN n) 0 := by
    apply List.eq_replicate_iff.2
    refine ⟨by simp; omega, fun x hx => ?_⟩
    exact Decidable.byContradiction fun hne => hz ⟨x, hx, hne⟩
  have h2' : n < 4294967296 := h2
  refine ⟨?_, by omega, by omega⟩
  unfold opaqueB
  rw [hcl, Nat.mod_eq_of_lt h2', h1, List.append_assoc, List.append_assoc]
  congr 1
  have e1 : cs = t1 ++ t2 := by rw [ht1, ht2, List.take_append_drop]
  rw [e1, ← h4, ← hd, ← h3, ← List.append_assoc, List.take_append_drop]

theorem rdOpaque_fail {bs : List UInt8} {e : Nat} {most : Int} (h : (rdOpaque bs e most).2.2 ≠ 0) : (rdOpaque bs e most).1 = [] := by
  unfold rdOpaque at h ⊢
  dsimp only at h ⊢
  split
  · rfl
  · rename_i g1
    rw [if_neg g1] at h
    split
    · rfl
    · rename_i g2
      rw [if_neg g2] at h
      split
      · rfl
      · rename_i g3
        rw [if_neg g3] at h
        split
        · rfl
        · rename_i g4
          rw [if_neg g4] at h
          exact absurd (by simpa using g3) h

/-- A writer's blocks are all from number 'B' on. -/
def FrW (B p : Nat) (v : Value) : Prop := B ≤ p ∧ ∀ q, q ∈ blk v → B ≤ q

theorem wr_new {O : List Nat} {w w1 : World} {p : Nat} (hp : w.heap.size ≤ p) (h : WrAt O w1 p (.slice none 0 0) []) : FrW w.heap.size p (.slice none 0 0) := ⟨hp, fun q hq => by simp [blk] at hq⟩

theorem wr_next {w0 w w1 : World} {O0 O O1 : List Nat} {B p : Nat} {v r : Value} {bs : List UInt8} (s0 : Step [] O0 O w0 w) (hB : w0.heap.size ≤ B) (hBw : B ≤ w.heap.size) (f : FrW B p v) (s1 : Step (p :: blk v) O O1 w w1) (k : PutK O p (blk v) w bs r O1 w1) :
    r = .tuple #[] ∧ Step [] O0 O1 w0 w1 ∧ ∃ v1, WrAt O1 w1 p v1 bs ∧ FrW B p v1 := by
  obtain ⟨v1, h1, h2, h3⟩ := k
  refine ⟨h1, s0.trans s1 (fun b hb => .inr ?_), v1, h2, f.1, fun q hq => ?_⟩
  · rcases List.mem_cons.1 hb with rfl | hb
    · exact Nat.le_trans hB f.1
    · exact Nat.le_trans hB (f.2 b hb)
  · rcases h3 q hq with h | h
    · exact f.2 q h
    · omega

end Go.Proofs.YtcfpnghkkkphhaaGreat
