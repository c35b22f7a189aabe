/- What is found on a disk that holds a journal. -/
import Derived.Test.YtmohjmfcbhpldaaJcand
namespace Go.Proofs.Ytmohjmfcbhpldaa
open Gk Go
set_option linter.unusedVariables false
set_option maxHeartbeats 4000000
set_option maxRecDepth 4000
set_option linter.unusedSimpArgs false
attribute [local irreducible] Int.decLt Int.decLe Int.decEq Int.instDecidableEq Gk.Rnds Gk.E Gk.G Gk.R Gk.RD Gk.RX Gk.RO Gk.Y Gk.Ent Gk.Sat Gk.Round Gk.After Gk.Cell Gk.Sl Gk.SlA Gk.CB Gk.OK Gk.FnC Gk.Bytes Gk.BytesL Gk.StrL Gk.Buf Gk.MapI
abbrev Chg := List (Int × List UInt8)
def dataFr (s : Nat) (l : Chg) (i : Nat) : Fm := ⟨2, i, l.length, s, (wAt l i).1.toNat, (wAt l i).2⟩
def comFr (s : Nat) (l : Chg) : Fm := ⟨3, l.length, l.length, s, 0, []⟩
def secAt (K p r : Nat) : Int := ((1 + (p + r) % K : Nat) : Int)
def Stand (K : Nat) (c : Int → List UInt8) : Nat → Nat → List Chg → Prop
  | _, _, [] => True
  | s, p, l :: H => (∀ r, r < l.length → c (secAt K p r) = (dataFr (s + 1) l r).bytes) ∧ c (secAt K p l.length) = (comFr (s + 1) l).bytes ∧ Stand K c (s + 1) ((p + (l.length + 1)) % K) H
def usedH : List Chg → Nat
  | [] => 0
  | l :: H => (l.length + 1) + usedH H
def atsH (H : List Chg) : List Int := H.flatten.map (·.1)
def supOf (K : Nat) (b : List UInt8) : Nat × Nat := if (secGet b).2 = 0 ∧ (secGet b).1.kind = 4 ∧ (secGet b).1.adr < K then ((secGet b).1.seq, (secGet b).1.adr) else (0, 0)
def homOf (i : Nat) (b : List UInt8) : List UInt8 := if (secGet b).2 = 0 ∧ (secGet b).1.kind = 1 ∧ (secGet b).1.adr = i ∧ (secGet b).1.body.length ≤ 96 then (secGet b).1.body else []
/-- What a block is behind writes. -/
def foldAt (x : List UInt8) (b : Nat) : Chg → List UInt8
  | [] => x
  | y :: l => foldAt (if y.1.toNat = b then y.2 else x) b l
structure RecW (K N : Nat) (c : Int → List UInt8) (sq : Nat) (B : List (List UInt8)) (s0 p0 : Nat) (H : List Chg) : Prop where
  sup : supOf K (c 0) = (s0, p0)
  place : p0 < K
  seqs : s0 + H.length = sq
  may : ∀ l ∈ H, mayW N l
  fits : usedH H ≤ K
  stand : Stand K c s0 p0 H
  com : ∀ i : Nat, i < K → (secGet (c ((1 + i : Nat) : Int))).2 = 0 → (secGet (c ((1 + i : Nat) : Int))).1.kind = 3 → (secGet (c ((1 + i : Nat) : Int))).1.seq ≤ sq
  len : B.length = N
  home : ∀ b : Nat, b < N → (b : Int) ∉ atsH H → homOf b (c (1 + (K : Int) + (b : Int))) = B.getD b []
  last : ∀ b : Nat, b < N → (b : Int) ∈ atsH H → ∀ x, foldAt x b H.flatten = B.getD b []

theorem may_at {N : Nat} {l : Chg} (h : mayW N l) {i : Nat} (hi : i < l.length) : 0 ≤ (wAt l i).1 ∧ (wAt l i).1 < N ∧ (wAt l i).2.length ≤ 96 := ⟨(h.1 i hi).1, (h.1 i hi).2.1, (h.1 i hi).2.2.2⟩
theorem data_fine {N s : Nat} {l : Chg} (h : mayW N l) (hN : N ≤ 400) (hs : s < 18446744073709551616) {i : Nat} (hi : i < l.length) : (dataFr s l i).may ∧ (dataFr s l i).fit := by
  obtain ⟨a, b, c⟩ := may_at h hi
  have := h.2.2
  unfold Fm.may Fm.fit dataFr
  dsimp only
  omega
theorem com_fine {N s : Nat} {l : Chg} (h : mayW N l) (hs : s < 18446744073709551616) : (comFr s l).may ∧ (comFr s l).fit := by
  have := h.2.2
  have := h.2.1
  unfold Fm.may Fm.fit comFr
  dsimp only
  simp only [List.length_nil]
  omega
theorem rd_get {d : Dk} (hd : d.up) {i : Int} (hi : 0 ≤ i ∧ i < d.n) : d.rd i = d.get i := by
  unfold Dk.up at hd
  unfold Dk.rd
  rw [if_pos]
  unfold Dk.upE
  rw [hd, if_neg (by decide), if_pos hi]
theorem fm_of {d : Dk} (hd : d.up) {i : Int} (hi : 0 ≤ i ∧ i < d.n) {f : Fm} (hm : f.may ∧ f.fit) (h : d.get i = f.bytes) : d.fm i = f ∧ ∀ k, d.is i k = decide (f.kind = k) := by
  have hg : secGet (d.rd i) = (f, 0) := by rw [rd_get hd hi, h]; exact secGet_put hm.1 hm.2
  have h1 : d.fm i = f := by unfold Dk.fm; rw [hg]
  refine ⟨h1, fun k => ?_⟩
  unfold Dk.is
  rw [h1, hg]
  simp
theorem secAt_in {K p r n : Nat} (hK : 0 < K) (hn : 1 + K ≤ n) : 0 ≤ secAt K p r ∧ secAt K p r < n := by
  unfold secAt
  have := Nat.mod_lt (p + r) hK
  omega
/-- A change that stands is found. -/
theorem change_found {d : Dk} {j : Jr} {N : Nat} {l : Chg} (hd : d.up) (hn : 1 + j.log ≤ d.n) (hK : 4 ≤ j.log) (hN : N ≤ 400) (hB : j.B.length = N) (hm : mayW N l) (hs : j.seq + 1 < 18446744073709551616) (hu : j.used + (l.length + 1) ≤ j.log)
    (h1 : ∀ r, r < l.length → d.get (secAt j.log j.place r) = (dataFr (j.seq + 1) l r).bytes) (h2 : d.get (secAt j.log j.place l.length) = (comFr (j.seq + 1) l).bytes) : j.change d = (l, true) := by
  have hmod : (j.seq + 1) % 18446744073709551616 = j.seq + 1 := Nat.mod_eq_of_lt hs
  have go : ∀ k i cnt, i + k = l.length → (0 < i → cnt = l.length) → j.chGo d (j.log - j.used - i) i cnt (l.take i) = some (l, l.length) := by
    intro k
    induction k with
    | zero =>
      intro i cnt hi hc
      have hl := hm.2.1
      obtain rfl : i = l.length := by omega
      have hc := hc (by omega)
      subst hc
      rw [show j.log - j.used - l.length = (j.log - j.used - l.length - 1) + 1 from by omega, Jr.chGo, if_pos ⟨by omega, rfl⟩, List.take_length]
    | succ k ih =>
      intro i cnt hi hc
      have hil : i < l.length := by omega
      obtain ⟨a, b, c⟩ := may_at hm hil
      obtain ⟨g1, g2⟩ := fm_of hd (secAt_in (by omega) hn) (data_fine hm hN hs hil) (h1 i hil)
      have g1' : d.fm (j.chAt i) = dataFr (j.seq + 1) l i := g1
      have g2' : ∀ k, d.is (j.chAt i) k = decide ((dataFr (j.seq + 1) l i).kind = k) := g2
      rw [show j.log - j.used - i = (j.log - j.used - (i + 1)) + 1 from by omega, Jr.chGo, if_neg, if_neg, g1']
      · have e : l.take i ++ [(((dataFr (j.seq + 1) l i).adr : Int), (dataFr (j.seq + 1) l i).body)] = l.take (i + 1) := by
          rw [List.take_succ_eq_append_getElem hil, wAt_eq hil]
          have : (((dataFr (j.seq + 1) l i).adr : Int), (dataFr (j.seq + 1) l i).body) = wAt l i := by
            unfold dataFr
            dsimp only
            rw [Int.toNat_of_nonneg a]
          rw [this]
        rw [e]
        exact ih (i + 1) _ (by omega) (fun _ => rfl)
      · unfold Jr.chBad
        rw [g1', g2', hmod]
        unfold dataFr
        dsimp only
        simp only [decide_true, Bool.true_eq_false, false_or]
        have := hm.2.1
        omega
      · rintro ⟨a1, a2⟩
        have := hc a1
        omega
  have h0 := go l.length 0 0 (by omega) (fun h => by omega)
  rw [Nat.sub_zero, List.take_zero] at h0
  obtain ⟨g1, g2⟩ := fm_of hd (secAt_in (by omega) hn) (com_fine hm hs) h2
  have g1' : d.fm (j.chAt l.length) = comFr (j.seq + 1) l := g1
  have g2' : ∀ k, d.is (j.chAt l.length) k = decide ((comFr (j.seq + 1) l).kind = k) := g2
  unfold Jr.change
  rw [h0]
  dsimp only
  have := hm.2.1
  rw [if_neg (by omega)]
  unfold Jr.chEnd
  rw [g1', g2', hmod]
  simp [comFr]
/-- No change is found where no end of one stands. -/
theorem change_none {d : Dk} {j : Jr} (hd : d.up) (hn : 1 + j.log ≤ d.n) (hK : 4 ≤ j.log) (hs : j.seq + 1 < 18446744073709551616)
    (h : ∀ i : Nat, i < j.log → (secGet (d.get ((1 + i : Nat) : Int))).2 = 0 → (secGet (d.get ((1 + i : Nat) : Int))).1.kind = 3 → (secGet (d.get ((1 + i : Nat) : Int))).1.seq ≤ j.seq) : (j.change d).2 = false := by
  have hend : ∀ cnt, j.chEnd d cnt = false := by
    intro cnt
    have hi := secAt_in (K := j.log) (p := j.place) (r := cnt) (by omega) hn
    have hr : d.rd (j.chAt cnt) = d.get (j.chAt cnt) := rd_get hd hi
    have hm := Nat.mod_lt (j.place + cnt) (show 0 < j.log by omega)
    have := h _ hm
    cases e : j.chEnd d cnt with
    | false => rfl
    | true =>
      unfold Jr.chEnd Dk.is Dk.fm at e
      rw [hr] at e
      simp only [Bool.and_eq_true, decide_eq_true_eq] at e
      obtain ⟨⟨⟨⟨⟨⟨e1, e2⟩, e3⟩, _⟩, _⟩, _⟩, _⟩ := e
      rw [Nat.mod_eq_of_lt hs] at e3
      have := this e1 e2
      have e4 : (secGet (d.get ((1 + (j.place + cnt) % j.log : Nat) : Int))).1.seq = j.seq + 1 := e3
      omega
  unfold Jr.change
  split
  · rfl
  · split
    · rfl
    · exact hend _
theorem redo_found {d : Dk} {N K : Nat} (hd : d.up) (hn : 1 + K ≤ d.n) (hK : 4 ≤ K) (hN : N ≤ 400) : ∀ (H : List Chg) (j : Jr) (t : List Int) (k : Nat), j.log = K → j.B.length = N → (∀ l ∈ H, mayW N l) → j.used + usedH H ≤ K → Stand K d.get j.seq j.place H →
    (∀ i : Nat, i < K → (secGet (d.get ((1 + i : Nat) : Int))).2 = 0 → (secGet (d.get ((1 + i : Nat) : Int))).1.kind = 3 → (secGet (d.get ((1 + i : Nat) : Int))).1.seq ≤ j.seq + H.length) → j.seq + H.length + 1 < 18446744073709551616 → j.place < K → H.length < k →
    redo d k j t = (⟨K, setAll j.B H.flatten, j.seq + H.length, (j.place + usedH H) % K, j.used + usedH H, j.e⟩, t ++ atsH H)
  | [], j, t, k, hl, hB, hm, hu, hst, hc, hs, hp, hk => by
    obtain ⟨k, rfl⟩ : ∃ k', k = k' + 1 := ⟨k - 1, by simp only [List.length_nil] at hk; omega⟩
    have := change_none (j := j) hd (by omega) (by omega) (by simpa using hs) (by rw [hl]; simpa using hc)
    rw [redo, if_neg (by rw [this]; decide)]
    cases j
    dsimp only at hl hp
    subst hl
    simp [usedH, atsH, setAll, Nat.mod_eq_of_lt hp]
  | l :: H, j, t, k, hl, hB, hm, hu, hst, hc, hs, hp, hk => by
    obtain ⟨k, rfl⟩ : ∃ k', k = k' + 1 := ⟨k - 1, by simp only [List.length_cons] at hk; omega⟩
    obtain ⟨s1, s2, s3⟩ := hst
    have hml := hm l (by simp)
    unfold usedH at hu
    simp only [List.length_cons] at hs hc hk
    subst hl
    have hf := change_found (j := j) (l := l) hd hn hK hN hB hml (by omega) (by omega) s1 s2
    have ih := redo_found hd hn hK hN H (j.on l) (t ++ l.map (·.1)) k rfl (by show (setAll j.B l).length = N; rw [setAll_len]; exact hB) (fun x hx => hm x (by simp [hx])) (by show j.used + (l.length + 1) + usedH H ≤ j.log; omega)
      (by show Stand j.log d.get ((j.seq + 1) % 18446744073709551616) _ H; rw [Nat.mod_eq_of_lt (by omega)]; exact s3)
      (by show ∀ i : Nat, i < j.log → _ → _ → _ ≤ (j.seq + 1) % 18446744073709551616 + H.length; rw [Nat.mod_eq_of_lt (by omega)]; intro i hi a b; have := hc i hi a b; omega)
      (by show (j.seq + 1) % 18446744073709551616 + H.length + 1 < _; rw [Nat.mod_eq_of_lt (by omega)]; omega) (by show (j.place + (l.length + 1)) % j.log < j.log; exact Nat.mod_lt _ (by omega)) (by omega)
    rw [redo, hf, if_pos rfl]
    dsimp only
    rw [ih]
    have e1 : (j.on l).seq = j.seq + 1 := Nat.mod_eq_of_lt (by omega)
    have e2 : (j.on l).place = (j.place + (l.length + 1)) % j.log := rfl
    have e3 : (j.on l).used = j.used + (l.length + 1) := rfl
    have e4 : (j.on l).e = j.e := rfl
    have e5 : setAll (j.on l).B H.flatten = setAll j.B (l :: H).flatten := by
      show setAll (setAll j.B l) H.flatten = _
      rw [List.flatten_cons]
      have : ∀ (a b : Chg) (X : List (List UInt8)), setAll X (a ++ b) = setAll (setAll X a) b := by
        intro a
        induction a with
        | nil => intro b X; rfl
        | cons x a ih => intro b X; exact ih b _
      rw [this]
    rw [e1, e2, e3, e4, e5, Nat.mod_add_mod]
    simp only [usedH, List.length_cons, atsH, List.flatten_cons, List.map_append, List.append_assoc]
    refine Prod.ext ?_ rfl
    simp only [Jr.mk.injEq, true_and, and_true]
    refine ⟨by omega, by rw [Nat.add_assoc], by omega⟩
end Go.Proofs.Ytmohjmfcbhpldaa
