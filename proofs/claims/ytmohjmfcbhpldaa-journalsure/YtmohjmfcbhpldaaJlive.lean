/- A journal that stands or has stopped; changes as they are asked for. -/
import Derived.Test.YtmohjmfcbhpldaaJwr
namespace Go.Proofs.Ytmohjmfcbhpldaa
open Gk Go
set_option linter.unusedVariables false
set_option maxHeartbeats 4000000
set_option maxRecDepth 4000
set_option linter.unusedSimpArgs false
attribute [local irreducible] Int.decLt Int.decLe Int.decEq Int.instDecidableEq Gk.Rnds Gk.E Gk.G Gk.R Gk.RD Gk.RX Gk.RO Gk.Y Gk.Ent Gk.Sat Gk.Round Gk.After Gk.Cell Gk.Sl Gk.SlA Gk.CB Gk.OK Gk.FnC Gk.Bytes Gk.BytesL Gk.StrL Gk.Buf Gk.MapI
/-- Several ways come to one place within a region. -/
theorem r_join {X : Type} {P : Program} {n : Nat} {all : Array Oper} {os : List Oper} {D : Dr} {Q : Exit → Act → World → Prop} {goal : Prop} (ρ' : X → Env) (J : X → World → Prop)
    (h : (∀ x w ρ, J x w → Env.Sub (ρ' x) ρ → R P n all os ρ D w Q) → goal) (k : ∀ x w, J x w → R P n all os (ρ' x) D w Q) : goal := h (fun x w ρ hj hs => r_weak hs (k x w hj))
/-- Several ways come to one loop. -/
theorem g_join {X : Type} {P : Program} {n : Nat} {c : Code} {D : Dr} {Q : Exit → Act → World → Prop} {goal : Prop} (ρ' : X → Env) (J : X → World → Prop)
    (h : (∀ x w ρ, J x w → Env.Sub (ρ' x) ρ → G P n c ρ D w Q) → goal) (k : ∀ x w, J x w → G P n c (ρ' x) D w Q) : goal := h (fun x w ρ hj hs => g_weak hs (k x w hj))
/-- A journal that stands, or one that stopped where its disk did. -/
def Live (K : Nat) (j : Jr) (d : Dk) : Prop := (Alive K 6 j d ∨ (j.e = 20 ∧ ∀ c, Choice d c → Rec K 6 c j.seq j.B)) ∧ j.B.length = 6 ∧ 1 + K + 6 ≤ d.n
theorem alive_live {K : Nat} {j : Jr} {d : Dk} (h : Alive K 6 j d) : Live K j d := by
  refine ⟨.inl h, alive_len h, ?_⟩
  obtain ⟨_, _, _, U, _⟩ := h
  exact U.n
theorem live_stop {K : Nat} {j : Jr} {d : Dk} {a : Int} (h : Live K j d) (ha : -1 ≤ a) : Live K j (d.stop a) := by
  obtain ⟨h1, h2, h3⟩ := h
  refine ⟨?_, h2, h3⟩
  rcases h1 with h1 | ⟨h1, h4⟩
  · exact .inl (alive_stop h1 ha rfl)
  · exact .inr ⟨h1, fun c hc => h4 c hc⟩
theorem stop_waits (d : Dk) (a : Int) : (d.stop a).waits = d.waits := rfl
theorem live_open {K : Nat} {j : Jr} {d : Dk} (hK : 4 ≤ K ∧ K ≤ 33) (hs : j.seq < 1000000000) (h : Live K j d) (pick : List UInt8) : ∃ u, Rdy K 6 (d.crash pick) j.seq j.B u := by
  obtain ⟨h1, h2, h3⟩ := h
  rcases h1 with h1 | ⟨h1, h4⟩
  · exact ⟨_, rdy_crash h1 (by omega) pick⟩
  · exact rdy_rec h3 ⟨by omega, by omega, by omega, by omega⟩ hs (h4 _ (crash_choice d pick))
theorem live_commit {K f : Nat} {j j' : Jr} {d d' : Dk} (hK : 4 ≤ K ∧ K ≤ 33) (h : Live K j d) (l : Chg) (hs : j.seq + 1 < 1000000000) (hx : j.commit d l = ((j', d'), f)) :
    ((f = 1 ∨ f = 21) ∧ j = j' ∧ d = d') ∨ (f = 0 ∧ mayW 6 l ∧ Live K j' d' ∧ j'.B = setAll j.B l ∧ j'.seq = j.seq + 1) ∨
    (f = 20 ∧ ∀ pick, ∃ B' sq u, Rdy K 6 (d'.crash pick) sq B' u ∧ sq ≤ j.seq + 1 ∧ (B' = j.B ∨ (mayW 6 l ∧ B' = setAll j.B l))) := by
  have hlo := live_open hK (by omega) h
  obtain ⟨h1, h2, h3⟩ := h
  have hn := commit_n j d l
  rw [hx] at hn
  dsimp only at hn
  rcases h1 with h1 | ⟨h1, h4⟩
  · have hc := commit_alive h1 l hs
    rw [hx] at hc
    dsimp only at hc
    rcases hc with ⟨_, g⟩ | ⟨_, _, g⟩ | ⟨g1, g2, g3, g4, g5, _, _, g8, _⟩ | ⟨g1, g2, g3, g4, g5, g6, _⟩
    · injection g with g1 g2
      injection g1 with g1 g3
      exact .inl ⟨.inl g2, g1.symm, g3.symm⟩
    · injection g with g1 g2
      injection g1 with g1 g3
      exact .inl ⟨.inr g2, g1.symm, g3.symm⟩
    · refine .inr (.inl ⟨g3, g1, ⟨?_, by rw [g4, setAll_len]; exact h2, by rw [hn]; exact h3⟩, g4, g5⟩)
      rcases g8 with g8 | ⟨g8, g9⟩
      · exact .inl g8
      · exact .inr ⟨g8, fun c hc => by rw [g5, g4]; exact g9 c hc⟩
    · refine .inr (.inr ⟨g3, fun pick => ?_⟩)
      rcases g6 _ (crash_choice d' pick) with g | g
      · obtain ⟨u, hu⟩ := rdy_rec (by rw [hn]; exact h3) ⟨by omega, by omega, by omega, by omega⟩ (by omega) g
        exact ⟨_, _, u, hu, by omega, .inl rfl⟩
      · obtain ⟨u, hu⟩ := rdy_rec (by rw [hn]; exact h3) ⟨by omega, by omega, by omega, by omega⟩ (by omega) g
        exact ⟨_, _, u, hu, by omega, .inr ⟨g1, rfl⟩⟩
  · have e : j.commit d l = ((j, d), 20) := by
      unfold Jr.commit
      rw [if_pos (by rw [h1]; decide), h1]
    rw [e] at hx
    injection hx with hx1 hx2
    injection hx1 with hx1 hx3
    subst hx1 hx3 hx2
    refine .inr (.inr ⟨rfl, fun pick => ?_⟩)
    obtain ⟨u, hu⟩ := hlo pick
    exact ⟨_, _, u, hu, by omega, .inl rfl⟩
/-- All is let home where the disk doesn't stop. -/
theorem check_live {K N : Nat} {j : Jr} {d : Dk} (A : Alive K N j d) (hl : d.left = -1) : (j.check d).1.e = 0 ∧ Alive K N (j.check d).1 (j.check d).2 ∧ (j.check d).2.left = -1 ∧ (j.check d).1.B = j.B ∧ (j.check d).1.seq = j.seq ∧ (j.check d).2.waits.length ≤ d.waits.length + 1 := by
  have hlk := check_like j d
  have hw := check_waits j d
  by_cases hu : j.used = 0
  · have e : j.check d = (j, d) := if_pos (.inr hu)
    rw [e]
    exact ⟨alive_e A, A, hl, rfl, rfl, Nat.le_succ _⟩
  · rcases check_alive A hu with ⟨h1, h2, h3⟩ | ⟨h1, _⟩
    · rw [h1]
      have he := alive_e A
      exact ⟨he, h2, h3 hl, rfl, rfl, hw⟩
    · exact absurd hl h1
/-- What one asks for, as far as it is asked of a block that there is. -/
def nowSet (B : List (List UInt8)) (x : Int × List UInt8) : List (List UInt8) := if 0 ≤ x.1 ∧ x.1 < 6 then B.set x.1.toNat x.2 else B
def nowAll (B : List (List UInt8)) : Chg → List (List UInt8)
  | [] => B
  | x :: xs => nowAll (nowSet B x) xs
theorem nowSet_len (B : List (List UInt8)) (x : Int × List UInt8) : (nowSet B x).length = B.length := by
  unfold nowSet
  split
  · exact List.length_set
  · rfl
theorem nowAll_len : ∀ (B : List (List UInt8)) (l : Chg), (nowAll B l).length = B.length
  | _, [] => rfl
  | B, x :: xs => by rw [nowAll, nowAll_len, nowSet_len]
theorem nowAll_snoc : ∀ (B : List (List UInt8)) (l : Chg) (x : Int × List UInt8), nowAll B (l ++ [x]) = nowSet (nowAll B l) x
  | _, [], _ => rfl
  | B, y :: ys, x => by rw [List.cons_append, nowAll, nowAll_snoc, nowAll]
theorem nowAll_in : ∀ (l : Chg) (B : List (List UInt8)), (∀ x ∈ l, 0 ≤ x.1 ∧ x.1 < 6) → nowAll B l = setAll B l
  | [], _, _ => rfl
  | x :: xs, B, h => by
    rw [nowAll, setAll, nowAll_in xs _ (fun y hy => h y (List.mem_cons_of_mem _ hy))]
    unfold nowSet
    rw [if_pos (h x List.mem_cons_self)]
theorem nowAll_may {l : Chg} (B : List (List UInt8)) (h : mayW 6 l) : nowAll B l = setAll B l := by
  refine nowAll_in l B (fun x hx => ?_)
  obtain ⟨i, hi, rfl⟩ := List.getElem_of_mem hx
  have := may_at h hi
  rw [wAt_eq hi]
  exact ⟨this.1, this.2.1⟩
/-- Six blocks are the same, one by one. -/
theorem same6 {A B : List (List UInt8)} (hA : A.length = 6) (hB : B.length = 6) : (∀ k, k < 6 → A.getD k [] = B.getD k []) ↔ A = B := by
  constructor
  · intro h
    refine List.ext_getElem (by omega) (fun k h1 h2 => ?_)
    have := h k (by omega)
    simpa [List.getD_eq_getElem?_getD, h1, h2] using this
  · rintro rfl k _
    rfl
/-- A change, as one cell. -/
def ChR : Rel Chg := ⟨fun O w row y => ∃ v, row = [v] ∧ (Fact.rel 2 WrR v y).φ O w ∧ y.length ≤ 9223372036854775807, fun s h => by obtain ⟨v, h1, h2, h3⟩ := h; exact ⟨v, h1, (Fact.rel 2 WrR v _).st s h2, h3⟩, fun hs h => by obtain ⟨v, h1, h2, h3⟩ := h; exact ⟨v, h1, (Fact.rel 2 WrR v _).sb hs h2, h3⟩⟩
/-- One of the changes. -/
theorem chAt {w w0 : World} {M O0 O : List Nat} {L : List KT} {Φ Φ' : List Fact} (F : Fr M O0 w0 O w L Φ) {a : Option Addr} {n c i : Nat} {chs : List Chg} (hi : i < chs.length) (h : Sel Φ (Fact.rel 1 ChR (.slice a n c) chs) Φ' := by (repeat (first | exact Sel.here | apply Sel.there))) :
    ∃ x ua uc, a = some x ∧ chs[i].length ≤ 9223372036854775807 ∧ Fr M O0 w0 O w L (Fact.cell (x.add i) (.slice ua chs[i].length uc) :: Fact.rel 2 WrR (.slice ua chs[i].length uc) chs[i] :: Φ) := by
  obtain ⟨x, row, rfl, hrl, ⟨u, rfl, hu, hl⟩, hrow⟩ := (F.rel (R := ChR) (ys := chs) h).elem hi
  have F := F.fact (f := Fact.rel 2 WrR u chs[i]) hu
  obtain ⟨ua, uc, rfl, _⟩ := (F.rel (v := u) (R := WrR) (ys := chs[i])).form
  have hc := hrow 0 _ rfl
  rw [Addr.add_add, Nat.mul_one, Nat.add_zero] at hc
  exact ⟨x, ua, uc, rfl, hl, F.fact (f := Fact.cell _ _) hc⟩
/-- Bits of a byte. -/
theorem andN (c : UInt8) (k : Nat) (hk : k < 256) : andI .u8 (c.toNat : Int) ((k : Nat) : Int) = ((c.toNat &&& k : Nat) : Int) := by
  have hc := c.toNat_lt
  unfold andI
  rw [show (BitVec.ofInt IntKind.u8.bits (c.toNat : Int) &&& BitVec.ofInt IntKind.u8.bits ((k : Nat) : Int)).toNat = c.toNat &&& k from by
    show (BitVec.ofInt 8 (c.toNat : Int) &&& BitVec.ofInt 8 ((k : Nat) : Int)).toNat = _
    rw [BitVec.toNat_and, BitVec.ofInt_natCast, BitVec.toNat_ofNat, BitVec.ofInt_natCast, BitVec.toNat_ofNat, Nat.mod_eq_of_lt (by simpa using hc), Nat.mod_eq_of_lt hk]]
  exact wrap_lim (by simp only [lim]; have := @Nat.and_le_right c.toNat k; omega)
theorem andB6 (c : UInt8) (h : andI .u8 (c.toNat : Int) 2 = 2) : 0 < andI .u8 (c.toNat : Int) 6 := by
  have e2 := andN c 2 (by omega)
  have e6 := andN c 6 (by omega)
  have e2 : andI .u8 (c.toNat : Int) 2 = ((c.toNat &&& 2 : Nat) : Int) := e2
  have e6 : andI .u8 (c.toNat : Int) 6 = ((c.toNat &&& 6 : Nat) : Int) := e6
  rw [e6]
  rw [e2] at h
  have h : c.toNat &&& 2 = 2 := by omega
  have h2 : c.toNat &&& 6 ≠ 0 := fun h0 => by
    have : (c.toNat &&& 6) &&& 2 = c.toNat &&& 2 := by rw [Nat.and_assoc]; rfl
    rw [h0, h, Nat.zero_and] at this
    omega
  omega
theorem reads_chs {w : World} {v : Value} (r : Reads Try.prog w 44 [v]) : ∃ l : List Chg, (Fact.rel 1 ChR v l).φ [] w := by
  obtain ⟨l, h1, _⟩ := reads_slR (r := ChR.φ [] w) r (fun row h hr => by
    match row, h with
    | [u], _ =>
      obtain ⟨y, hy, hl⟩ := reads_wrs hr
      exact ⟨y, u, rfl, hy, hl⟩)
  exact ⟨l, h1⟩
end Go.Proofs.Ytmohjmfcbhpldaa
