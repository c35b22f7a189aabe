/- Writes that come in; what a change leaves. -/
import Derived.Test.YtmohjmfcbhpldaaJlaw
namespace Go.Proofs.Ytmohjmfcbhpldaa
open Gk Go
set_option linter.unusedVariables false
set_option maxHeartbeats 4000000
set_option maxRecDepth 4000
set_option linter.unusedSimpArgs false
attribute [local irreducible] Int.decLt Int.decLe Int.decEq Int.instDecidableEq Gk.Rnds Gk.E Gk.G Gk.R Gk.RD Gk.RX Gk.RO Gk.Y Gk.Ent Gk.Sat Gk.Round Gk.After Gk.Cell Gk.Sl Gk.SlA Gk.CB Gk.OK Gk.FnC Gk.Bytes Gk.BytesL Gk.StrL Gk.Buf Gk.MapI
/-- Fewer slots live on. -/
theorem r_weak {P : Program} {n : Nat} {all : Array Oper} {os : List Oper} {ρ ρ' : Env} {D : Dr} {w : World} {Q : Exit → Act → World → Prop} (hs : Env.Sub ρ' ρ) (h : R P n all os ρ' D w Q) : R P n all os ρ D w Q := by
  unfold R at h ⊢
  exact fun a h1 h2 h3 => h a h1 (h2.sub hs) h3
theorem reads_wr {w : World} {row : List Value} (h : row.length = 2) (r : Reads Try.prog w 34 row) : ∃ y : Int × List UInt8, WrR.φ [] w row y := by
  match row, h with
  | [a0, a1], _ =>
    obtain ⟨n0, e0, f0⟩ := reads_int (k := .i64) (reads_field (i := 0) r)
    obtain ⟨b, hb, _⟩ := reads_bytes (v := a1) (reads_field (i := 1) r)
    simp only [List.drop_zero, List.take_succ_cons, List.take_zero, List.cons.injEq, and_true] at e0
    subst e0
    exact ⟨(n0, b), a1, rfl, hb⟩
theorem reads_wrs {w : World} {v : Value} (r : Reads Try.prog w 32 [v]) : ∃ l : Chg, (Fact.rel 2 WrR v l).φ [] w ∧ l.length ≤ 9223372036854775807 := by
  obtain ⟨l, h1, h2⟩ := reads_slR (r := WrR.φ [] w) r (fun row h hr => reads_wr h hr)
  exact ⟨l, h1, h2⟩
theorem may_lt {N : Nat} {l : Chg} (h : mayW N l) : ∀ k i, i + (k + 1) < l.length → (wAt l i).1 < (wAt l (i + (k + 1))).1
  | 0, i, hi => by
    have := (h.1 (i + 1) hi).2.2.1 (by omega)
    rw [Nat.add_sub_cancel] at this
    exact this
  | k + 1, i, hi => by
    have h1 := may_lt h k i (by omega)
    have h2 := (h.1 (i + (k + 1) + 1) hi).2.2.1 (by omega)
    rw [Nat.add_sub_cancel] at h2
    have e : i + (k + 1 + 1) = i + (k + 1) + 1 := by omega
    rw [e]
    omega
theorem fold_may {N : Nat} {l : Chg} (h : mayW N l) {i : Nat} (hi : i < l.length) (x : List UInt8) : foldAt x (wAt l i).1.toNat l = (wAt l i).2 := by
  have e : l = l.take i ++ (l[i] :: l.drop (i + 1)) := by rw [List.getElem_cons_drop, List.take_append_drop]
  have h0 := (may_at h hi).1
  rw [wAt_eq hi] at e
  generalize hy : wAt l i = y at e h0 ⊢
  have : foldAt x y.1.toNat (l.take i ++ (y :: l.drop (i + 1))) = y.2 := by
    rw [foldAt_app, foldAt, if_pos rfl]
    refine foldAt_out _ _ _ (fun z hz hh => ?_)
    obtain ⟨k, hk, rfl⟩ := List.getElem_of_mem hz
    rw [List.length_drop] at hk
    rw [List.getElem_drop, wAt_eq (by omega)] at hh
    have h1 := may_lt h k i (by omega)
    rw [hy, show i + (k + 1) = i + 1 + k from by omega] at h1
    omega
  rw [← e] at this
  exact this
theorem set_may {N : Nat} {l : Chg} {B : List (List UInt8)} (hB : B.length = N) (h : mayW N l) {i : Nat} (hi : i < l.length) : (setAll B l).getD (wAt l i).1.toNat [] = (wAt l i).2 := by
  have := may_at h hi
  rw [setAll_at _ _ _ (by omega)]
  exact fold_may h hi _
theorem alive_len {K N : Nat} {j : Jr} {d : Dk} (A : Alive K N j d) : j.B.length = N := by obtain ⟨_, _, _, U, _⟩ := A; exact U.r0.len
theorem alive_e {K N : Nat} {j : Jr} {d : Dk} (A : Alive K N j d) : j.e = 0 := by obtain ⟨_, _, _, U, _⟩ := A; exact U.e
theorem may_short {N : Nat} {l : Chg} (h : mayW N l) : l.length ≤ N := by
  have hh : ∀ i, i < l.length → (i : Int) ≤ (wAt l i).1 := by
    intro i
    induction i with
    | zero => intro hi; exact (may_at h hi).1
    | succ i ih =>
      intro hi
      have h1 := ih (by omega)
      have h2 := (h.1 (i + 1) hi).2.2.1 (by omega)
      rw [Nat.add_sub_cancel] at h2
      omega
  have h0 := h.2.1
  have h1 := hh (l.length - 1) (by omega)
  have h2 := (may_at h (show l.length - 1 < l.length by omega)).2.1
  omega
theorem alive_stop {K N : Nat} {j : Jr} {d ds : Dk} {a : Int} (A : Alive K N j d) (ha : -1 ≤ a) (hs : d.stop a = ds) : Alive K N j ds := by
  obtain ⟨s0, p0, H, U, hh⟩ := A
  subst hs
  exact ⟨s0, p0, H, { e := U.e, up := U.up, log := U.log, K4 := U.K4, K2 := U.K2, N4 := U.N4, n := U.n, small := U.small, inv := U.inv, used := U.used, place := U.place, ball := U.ball
                      left := by
                        show -1 ≤ (if -1 > a then -1 else a)
                        split <;> omega }, hh⟩
theorem cnt_n (d : Dk) : d.cnt.n = d.n := (cnt_same d).1
theorem lay_n (j : Jr) (d : Dk) (i : Int) (f : Fm) : (j.lay d i f).2.n = d.n := by
  unfold Jr.lay
  split
  · show (d.lD i f).n = d.n
    unfold Dk.lD Dk.wD
    split
    · split
      · rfl
      · split
        · exact cnt_n d
        · exact cnt_n d
    · rfl
  · rfl
theorem flush_n (j : Jr) (d : Dk) : (j.flush d).2.n = d.n := by
  unfold Jr.flush
  split
  · show d.fD.n = d.n
    unfold Dk.fD
    split
    · rfl
    · split
      · exact cnt_n d
      · exact cnt_n d
  · rfl
theorem check_n (j : Jr) (d : Dk) : (j.check d).2.n = d.n := by
  unfold Jr.check
  split
  · rfl
  · dsimp only
    rw [flush_n, lay_n, flush_n]
theorem puts_n (j : Jr) (l : Chg) (x : Jr × Dk) : ∀ k, (j.puts l x k).2.n = x.2.n
  | 0 => rfl
  | k + 1 => by
    rw [Jr.puts]
    unfold Jr.put1
    split
    · rw [lay_n, puts_n j l x k]
    · rw [lay_n, flush_n, puts_n j l x k]
theorem homes_n (l : Chg) (x : Jr × Dk) : ∀ k, (homes l x k).2.n = x.2.n
  | 0 => rfl
  | k + 1 => by
    rw [homes]
    unfold Jr.home
    rw [lay_n, homes_n l x k]
theorem commit_n (j : Jr) (d : Dk) (l : Chg) : (j.commit d l).1.2.n = d.n := by
  have hr : (j.room d l).2.n = d.n := by
    unfold Jr.room
    split
    · exact check_n j d
    · rfl
  have hw : ((j.room d l).1.write (j.room d l).2 l).2.n = d.n := by
    unfold Jr.write
    rw [flush_n, puts_n]
    exact hr
  unfold Jr.commit
  split
  · rfl
  · split
    · rfl
    · split
      · rfl
      · dsimp only
        split
        · exact hr
        · split
          · exact hw
          · unfold Jr.done
            dsimp only
            rw [homes_n]
            exact hw
theorem crash_n (d : Dk) (pick : List UInt8) : (d.crash pick).n = d.n := rfl
end Go.Proofs.Ytmohjmfcbhpldaa
