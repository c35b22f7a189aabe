/- The log goes on behind a change. -/
import Derived.Test.YtmohjmfcbhpldaaJournal
namespace Go.Proofs.Ytmohjmfcbhpldaa
open Gk Go
set_option linter.unusedVariables false
set_option maxHeartbeats 4000000
set_option maxRecDepth 4000
set_option linter.unusedSimpArgs false
attribute [local irreducible] Int.decLt Int.decLe Int.decEq Int.instDecidableEq Gk.Rnds Gk.E Gk.G Gk.R Gk.RD Gk.RX Gk.RO Gk.Y Gk.Ent Gk.Sat Gk.Round Gk.After Gk.Cell Gk.Sl Gk.SlA Gk.CB Gk.OK Gk.FnC Gk.Bytes Gk.BytesL Gk.StrL Gk.Buf Gk.MapI
def WrR : Rel (Int × List UInt8) := ⟨fun O w row y => ∃ v, row = [.int .i64 y.1, v] ∧ Bytes O w v y.2, fun s h => h.elim fun v h => ⟨v, h.1, h.2.step s⟩, fun hs h => h.elim fun v h => ⟨v, h.1, h.2.sub hs⟩⟩
def setAll (B : List (List UInt8)) : List (Int × List UInt8) → List (List UInt8)
  | [] => B
  | x :: xs => setAll (B.set x.1.toNat x.2) xs
theorem setAll_len : ∀ (B : List (List UInt8)) (l : List (Int × List UInt8)), (setAll B l).length = B.length
  | _, [] => rfl
  | B, x :: xs => by rw [setAll, setAll_len]; simp
theorem setAll_snoc : ∀ (B : List (List UInt8)) (l : List (Int × List UInt8)) (x : Int × List UInt8), setAll B (l ++ [x]) = (setAll B l).set x.1.toNat x.2
  | _, [], _ => rfl
  | B, y :: ys, x => by rw [List.cons_append, setAll, setAll_snoc]; rfl
theorem setAll_all {n : Nat} : ∀ (l : List (Int × List UInt8)) (B : List (List UInt8)), (∀ b ∈ B, b.length ≤ n) → (∀ x ∈ l, x.2.length ≤ n) → ∀ b ∈ setAll B l, b.length ≤ n
  | [], _, h, _ => h
  | x :: xs, B, h, k => setAll_all xs _ (fun b hb => by
      rcases List.mem_or_eq_of_mem_set hb with hb | rfl
      · exact h b hb
      · exact k x (by simp)) (fun y hy => k y (by simp [hy]))
def Jr.on (j : Jr) (l : List (Int × List UInt8)) : Jr := { j with seq := (j.seq + 1) % 18446744073709551616, place := (j.place + (l.length + 1)) % j.log, used := j.used + (l.length + 1), B := setAll j.B l }
theorem on_ok {j : Jr} (h : j.ok) {l : List (Int × List UInt8)} (hu : j.used + (l.length + 1) ≤ j.log) (hl : ∀ x ∈ l, x.2.length ≤ 96) : (j.on l).ok := by
  obtain ⟨h1, h2, h3, h4, h5, h6, h7, h8⟩ := h
  exact ⟨h1, h2, by rw [show (j.on l).B = setAll j.B l from rfl, setAll_len]; exact h3, Nat.mod_lt _ (by decide), Nat.mod_lt _ (by show 0 < j.log; omega), hu, h7, setAll_all l j.B h8 hl⟩
theorem bodySetF {w w0 : World} {M O0 O : List Nat} {L : List KT} {Φ Φ' Φ'' : List Fact} {vs : List Value} {B : List (List UInt8)} {v : Value} {b : List UInt8} (i : Nat) (F : Fr M O0 w0 O w L Φ) (h : Sel Φ (Fact.bodies vs B) Φ' := by (repeat (first | exact Sel.here | apply Sel.there))) (hv : Sel Φ (Fact.bytes v b) Φ'' := by (repeat (first | exact Sel.here | apply Sel.there))) : Fr M O0 w0 O w L (Fact.bodies (vs.set i v) (B.set i b) :: Φ) :=
  F.bodySet i h (F.bytes hv)
theorem on_c {p q bq : Nat} {lv : Value} {j : Jr} {l : List (Int × List UInt8)} (h : j.used + (l.length + 1) ≤ j.log ∧ ∀ x ∈ l, (0 ≤ x.1 ∧ x.1 < j.B.length) ∧ x.2.length ≤ 96) : Con Try.prog 27 [dptr p, lv] [Jt p q bq j] [] [Fact.rel 2 WrR lv l] fun r T Φ => T = [Jt p q bq (j.on l)] ∧ Φ = [] := by
  obtain ⟨hu, hl⟩ := h
  refine con_of (fun O0 w0 F => ?_)
  refine tidy F (fun F => ?_)
  refine fn_of _ Try.func27 rfl (by kernel_rfl) Try.ntmps27 rfl ?_
  obtain ⟨vs, hvl, hj, F⟩ := openJ F
  have hjo := on_ok hj hu (fun x hx => (hl x hx).2)
  obtain ⟨h1, h2, h3, h4, h5, h6, h7, h8⟩ := id hj
  obtain ⟨la, lc, rfl, _⟩ := (F.rel (v := lv) (R := WrR) (ys := l)).form
  unfold jcells at F
  refine go_on ?_
  refine r_y (y_addM (k := .u64) (a := j.seq) (b := 1) rfl rfl rfl) rfl ?_
  refine go_on ?_
  refine f_store1 F rfl rfl rfl (fun w F => ?_); refine go_on ?_
  refine f_draw [(1, Thing.cells p _)] F [14] [(0, true), (1, true), (2, true), (3, true), (4, true), (5, true), (6, true), (7, true), (8, true), (9, true), (10, true), (11, true), (12, true), (13, true), (14, false)] (by kernel_rfl) (by kernel_rfl) (fun w F hS => ?_); refine go_look ?_
  refine rd_do rfl ?_; (try refine r_go rfl rfl ?_)
  refine f_store1 F rfl rfl rfl (fun w F => ?_)
  (try refine r_nil ?_); refine e_after (fun h => by cases h) ?_; refine go_look ?_
  refine rd_done ?_; refine go_on ?_
  refine f_store1 F rfl rfl rfl (fun w F => ?_); refine go_on ?_
  have F : Fr _ O0 w0 O0 w [(1, Thing.cells p (jcells q bq { j.on l with B := j.B })), (1, Thing.cells bq vs)] [Fact.bodies vs j.B, Fact.rel 2 WrR (.slice la l.length lc) l] := F
  generalize hcs : jcells q bq { j.on l with B := j.B } = cs at F
  have hlen : ∃ a b c d e g, cs = [a, b, .slice (some ⟨bq, 0, none⟩) j.B.length j.B.length, c, d, e, g] := ⟨_, _, _, _, _, _, hcs.symm⟩
  obtain ⟨ca, cb, cc, cd, ce, cg, rfl⟩ := hlen
  refine g_loop (X := Nat) (fun i => [(0, dptr p), (39, .slice la l.length lc), (40, .int .i64 l.length), (41, .int .i64 i)])
    (fun i wr => ∃ O vs, vs.length = j.B.length ∧ Fr ([Jt p q bq j].flatMap (·.bs)) O0 w0 O wr [(1, Thing.cells p [ca, cb, .slice (some ⟨bq, 0, none⟩) j.B.length j.B.length, cc, cd, ce, cg]), (1, Thing.cells bq vs)] [Fact.bodies vs (setAll j.B (l.take i)), Fact.rel 2 WrR (.slice la l.length lc) l] ∧ i ≤ l.length) (fun i => l.length - i) 0 (sub_cons rfl rfl (sub_cons rfl rfl (sub_cons rfl rfl (sub_cons rfl rfl (sub_nil))))) ⟨_, _, hvl, F, by simp⟩ ?_
  clear F
  rintro i w ⟨O, vs, hvl, F, hi⟩
  refine go_on ?_
  refine g_dec rfl (fun g => ?_) (fun g => ?_)
  · have hi' : i < l.length := by omega
    obtain ⟨x, row, rfl, hrl, ⟨bv, rfl, hbv⟩, hrow⟩ := (F.rel (R := WrR) (ys := l)).elem hi'
    have hli := hl _ (List.getElem_mem hi')
    obtain ⟨k, hk⟩ : ∃ k : Nat, l[i].1 = k := ⟨l[i].1.toNat, by omega⟩
    have htk : setAll j.B (l.take (i + 1)) = (setAll j.B (l.take i)).set k l[i].2 := by
      rw [List.take_succ_eq_append_getElem hi', setAll_snoc, hk]; rfl
    rw [hk] at hrow
    obtain ⟨va, vc, rfl, _⟩ := hbv.form
    have F := (F.factB hbv).fact hrow
    refine go_on ?_
    (first | refine f_alloc1 F rfl (fun z w F => ?_) | refine f_allocN F rfl (fun z w F => ?_)); refine go_on ?_
    refine f_storeAll F rfl rfl rfl (fun w F => ?_); refine go_on ?_
    refine f_draw [(1, Thing.cells p _), (2, Thing.cells z _), (1, Thing.cells bq _)] F [10] [(0, true), (1, true), (2, true), (3, true), (4, true), (5, true), (6, true), (7, true), (8, false), (9, true), (10, false)] (by kernel_rfl) (by kernel_rfl) (fun w F hS => ?_); refine go_look ?_
    refine rd_do rfl ?_
    (try refine r_go rfl rfl ?_)
    refine f_call F rfl rfl (bclone_c (b := l[i].2)) ?_ (hp := (by omega))
    clear F; rintro r O w T Φ ⟨rfl, rfl⟩ F0
    refine tidy F0 (fun F => ?_); clear F0
    refine r_nil ?_; refine e_afterF F (fun hS => ?_); refine go_look ?_
    obtain ⟨O, F⟩ := F.frzB
    obtain ⟨ra, rc, rfl, _⟩ := (F.bytes (v := r) (xs := l[i].2)).form
    have F := bodySetF k F (v := .slice ra l[i].2.length rc) (b := l[i].2)
    rw [← htk] at F
    refine rd_do rfl ?_; (try refine r_go rfl rfl ?_)
    refine f_store1 (cs := vs) (i := k) F rfl rfl rfl (fun w F => ?_) (hc := .any) (hi := by omega)
    (try refine r_nil ?_); refine e_after (fun h => by cases h) ?_; refine go_look ?_
    refine rd_done ?_; refine go_on ?_
    exact e_round (i + 1) (sub_cons rfl rfl (sub_cons rfl rfl (sub_cons rfl rfl (sub_cons rfl rfl (sub_nil))))) ⟨_, vs.set k (.slice ra l[i].2.length rc), by rw [List.length_set]; exact hvl, F.wk, by omega⟩ (by omega)
  · have hi' : i = l.length := by omega
    subst hi'
    rw [List.take_length] at F
    have hcs2 : jcells q bq (j.on l) = [ca, cb, .slice (some ⟨bq, 0, none⟩) j.B.length j.B.length, cc, cd, ce, cg] := by
      rw [← hcs]
      unfold jcells
      rw [show (j.on l).B.length = j.B.length from setAll_len _ _]
    rw [← hcs2] at F
    refine go_on ?_
    have F := mkJ (j.on l) F hjo (vs := vs)
    refine go_back ?_
    exact F.fin ⟨rfl, rfl⟩
end Go.Proofs.Ytmohjmfcbhpldaa
