/- All things are loaded; whether things may be saved together. -/
import Derived.Test.YtcfpnghkkkphhaaGreatVload
namespace Go.Proofs.YtcfpnghkkkphhaaGreat
open Gk Go
set_option linter.unusedVariables false
set_option maxHeartbeats 4000000
set_option maxRecDepth 4000
set_option linter.unusedSimpArgs false
attribute [local irreducible] Int.decLt Int.decLe Int.decEq Int.instDecidableEq Gk.Rnds Gk.E Gk.G Gk.R Gk.RD Gk.RX Gk.RO Gk.Y Gk.Ent Gk.Sat Gk.Round Gk.After Gk.Cell Gk.Sl Gk.SlA Gk.CB Gk.OK Gk.FnC Gk.Bytes Gk.BytesL Gk.StrL Gk.Buf Gk.MapI
def SltR : Rel Slt := ⟨fun O w row y => ∃ v, row = sltC y v ∧ Bytes O w v y.data, fun s ⟨v, h1, h2⟩ => ⟨v, h1, h2.step s⟩, fun hs ⟨v, h1, h2⟩ => ⟨v, h1, h2.sub hs⟩⟩
theorem all2_take {α β : Type} {r : α → β → Prop} : ∀ {xs : List α} {ys : List β}, All2 r xs ys → ∀ k, All2 r (xs.take k) (ys.take k)
  | [], [], _, k => by rw [List.take_nil, List.take_nil]; trivial
  | _ :: _, _ :: _, _, 0 => trivial
  | x :: xs, y :: ys, h, k + 1 => ⟨h.1, all2_take (xs := xs) (ys := ys) h.2 k⟩
theorem flat_take {sz : Nat} : ∀ (rows : List (List Value)) (k : Nat), (∀ r, r ∈ rows → r.length = sz) → (rows.take k).flatten = rows.flatten.take (k * sz)
  | [], k, _ => by rw [List.take_nil]; exact List.take_nil.symm
  | r :: rs, 0, _ => by rw [List.take_zero, Nat.zero_mul, List.take_zero]; rfl
  | r :: rs, k + 1, h => by
    have hr := h r List.mem_cons_self
    have e : (k + 1) * sz = r.length + k * sz := by rw [hr, Nat.succ_mul, Nat.add_comm]
    rw [List.take_succ_cons, List.flatten_cons, List.flatten_cons, flat_take rs k fun x hx => h x (List.mem_cons_of_mem _ hx), e, List.take_append, List.take_of_length_le (Nat.le_add_right _ _), Nat.add_sub_cancel_left]
theorem slr_take {β : Type} {sz : Nat} {r : List Value → β → Prop} {O : List Nat} {w : World} {a : Option Addr} {c k : Nat} {ys : List β} (h : SlR sz r O w (.slice a ys.length c) ys) (hk : k ≤ ys.length) (hsz : 0 < sz) : SlR sz r O w (cutV a sz 0 k c) (ys.take k) := by
  obtain ⟨_, _, he, hc⟩ := h.form
  injection he with _ _ e3
  subst e3
  obtain ⟨rows, h1, h2, h3⟩ := h
  have hl : rows.flatten.length = ys.length * sz := by rw [flat_length rows h3, h2.length]
  have := Sl.cut h1 (l := 0) (h := k) (k := c) (Nat.le_refl _) (Nat.zero_le _) (by omega) hk hl hsz
  rw [Nat.zero_mul, List.drop_zero, Nat.sub_zero, ← flat_take rows k h3] at this
  refine ⟨rows.take k, ?_, all2_take h2 k, fun row hr => h3 row (List.mem_of_mem_take hr)⟩
  rw [List.length_take, Nat.min_eq_left hk]
  exact this
/-- The first things. -/
def Tx.slots (t : Tx) (k : Nat) : List Slt := (List.range k).map fun i => (volLoad t (i : Nat)).1
def Tx.slotsE (t : Tx) : Nat → Nat
  | 0 => 0
  | k + 1 => if t.slotsE k = 0 then (volLoad t (k : Nat)).2 else t.slotsE k
theorem Tx.slotsE_up {t : Tx} {k : Nat} (h : t.slotsE k ≠ 0) : ∀ m, k ≤ m → t.slotsE m = t.slotsE k
  | 0, hm => by rw [show k = 0 by omega]
  | m + 1, hm => by
    by_cases e : k = m + 1
    · rw [e]
    · have := slotsE_up h m (by omega)
      rw [Tx.slotsE, if_neg (by rw [this]; exact h), this]
def volAll (t : Tx) : List Slt × Nat := if t.slotsE 24 = 0 then (t.slots 24, 0) else ([], t.slotsE 24)
theorem Tx.slots_len (t : Tx) (k : Nat) : (t.slots k).length = k := by simp [Tx.slots]
theorem Tx.slots_succ (t : Tx) (k : Nat) : t.slots (k + 1) = t.slots k ++ [(volLoad t (k : Nat)).1] := by simp [Tx.slots, List.range_succ]
theorem vall_c {p m : Nat} {t : Tx} (h : True) : Con Tryz.prog 16 [tptr p] [] [Tn p m t] [] fun r T Φ => ∃ v, r = .tuple #[v, errT (volAll t).2] ∧ T = [] ∧ Φ = [Fact.rel 9 SltR v (volAll t).1] := by
  refine con_of (fun O0 w0 F => ?_)
  refine tidy F (fun F => ?_)
  refine fn_of _ Tryz.func16 rfl (by kernel_rfl) Tryz.ntmps16 rfl ?_
  have F := F.fact (f := Fact.rel 9 SltR (.slice none 0 0) ([] : List Slt)) SlR.nil
  refine go_on ?_
  have F := (F.nilbuf 9).all0 9 SltR
  refine g_loop (X := Nat × Value × List (List Value)) (fun y => [(0, tptr p), (4, y.2.1), (8, .int .i64 y.1)])
    (fun y wr => ∃ O, Fr [] O0 w0 O wr [(2, Thing.buf 9 y.2.1 y.1 y.2.2.flatten), (0, Tn p m t)] [Fact.all 9 SltR y.2.2 (t.slots y.1), Fact.rel 9 SltR (.slice none 0 0) ([] : List Slt)] ∧ y.1 ≤ 24 ∧ t.slotsE y.1 = 0) (fun y => 24 - y.1)
    (0, .slice none 0 0, []) (sub_cons rfl rfl (sub_cons rfl rfl (sub_cons rfl rfl (sub_nil)))) ⟨_, F.wk, Nat.zero_le _, rfl⟩ ?_
  clear F
  rintro ⟨i, v, rows⟩ w ⟨O, F, hi, he⟩
  dsimp only at F hi he ⊢
  obtain ⟨va, vc, rfl, _⟩ := (F.bufAt (v := v)).form
  refine go_on ?_
  refine g_dec rfl (fun g => ?_) (fun g => ?_)
  · have hi' : i < 24 := by omega
    refine go_on ?_
    refine f_call F rfl rfl (vload_c (t := t) (ino := (i : Nat))) ?_ (hp := trivial)
    clear F; rintro r O w T Φ ⟨sv, rfl, rfl, rfl⟩ F0
    refine tidy F0 (fun F => ?_); clear F0
    obtain ⟨s, e, hs⟩ : ∃ s e, volLoad t (i : Nat) = (s, e) := ⟨_, _, rfl⟩
    have hE : t.slotsE (i + 1) = e := by rw [Tx.slotsE, if_pos he, hs]
    have hS : t.slots (i + 1) = t.slots i ++ [s] := by rw [Tx.slots_succ, hs]
    rw [hs] at F
    rw [hs]
    dsimp only at F ⊢
    obtain ⟨sa, sc, rfl, _⟩ := (F.bytes (xs := s.data)).form
    unfold sltV sltC
    refine go_on ?_
    (first | refine f_alloc1 F rfl (fun q6 w F => ?_) | refine f_allocN F rfl (fun q6 w F => ?_)); refine go_on ?_
    refine f_storeAll F rfl rfl rfl (fun w F => ?_); refine go_on ?_
    refine go_on ?_
    by_cases g1 : e = 0
    · subst g1
      refine go_on ?_
      refine f_buildSlice (cs := [.int .u32 s.ino, .int .u32 s.kind, .int .u32 s.gen, .int .u32 s.links, .int .u32 s.mode, .int .u64 s.change, .int .u64 s.cookie, .int .u64 s.verf, .slice sa s.data.length sc]) F rfl rfl rfl rfl (fun q8 w F => ?_)
      refine go_on ?_
      refine f_append F rfl rfl rfl (F.srcRow) (fun r w O F => ?_); refine go_on ?_
      have F := F.allSnoc (R := SltR) (y := s) (row := [.int .u32 s.ino, .int .u32 s.kind, .int .u32 s.gen, .int .u32 s.links, .int .u32 s.mode, .int .u64 s.change, .int .u64 s.cookie, .int .u64 s.verf, .slice sa s.data.length sc]) ⟨.slice sa s.data.length sc, rfl, F.bytes⟩ rfl
      rw [← flat_snoc, ← hS] at F
      exact e_round (i + 1, r, _) (sub_cons rfl rfl (sub_cons rfl rfl (sub_cons rfl rfl (sub_nil)))) ⟨_, F.wk, by simp only; omega, hE⟩ (by simp only; omega)
    · have hA : volAll t = ([], e) := by
        have := Tx.slotsE_up (t := t) (k := i + 1) (by rw [hE]; exact g1) 24 (by omega)
        unfold volAll
        rw [this, hE, if_neg g1]
      rw [hA]
      clear hA hE hS he hs
      refine go_on ?_
      refine go_back ?_
      exact F.fin ⟨_, rfl, rfl, rfl⟩
  · obtain rfl : i = 24 := by omega
    have hA : volAll t = (t.slots 24, 0) := by unfold volAll; rw [if_pos he]
    rw [hA]
    obtain ⟨O, F⟩ := F.frzRel (R := SltR) (ys := t.slots 24) (by rw [Tx.slots_len])
    refine go_on ?_
    refine go_back ?_
    exact F.fin ⟨_, rfl, rfl, rfl⟩
theorem smay1_c {q : Nat} {x s : Slt} {u v : Value} (h : True) : Con Tryz.prog 60 [sltV x u, bptr q] [] [Thing.cells q (sltC s v)] [Fact.bytes u x.data] fun r T Φ => r = .bool (decide (x.ino = s.ino)) ∧ T = [] ∧ Φ = [] := by
  refine con_of (fun O0 w0 F => ?_)
  refine tidy F (fun F => ?_)
  refine fn_of _ Tryz.func60 rfl (by kernel_rfl) Tryz.ntmps60 rfl ?_
  obtain ⟨a, c, rfl, _⟩ := (F.bytes (xs := x.data)).form
  unfold sltC at F
  unfold sltV sltC
  refine go_on ?_
  (first | refine f_box1 F rfl rfl (fun q2 w F => ?_) | refine f_boxN F rfl rfl (fun q2 w F => ?_)); refine go_on ?_
  refine go_on ?_
  refine go_back ?_
  exact F.fin ⟨by congr 1; rw [decide_eq_decide]; omega, rfl, rfl⟩
theorem sindex_c {v sv : Value} {l : List Slt} {q : Nat} {s : Slt} (h : l.length ≤ 1000000) : Con Tryz.prog 72 [v, .func (.func 60) #[] #[bptr q]] [] [Thing.cells q (sltC s sv)] [Fact.rel 9 SltR v l] fun r T Φ => ∃ z : Int, r = .int .i64 z ∧ T = [] ∧ Φ = [] ∧ (0 ≤ z ↔ ∃ x, x ∈ l ∧ x.ino = s.ino) := by
  refine con_of (fun O0 w0 F => ?_)
  refine tidy F (fun F => ?_)
  refine fn_of _ Tryz.func72 rfl (by kernel_rfl) Tryz.ntmps72 rfl ?_
  obtain ⟨a, c, rfl, _⟩ := (F.rel (v := v) (R := SltR)).form
  refine go_on ?_
  refine g_loop (X := Nat) (fun i => [(0, .slice a l.length c), (1, .func (.func 60) #[] #[bptr q]), (7, .int .i64 l.length), (8, .int .i64 i)])
    (fun i wr => ∃ O, Fr [] O0 w0 O wr [(0, Thing.cells q (sltC s sv))] [Fact.rel 9 SltR (.slice a l.length c) l] ∧ i ≤ l.length ∧ ∀ j (h : j < l.length), j < i → l[j].ino ≠ s.ino) (fun i => l.length - i) 0 (sub_cons rfl rfl (sub_cons rfl rfl (sub_cons rfl rfl (sub_cons rfl rfl (sub_nil))))) ⟨_, F.wk, Nat.zero_le _, fun j _ hj => absurd hj (Nat.not_lt_zero _)⟩ ?_
  clear F
  rintro i w ⟨O, F, hi, hf⟩
  refine go_on ?_
  refine g_dec rfl (fun g => ?_) (fun g => ?_)
  · have hi' : i < l.length := by omega
    obtain ⟨x, row, rfl, hrl, ⟨u, rfl, hb⟩, hrow⟩ := (F.rel (R := SltR) (ys := l)).elem hi'
    have F := (F.fact hrow).factB hb
    obtain ⟨ua, uc, rfl, _⟩ := (F.bytes (xs := l[i].data)).form
    unfold sltC at F
    refine go_on ?_
    refine f_callv F rfl rfl rfl rfl (smay1_c (x := l[i]) (s := s) (q := q) (u := .slice ua l[i].data.length uc) (v := sv)) ?_ (hp := trivial)
    clear F; rintro r O w T Φ ⟨rfl, rfl, rfl⟩ F0
    refine tidy F0 (fun F => ?_); clear F0
    by_cases hn : l[i].ino = s.ino
    · refine go_on ?_
      refine go_back ?_
      exact F.fin ⟨_, rfl, rfl, rfl, fun _ => ⟨_, List.getElem_mem hi', hn⟩, fun _ => by omega⟩
    · refine go_on ?_
      refine e_round (i + 1) (sub_cons rfl rfl (sub_cons rfl rfl (sub_cons rfl rfl (sub_cons rfl rfl (sub_nil))))) ⟨_, F.wk, by omega, fun j hj hlt => ?_⟩ (by omega)
      by_cases e : j = i
      · subst e; exact hn
      · exact hf j hj (by omega)
  · obtain rfl : l.length = i := by omega
    refine go_on ?_
    refine go_back ?_
    refine F.fin ⟨_, rfl, rfl, rfl, fun h => by omega, fun ⟨x, hx, hn⟩ => ?_⟩
    obtain ⟨j, hj, rfl⟩ := List.getElem_of_mem hx
    exact absurd hn (hf j hj hj)
theorem scontains_c {v sv : Value} {l : List Slt} {q : Nat} {s : Slt} (h : l.length ≤ 1000000) : Con Tryz.prog 59 [v, .func (.func 60) #[] #[bptr q]] [] [Thing.cells q (sltC s sv)] [Fact.rel 9 SltR v l] fun r T Φ => r = .bool (decide (∃ x, x ∈ l ∧ x.ino = s.ino)) ∧ T = [] ∧ Φ = [] := by
  refine con_of (fun O0 w0 F => ?_)
  refine tidy F (fun F => ?_)
  refine fn_of _ Tryz.func59 rfl (by kernel_rfl) Tryz.ntmps59 rfl ?_
  refine go_on ?_
  refine f_call F rfl rfl (sindex_c (l := l) (s := s) (q := q) (sv := sv)) ?_ (hp := h)
  clear F; rintro r O w T Φ ⟨z, rfl, rfl, rfl, hz⟩ F0
  refine tidy F0 (fun F => ?_); clear F0
  refine go_on ?_
  refine go_back ?_
  exact F.fin ⟨by congr 1; rw [decide_eq_decide]; exact hz, rfl, rfl⟩
/-- May things be saved together? -/
def mayS (l : List Slt) : Prop := ∀ i (h : i < l.length), l[i].ok ∧ ∀ x, x ∈ l.take i → x.ino ≠ l[i].ino
instance (l : List Slt) : Decidable (mayS l) := by unfold mayS; infer_instance
theorem vmay_c {v : Value} {l : List Slt} (h : l.length ≤ 1000000) : Con Tryz.prog 37 [v] [] [] [Fact.rel 9 SltR v l] fun r T Φ => r = .bool (decide (mayS l)) ∧ T = [] ∧ Φ = [] := by
  refine con_of (fun O0 w0 F => ?_)
  refine tidy F (fun F => ?_)
  refine fn_of _ Tryz.func37 rfl (by kernel_rfl) Tryz.ntmps37 rfl ?_
  obtain ⟨a, c, rfl, hc⟩ := (F.rel (v := v) (R := SltR)).form
  have no : ¬ mayS l → decide (mayS l) = false := decide_eq_false
  refine go_on ?_
  refine g_loop (X := Nat) (fun i => [(0, .slice a l.length c), (5, .slice a l.length c), (6, .int .i64 l.length), (7, .int .i64 i)])
    (fun i wr => ∃ O, Fr [] O0 w0 O wr [] [Fact.rel 9 SltR (.slice a l.length c) l] ∧ i ≤ l.length ∧ ∀ j (h : j < l.length), j < i → l[j].ok ∧ ∀ x, x ∈ l.take j → x.ino ≠ l[j].ino) (fun i => l.length - i) 0 (sub_cons rfl rfl (sub_cons rfl rfl (sub_cons rfl rfl (sub_cons rfl rfl (sub_nil))))) ⟨_, F.wk, Nat.zero_le _, fun j _ hj => absurd hj (Nat.not_lt_zero _)⟩ ?_
  clear F
  rintro i w ⟨O, F, hi, hf⟩
  refine go_on ?_
  refine g_dec rfl (fun g => ?_) (fun g => ?_)
  · have hi' : i < l.length := by omega
    obtain ⟨x, row, rfl, hrl, ⟨u, rfl, hb⟩, hrow⟩ := (F.rel (R := SltR) (ys := l)).elem hi'
    have F := (F.fact hrow).factB hb
    obtain ⟨ua, uc, rfl, _⟩ := (F.bytes (xs := l[i].data)).form
    unfold sltC at F
    refine go_on ?_
    (first | refine f_alloc1 F rfl (fun q4 w F => ?_) | refine f_allocN F rfl (fun q4 w F => ?_)); refine go_on ?_
    refine go_on ?_
    refine f_storeAll F rfl rfl rfl (fun w F => ?_); refine go_on ?_
    refine go_on ?_
    refine f_call F rfl rfl (scheck_c (s := l[i]) (v := .slice ua l[i].data.length uc)) ?_ (hp := trivial)
    clear F; rintro r O w T Φ ⟨rfl, rfl, rfl⟩ F0
    refine tidy F0 (fun F => ?_); clear F0
    by_cases g1 : l[i].ok
    · rw [if_pos g1]
      refine go_on ?_
      refine r_y (y_slice (li := 0) (hi' := (i : Nat)) (mi := (c : Nat)) rfl rfl rfl rfl (by simp) (by omega)) rfl ?_
      have F := F.fact (f := Fact.rel 9 SltR (cutV (some x) 9 (0 : Int).toNat ((i : Nat) : Int).toNat ((c : Nat) : Int).toNat) (l.take i)) (slr_take (F.rel (R := SltR) (ys := l)) hi (by decide))
      refine go_on ?_
      refine f_call F rfl rfl (scontains_c (l := l.take i) (s := l[i]) (q := q4) (sv := .slice ua l[i].data.length uc)) ?_ (hp := (by rw [List.length_take]; omega))
      clear F; rintro r O w T Φ ⟨rfl, rfl, rfl⟩ F0
      refine tidy F0 (fun F => ?_); clear F0
      by_cases g2 : ∃ x, x ∈ l.take i ∧ x.ino = l[i].ino
      · rw [decide_eq_true g2, no fun k => by obtain ⟨x, hx, he⟩ := g2; exact (k i hi').2 x hx he]
        refine go_on ?_
        refine go_back ?_
        exact F.fin ⟨rfl, rfl, rfl⟩
      · rw [decide_eq_false g2]
        refine go_on ?_
        refine e_round (i + 1) (sub_cons rfl rfl (sub_cons rfl rfl (sub_cons rfl rfl (sub_cons rfl rfl (sub_nil))))) ⟨_, F.wk, by omega, fun j hj hlt => ?_⟩ (by omega)
        by_cases e : j = i
        · subst e; exact ⟨g1, fun x hx he => g2 ⟨x, hx, he⟩⟩
        · exact hf j hj (by omega)
    · rw [if_neg g1, no fun k => g1 (k i hi').1]
      refine go_on ?_
      refine go_back ?_
      exact F.fin ⟨rfl, rfl, rfl⟩
  · obtain rfl : l.length = i := by omega
    rw [decide_eq_true (show mayS l from fun j hj => hf j hj hj)]
    refine go_on ?_
    refine go_back ?_
    exact F.fin ⟨rfl, rfl, rfl⟩
end Go.Proofs.YtcfpnghkkkphhaaGreat
