/- The plain law of a volume: things are saved and loaded, and nothing is wrong. -/
import Derived.Test.YtcfpnghkkkphhaaGreatVlaw
import Derived.Test.YtcfpnghkkkphhaaGreatVwrong
namespace Go.Proofs.YtcfpnghkkkphhaaGreat
open Gk Go
set_option linter.unusedVariables false
set_option maxHeartbeats 4000000
set_option maxRecDepth 4000
set_option linter.unusedSimpArgs false
attribute [local irreducible] Int.decLt Int.decLe Int.decEq Int.instDecidableEq Gk.Rnds Gk.E Gk.G Gk.R Gk.RD Gk.RX Gk.RO Gk.Y Gk.Ent Gk.Sat Gk.Round Gk.After Gk.Cell Gk.Sl Gk.SlA Gk.CB Gk.OK Gk.FnC Gk.Bytes Gk.BytesL Gk.StrL Gk.Buf Gk.MapI
def sumN (f : Nat → Nat) : Nat → Nat
  | 0 => 0
  | k + 1 => sumN f k + f k
theorem sumN_congr {f g : Nat → Nat} : ∀ n, (∀ i, i < n → f i = g i) → sumN f n = sumN g n
  | 0, _ => rfl
  | n + 1, h => by rw [sumN, sumN, sumN_congr n fun i hi => h i (by omega), h n (by omega)]
theorem sumN_up {f : Nat → Nat} {i x : Nat} (h0 : f i = 0) : ∀ n, sumN (upI f i x) n = sumN f n + (if i < n then x else 0)
  | 0 => rfl
  | n + 1 => by
    rw [sumN, sumN, sumN_up h0 n]
    by_cases e : n = i
    · subst e
      rw [upI_at, h0, if_neg (Nat.lt_irrefl n), if_pos (Nat.lt_succ_self n)]
    · rw [upI_ne _ e]
      by_cases e2 : i < n
      · rw [if_pos e2, if_pos (by omega)]; omega
      · rw [if_neg e2, if_neg (by omega)]; omega
attribute [local irreducible] sumN
def allI (I : Nat → List Nat) : Nat → List Nat
  | 0 => []
  | k + 1 => allI I k ++ I k
theorem allI_len (I : Nat → List Nat) : ∀ n, (allI I n).length = sumN (fun i => (I i).length) n
  | 0 => by rw [sumN]; rfl
  | n + 1 => by rw [allI, sumN, List.length_append, allI_len I n]
theorem allI_mem (I : Nat → List Nat) (x : Nat) : ∀ n, x ∈ allI I n ↔ ∃ i, i < n ∧ x ∈ I i
  | 0 => ⟨fun h => (by cases h), fun ⟨i, h, _⟩ => absurd h (Nat.not_lt_zero _)⟩
  | n + 1 => by
    rw [allI, List.mem_append, allI_mem I x n]
    constructor
    · rintro (⟨i, hi, hm⟩ | hm)
      · exact ⟨i, by omega, hm⟩
      · exact ⟨n, by omega, hm⟩
    · rintro ⟨i, hi, hm⟩
      by_cases e : i = n
      · exact .inr (e ▸ hm)
      · exact .inl ⟨i, by omega, hm⟩
theorem allI_nodup {I : Nat → List Nat} (hn : ∀ i, i < 24 → (I i).Nodup) (hd : ∀ i j, i < 24 → j < 24 → i ≠ j → ∀ x, x ∈ I i → x ∉ I j) : ∀ n, n ≤ 24 → (allI I n).Nodup
  | 0, _ => List.nodup_nil
  | n + 1, h => by
    rw [allI, List.nodup_append]
    refine ⟨allI_nodup hn hd n (by omega), hn n (by omega), fun x hx y hy e => ?_⟩
    subst e
    obtain ⟨i, hi, hm⟩ := (allI_mem I x n).1 hx
    exact hd i n (by omega) (by omega) (by omega) x hm hy
theorem nodup_count {l : List Nat} (k : Nat) (h : l.Nodup) : l.count k = if k ∈ l then 1 else 0 := by
  induction l with
  | nil => rfl
  | cons a l ih =>
    rw [List.nodup_cons] at h
    rw [List.count_cons, ih h.2]
    by_cases e : a = k
    · subst e
      rw [if_neg h.1, if_pos List.mem_cons_self]
      simp
    · have e2 : (a == k) = false := by simpa using e
      rw [e2]
      by_cases m : k ∈ l
      · rw [if_pos m, if_pos (List.mem_cons_of_mem _ m)]; rfl
      · rw [if_neg m, if_neg (fun hm => m ((List.mem_cons.1 hm).resolve_left (fun h => e h.symm)))]; rfl
/-- As many are taken as things have. -/
theorem Semi.cnt {t : Tx} {b : List UInt8} {S : Nat → Slt} {I : Nat → List Nat} {P : Nat → Prop} {mt : List UInt8} (h : Semi t b S I P mt) : cntB b (t.was.length - 35) = sumN (fun i => (I i).length) 24 := by
  rw [cntB_list, ← allI_len]
  refine nodup_len (List.nodup_range.sublist List.filter_sublist) (allI_nodup h.nod h.dis 24 (Nat.le_refl _)) (fun x => ?_)
  rw [List.mem_filter, List.mem_range, allI_mem, h.map]
  exact ⟨fun k => k.2, fun ⟨i, hi, hm⟩ => ⟨h.low i hi x hm, i, hi, hm⟩⟩
theorem cntB_far {b : List UInt8} {m : Nat} (h : ∀ k, m ≤ k → hasB b k = false) : ∀ n, m ≤ n → cntB b n = cntB b m
  | 0, hm => by rw [show m = 0 by omega]
  | n + 1, hm => by
    by_cases e : m = n + 1
    · rw [e]
    · rw [cntB, cntB_far h n (by omega), h n (by omega)]; rfl
theorem Semi.frame {t t' : Tx} {b : List UInt8} {S : Nat → Slt} {I : Nat → List Nat} {P : Nat → Prop} {mt : List UInt8} (h : Semi t b S I P mt) (hw : t'.was.length = t.was.length) (hg : ∀ k : Int, k ≠ 9 → k ≠ 10 → t'.get k = t.get k) : Semi t' b S I P (t'.get 10) := by
  refine ⟨by unfold Tx.right; rw [hw]; exact h.right, fun i hi hp => ?_, h.ok, h.len, fun i hi hp j hj => ?_, h.nod, h.dis, fun i hi x hx => ?_, fun k hk hf => ?_, h.map, h.big, rfl⟩
  · have := h.ino i hi hp
    unfold Tx.ino at this ⊢
    rw [hg _ (by omega) (by omega)]
    exact this
  · rw [hg _ (by omega) (by omega)]
    exact h.dat i hi hp j hj
  · rw [hw]; exact h.low i hi x hx
  · rw [hw] at hk
    rw [hg _ (by omega) (by omega)]
    exact h.free k hk hf
/-- All things that are given back. -/
theorem Semi.giveAll {S : Nat → Slt} {mt : List UInt8} : ∀ (l : List Slt) {t : Tx} {b : List UInt8} {I : Nat → List Nat} {P : Nat → Prop}, Semi t b S I P mt → (∀ s, s ∈ l → s.ino < 24 ∧ P s.ino) → (l.map Slt.ino).Nodup →
    (giveAll l t b).1 = 0 ∧ (giveAll l t b).2.2.was = t.was ∧ ∃ I', Semi (giveAll l t b).2.2 (giveAll l t b).2.1 S I' (fun j => P j ∧ j ∉ l.map Slt.ino) mt ∧ (∀ i, i ∉ l.map Slt.ino → I' i = I i) ∧ (∀ i, i ∈ l.map Slt.ino → I' i = [])
  | [], t, b, I, P, h, _, _ => ⟨rfl, rfl, I, h.weak (fun _ _ k => k.1), fun _ _ => rfl, fun _ k => by cases k⟩
  | s :: l, t, b, I, P, h, hs, hn => by
    rw [List.map_cons, List.nodup_cons] at hn
    obtain ⟨h1, h2⟩ := hs s List.mem_cons_self
    obtain ⟨g1, g2⟩ := h.give h1 h2
    have hw : (volGive t b s.ino).2.2.was = t.was := by
      unfold volGive
      split
      · have : ∀ (ks : List Nat) (b : List UInt8) (t : Tx), (Go.Proofs.YtcfpnghkkkphhaaGreat.giveGo ks b t).2.was = t.was := fun ks => by
          induction ks with
          | nil => exact fun _ _ => rfl
          | cons k ks ih => exact fun b t => by rw [Go.Proofs.YtcfpnghkkkphhaaGreat.giveGo, ih, Tx.put_was]
        exact this _ _ _
      · rfl
    rw [Go.Proofs.YtcfpnghkkkphhaaGreat.giveAll, if_pos g1]
    obtain ⟨k1, kw, I', k2, k3, k4⟩ := Semi.giveAll l g2 (fun x hx => ⟨(hs x (List.mem_cons_of_mem _ hx)).1, (hs x (List.mem_cons_of_mem _ hx)).2, fun e => hn.1 (by rw [← e]; exact List.mem_map_of_mem hx)⟩) hn.2
    refine ⟨k1, kw.trans hw, I', k2.weak (fun i hi k => ⟨⟨k.1, fun e => k.2 (by rw [e]; exact List.mem_cons_self)⟩, fun hm => k.2 (List.mem_cons_of_mem _ hm)⟩), fun i hi => ?_, fun i hi => ?_⟩
    · rw [k3 i (fun hm => hi (List.mem_cons_of_mem _ hm)), upI_ne _ (fun e => hi (by rw [e]; exact List.mem_cons_self))]
    · by_cases e : i ∈ l.map Slt.ino
      · exact k4 i e
      · rw [k3 i e]
        rw [List.map_cons, List.mem_cons] at hi
        rw [hi.resolve_right e, upI_at]
def needs (l : List Slt) : Nat := (l.map fun s => needN (s.data.length : Nat)).sum
/-- What things are then. -/
def updS (S : Nat → Slt) : List Slt → Nat → Slt
  | [] => S
  | s :: l => updS (upI S s.ino s) l
theorem Semi.takeAll {mt : List UInt8} : ∀ (l : List Slt) {t : Tx} {b : List UInt8} {S : Nat → Slt} {I : Nat → List Nat} {P : Nat → Prop}, Semi t b S I P mt → (∀ s, s ∈ l → s.ok ∧ s.fit ∧ ¬ P s.ino ∧ I s.ino = []) → (l.map Slt.ino).Nodup →
    if sumN (fun i => (I i).length) 24 + needs l ≤ t.was.length - 35 then
      (takeAll l t b).1 = 0 ∧ (takeAll l t b).2.2.was = t.was ∧ ∃ I', Semi (takeAll l t b).2.2 (takeAll l t b).2.1 (updS S l) I' (fun j => P j ∨ j ∈ l.map Slt.ino) mt
    else (takeAll l t b).1 = 66
  | [], t, b, S, I, P, h, _, _ => by
    have hc := h.cnt
    have hle := cntB_le b (t.was.length - 35)
    rw [if_pos (by show _ + 0 ≤ _; omega)]
    exact ⟨rfl, rfl, I, h.weak (fun _ _ k => k.resolve_right (fun k => by cases k))⟩
  | s :: l, t, b, S, I, P, h, hs, hn => by
    rw [List.map_cons, List.nodup_cons] at hn
    obtain ⟨h1, h2, h3, h4⟩ := hs s List.mem_cons_self
    have ht := h.take h1 h2 h3 h4
    have hc := h.cnt
    have hw := (volTake_keep h.right (Nat.le_trans h.big (by decide)) s).1
    have hne : needs (s :: l) = needN (s.data.length : Nat) + needs l := by unfold needs; rw [List.map_cons, List.sum_cons]
    rw [hne, Go.Proofs.YtcfpnghkkkphhaaGreat.takeAll]
    by_cases g : cntB b (t.was.length - 35) + needN (s.data.length : Nat) ≤ t.was.length - 35
    · rw [if_pos g] at ht
      obtain ⟨k1, nl, k2, k3⟩ := ht
      rw [if_pos k1]
      have hsum : sumN (fun i => (upI I s.ino nl i).length) 24 = sumN (fun i => (I i).length) 24 + needN (s.data.length : Nat) := by
        have := sumN_up (f := fun i => (I i).length) (i := s.ino) (x := nl.length) (by rw [h4]; rfl) 24
        rw [if_pos h1.1.1, k2] at this
        rw [← this]
        refine sumN_congr _ (fun i hi => ?_)
        by_cases e : i = s.ino
        · rw [e, upI_at, upI_at, k2]
        · rw [upI_ne _ e, upI_ne _ e]
      have ih := Semi.takeAll l k3 (fun x hx => by
        obtain ⟨a1, a2, a3, a4⟩ := hs x (List.mem_cons_of_mem _ hx)
        have hx2 : x.ino ≠ s.ino := fun e => hn.1 (by rw [← e]; exact List.mem_map_of_mem hx)
        exact ⟨a1, a2, fun k => k.elim a3 hx2, by rw [upI_ne _ hx2]; exact a4⟩) hn.2
      rw [hsum, hw] at ih
      rw [show sumN (fun i => (I i).length) 24 + (needN (s.data.length : Nat) + needs l) = sumN (fun i => (I i).length) 24 + needN (s.data.length : Nat) + needs l from (Nat.add_assoc _ _ _).symm]
      split
      · rename_i g2
        rw [if_pos g2] at ih
        obtain ⟨j1, jw, I', j2⟩ := ih
        refine ⟨j1, jw, I', j2.weak (fun i hi k => ?_)⟩
        rcases k with k | k
        · exact .inl (.inl k)
        · rw [List.map_cons, List.mem_cons] at k
          exact k.elim (fun k => .inl (.inr k)) .inr
      · rename_i g2
        rw [if_neg g2] at ih
        exact ih
    · rw [if_neg g] at ht
      rw [if_neg (by omega), if_neg (by rw [ht]; decide)]
      exact ht
/-- A volume with these things. -/
def Good (t : Tx) (S : Nat → Slt) (I : Nat → List Nat) : Prop := Semi t (t.get 9) S I (fun _ => True) (t.get 10) ∧ (volChg (t.get 10)).2 = 0
/-- How many blocks things take. -/
def usedS (S : Nat → Slt) : Nat := sumN (fun i => needN ((S i).data.length : Nat)) 24
theorem Good.used {t : Tx} {S : Nat → Slt} {I : Nat → List Nat} (h : Good t S I) : sumN (fun i => (I i).length) 24 = usedS S := sumN_congr _ fun i hi => h.1.len i hi trivial
theorem updS_out {i : Nat} : ∀ (l : List Slt) (S : Nat → Slt), i ∉ l.map Slt.ino → updS S l i = S i
  | [], S, _ => rfl
  | s :: l, S, h => by
    rw [List.map_cons, List.mem_cons] at h
    rw [updS, updS_out l _ (fun k => h (.inr k)), upI_ne _ (fun e => h (.inl e))]
theorem updS_sum {l : List Slt} : ∀ (S : Nat → Slt) (f : Nat → Nat), (∀ s, s ∈ l → s.ino < 24 ∧ f s.ino = 0) → (l.map Slt.ino).Nodup → (∀ i, i < 24 → i ∉ l.map Slt.ino → f i = needN ((S i).data.length : Nat)) → sumN f 24 + needs l = usedS (updS S l) := by
  induction l with
  | nil =>
    intro S f _ _ hf
    rw [show needs [] = 0 from rfl, Nat.add_zero, show updS S [] = S from rfl]
    unfold usedS
    exact sumN_congr _ fun i hi => hf i hi (fun k => by cases k)
  | cons s l ih =>
    intro S f hs hn hf
    rw [List.map_cons, List.nodup_cons] at hn
    obtain ⟨h1, h2⟩ := hs s List.mem_cons_self
    have hne : needs (s :: l) = needN (s.data.length : Nat) + needs l := by unfold needs; rw [List.map_cons, List.sum_cons]
    have hu := sumN_up (f := f) (i := s.ino) (x := needN (s.data.length : Nat)) h2 24
    rw [if_pos h1] at hu
    have := ih (upI S s.ino s) (upI f s.ino (needN (s.data.length : Nat))) (fun x hx => by
      have hx2 : x.ino ≠ s.ino := fun e => hn.1 (by rw [← e]; exact List.mem_map_of_mem hx)
      exact ⟨(hs x (List.mem_cons_of_mem _ hx)).1, by rw [upI_ne _ hx2]; exact (hs x (List.mem_cons_of_mem _ hx)).2⟩) hn.2 (fun i hi hm => by
      by_cases e : i = s.ino
      · rw [e, upI_at, upI_at]
      · rw [upI_ne _ e, upI_ne _ e]
        exact hf i hi (fun k => (List.mem_cons.1 k).elim e hm))
    rw [updS, ← this, hu, hne]
    omega
theorem mayS_nodup {l : List Slt} (h : mayS l) : (l.map Slt.ino).Nodup := by
  rw [List.nodup_iff_pairwise_ne, List.pairwise_map, List.pairwise_iff_getElem]
  intro i j hi hj hij e
  refine (h j hj).2 l[i] ?_ e
  rw [List.mem_take_iff_getElem]
  exact ⟨i, by omega, rfl⟩
/-- Things are saved. -/
theorem Good.save {t : Tx} {S : Nat → Slt} {I : Nat → List Nat} (h : Good t S I) {l : List Slt} (hm : mayS l) (hf : ∀ s, s ∈ l → s.fit) :
    if usedS (updS S l) ≤ t.was.length - 35 then (volSave t l).1 = 0 ∧ (volSave t l).2.was = t.was ∧ (volSave t l).2.get 10 = t.get 10 ∧ ∃ I', Good (volSave t l).2 (updS S l) I' else volSave t l = (66, t) := by
  obtain ⟨hS, hC⟩ := id h
  have hr1 : 35 < t.was.length := hS.right.1
  have hok : ∀ s, s ∈ l → s.ok := fun s hs => by
    obtain ⟨i, hi, rfl⟩ := List.getElem_of_mem hs
    exact (hm i hi).1
  have hn := mayS_nodup hm
  have eS : volSave t l = if (giveAll l t (t.get 9)).1 = 0 then saveEnd t (takeAll l (giveAll l t (t.get 9)).2.2 (giveAll l t (t.get 9)).2.1) else ((giveAll l t (t.get 9)).1, t) := if_pos ⟨hS.right, hm⟩
  obtain ⟨g1, gw, I1, g2, g3, g4⟩ := hS.giveAll l (fun s hs => ⟨(hok s hs).1.1, trivial⟩) hn
  rw [if_pos g1] at eS
  have hT := g2.takeAll l (fun s hs => ⟨hok s hs, hf s hs, fun k => k.2 (List.mem_map_of_mem hs), g4 _ (List.mem_map_of_mem hs)⟩) hn
  have hsum : sumN (fun i => (I1 i).length) 24 + needs l = usedS (updS S l) := updS_sum S _ (fun s hs => ⟨(hok s hs).1.1, by rw [g4 _ (List.mem_map_of_mem hs)]; rfl⟩) hn (fun i hi hm => by rw [g3 i hm]; exact hS.len i hi trivial)
  rw [eS]
  clear eS
  rw [hsum] at hT
  generalize (giveAll l t (t.get 9)).2.2 = u at gw g2 hT ⊢
  generalize (giveAll l t (t.get 9)).2.1 = b at g2 hT ⊢
  rw [gw] at hT
  split
  · rename_i g
    rw [if_pos g] at hT
    obtain ⟨k1, kw, I2, k2⟩ := hT
    generalize takeAll l u b = r at k1 kw k2 ⊢
    obtain ⟨e, b2, u2⟩ := r
    dsimp only at k1 kw k2 ⊢
    subst k1
    have hbb := k2.big
    have hp : u2.putE 9 b2 = 0 := by unfold Tx.putE; rw [kw, if_pos (by omega), if_neg (by omega)]
    have hE : saveEnd t (0, b2, u2) = (0, u2.put1 9 b2) := by
      have e1 : saveEnd t (0, b2, u2) = if u2.putE 9 b2 = 0 then (0, ⟨t.was, (u2.put1 9 b2).put⟩) else (u2.putE 9 b2, t) := if_pos rfl
      rw [e1, if_pos hp]
      have e2 : t.was = (u2.put1 9 b2).was := by rw [Tx.put_was, kw]
      rw [e2]
    rw [hE]
    have hg9 : (u2.put1 9 b2).get 9 = b2 := by rw [Tx.get_put, if_pos ⟨rfl, by omega, by rw [kw]; omega, hbb⟩]
    have hg10 : (u2.put1 9 b2).get 10 = t.get 10 := by rw [Tx.get_put, if_neg (by omega)]; exact k2.mta
    refine ⟨rfl, by rw [Tx.put_was, kw], hg10, I2, ?_, by dsimp only; rw [hg10]; exact hC⟩
    dsimp only
    rw [hg9]
    exact (k2.weak (fun i hi _ => Decidable.or_iff_not_imp_left.2 (fun k => Decidable.byContradiction fun k2 => k ⟨trivial, k2⟩))).frame (by rw [Tx.put_was]) (fun k h9 h10 => by rw [Tx.get_put, if_neg (fun e => h9 e.1)])
  · rename_i g
    rw [if_neg g] at hT
    unfold saveEnd
    rw [if_neg (by rw [hT]; decide), hT]
theorem ld_ok {t : Tx} {l : List Nat} {d : List UInt8} (hl : l.length = needN (d.length : Nat)) (hlow : ∀ x, x ∈ l → x < t.was.length - 35) (hd : ∀ j, j < l.length → t.get (35 + ((l.getD j 0 : Nat) : Int)) = (d.drop (96 * j)).take 96) : ∀ n j, j + n = l.length → ldGo t (l.drop j) (d.length - 96 * j) (d.take (96 * j)) = some d
  | 0, j, h => by
    have hne : needN (d.length : Nat) = (d.length + 95) / 96 := by unfold needN; omega
    rw [List.drop_of_length_le (by omega), ldGo, List.take_of_length_le (by omega)]
  | n + 1, j, h => by
    have hj : j < l.length := by omega
    have hne : needN (d.length : Nat) = (d.length + 95) / 96 := by unfold needN; omega
    have hg : l.getD j 0 = l[j] := by rw [List.getD_eq_getElem?_getD, List.getElem?_eq_getElem hj]; rfl
    have hx := hd j hj
    rw [hg] at hx
    have hlen : ((d.drop (96 * j)).take 96).length = if d.length - 96 * j ≤ 96 then d.length - 96 * j else 96 := by
      rw [List.length_take, List.length_drop]
      split <;> omega
    rw [List.drop_eq_getElem_cons hj, ldGo, hx, if_pos ⟨hlow _ (List.getElem_mem hj), hlen⟩]
    have ih := ld_ok hl hlow hd n (j + 1) (by omega)
    rw [show d.length - 96 * j - ((d.drop (96 * j)).take 96).length = d.length - 96 * (j + 1) from by rw [hlen]; split <;> omega, ← List.take_add, show 96 * j + 96 = 96 * (j + 1) from by omega]
    exact ih
theorem slt_of (s : Slt) (l : List Nat) : Slt.of s.ino (takeIno s l) s.data = s := by cases s; rfl
/-- What was saved is loaded. -/
theorem Good.ld {t : Tx} {S : Nat → Slt} {I : Nat → List Nat} (h : Good t S I) {i : Nat} (hi : i < 24) : volLd t i = (S i, 0) := by
  have h1 := h.1.ino i hi trivial
  obtain ⟨ho, hn, hf⟩ := h.1.ok i hi trivial
  have hl := ld_ok (h.1.len i hi trivial) (h.1.low i hi) (h.1.dat i hi trivial) (I i).length 0 (Nat.zero_add _)
  rw [List.drop_zero, Nat.mul_zero, Nat.sub_zero, List.take_zero] at hl
  have e := slt_of (S i) (I i)
  rw [hn] at e
  unfold volLd
  rw [h1]
  show (if (0 : Nat) = 0 then _ else _) = _
  rw [if_pos rfl]
  show (match ldGo t (I i) (S i).data.length [] with | none => _ | some b => _) = _
  rw [hl]
  show (if (Slt.of i (takeIno (S i) (I i)) (S i).data).ok then _ else _) = _
  rw [e, if_pos ho]
theorem Good.load {t : Tx} {S : Nat → Slt} {I : Nat → List Nat} (h : Good t S I) {i : Nat} (hi : i < 24) : volLoad t (i : Nat) = (S i, 0) := by
  unfold volLoad
  rw [if_pos h.1.right, if_neg (by omega)]
  exact h.ld hi
theorem Good.slotsE {t : Tx} {S : Nat → Slt} {I : Nat → List Nat} (h : Good t S I) : ∀ k, k ≤ 24 → t.slotsE k = 0
  | 0, _ => rfl
  | k + 1, hk => by rw [Tx.slotsE, if_pos (Good.slotsE h k (by omega)), h.load (by omega)]
theorem Good.all {t : Tx} {S : Nat → Slt} {I : Nat → List Nat} (h : Good t S I) : volAll t = ((List.range 24).map S, 0) := by
  unfold volAll
  rw [if_pos (h.slotsE 24 (Nat.le_refl _))]
  congr 1
  unfold Tx.slots
  refine List.map_congr_left (fun i hi => ?_)
  rw [h.load (List.mem_range.1 hi)]
theorem ownFold {k : Nat} : ∀ (bs l : List Nat), k < l.length → (bs.foldl ownStep l).getD k 0 = l.getD k 0 + bs.count k
  | [], l, _ => rfl
  | b :: bs, l, h => by
    rw [List.foldl_cons, ownFold bs _ (by rw [ownStep_len]; exact h), List.count_cons]
    unfold ownStep
    by_cases e : b = k
    · subst e
      rw [if_pos h, List.getD_eq_getElem?_getD, List.getElem?_set_self h]
      simp
      omega
    · have e2 : (b == k) = false := by simpa using e
      rw [e2]
      split
      · rw [List.getD_eq_getElem?_getD, List.getElem?_set_ne e, ← List.getD_eq_getElem?_getD]; simp
      · simp
theorem Good.own {t : Tx} {S : Nat → Slt} {I : Nat → List Nat} (h : Good t S I) {k : Nat} (hk : k < t.was.length - 35) : ∀ n, n ≤ 24 → (t.own n).getD k 0 = (allI I n).count k
  | 0, _ => by
    rw [Tx.own, List.getD_eq_getElem?_getD, List.getElem?_replicate, if_pos hk]; rfl
  | n + 1, hn => by
    rw [Tx.own, ownFold _ _ (by rw [Tx.own_len]; exact hk), Good.own h hk n (by omega), h.1.ino n (by omega) trivial, allI, List.count_append]
    rfl
/-- Nothing is wrong with it. -/
theorem Good.fine {t : Tx} {S : Nat → Slt} {I : Nat → List Nat} (h : Good t S I) : volFine t := by
  have hr2 : t.was.length ≤ 803 := h.1.right.2
  refine ⟨h.1.right, by rw [h.all], ?_, fun k hk => ?_, ?_⟩
  · unfold volChange; rw [if_pos h.1.right]; exact h.2
  · have ho : (t.own 24).getD k 0 = if k ∈ allI I 24 then 1 else 0 := by rw [h.own hk 24 (Nat.le_refl _), nodup_count k (allI_nodup h.1.nod h.1.dis 24 (Nat.le_refl _))]
    unfold blkFine
    rw [ho]
    have hmap := h.1.map k
    rw [← allI_mem] at hmap
    by_cases m : k ∈ allI I 24
    · rw [if_pos m, hmap.2 m]
      exact ⟨Nat.le_refl _, rfl, fun e => by cases e⟩
    · rw [if_neg m]
      refine ⟨Nat.zero_le _, ?_, fun _ => h.1.free k hk (fun i hi hm => m ((allI_mem I k 24).2 ⟨i, hi, hm⟩))⟩
      cases hh : hasB (t.get 9) k with
      | true => exact absurd (hmap.1 hh) m
      | false => rfl
  · refine cntB_far (fun k hk => ?_) 768 (by omega)
    cases hh : hasB (t.get 9) k with
    | false => rfl
    | true =>
      obtain ⟨i, hi, hm⟩ := (h.1.map k).1 hh
      have := h.1.low i hi k hm
      omega
theorem Good.free {t : Tx} {S : Nat → Slt} {I : Nat → List Nat} (h : Good t S I) : volFree t = ((t.was.length - 35 : Nat) : Int) - (usedS S : Nat) := by
  unfold volFree
  rw [if_pos h.1.right, h.1.cnt, h.used]
theorem Good.fits {t : Tx} {S : Nat → Slt} {I : Nat → List Nat} (h : Good t S I) : usedS S ≤ t.was.length - 35 := by
  rw [← h.used, ← h.1.cnt]
  exact cntB_le _ _
/-- Nothing is far off in it. -/
theorem Good.low {t : Tx} {S : Nat → Slt} {I : Nat → List Nat} (h : Good t S I) : t.low := by
  intro i hi x hx
  rw [h.1.ino i hi trivial] at hx
  have := h.1.low i hi x hx
  have := h.1.right.2
  omega
theorem Good.nine {t : Tx} {S : Nat → Slt} {I : Nat → List Nat} (h : Good t S I) : (t.get 9).length ≤ 1000 := Nat.le_trans h.1.big (by decide)
def slt0 (i : Nat) : Slt := ⟨i, 0, 0, 0, 0, 0, 0, 0, []⟩
def tx0 (n : Nat) : Tx := ⟨List.replicate n [], []⟩
theorem tx0_get (n : Nat) (i : Int) : (tx0 n).get i = [] := by
  unfold Tx.get tx0 Tx.now
  split
  · simp only [lookI, Option.getD_none]
    rw [List.getD_eq_getElem?_getD, List.getElem?_replicate]
    split <;> rfl
  · rfl
/-- A new one. -/
theorem Good.new {n : Nat} (h : 35 < n ∧ n ≤ 803) : Good (tx0 n) slt0 (fun _ => []) := by
  have hw : (tx0 n).was.length = n := List.length_replicate
  refine ⟨⟨by unfold Tx.right; rw [hw]; exact h, fun i hi _ => ?_, fun i hi _ => ?_, fun i hi _ => (show ([] : List Nat).length = needN (((slt0 i).data.length : Nat) : Int) from by unfold needN slt0; simp), fun i hi _ j hj => absurd hj (Nat.not_lt_zero _), fun i hi => List.nodup_nil, fun i j hi hj _ x hx => (by cases hx), fun i hi x hx => (by cases hx), fun k hk _ => tx0_get .., fun k => ?_, by rw [tx0_get]; exact Nat.zero_le _, rfl⟩, by rw [tx0_get]; rfl⟩
  · unfold Tx.ino
    rw [tx0_get, inoGet_nil]
    rfl
  · refine ⟨⟨⟨hi, Nat.zero_le _, Nat.zero_le _⟩, .inl ⟨rfl, rfl, rfl, rfl, rfl, rfl⟩, fun k => by cases k⟩, rfl, ?_⟩
    exact ⟨by show i < _; omega, by show 0 < _; omega, by show 0 < _; omega, by show 0 < _; omega, by show 0 < _; omega, by show 0 < _; omega, by show 0 < _; omega, by show 0 < _; omega⟩
  · rw [tx0_get]
    exact ⟨fun k => (by rw [hasB_out (Nat.zero_le _)] at k; cases k), fun ⟨i, hi, hm⟩ => (by cases hm)⟩
theorem volChg_meta {x : Nat} (h : x < 18446744073709551616) : volChg (metaB x) = (x, 0) := by
  unfold metaB
  split
  · rename_i e; rw [e]; rfl
  · rename_i e
    have hr := rdN_be (n := 8) (x := x) (by omega) []
    rw [List.append_nil] at hr
    unfold volChg
    rw [if_neg (fun k => by have := congrArg List.length k; rw [be_length] at this; cases this), hr]
    exact if_pos ⟨rfl, e⟩
/-- How many changes there were is set. -/
theorem Good.set {t : Tx} {S : Nat → Slt} {I : Nat → List Nat} (h : Good t S I) {x : Nat} (hx : x < 18446744073709551616) : Good (t.put1 10 (metaB x)) S I ∧ volChange (t.put1 10 (metaB x)) = (x, 0) := by
  have hr1 : 35 < t.was.length := h.1.right.1
  have h10 : (t.put1 10 (metaB x)).get 10 = metaB x := by rw [Tx.get_put, if_pos ⟨rfl, by omega, by omega, Nat.le_trans (metaB_len x) (by decide)⟩]
  have h9 : (t.put1 10 (metaB x)).get 9 = t.get 9 := by rw [Tx.get_put, if_neg (by omega)]
  have hs := h.1.frame (t' := t.put1 10 (metaB x)) (by rw [Tx.put_was]) (fun k _ hk => by rw [Tx.get_put, if_neg (fun e => hk e.1)])
  refine ⟨⟨by rw [h9]; exact hs, by rw [h10, volChg_meta hx]⟩, ?_⟩
  unfold volChange
  rw [if_pos hs.right, h10, volChg_meta hx]
end Go.Proofs.YtcfpnghkkkphhaaGreat
