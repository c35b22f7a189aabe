/- The plain law of a volume: what a good one is, and that blocks are given back and taken as they should. -/
import Derived.Test.YtcfpnghkkkphhaaGreatVbits
namespace Go.Proofs.YtcfpnghkkkphhaaGreat
open Gk Go
set_option linter.unusedVariables false
set_option maxHeartbeats 4000000
set_option maxRecDepth 4000
set_option linter.unusedSimpArgs false
attribute [local irreducible] Int.decLt Int.decLe Int.decEq Int.instDecidableEq Gk.Rnds Gk.E Gk.G Gk.R Gk.RD Gk.RX Gk.RO Gk.Y Gk.Ent Gk.Sat Gk.Round Gk.After Gk.Cell Gk.Sl Gk.SlA Gk.CB Gk.OK Gk.FnC Gk.Bytes Gk.BytesL Gk.StrL Gk.Buf Gk.MapI
/-- A volume that is about to change: 't' its blocks, 'b' which are taken, 'S' its things, 'I' their blocks, 'P' which of them stand. -/
structure Semi (t : Tx) (b : List UInt8) (S : Nat → Slt) (I : Nat → List Nat) (P : Nat → Prop) (mt : List UInt8) : Prop where
  right : t.right
  ino : ∀ i, i < 24 → P i → t.ino i = (takeIno (S i) (I i), 0)
  ok : ∀ i, i < 24 → P i → (S i).ok ∧ (S i).ino = i ∧ (S i).fit
  len : ∀ i, i < 24 → P i → (I i).length = needN ((S i).data.length : Nat)
  dat : ∀ i, i < 24 → P i → ∀ j, j < (I i).length → t.get (35 + (((I i).getD j 0 : Nat) : Int)) = ((S i).data.drop (96 * j)).take 96
  nod : ∀ i, i < 24 → (I i).Nodup
  dis : ∀ i j, i < 24 → j < 24 → i ≠ j → ∀ x, x ∈ I i → x ∉ I j
  low : ∀ i, i < 24 → ∀ x, x ∈ I i → x < t.was.length - 35
  free : ∀ k, k < t.was.length - 35 → (∀ i, i < 24 → k ∉ I i) → t.get (35 + (k : Int)) = []
  map : ∀ k, hasB b k = true ↔ ∃ i, i < 24 ∧ k ∈ I i
  big : b.length ≤ 96
  mta : t.get 10 = mt
def upI {α : Type} (I : Nat → α) (i : Nat) (l : α) : Nat → α := fun j => if j = i then l else I j
theorem upI_at {α : Type} (I : Nat → α) (i : Nat) (l : α) : upI I i l i = l := if_pos rfl
theorem upI_ne {α : Type} {I : Nat → α} {i j : Nat} (l : α) (h : j ≠ i) : upI I i l j = I j := if_neg h
theorem getD_mem {l : List Nat} {j : Nat} (h : j < l.length) : l.getD j 0 ∈ l := by
  rw [List.getD_eq_getElem?_getD, List.getElem?_eq_getElem h]
  exact List.getElem_mem h
/-- A block of a thing that doesn't stand is given back. -/
theorem Semi.give1 {t : Tx} {b : List UInt8} {S : Nat → Slt} {I : Nat → List Nat} {P : Nat → Prop} {mt : List UInt8} {i k : Nat} {ks : List Nat} (h : Semi t b S I P mt) (hi : i < 24) (hP : ¬ P i) (hI : I i = k :: ks) :
    Semi (t.put1 (35 + (k : Int)) []) (withB b k false) S (upI I i ks) P mt := by
  have hw : (t.put1 (35 + (k : Int)) []).was = t.was := Tx.put_was ..
  have hr1 : 35 < t.was.length := h.right.1
  have hn := h.nod i hi
  rw [hI, List.nodup_cons] at hn
  have hkm : k ∈ I i := by rw [hI]; exact List.mem_cons_self
  have hkl := h.low i hi k hkm
  have hsub : ∀ j x, x ∈ upI I i ks j → x ∈ I j := fun j x hx => by
    by_cases e : j = i
    · rw [e, upI_at] at hx; rw [e, hI]; exact List.mem_cons_of_mem _ hx
    · rwa [upI_ne _ e] at hx
  have hne : ∀ j, j < 24 → k ∉ upI I i ks j := fun j hj hx => by
    by_cases e : j = i
    · rw [e, upI_at] at hx; exact hn.1 hx
    · rw [upI_ne _ e] at hx; exact h.dis i j hi hj (fun e' => e e'.symm) k hkm hx
  have hino : ∀ j, j < 24 → (t.put1 (35 + (k : Int)) []).ino j = t.ino j := fun j hj => by
    unfold Tx.ino
    rw [Tx.get_put, if_neg (by omega)]
  have hget : ∀ x : Nat, x ≠ k → (t.put1 (35 + (k : Int)) []).get (35 + (x : Int)) = t.get (35 + (x : Int)) := fun x hx => by
    rw [Tx.get_put, if_neg (by omega)]
  refine ⟨by unfold Tx.right; rw [hw]; exact h.right, fun j hj hp => ?_, h.ok, fun j hj hp => ?_, fun j hj hp x hx => ?_, fun j hj => ?_, fun j j2 hj hj2 hne2 x hx hx2 => h.dis j j2 hj hj2 hne2 x (hsub j x hx) (hsub j2 x hx2), fun j hj x hx => ?_, fun x hx hf => ?_, fun x => ?_, ?_, ?_⟩
  · have e : j ≠ i := fun e => hP (e ▸ hp)
    rw [upI_ne _ e, hino j hj]
    exact h.ino j hj hp
  · have e : j ≠ i := fun e => hP (e ▸ hp)
    rw [upI_ne _ e]
    exact h.len j hj hp
  · have e : j ≠ i := fun e => hP (e ▸ hp)
    rw [upI_ne _ e] at hx ⊢
    have hm := getD_mem hx
    rw [hget _ (fun e2 : (I j).getD x 0 = k => h.dis j i hj hi e _ hm (by rw [e2]; exact hkm))]
    exact h.dat j hj hp x hx
  · by_cases e : j = i
    · rw [e, upI_at]; exact hn.2
    · rw [upI_ne _ e]; exact h.nod j hj
  · rw [hw]; exact h.low j hj x (hsub j x hx)
  · rw [hw] at hx
    by_cases e : x = k
    · subst e
      rw [Tx.get_put, if_pos ⟨rfl, by omega, by omega, by simp⟩]
    · rw [hget x e]
      refine h.free x hx (fun j hj hm => hf j hj ?_)
      by_cases e2 : j = i
      · rw [e2, hI] at hm
        rw [e2, upI_at]
        exact (List.mem_cons.1 hm).resolve_left e
      · rwa [upI_ne _ e2]
  · rw [hasB_with]
    by_cases e : x = k
    · subst e
      rw [if_pos rfl]
      constructor
      · intro hh; cases hh
      · rintro ⟨j, hj, hm⟩; exact absurd hm (hne j hj)
    · rw [if_neg e, h.map]
      constructor
      · rintro ⟨j, hj, hm⟩
        refine ⟨j, hj, ?_⟩
        by_cases e2 : j = i
        · rw [e2, hI] at hm
          rw [e2, upI_at]
          exact (List.mem_cons.1 hm).resolve_left e
        · rwa [upI_ne _ e2]
      · rintro ⟨j, hj, hm⟩
        exact ⟨j, hj, hsub j x hm⟩
  · exact Nat.le_trans (withB_lenF b k) h.big
  · rw [Tx.get_put, if_neg (by omega)]
    exact h.mta
theorem Semi.weak {t : Tx} {b : List UInt8} {S : Nat → Slt} {I : Nat → List Nat} {P P' : Nat → Prop} {mt : List UInt8} (h : Semi t b S I P mt) (hp : ∀ i, i < 24 → P' i → P i) : Semi t b S I P' mt :=
  ⟨h.right, fun i hi k => h.ino i hi (hp i hi k), fun i hi k => h.ok i hi (hp i hi k), fun i hi k => h.len i hi (hp i hi k), fun i hi k => h.dat i hi (hp i hi k), h.nod, h.dis, h.low, h.free, h.map, h.big, h.mta⟩
theorem Semi.congr {t : Tx} {b : List UInt8} {S S' : Nat → Slt} {I I' : Nat → List Nat} {P P' : Nat → Prop} {mt : List UInt8} (h : Semi t b S I P mt) (hS : ∀ i, i < 24 → P' i → S' i = S i) (hI : ∀ i, i < 24 → I' i = I i) (hp : ∀ i, i < 24 → P' i → P i) : Semi t b S' I' P' mt := by
  refine ⟨h.right, fun i hi k => ?_, fun i hi k => ?_, fun i hi k => ?_, fun i hi k => ?_, fun i hi => ?_, fun i j hi hj => ?_, fun i hi => ?_, fun k hk hf => h.free k hk (fun i hi => ?_), fun k => ?_, h.big, h.mta⟩
  · rw [hS i hi k, hI i hi]; exact h.ino i hi (hp i hi k)
  · rw [hS i hi k]; exact h.ok i hi (hp i hi k)
  · rw [hS i hi k, hI i hi]; exact h.len i hi (hp i hi k)
  · rw [hS i hi k, hI i hi]; exact h.dat i hi (hp i hi k)
  · rw [hI i hi]; exact h.nod i hi
  · rw [hI i hi, hI j hj]; exact h.dis i j hi hj
  · rw [hI i hi]; exact h.low i hi
  · rw [← hI i hi]; exact hf i hi
  · rw [h.map]
    exact ⟨fun ⟨i, hi, hm⟩ => ⟨i, hi, by rw [hI i hi]; exact hm⟩, fun ⟨i, hi, hm⟩ => ⟨i, hi, by rw [← hI i hi]; exact hm⟩⟩
theorem Semi.giveGo {S : Nat → Slt} {P : Nat → Prop} {mt : List UInt8} {i : Nat} (hi : i < 24) (hP : ¬ P i) : ∀ (ks : List Nat) {t : Tx} {b : List UInt8} {I : Nat → List Nat}, Semi t b S I P mt → I i = ks → Semi (giveGo ks b t).2 (giveGo ks b t).1 S (upI I i []) P mt
  | [], t, b, I, h, hI => h.congr (fun _ _ _ => rfl) (fun j hj => by
      by_cases e : j = i
      · rw [e, upI_at, hI]
      · rw [upI_ne _ e]) (fun _ _ k => k)
  | k :: ks, t, b, I, h, hI => by
    have := Semi.giveGo hi hP ks (h.give1 hi hP hI) (upI_at ..)
    exact this.congr (fun _ _ _ => rfl) (fun j hj => by
      by_cases e : j = i
      · rw [e, upI_at, upI_at]
      · rw [upI_ne _ e, upI_ne _ e, upI_ne _ e]) (fun _ _ k => k)
/-- A thing's blocks are given back. -/
theorem Semi.give {t : Tx} {b : List UInt8} {S : Nat → Slt} {I : Nat → List Nat} {P : Nat → Prop} {mt : List UInt8} {i : Nat} (h : Semi t b S I P mt) (hi : i < 24) (hP : P i) :
    (volGive t b i).1 = 0 ∧ Semi (volGive t b i).2.2 (volGive t b i).2.1 S (upI I i []) (fun j => P j ∧ j ≠ i) mt := by
  have e := h.ino i hi hP
  have e2 : volGive t b i = (0, Go.Proofs.YtcfpnghkkkphhaaGreat.giveGo (I i) b t) := by
    unfold volGive
    rw [e]
    exact if_pos rfl
  rw [e2]
  exact ⟨rfl, Semi.giveGo hi (fun k => k.2 rfl) (I i) (h.weak (P' := fun j => P j ∧ j ≠ i) (fun _ _ k => k.1)) rfl⟩
theorem takeGo_get {d : List UInt8} {l : List Nat} {b : List UInt8} {t : Tx} (hl : ∀ x, x ∈ l → x < t.was.length - 35) (hr : 35 < t.was.length) (hn : l.Nodup) : ∀ n, n ≤ l.length →
    (∀ k : Int, (∀ j, j < n → k ≠ 35 + ((l.getD j 0 : Nat) : Int)) → (takeGo d l b t n).2.get k = t.get k) ∧ (∀ j, j < n → (takeGo d l b t n).2.get (35 + ((l.getD j 0 : Nat) : Int)) = (d.drop (96 * j)).take 96)
  | 0, _ => ⟨fun _ _ => rfl, fun j hj => absurd hj (Nat.not_lt_zero _)⟩
  | n + 1, h => by
    obtain ⟨h1, h2⟩ := takeGo_get (d := d) (b := b) hl hr hn n (by omega)
    have hm := hl _ (getD_mem (show n < l.length by omega))
    have hw := takeGo_was d l b t n
    refine ⟨fun k hk => ?_, fun j hj => ?_⟩
    · rw [takeGo, Tx.get_put, if_neg (fun e => hk n (by omega) e.1)]
      exact h1 k (fun j hj => hk j (by omega))
    · rw [takeGo, Tx.get_put]
      by_cases e : j = n
      · subst e
        rw [if_pos ⟨rfl, by omega, by rw [hw]; omega, by rw [List.length_take]; omega⟩]
      · rw [if_neg, h2 j (by omega)]
        intro k
        have k1 : l.getD j 0 = l.getD n 0 := by omega
        rw [List.getD_eq_getElem?_getD, List.getD_eq_getElem?_getD, List.getElem?_eq_getElem (show j < l.length by omega), List.getElem?_eq_getElem (show n < l.length by omega)] at k1
        exact e ((List.getElem_inj hn).1 k1)
theorem takeGo_has {d : List UInt8} {l : List Nat} {b : List UInt8} {t : Tx} : ∀ n, n ≤ l.length → ∀ x, hasB (takeGo d l b t n).1 x = true ↔ hasB b x = true ∨ x ∈ l.take n
  | 0, _, x => by rw [List.take_zero]; exact ⟨.inl, fun h => h.resolve_right (fun h => by cases h)⟩
  | n + 1, h, x => by
    have ih := takeGo_has (d := d) (b := b) (t := t) (l := l) n (Nat.le_of_succ_le h) x
    rw [takeGo, hasB_with, List.take_succ_eq_append_getElem (show n < l.length by omega), List.mem_append, List.mem_singleton]
    have hg : l.getD n 0 = l[n] := by rw [List.getD_eq_getElem?_getD, List.getElem?_eq_getElem (show n < l.length by omega)]; rfl
    rw [hg]
    split
    · rename_i e; exact ⟨fun _ => .inr (.inr e), fun _ => rfl⟩
    · rename_i e
      rw [ih]
      exact ⟨fun k => k.elim .inl (fun k => .inr (.inl k)), fun k => k.elim .inl (fun k => k.elim .inr (fun k => absurd k e))⟩
theorem takeGo_big {d : List UInt8} {l : List Nat} {b : List UInt8} {t : Tx} (hl : ∀ x, x ∈ l → x < 768) (hb : b.length ≤ 96) : ∀ n, (takeGo d l b t n).1.length ≤ 96
  | 0 => hb
  | n + 1 => by
    have h1 := takeGo_big (d := d) (t := t) hl hb n
    have h2 := withB_len (takeGo d l b t n).1 (l.getD n 0) true
    have h3 : l.getD n 0 < 768 := by
      rw [List.getD_eq_getElem?_getD]
      cases hg : l[n]? with
      | none => decide
      | some y => exact hl y (List.mem_of_getElem? hg)
    rw [takeGo]
    refine Nat.le_trans h2 ?_
    split <;> omega
theorem takeIno_fit {s : Slt} {l : List Nat} (hf : s.fit) (hd : s.data.length ≤ 768) (hl : ∀ x, x ∈ l → x < 768) (hll : l.length ≤ 8) : (takeIno s l).fit := by
  obtain ⟨f1, f2, f3, f4, f5, f6, f7, f8⟩ := hf
  exact ⟨f2, f3, f4, f5, by show s.data.length < _; omega, f6, f7, f8, fun x hx => by have := hl x hx; omega, by show l.length ≤ _; omega⟩
theorem takeIno_may {s : Slt} {l : List Nat} (h : s.ok) (hl : l.length = needN (s.data.length : Nat)) (hn : l.Nodup) : (takeIno s l).may := by
  obtain ⟨⟨h1, h2, h3⟩, h4, _⟩ := h
  have hne : needN (s.data.length : Nat) = (s.data.length + 95) / 96 := by unfold needN; omega
  refine ⟨h2, by show l.length ≤ 8; omega, hl, hn, ?_⟩
  show if s.kind = 0 then s.links = 0 ∧ s.mode = 0 ∧ s.data.length = 0 ∧ s.cookie = 0 ∧ s.verf = 0 else 1 ≤ s.links
  rcases h4 with ⟨k, b1, b2, b3, b4, b5⟩ | ⟨k, b1⟩
  · rw [if_pos k]; exact ⟨b1, b2, b5, b3, b4⟩
  · rw [if_neg k]; exact b1
/-- A thing takes blocks. -/
theorem Semi.take {t : Tx} {b : List UInt8} {S : Nat → Slt} {I : Nat → List Nat} {P : Nat → Prop} {mt : List UInt8} {s : Slt} (h : Semi t b S I P mt) (hok : s.ok) (hfit : s.fit) (hP : ¬ P s.ino) (hI : I s.ino = []) :
    if cntB b (t.was.length - 35) + needN (s.data.length : Nat) ≤ t.was.length - 35 then
      (volTake t b s).1 = 0 ∧ ∃ l, l.length = needN (s.data.length : Nat) ∧ Semi (volTake t b s).2.2 (volTake t b s).2.1 (upI S s.ino s) (upI I s.ino l) (fun j => P j ∨ j = s.ino) mt
    else (volTake t b s).1 = 66 := by
  have hi : s.ino < 24 := hok.1.1
  have hd : s.data.length ≤ 768 := hok.1.2.2
  have hr1 : 35 < t.was.length := h.right.1
  have hr2 : t.was.length ≤ 803 := h.right.2
  have hE := drawE_cnt b (t.was.length - 35) (needN (s.data.length : Nat))
  split
  · rename_i g
    rw [if_pos g] at hE
    have hlen := drawB_len hE
    have hmem := fun x (hx : x ∈ drawB b (t.was.length - 35) (needN (s.data.length : Nat))) => drawB_mem hx
    have hnod := drawB_nodup b (t.was.length - 35) (needN (s.data.length : Nat))
    have eT : volTake t b s = volPutI (takeGo s.data (drawB b (t.was.length - 35) (needN (s.data.length : Nat))) b t (needN (s.data.length : Nat))).2 (takeGo s.data (drawB b (t.was.length - 35) (needN (s.data.length : Nat))) b t (needN (s.data.length : Nat))).1 s.ino (takeIno s (drawB b (t.was.length - 35) (needN (s.data.length : Nat)))) := if_pos hE
    rw [eT]
    clear eT
    generalize drawB b (t.was.length - 35) (needN (s.data.length : Nat)) = l at hlen hmem hnod ⊢
    have hl1 : ∀ x, x ∈ l → x < t.was.length - 35 := fun x hx => (hmem x hx).1
    have hl2 : ∀ x, x ∈ l → x < 768 := fun x hx => by have := hl1 x hx; omega
    have hnew : ∀ x, x ∈ l → ∀ i, i < 24 → x ∉ I i := fun x hx i hi hm => by
      have := (h.map x).2 ⟨i, hi, hm⟩
      rw [(hmem x hx).2] at this
      cases this
    obtain ⟨hg1, hg2⟩ := takeGo_get (d := s.data) (b := b) hl1 hr1 hnod l.length (Nat.le_refl _)
    have hh := takeGo_has (d := s.data) (b := b) (t := t) (l := l) l.length (Nat.le_refl _)
    have hb := takeGo_big (d := s.data) (t := t) hl2 h.big l.length
    have hw := takeGo_was s.data l b t l.length
    rw [← hlen]
    rw [List.take_length] at hh
    generalize (takeGo s.data l b t l.length).1 = b' at hh hb ⊢
    generalize (takeGo s.data l b t l.length).2 = t' at hg1 hg2 hw ⊢
    have hmay := takeIno_may hok hlen hnod
    have hne : needN (s.data.length : Nat) = (s.data.length + 95) / 96 := by unfold needN; omega
    have hifit : (takeIno s l).fit := takeIno_fit hfit hd hl2 (by omega)
    have hbl : (takeIno s l).bytes.length ≤ 96 := by
      rw [Ino.bytes_len]
      show 48 + 4 * l.length ≤ 96
      omega
    have hob : ∃ ob, (if (takeIno s l).may ∧ ¬ (takeIno s l).none then (takeIno s l).bytes else []) = ob ∧ ob.length ≤ 96 ∧ inoGet ob = (takeIno s l, 0) := by
      refine ⟨_, rfl, ?_, ?_⟩
      · split
        · exact hbl
        · exact Nat.zero_le _
      · by_cases g0 : (takeIno s l).none
        · rw [if_neg (fun k => k.2 g0), inoGet_nil, ← Ino.zero_of g0]
        · rw [if_pos ⟨hmay, g0⟩, inoGet_bytes hifit hmay g0]
    obtain ⟨ob, hob1, hob2, hob3⟩ := hob
    have eP : volPutI t' b' s.ino (takeIno s l) = (t'.putE (11 + (s.ino : Int)) ob, b', t'.put1 (11 + (s.ino : Int)) ob) := by
      unfold volPutI
      rw [if_pos hmay, hob1]
    have hpe : t'.putE (11 + (s.ino : Int)) ob = 0 := by
      unfold Tx.putE
      rw [hw, if_pos (by omega), if_neg (by omega)]
    rw [eP, hpe]
    clear eP hpe hob1
    refine ⟨rfl, l, rfl, ?_⟩
    dsimp only
    have hw2 : (t'.put1 (11 + (s.ino : Int)) ob).was = t.was := by rw [Tx.put_was, hw]
    have hgp : ∀ k : Int, k ≠ 11 + (s.ino : Int) → (t'.put1 (11 + (s.ino : Int)) ob).get k = t'.get k := fun k hk => by
      rw [Tx.get_put, if_neg (fun e => hk e.1)]
    have hgd : ∀ k : Int, k < 35 → k ≠ 11 + (s.ino : Int) → (t'.put1 (11 + (s.ino : Int)) ob).get k = t.get k := fun k hk hk2 => by
      rw [hgp k hk2]
      exact hg1 k (fun j hj => by omega)
    have hgx : ∀ x : Nat, x ∉ l → (t'.put1 (11 + (s.ino : Int)) ob).get (35 + (x : Int)) = t.get (35 + (x : Int)) := fun x hx => by
      rw [hgp _ (by omega)]
      refine hg1 _ (fun j hj e => hx ?_)
      have := getD_mem hj
      rw [show l.getD j 0 = x by omega] at this
      exact this
    refine ⟨by unfold Tx.right; rw [hw2]; exact h.right, fun j hj hp => ?_, fun j hj hp => ?_, fun j hj hp => ?_, fun j hj hp x hx => ?_, fun j hj => ?_, fun j j2 hj hj2 hne2 x hx hx2 => ?_, fun j hj x hx => ?_, fun x hx hf => ?_, fun x => ?_, hb, ?_⟩
    · by_cases e : j = s.ino
      · subst e
        rw [upI_at, upI_at]
        unfold Tx.ino
        rw [Tx.get_put, if_pos ⟨rfl, by omega, by rw [hw]; omega, hob2⟩]
        exact hob3
      · rw [upI_ne _ e, upI_ne _ e]
        have := h.ino j hj (hp.resolve_right e)
        unfold Tx.ino at this ⊢
        rw [hgd _ (by omega) (by omega)]
        exact this
    · by_cases e : j = s.ino
      · subst e; rw [upI_at]; exact ⟨hok, rfl, hfit⟩
      · rw [upI_ne _ e]; exact h.ok j hj (hp.resolve_right e)
    · by_cases e : j = s.ino
      · subst e; rw [upI_at, upI_at]; exact hlen
      · rw [upI_ne _ e, upI_ne _ e]; exact h.len j hj (hp.resolve_right e)
    · by_cases e : j = s.ino
      · subst e
        rw [upI_at] at hx ⊢
        rw [upI_at, hgp _ (by omega)]
        exact hg2 x hx
      · rw [upI_ne _ e] at hx ⊢
        rw [upI_ne _ e, hgx _ (fun hm => hnew _ hm j hj (getD_mem hx))]
        exact h.dat j hj (hp.resolve_right e) x hx
    · by_cases e : j = s.ino
      · subst e; rw [upI_at]; exact hnod
      · rw [upI_ne _ e]; exact h.nod j hj
    · by_cases e : j = s.ino
      · subst e
        rw [upI_at] at hx
        rw [upI_ne _ (fun e2 => hne2 e2.symm)] at hx2
        exact hnew x hx j2 hj2 hx2
      · rw [upI_ne _ e] at hx
        by_cases e2 : j2 = s.ino
        · subst e2
          rw [upI_at] at hx2
          exact hnew x hx2 j hj hx
        · rw [upI_ne _ e2] at hx2
          exact h.dis j j2 hj hj2 hne2 x hx hx2
    · rw [hw2]
      by_cases e : j = s.ino
      · subst e; rw [upI_at] at hx; exact hl1 x hx
      · rw [upI_ne _ e] at hx; exact h.low j hj x hx
    · rw [hw2] at hx
      have hxl : x ∉ l := by have := hf s.ino hi; rwa [upI_at] at this
      rw [hgx x hxl]
      refine h.free x hx (fun j hj hm => ?_)
      by_cases e : j = s.ino
      · subst e; rw [hI] at hm; cases hm
      · exact hf j hj (by rwa [upI_ne _ e])
    · rw [hh, h.map]
      constructor
      · rintro (⟨j, hj, hm⟩ | hm)
        · by_cases e : j = s.ino
          · subst e; rw [hI] at hm; cases hm
          · exact ⟨j, hj, by rwa [upI_ne _ e]⟩
        · exact ⟨s.ino, hi, by rwa [upI_at]⟩
      · rintro ⟨j, hj, hm⟩
        by_cases e : j = s.ino
        · subst e; rw [upI_at] at hm; exact .inr hm
        · rw [upI_ne _ e] at hm; exact .inl ⟨j, hj, hm⟩
    · rw [hgd 10 (by omega) (by omega)]
      exact h.mta
  · rename_i g
    rw [if_neg g] at hE
    have eT : volTake t b s = (drawE b (t.was.length - 35) (needN (s.data.length : Nat)), b, t) := if_neg (by rw [hE]; decide)
    rw [eT]
    exact hE
end Go.Proofs.YtcfpnghkkkphhaaGreat
