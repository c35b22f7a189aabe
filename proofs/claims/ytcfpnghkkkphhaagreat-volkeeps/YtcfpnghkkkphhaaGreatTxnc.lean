/- The contracts of txn, for a frame. -/
import Derived.Test.YtcfpnghkkkphhaaGreatTxn
import Derived.Test.YtcfpnghkkkphhaaGreatGkGo
namespace Go.Proofs.YtcfpnghkkkphhaaGreat
open Gk Go
set_option linter.unusedVariables false
set_option maxHeartbeats 4000000
set_option maxRecDepth 4000
set_option linter.unusedSimpArgs false
attribute [local irreducible] Int.decLt Int.decLe Int.decEq Int.instDecidableEq Gk.Rnds Gk.E Gk.G Gk.R Gk.RD Gk.RX Gk.RO Gk.Y Gk.Ent Gk.Sat Gk.Round Gk.After Gk.Cell Gk.Sl Gk.SlA Gk.CB Gk.OK Gk.FnC Gk.Bytes Gk.BytesL Gk.StrL Gk.Buf Gk.MapI
theorem TxnAt.sub {O O' : List Nat} {w : World} {p m : Nat} {t : Tx} (h : TxnAt O w p m t) (hs : ∀ b, b ∈ O' → b ∈ O) (hp : p ∈ O') (hm : m ∈ O') : TxnAt O' w p m t := by
  obtain ⟨h1, h2, ⟨lv, es, a, b, c, d⟩, h3, h4, h5⟩ := h
  exact ⟨hp, hm, ⟨lv, es, a, b.sub hs, c, d.mono fun _ _ h => ⟨h.1, h.2.sub hs⟩⟩, h3, h4, h5⟩

/-- Blocks that are about to change. -/
def Tn (p m : Nat) (t : Tx) : Thing := ⟨[p, m], fun O w => TxnAt O w p m t, fun s hn h => h.step s (hn p (by simp)) (hn m (by simp)), fun hs hb h => h.sub hs (hb p (by simp)) (hb m (by simp))⟩

def tptr (p : Nat) : Value := .pointer (some ⟨p, 0, none⟩)
def errT (e : Nat) : Value := .int .i64 e

/-- What is told of a put, and what is then. -/
def Tx.putE (t : Tx) (i : Int) (xs : List UInt8) : Nat := if 0 ≤ i ∧ i < t.was.length then (if 96 < xs.length then 13 else 0) else 15
def Tx.put1 (t : Tx) (i : Int) (xs : List UInt8) : Tx := if 0 ≤ i ∧ i < t.was.length ∧ xs.length ≤ 96 then t.set i xs else t

/-- A write's cells. -/
def WrR : Rel (Nat × List UInt8) := ⟨fun O w row y => ∃ v, row = [.int .i64 y.1, v] ∧ Bytes O w v y.2, fun s ⟨v, h1, h2⟩ => ⟨v, h1, h2.step s⟩, fun hs ⟨v, h1, h2⟩ => ⟨v, h1, h2.sub hs⟩⟩

theorem txnNew_c {v : Value} {l : List (List UInt8)} (h : l.length ≤ 2000000 ∧ ∀ b, b ∈ l → b.length ≤ 2000000) :
    Con Tryz.prog 10 [v] [] [] [Fact.bytesL v l] fun r T Φ => ∃ p m, r = tptr p ∧ T = [Tn p m ⟨l, []⟩] ∧ Φ = [] :=
  con0 (fun O w hO hF => new_ok hO (hF (Fact.bytesL v l) (by simp)) h.1 h.2) fun O w r O' w' hO s ⟨p, m, h1, h2, h3, h4, _, h5⟩ => ⟨_, _, ⟨p, m, h1, rfl, rfl⟩, left1 h5 fun b hb => by
    simp [Tn] at hb; subst h2
    rcases hb with rfl | rfl
    · exact ⟨by simp, .inr h3⟩
    · exact ⟨by simp, .inr h4⟩⟩

theorem txnLen_c {p m : Nat} {t : Tx} (h : True) : Con Tryz.prog 32 [tptr p] [] [Tn p m t] [] fun r T Φ => r = .int .i64 t.was.length ∧ T = [] ∧ Φ = [] :=
  conB (fun O w hO ht _ => len_ok hO ht) fun O w r O' w' hO s ⟨_, _, h⟩ => ⟨_, _, ⟨h, rfl, rfl⟩, left0⟩
theorem txnLenn_c (h : True) : Con Tryz.prog 32 [.pointer none] [] [] [] fun r T Φ => r = .int .i64 0 ∧ T = [] ∧ Φ = [] :=
  con0 (fun O w hO _ => len_none hO) fun O w r O' w' hO s ⟨_, _, h⟩ => ⟨_, _, ⟨h, rfl, rfl⟩, left0⟩

theorem txnGet_c {p m : Nat} {t : Tx} {i : Int} (h : True) : Con Tryz.prog 18 [tptr p, .int .i64 i] [] [Tn p m t] [] fun r T Φ => T = [] ∧ Φ = [Fact.bytes r (t.get i)] :=
  conB (fun O w hO ht _ => get_ok hO ht i) fun O w r O' w' hO s ⟨h1, h2⟩ => ⟨_, _, ⟨rfl, rfl⟩, leftF (by subst h1; exact Sl.bytes (h2.sl fun q hq => fresh_nin hO hq))⟩
/-- The same, as the caller's own. -/
theorem txnGetO_c {p m : Nat} {t : Tx} {i : Int} (h : True) : Con Tryz.prog 18 [tptr p, .int .i64 i] [] [Tn p m t] [] fun r T Φ => T = [Thing.buf 1 r (t.get i).length (bytesV (t.get i))] ∧ Φ = [] :=
  conB_buf fun O w hO ht _ => get_ok hO ht i
theorem txnGetn_c {i : Int} (h : True) : Con Tryz.prog 18 [.pointer none, .int .i64 i] [] [] [] fun r T Φ => r = .slice none 0 0 ∧ T = [] ∧ Φ = [] :=
  con0 (fun O w hO _ => get_none hO) fun O w r O' w' hO s ⟨_, _, h⟩ => ⟨_, _, ⟨h, rfl, rfl⟩, left0⟩

theorem txnPut_c {p m : Nat} {t : Tx} {i : Int} {v : Value} {xs : List UInt8} (h : True) :
    Con Tryz.prog 19 [tptr p, .int .i64 i, v] [Tn p m t] [] [Fact.bytes v xs] fun r T Φ => r = errT (t.putE i xs) ∧ T = [Tn p m (t.put1 i xs)] ∧ Φ = [] := by
  refine con1 (K' := fun O w r O' w' => O = O' ∧ r = errT (t.putE i xs) ∧ TxnAt O' w' p m (t.put1 i xs)) (fun O w hO ht hF => ?_) fun O w r O' w' hO s hb ⟨h1, h2, h3⟩ => ⟨_, _, ⟨h2, rfl, rfl⟩, left1 h3 fun b hb' => ?_⟩
  · have hv : Bytes O w v xs := hF (Fact.bytes v xs) (by simp)
    have ht : TxnAt O w p m t := ht
    have hbs : ∀ b, b ∈ (Tn p m t).bs → b ∈ O := fun b hb => by
      simp [Tn] at hb
      rcases hb with rfl | rfl
      · exact ht.pO
      · exact ht.mO
    by_cases g : 0 ≤ i ∧ i < t.was.length
    · by_cases g2 : 96 < xs.length
      · have e1 : t.putE i xs = 13 := by unfold Tx.putE; rw [if_pos g, if_pos g2]
        have e2 : t.put1 i xs = t := by unfold Tx.put1; rw [if_neg (by omega)]
        rw [e1, e2]
        exact (put_big hO ht g hv g2).more (by simp) hbs (fun r O' w' s ⟨h3, h4⟩ => ⟨h3, h4, by subst h3; exact ht.step s (by simp) (by simp)⟩)
      · have e1 : t.putE i xs = 0 := by unfold Tx.putE; rw [if_pos g, if_neg g2]
        have e2 : t.put1 i xs = t.set i xs := by unfold Tx.put1; rw [if_pos (by omega)]
        rw [e1, e2]
        exact (put_yes hO ht g hv (by omega)).more (by simp [Tn]) hbs (fun r O' w' s ⟨h3, h4, h5⟩ => ⟨h3, h4, by subst h3; exact h5⟩)
    · have e1 : t.putE i xs = 15 := by unfold Tx.putE; rw [if_neg g]
      have e2 : t.put1 i xs = t := by unfold Tx.put1; rw [if_neg (by omega)]
      rw [e1, e2]
      exact (put_range hO ht g).more (by simp) hbs (fun r O' w' s ⟨h3, h4⟩ => ⟨h3, h4, by subst h3; exact ht.step s (by simp) (by simp)⟩)
  · subst h1
    exact ⟨hb b hb', .inl hb'⟩
theorem txnPutn_c {i : Int} {v : Value} (h : True) : Con Tryz.prog 19 [.pointer none, .int .i64 i, v] [] [] [] fun r T Φ => r = errT 1 ∧ T = [] ∧ Φ = [] :=
  con0 (fun O w hO _ => put_none hO) fun O w r O' w' hO s ⟨_, h⟩ => ⟨_, _, ⟨h, rfl, rfl⟩, left0⟩

theorem txnChanges_c {p m : Nat} {t : Tx} (h : True) : Con Tryz.prog 23 [tptr p] [] [Tn p m t] [] fun r T Φ => T = [] ∧ Φ = [Fact.rel 2 WrR r t.changes] :=
  conB (fun O w hO ht _ => changes_ok hO ht) fun O w r O' w' hO s ⟨h1, _, h2⟩ => ⟨_, _, ⟨rfl, rfl⟩, leftF (by
    subst h1
    obtain ⟨rows, a, b, c⟩ := h2
    exact ⟨rows, a, b.mono fun _ _ ⟨v, e, hb⟩ => ⟨v, e, hb.bytes⟩, c⟩)⟩
theorem txnChangesn_c (h : True) : Con Tryz.prog 23 [.pointer none] [] [] [] fun r T Φ => r = .slice none 0 0 ∧ T = [] ∧ Φ = [] :=
  con0 (fun O w hO _ => changes_none hO) fun O w r O' w' hO s ⟨_, h⟩ => ⟨_, _, ⟨h, rfl, rfl⟩, left0⟩

theorem txnFork_c {p m : Nat} {t : Tx} (h : True) : Con Tryz.prog 38 [tptr p] [] [Tn p m t] [] fun r T Φ => ∃ p' m', r = tptr p' ∧ T = [Tn p' m' t] ∧ Φ = [] :=
  conB (fun O w hO ht _ => fork_ok hO ht) fun O w r O' w' hO s ⟨p', m', h1, h2, h3, h4, h5, _⟩ => ⟨_, _, ⟨p', m', h1, rfl, rfl⟩, left1 h5 fun b hb => by
    simp [Tn] at hb; subst h2
    rcases hb with rfl | rfl
    · exact ⟨by simp, .inr h3⟩
    · exact ⟨by simp, .inr h4⟩⟩
theorem txnForkn_c (h : True) : Con Tryz.prog 38 [.pointer none] [] [] [] fun r T Φ => r = .pointer none ∧ T = [] ∧ Φ = [] :=
  con0 (fun O w hO _ => fork_none hO) fun O w r O' w' hO s ⟨_, _, h⟩ => ⟨_, _, ⟨h, rfl, rfl⟩, left0⟩

theorem txnTake_c {p m q n : Nat} {t u : Tx} (h : t.was.length = u.was.length) : Con Tryz.prog 41 [tptr p, tptr q] [Tn p m t] [Tn q n u] [] fun r T Φ => ∃ m', T = [Tn p m' ⟨t.was, u.put⟩] ∧ Φ = [] := by
  intro O w hO hA hB hbA hbB hap hF
  have ht : TxnAt O w p m t := hA (Tn p m t) (by simp)
  have hu : TxnAt O w q n u := hB (Tn q n u) (by simp)
  have e : [Tn p m t].flatMap (·.bs) = [p, m] := by simp [Tn]
  rw [e]
  refine (txTake_ok hO ht hu h).more (by simp) (fun b hb => ?_) (fun r O' w' s ⟨m', h3, h4, h5⟩ => ⟨_, _, ⟨m', rfl, rfl⟩, left1 (t := Tn p m' ⟨t.was, u.put⟩) h5 fun b hb => ?_⟩)
  · simp at hb
    rcases hb with rfl | rfl
    · exact ht.pO
    · exact ht.mO
  · simp [Tn] at hb
    rcases hb with rfl | rfl
    · exact ⟨h5.pO, .inl (by simp)⟩
    · exact ⟨h5.mO, .inr h4⟩
theorem txnTaken1_c {q : Option Addr} (h : True) : Con Tryz.prog 41 [.pointer none, .pointer q] [] [] [] fun r T Φ => T = [] ∧ Φ = [] :=
  con0 (fun O w hO _ => take_none1 hO) fun O w r O' w' hO s h => ⟨_, _, ⟨rfl, rfl⟩, left0⟩
theorem txnTaken2_c {p : Nat} (h : True) : Con Tryz.prog 41 [tptr p, .pointer none] [] [] [] fun r T Φ => T = [] ∧ Φ = [] :=
  con0 (fun O w hO _ => take_none2 hO) fun O w r O' w' hO s h => ⟨_, _, ⟨rfl, rfl⟩, left0⟩

theorem Tx.now_set (t : Tx) (i : Int) (xs : List UInt8) (j : Nat) : (t.set i xs).now j = if (j : Int) = i then xs else t.now j := by
  unfold Tx.now Tx.set
  simp only [lookI_upd]
  split <;> simp

/-- All blocks, as they are about to be. -/
def Tx.all (t : Tx) : List (List UInt8) := (List.range t.was.length).map t.now
theorem Tx.all_len (t : Tx) : t.all.length = t.was.length := by simp [Tx.all]
theorem Tx.all_at (t : Tx) {i : Nat} (h : i < t.all.length) : t.all[i] = t.now i := by simp [Tx.all]
theorem Tx.get_all (t : Tx) (i : Int) : t.get i = if 0 ≤ i ∧ i < t.all.length then t.all.getD i.toNat [] else [] := by
  unfold Tx.get
  rw [t.all_len]
  split
  · rename_i h
    rw [List.getD_eq_getElem?_getD, List.getElem?_eq_getElem (by rw [t.all_len]; omega), t.all_at]
    rfl
  · rfl
theorem Tx.all_put (t : Tx) (i : Int) (xs : List UInt8) : (t.put1 i xs).all = if 0 ≤ i ∧ i < t.was.length ∧ xs.length ≤ 96 then t.all.set i.toNat xs else t.all := by
  unfold Tx.put1
  split
  · rename_i h
    refine List.ext_getElem (by simp [Tx.all, Tx.set]) (fun j h1 h2 => ?_)
    have hj : j < t.was.length := by rw [Tx.all_len] at h1; exact h1
    rw [Tx.all_at, Tx.now_set, List.getElem_set]
    split
    · rw [if_pos (by omega)]
    · rw [if_neg (by omega), Tx.all_at]
  · rfl
theorem Tx.put_was (t : Tx) (i : Int) (xs : List UInt8) : (t.put1 i xs).was = t.was := by unfold Tx.put1; split <;> rfl

/-- What changed, by the two lists. -/
def chgL (was now : List (List UInt8)) : Nat → List (Nat × List UInt8)
  | 0 => []
  | k + 1 => chgL was now k ++ if now.getD k [] = was.getD k [] then [] else [(k, now.getD k [])]
theorem Tx.chg_all (t : Tx) : ∀ k, k ≤ t.was.length → t.chg k = chgL t.was t.all k
  | 0, _ => rfl
  | k + 1, h => by
    have e : t.all.getD k [] = t.now k := by rw [List.getD_eq_getElem?_getD, List.getElem?_eq_getElem (by rw [t.all_len]; omega), t.all_at]; rfl
    rw [Tx.chg, chgL, Tx.chg_all t k (by omega), e]
theorem Tx.changes_all (t : Tx) : t.changes = chgL t.was t.all t.was.length := t.chg_all _ (Nat.le_refl _)
theorem chgL_len (was now : List (List UInt8)) : ∀ k, (chgL was now k).length ≤ k
  | 0 => Nat.le_refl _
  | k + 1 => by
    have := chgL_len was now k
    rw [chgL, List.length_append]
    split <;> simp <;> omega
end Go.Proofs.YtcfpnghkkkphhaaGreat
