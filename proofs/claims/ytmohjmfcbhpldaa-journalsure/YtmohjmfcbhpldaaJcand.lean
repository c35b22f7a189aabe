/- What a sector may hold behind a crash. -/
import Derived.Test.YtmohjmfcbhpldaaCrash
import Derived.Test.YtmohjmfcbhpldaaJopen
namespace Go.Proofs.Ytmohjmfcbhpldaa
open Gk Go
set_option linter.unusedVariables false
set_option maxHeartbeats 4000000
set_option maxRecDepth 4000
set_option linter.unusedSimpArgs false
attribute [local irreducible] Int.decLt Int.decLe Int.decEq Int.instDecidableEq Gk.Rnds Gk.E Gk.G Gk.R Gk.RD Gk.RX Gk.RO Gk.Y Gk.Ent Gk.Sat Gk.Round Gk.After Gk.Cell Gk.Sl Gk.SlA Gk.CB Gk.OK Gk.FnC Gk.Bytes Gk.BytesL Gk.StrL Gk.Buf Gk.MapI
def upd (c : Int → List UInt8) (i : Int) (b : List UInt8) : Int → List UInt8 := fun k => if k = i then b else c k
theorem upd_same (c : Int → List UInt8) (i : Int) (b : List UInt8) : upd c i b i = b := if_pos rfl
theorem upd_other {c : Int → List UInt8} {i k : Int} {b : List UInt8} (h : k ≠ i) : upd c i b k = c k := if_neg h
def Choice (d : Dk) (c : Int → List UInt8) : Prop := ∀ i, c i = look d.l i ∨ (i, c i) ∈ d.waits
theorem look_upd (l : List (Int × List UInt8)) (k j : Int) (b : List UInt8) : look (updI l k b) j = if j = k then b else look l j := by
  unfold look
  rw [lookI_upd]
  split <;> rfl
theorem lastW_cand : ∀ (ws : List (Int × List UInt8)) (b : List UInt8) (i : Int), lastW b i ws = b ∨ (i, lastW b i ws) ∈ ws
  | [], b, i => .inl rfl
  | x :: xs, b, i => by
    unfold lastW
    rcases lastW_cand xs (if x.1 = i then x.2 else b) i with h | h
    · rw [h]
      split
      · rename_i e
        exact .inr (by rw [← e]; exact List.mem_cons_self)
      · exact .inl rfl
    · exact .inr (List.mem_cons_of_mem _ h)
theorem get_choice (d : Dk) : Choice d d.get := fun i => lastW_cand d.waits (look d.l i) i
theorem lastW_snoc : ∀ (ws : List (Int × List UInt8)) (b : List UInt8) (i : Int) (x : Int × List UInt8), lastW b i (ws ++ [x]) = if x.1 = i then x.2 else lastW b i ws
  | [], b, i, x => rfl
  | y :: ys, b, i, x => by rw [List.cons_append, lastW, lastW_snoc]; rfl
theorem get_add {d d' : Dk} {i : Int} {b : List UInt8} (hl : d'.l = d.l) (hw : d'.waits = d.waits ++ [(i, b)]) (k : Int) : d'.get k = upd d.get i b k := by
  unfold Dk.get upd
  rw [hl, hw, lastW_snoc]
  by_cases h : k = i
  · rw [if_pos h, if_pos h.symm]
  · rw [if_neg h, if_neg (fun e => h e.symm)]
theorem look_sure : ∀ (ws l : List (Int × List UInt8)) (i : Int), look (sure l ws) i = lastW (look l i) i ws
  | [], l, i => rfl
  | x :: xs, l, i => by
    rw [sure, look_sure xs, look_upd, lastW]
    by_cases h : i = x.1
    · rw [if_pos h, if_pos h.symm]
    · rw [if_neg h, if_neg (fun e => h e.symm)]
theorem choice_none {d : Dk} (hw : d.waits = []) {c : Int → List UInt8} (h : Choice d c) : c = d.get := funext fun i => by
  rcases h i with h | h
  · rw [h]; unfold Dk.get; rw [hw]; rfl
  · rw [hw] at h; cases h
theorem get_flush {d d' : Dk} (hl : d'.l = sure d.l d.waits) (hw : d'.waits = []) : d'.get = d.get := funext fun i => by
  unfold Dk.get
  rw [hl, hw, look_sure]
  rfl
theorem choice_add {d d' : Dk} {i : Int} {b : List UInt8} {R : (Int → List UInt8) → Prop} (hl : d'.l = d.l) (hw : d'.waits = d.waits ++ [(i, b)]) (h1 : ∀ c, Choice d c → R c) (h2 : ∀ c, Choice d c → R (upd c i b)) : ∀ c, Choice d' c → R c := by
  intro c hc
  by_cases h : Choice d c
  · exact h1 c h
  · have hk : ∀ k, k ≠ i → c k = look d.l k ∨ (k, c k) ∈ d.waits := fun k hk => by
      rcases hc k with g | g
      · exact .inl (by rw [← hl]; exact g)
      · rw [hw] at g
        rcases List.mem_append.1 g with g | g
        · exact .inr g
        · simp only [List.mem_singleton, Prod.mk.injEq] at g
          exact absurd g.1 hk
    have hci : c i = b := by
      rcases hc i with g | g
      · exact absurd (fun k => by
          by_cases e : k = i
          · subst e; exact .inl (by rw [← hl]; exact g)
          · exact hk k e) h
      · rw [hw] at g
        rcases List.mem_append.1 g with g | g
        · exact absurd (fun k => by
            by_cases e : k = i
            · subst e; exact .inr g
            · exact hk k e) h
        · simp only [List.mem_singleton, Prod.mk.injEq] at g
          exact g.2
    have hu : Choice d (upd c i (look d.l i)) := fun k => by
      by_cases e : k = i
      · subst e; rw [upd_same]; exact .inl rfl
      · rw [upd_other e]; exact hk k e
    have := h2 _ hu
    have e : upd (upd c i (look d.l i)) i b = c := funext fun k => by
      by_cases e : k = i
      · subst e; rw [upd_same, hci]
      · rw [upd_other e, upd_other e]
    rw [e] at this
    exact this
theorem crashTo_cand (l ws : List (Int × List UInt8)) (pick : List UInt8) (i : Int) : ∀ k, look (crashTo l ws pick k) i = look l i ∨ (i, look (crashTo l ws pick k) i) ∈ ws
  | 0 => .inl rfl
  | k + 1 => by
    unfold crashTo
    split
    · split
      · rename_i x hx
        rw [look_upd]
        split
        · rename_i e
          exact .inr (by rw [e]; exact List.mem_of_getElem? hx)
        · exact crashTo_cand l ws pick i k
      · exact crashTo_cand l ws pick i k
    · exact crashTo_cand l ws pick i k
theorem crash_choice (d : Dk) (pick : List UInt8) : Choice d (d.crash pick).get := fun i => crashTo_cand d.l d.waits pick i _

/-- Nothing has turned but that the disk is down. -/
def Dk.same (d d' : Dk) : Prop := d'.n = d.n ∧ d'.l = d.l ∧ d'.waits = d.waits
theorem Dk.same.choice {d d' : Dk} (h : d.same d') (c : Int → List UInt8) : Choice d' c ↔ Choice d c := by
  unfold Choice
  rw [h.2.1, h.2.2]
theorem cnt_same (d : Dk) : d.same d.cnt := by
  unfold Dk.cnt
  split
  · exact ⟨rfl, rfl, rfl⟩
  · split <;> exact ⟨rfl, rfl, rfl⟩

/-- A disk that goes. -/
def Dk.up (d : Dk) : Prop := d.down = false
/-- How many steps more. -/
def Dk.fewer (d d' : Dk) : Prop := (d.left = -1 → d'.left = -1) ∧ (0 ≤ d.left → d'.left = d.left - 1)
theorem lay_cases {j : Jr} {d : Dk} {i : Int} {f : Fm} (he : j.e = 0) (hd : d.up) (hf : f.may) (hi : 0 ≤ i ∧ i < d.n) (hl : -1 ≤ d.left) :
    (d.left ≠ 0 ∧ (j.lay d i f).1 = j ∧ (j.lay d i f).2.up ∧ (j.lay d i f).2.n = d.n ∧ (j.lay d i f).2.l = d.l ∧ (j.lay d i f).2.waits = d.waits ++ [(i, f.bytes)] ∧ d.fewer (j.lay d i f).2) ∨
    (d.left = 0 ∧ (j.lay d i f).1 = { j with e := 20 } ∧ d.same (j.lay d i f).2) := by
  unfold Dk.up at hd
  have hu : d.upE i = 0 := by unfold Dk.upE; rw [hd, if_neg (by decide), if_pos hi]
  have hb : f.bytes.length = 128 := Fm.bytes_len hf
  unfold Jr.lay
  rw [if_pos he]
  dsimp only
  have hE : d.lE i f = d.cntE := by unfold Dk.lE Dk.wE; rw [if_pos hf, if_neg (by omega), if_neg (by omega)]
  have hD : d.lD i f = if d.left = 0 then d.cnt else { d.cnt with waits := d.waits ++ [(i, f.bytes)] } := by unfold Dk.lD Dk.wD; rw [if_pos hf, if_neg (by omega)]
  rw [hE, hD]
  unfold Dk.cntE
  by_cases h0 : d.left = 0
  · rw [if_pos h0, if_pos h0]
    exact .inr ⟨h0, rfl, cnt_same d⟩
  · rw [if_neg h0, if_neg h0]
    refine .inl ⟨h0, ?_, ?_, (cnt_same d).1, (cnt_same d).2.1, rfl, ?_⟩
    · cases j; dsimp only at he ⊢; rw [he]
    · show d.cnt.down = false
      unfold Dk.cnt
      rw [if_neg h0]
      split <;> exact hd
    · unfold Dk.fewer Dk.cnt
      rw [if_neg h0]
      constructor
      · intro h1
        rw [if_neg (by omega)]
        exact h1
      · intro h1
        rw [if_pos (by omega)]
theorem flush_cases {j : Jr} {d : Dk} (he : j.e = 0) (hd : d.up) (hn : 0 < d.n) (hl : -1 ≤ d.left) :
    (d.left ≠ 0 ∧ (j.flush d).1 = j ∧ (j.flush d).2.up ∧ (j.flush d).2.n = d.n ∧ (j.flush d).2.l = sure d.l d.waits ∧ (j.flush d).2.waits = [] ∧ d.fewer (j.flush d).2) ∨
    (d.left = 0 ∧ (j.flush d).1 = { j with e := 20 } ∧ d.same (j.flush d).2) := by
  unfold Dk.up at hd
  have hu : d.upE 0 = 0 := by unfold Dk.upE; rw [hd, if_neg (by decide), if_pos (by omega)]
  unfold Jr.flush
  rw [if_pos he]
  dsimp only
  have hE : d.fE = d.cntE := by unfold Dk.fE; rw [if_neg (by omega)]
  have hD : d.fD = if d.left = 0 then d.cnt else { d.cnt with l := sure d.l d.waits, waits := [] } := by unfold Dk.fD; rw [if_neg (by omega)]
  rw [hE, hD]
  unfold Dk.cntE
  by_cases h0 : d.left = 0
  · rw [if_pos h0, if_pos h0]
    exact .inr ⟨h0, rfl, cnt_same d⟩
  · rw [if_neg h0, if_neg h0]
    refine .inl ⟨h0, ?_, ?_, (cnt_same d).1, rfl, rfl, ?_⟩
    · cases j; dsimp only at he ⊢; rw [he]
    · show d.cnt.down = false
      unfold Dk.cnt
      rw [if_neg h0]
      split <;> exact hd
    · unfold Dk.fewer Dk.cnt
      rw [if_neg h0]
      constructor
      · intro h1
        rw [if_neg (by omega)]
        exact h1
      · intro h1
        rw [if_pos (by omega)]
theorem lay_dead {j : Jr} (he : j.e ≠ 0) (d : Dk) (i : Int) (f : Fm) : j.lay d i f = (j, d) := if_neg he
theorem flush_dead {j : Jr} (he : j.e ≠ 0) (d : Dk) : j.flush d = (j, d) := if_neg he
end Go.Proofs.Ytmohjmfcbhpldaa
