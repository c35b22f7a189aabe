/- How many blocks are free, how many changes there were, and who has which block. -/
import Derived.Test.YtcfpnghkkkphhaaGreatVall
namespace Go.Proofs.YtcfpnghkkkphhaaGreat
open Gk Go
set_option linter.unusedVariables false
set_option maxHeartbeats 4000000
set_option maxRecDepth 4000
set_option linter.unusedSimpArgs false
attribute [local irreducible] Int.decLt Int.decLe Int.decEq Int.instDecidableEq Gk.Rnds Gk.E Gk.G Gk.R Gk.RD Gk.RX Gk.RO Gk.Y Gk.Ent Gk.Sat Gk.Round Gk.After Gk.Cell Gk.Sl Gk.SlA Gk.CB Gk.OK Gk.FnC Gk.Bytes Gk.BytesL Gk.StrL Gk.Buf Gk.MapI
def volFree (t : Tx) : Int := if t.right then ((t.was.length - 35 : Nat) : Int) - (cntB (t.get 9) (t.was.length - 35) : Nat) else 0
theorem vfree_c {p m : Nat} {t : Tx} (h : True) : Con Tryz.prog 13 [tptr p] [] [Tn p m t] [] fun r T Φ => r = .int .i64 (volFree t) ∧ T = [] ∧ Φ = [] := by
  refine con_of (fun O0 w0 F => ?_)
  refine tidy F (fun F => ?_)
  refine fn_of _ Tryz.func13 rfl (by kernel_rfl) Tryz.ntmps13 rfl ?_
  have hbig := (tnAt (t := t) F).get_big
  refine go_on ?_
  refine f_call F rfl rfl (vright_c (t := t)) ?_ (hp := trivial)
  clear F; rintro r O w T Φ ⟨rfl, rfl, rfl⟩ F0
  refine tidy F0 (fun F => ?_); clear F0
  by_cases hr : t.right
  · have hr1 : 35 < t.was.length := hr.1
    have hr2 : t.was.length ≤ 803 := hr.2
    rw [decide_eq_true hr, show volFree t = ((t.was.length - 35 : Nat) : Int) - (cntB (t.get 9) (t.was.length - 35) : Nat) from if_pos hr]
    refine go_on ?_
    refine f_call F rfl rfl (txnLen_c (t := t)) ?_ (hp := trivial)
    clear F; rintro r O w T Φ ⟨rfl, rfl, rfl⟩ F0
    refine tidy F0 (fun F => ?_); clear F0
    refine go_on ?_
    rw [show ((t.was.length : Int) - 35) = ((t.was.length - 35 : Nat) : Int) from by omega]
    refine go_on ?_
    refine f_call F rfl rfl (txnGet_c (t := t)) ?_ (hp := trivial)
    clear F; rintro r O w T Φ ⟨rfl, rfl⟩ F0
    refine tidy F0 (fun F => ?_); clear F0
    refine go_on ?_
    refine f_call F rfl rfl (bcount_c (b := t.get 9)) ?_ (hp := ⟨by omega, Nat.le_trans (hbig 9) (by decide)⟩)
    clear F; rintro r O w T Φ ⟨rfl, rfl, rfl⟩ F0
    refine tidy F0 (fun F => ?_); clear F0
    have hc := cntB_le (t.get 9) (t.was.length - 35)
    refine go_on ?_
    refine go_back ?_
    exact F.fin ⟨rfl, rfl, rfl⟩
  · rw [decide_eq_false hr, show volFree t = 0 from if_neg hr]
    refine go_on ?_
    refine go_back ?_
    exact F.fin ⟨rfl, rfl, rfl⟩
def volChg (b : List UInt8) : Nat × Nat := if b = [] then (0, 0) else if endE (rdN b 0 8).2.1 (rdN b 0 8).2.2 = 0 ∧ (rdN b 0 8).1 ≠ 0 then ((rdN b 0 8).1, 0) else (0, 11)
def volChange (t : Tx) : Nat × Nat := if t.right then volChg (t.get 10) else (0, 1)
theorem vchange_c {p m : Nat} {t : Tx} (h : True) : Con Tryz.prog 12 [tptr p] [] [Tn p m t] [] fun r T Φ => r = .tuple #[.int .u64 (volChange t).1, errT (volChange t).2] ∧ T = [] ∧ Φ = [] := by
  refine con_of (fun O0 w0 F => ?_)
  refine tidy F (fun F => ?_)
  refine fn_of _ Tryz.func12 rfl (by kernel_rfl) Tryz.ntmps12 rfl ?_
  have hbig := (tnAt (t := t) F).get_big
  refine go_on ?_
  refine f_call F rfl rfl (vright_c (t := t)) ?_ (hp := trivial)
  clear F; rintro r O w T Φ ⟨rfl, rfl, rfl⟩ F0
  refine tidy F0 (fun F => ?_); clear F0
  by_cases hr : t.right
  · rw [decide_eq_true hr, show volChange t = volChg (t.get 10) from if_pos hr]
    refine go_on ?_
    refine f_call F rfl rfl (txnGet_c (t := t)) ?_ (hp := trivial)
    clear F; rintro r O w T Φ ⟨rfl, rfl⟩ F0
    refine tidy F0 (fun F => ?_); clear F0
    have hb := hbig 10
    obtain ⟨b, hb'⟩ : ∃ b, t.get 10 = b := ⟨_, rfl⟩
    rw [hb'] at F hb
    rw [hb']
    obtain ⟨a, c, rfl, _⟩ := (F.bytes (xs := b)).form
    by_cases h0 : b = []
    · rw [show volChg b = (0, 0) from if_pos h0]
      subst h0
      refine go_on ?_
      refine go_back ?_
      exact F.fin ⟨rfl, rfl, rfl⟩
    · have hbl : b.length ≠ 0 := fun h => h0 (List.length_eq_zero_iff.1 h)
      obtain ⟨x, b1, e1, r1⟩ : ∃ x b' e', rdN b 0 8 = (x, b', e') := ⟨_, _, _, rfl⟩
      have e : volChg b = if endE b1 e1 = 0 ∧ x ≠ 0 then (x, 0) else (0, 11) := by unfold volChg; rw [if_neg h0, r1]
      rw [e]
      refine go_on ?_
      refine f_call F rfl rfl (newReader_c (bs := b)) ?_ (hp := (by omega))
      clear F; rintro r O w T Φ ⟨q, rfl, rfl, rfl⟩ F0
      refine tidy F0 (fun F => ?_); clear F0
      refine go_on ?_
      refine f_call F rfl rfl ru64_g ?_
      clear F; rintro r O w T Φ ⟨rfl, rfl, rfl⟩ F0
      refine tidy F0 (fun F => ?_); clear F0
      refine go_on ?_
      refine f_call F rfl rfl end_c ?_
      clear F; rintro r O w T Φ ⟨rfl, rfl, rfl⟩ F0
      refine tidy F0 (fun F => ?_); clear F0
      refine go_on ?_
      by_cases g1 : endE b1 e1 = 0
      · by_cases g2 : x = 0
        · rw [if_neg (fun k => k.2 g2)]
          refine go_on ?_
          refine go_back ?_
          exact F.fin ⟨rfl, rfl, rfl⟩
        · rw [if_pos ⟨g1, g2⟩]
          refine go_on ?_
          refine go_back ?_
          exact F.fin ⟨rfl, rfl, rfl⟩
      · rw [if_neg (fun k => g1 k.1)]
        refine go_on ?_
        refine go_back ?_
        exact F.fin ⟨rfl, rfl, rfl⟩
  · rw [decide_eq_false hr, show volChange t = (0, 1) from if_neg hr]
    refine go_on ?_
    refine go_back ?_
    exact F.fin ⟨rfl, rfl, rfl⟩
def metaB (x : Nat) : List UInt8 := if x = 0 then [] else be 8 x
theorem metaB_len (x : Nat) : (metaB x).length ≤ 8 := by unfold metaB; split <;> simp [be_length]
theorem vsetchange_c {p m x : Nat} {t : Tx} (h : x < 18446744073709551616) : Con Tryz.prog 11 [tptr p, .int .u64 x] [Tn p m t] [] [] fun r T Φ => r = errT (if t.right then 0 else 1) ∧ T = [Tn p m (if t.right then t.put1 10 (metaB x) else t)] ∧ Φ = [] := by
  refine con_of (fun O0 w0 F => ?_)
  refine tidy F (fun F => ?_)
  refine fn_of _ Tryz.func11 rfl (by kernel_rfl) Tryz.ntmps11 rfl ?_
  have F := F.fact (f := Fact.bytes (.slice none 0 0) []) Bytes.nil
  refine go_on ?_
  refine f_call F rfl rfl (vright_c (t := t)) ?_ (hp := trivial)
  clear F; rintro r O w T Φ ⟨rfl, rfl, rfl⟩ F0
  refine tidy F0 (fun F => ?_); clear F0
  by_cases hr : t.right
  · have hr1 : 35 < t.was.length := hr.1
    have hp : ∀ xs : List UInt8, xs.length ≤ 96 → t.putE 10 xs = 0 := fun xs hx => by unfold Tx.putE; rw [if_pos (by omega), if_neg (by omega)]
    rw [decide_eq_true hr, if_pos hr, if_pos hr]
    by_cases g : x = 0
    · rw [show metaB x = [] from if_pos g]
      refine go_on ?_
      refine f_call F rfl rfl (txnPut_c (t := t) (xs := [])) ?_ (hp := trivial)
      clear F; rintro r O w T Φ ⟨rfl, rfl, rfl⟩ F0
      refine tidy F0 (fun F => ?_); clear F0
      rw [hp [] (by decide)]
      refine go_on ?_
      refine go_back ?_
      exact F.fin ⟨rfl, rfl, rfl⟩
    · rw [show metaB x = be 8 x from if_neg g]
      refine go_on ?_
      refine f_call F rfl rfl newWriter_c ?_
      clear F; rintro r O w T Φ ⟨q, rfl, rfl, rfl⟩ F0
      refine tidy F0 (fun F => ?_); clear F0
      refine go_on ?_
      refine f_call F rfl rfl (u64_c (bs := [])) ?_ (hp := ⟨h, by decide⟩)
      clear F; rintro r O w T Φ ⟨v2, rfl, rfl, rfl⟩ F0
      refine tidy F0 (fun F => ?_); clear F0
      refine go_on ?_
      refine f_call F rfl rfl (out_c (bs := be 8 x)) ?_ (hp := (by rw [be_length]; decide))
      clear F; rintro r O w T Φ ⟨rfl, rfl⟩ F0
      refine tidy F0 (fun F => ?_); clear F0
      refine go_on ?_
      refine f_call F rfl rfl (txnPut_c (t := t) (xs := be 8 x)) ?_ (hp := trivial)
      clear F; rintro r O w T Φ ⟨rfl, rfl, rfl⟩ F0
      refine tidy F0 (fun F => ?_); clear F0
      rw [hp (be 8 x) (by rw [be_length]; decide)]
      refine go_on ?_
      refine go_back ?_
      exact F.fin ⟨rfl, rfl, rfl⟩
  · rw [decide_eq_false hr, if_neg hr, if_neg hr]
    refine go_on ?_
    refine go_back ?_
    exact F.fin ⟨rfl, rfl, rfl⟩
def ownStep (l : List Nat) (k : Nat) : List Nat := if k < l.length then l.set k (l.getD k 0 + 1) else l
theorem ownStep_len (l : List Nat) (k : Nat) : (ownStep l k).length = l.length := by unfold ownStep; split <;> simp
/-- How many things have each block: those of the first things. -/
def Tx.own (t : Tx) : Nat → List Nat
  | 0 => List.replicate (t.was.length - 35) 0
  | i + 1 => (t.ino i).1.blocks.foldl ownStep (t.own i)
theorem foldOwn_len : ∀ (bs : List Nat) (l : List Nat), (bs.foldl ownStep l).length = l.length
  | [], l => rfl
  | b :: bs, l => by rw [List.foldl_cons, foldOwn_len bs, ownStep_len]
theorem Tx.own_len (t : Tx) : ∀ i, (t.own i).length = t.was.length - 35
  | 0 => by simp [Tx.own]
  | i + 1 => by rw [Tx.own, foldOwn_len, Tx.own_len t i]
theorem ownStep_le {l : List Nat} {k B : Nat} (h : ∀ x, x ∈ l → x ≤ B) : ∀ x, x ∈ ownStep l k → x ≤ B + 1 := by
  intro x hx
  unfold ownStep at hx
  split at hx
  · rename_i hk
    rcases List.mem_or_eq_of_mem_set hx with h1 | h1
    · have := h x h1; omega
    · have : l.getD k 0 ≤ B := by rw [List.getD_eq_getElem?_getD, List.getElem?_eq_getElem hk]; exact h _ (List.getElem_mem hk)
      omega
  · have := h x hx; omega
theorem vowned_c {p m : Nat} {t : Tx} (h : t.right) : Con Tryz.prog 34 [tptr p] [] [Tn p m t] [] fun r T Φ => T = [] ∧ Φ = [Fact.sl r (t.own 24).length ((t.own 24).map iV)] := by
  have hr1 : 35 < t.was.length := h.1
  have hr2 : t.was.length ≤ 803 := h.2
  refine con_of (fun O0 w0 F => ?_)
  refine tidy F (fun F => ?_)
  refine fn_of _ Tryz.func34 rfl (by kernel_rfl) Tryz.ntmps34 rfl ?_
  have hbig := (tnAt (t := t) F).get_big
  refine go_on ?_
  refine f_call F rfl rfl (txnLen_c (t := t)) ?_ (hp := trivial)
  clear F; rintro r O w T Φ ⟨rfl, rfl, rfl⟩ F0
  refine tidy F0 (fun F => ?_); clear F0
  obtain ⟨N, hN⟩ : ∃ N, t.was.length - 35 = N := ⟨_, rfl⟩
  refine go_on ?_
  rw [show ((t.was.length : Int) - 35) = ((N : Nat) : Int) from by omega]
  refine f_make F rfl rfl rfl (fun q w F => ?_)
  refine go_on ?_
  refine g_loop (X := Nat) (fun y => [(0, tptr p), (3, .slice (some ⟨q, 0, none⟩) N N), (13, .int .i64 y)])
    (fun y wr => ∃ O, Fr [] O0 w0 O wr [(2, Thing.cells q ((t.own y).map iV)), (0, Tn p m t)] [] ∧ y ≤ 24 ∧ (∀ x, x ∈ t.own y → x ≤ y * 1000000)) (fun y => 24 - y)
    0 (sub_cons rfl rfl (sub_cons rfl rfl (sub_cons rfl rfl (sub_nil)))) ⟨_, by rw [Tx.own, List.map_replicate, hN]; exact F.wk, Nat.zero_le _, fun x hx => by rw [Tx.own] at hx; rw [(List.mem_replicate.1 hx).2]; exact Nat.zero_le _⟩ ?_
  clear F
  rintro i w ⟨O, F, hi, hle⟩
  refine go_on ?_
  refine g_dec rfl (fun g => ?_) (fun g => ?_)
  · have hi' : i < 24 := by omega
    refine go_on ?_
    refine f_call F rfl rfl (txnGet_c (t := t)) ?_ (hp := trivial)
    clear F; rintro r O w T Φ ⟨rfl, rfl⟩ F0
    refine tidy F0 (fun F => ?_); clear F0
    refine go_on ?_
    refine f_call F rfl rfl inoGet_c ?_ (hp := (Nat.le_trans (hbig _) (by decide)))
    clear F; rintro r O w T Φ ⟨bv, rfl, rfl, rfl⟩ F0
    refine tidy F0 (fun F => ?_); clear F0
    have hf := inoGet_fit (t.get (11 + (i : Int)))
    change (t.ino i).1.fit at hf
    obtain ⟨n, en, hn⟩ : ∃ n en, t.ino i = (n, en) := ⟨_, _, rfl⟩
    have hn' : inoGet (t.get (11 + (i : Int))) = (n, en) := hn
    have ho : t.own (i + 1) = n.blocks.foldl ownStep (t.own i) := by rw [Tx.own, hn]
    rw [hn'] at F
    rw [hn']
    rw [hn] at hf
    dsimp only at F hf ⊢
    have hblk : ∀ x, x ∈ n.blocks → x < 4294967296 := hf.2.2.2.2.2.2.2.2.1
    have hbl : n.blocks.length ≤ 1000000 := hf.2.2.2.2.2.2.2.2.2
    have hol := t.own_len i
    generalize t.own i = l0 at F hle hol ho
    clear hn hn' hf
    obtain ⟨ba, bc, rfl, _⟩ := (F.sl (cs := n.blocks.map u32V)).form
    refine go_on ?_
    (first | refine f_alloc1 F rfl (fun q5 w F => ?_) | refine f_allocN F rfl (fun q5 w F => ?_)); refine go_on ?_
    refine f_storeAll F rfl rfl rfl (fun w F => ?_); refine go_on ?_
    refine go_on ?_
    refine g_loop (X := Nat × List Nat) (fun y => [(0, tptr p), (3, .slice (some ⟨q, 0, none⟩) N N), (13, .int .i64 i), (25, .slice ba n.blocks.length bc), (26, .int .i64 n.blocks.length), (27, .int .i64 y.1)])
      (fun y wr => ∃ O, Fr [] O0 w0 O wr [(2, Thing.cells q (y.2.map iV)), (0, Tn p m t)] [Fact.u32s (.slice ba n.blocks.length bc) n.blocks] ∧ y.1 ≤ n.blocks.length ∧ y.2 = (n.blocks.take y.1).foldl ownStep l0 ∧ (∀ x, x ∈ y.2 → x ≤ i * 1000000 + y.1)) (fun y => n.blocks.length - y.1)
      (0, l0) (sub_cons rfl rfl (sub_cons rfl rfl (sub_cons rfl rfl (sub_cons rfl rfl (sub_cons rfl rfl (sub_cons rfl rfl (sub_nil))))))) ⟨_, F.wk, Nat.zero_le _, rfl, fun x hx => Nat.le_trans (hle x hx) (Nat.le_add_right _ _)⟩ ?_
    clear F
    rintro ⟨j, l⟩ w ⟨O, F, hj, hl, hle2⟩
    dsimp only at F hj hl hle2 ⊢
    refine go_on ?_
    refine g_dec rfl (fun g => ?_) (fun g => ?_)
    · have hj' : j < n.blocks.length := by omega
      obtain ⟨k, hk⟩ : ∃ k, n.blocks[j] = k := ⟨_, rfl⟩
      have hkl : k < 4294967296 := hk ▸ hblk _ (List.getElem_mem hj')
      have hll : l.length = N := by rw [hl, foldOwn_len]; omega
      have hnx : ownStep l k = (n.blocks.take (j + 1)).foldl ownStep l0 := by rw [List.take_succ_eq_append_getElem hj', List.foldl_append, ← hl, hk]; rfl
      have hle3 := ownStep_le (k := k) hle2
      refine go_on ?_
      obtain ⟨x, hx9, hc⟩ := ((F.sl (cs := n.blocks.map u32V))).atm hj'
      (first | subst hx9 | (injection hx9 with hx9; subst hx9))
      have F := F.fact (f := Fact.cell _ _) hc
      refine go_on ?_
      rw [hk]
      refine go_on ?_
      by_cases hkN : k < N
      · have hs : ownStep l k = l.set k (l.getD k 0 + 1) := if_pos (by omega)
        have hc : (l.map iV)[k]? = some (.int .i64 (l.getD k 0 : Nat)) := by
          rw [List.getElem?_map, List.getElem?_eq_getElem (by omega), List.getD_eq_getElem?_getD, List.getElem?_eq_getElem (by omega)]; rfl
        have hxb : l.getD k 0 ≤ i * 1000000 + j := by
          rw [List.getD_eq_getElem?_getD, List.getElem?_eq_getElem (by omega)]; exact hle2 _ (List.getElem_mem _)
        generalize l.getD k 0 = c at hs hc hxb
        rw [hs] at hnx hle3
        clear hl hs
        refine go_on ?_
        refine r_y (y_loadF rfl F Sel.here hc) rfl ?_
        refine go_on ?_
        refine f_store1 (cs := l.map iV) (i := k) F rfl rfl rfl (fun w F => ?_) (hc := .any) (hi := by rw [List.length_map]; omega)
        have es : (l.map iV).set k (.int .i64 ((c : Int) + 1)) = (l.set k (c + 1)).map iV := by rw [List.map_set]; rfl
        have F : Fr _ _ _ _ _ ((2, Thing.cells q ((l.map iV).set k (.int .i64 ((c : Int) + 1)))) :: _) _ := F
        rw [es] at F
        refine go_on ?_
        exact e_round (j + 1, l.set k (c + 1)) (sub_cons rfl rfl (sub_cons rfl rfl (sub_cons rfl rfl (sub_cons rfl rfl (sub_cons rfl rfl (sub_cons rfl rfl (sub_nil))))))) ⟨_, F.wk, by simp only; omega, hnx, fun x hx => Nat.le_trans (hle3 x hx) (Nat.le_of_eq (Nat.add_assoc _ _ _))⟩ (by simp only; omega)
      · have hs : ownStep l k = l := if_neg (by omega)
        rw [hs] at hnx hle3
        clear hl hs
        refine go_on ?_
        exact e_round (j + 1, l) (sub_cons rfl rfl (sub_cons rfl rfl (sub_cons rfl rfl (sub_cons rfl rfl (sub_cons rfl rfl (sub_cons rfl rfl (sub_nil))))))) ⟨_, F.wk, by simp only; omega, hnx, fun x hx => Nat.le_trans (hle3 x hx) (Nat.le_of_eq (Nat.add_assoc _ _ _))⟩ (by simp only; omega)
    · obtain rfl : j = n.blocks.length := by omega
      rw [List.take_length, ← ho] at hl
      subst hl
      refine go_on ?_
      exact e_round (i + 1) (sub_cons rfl rfl (sub_cons rfl rfl (sub_cons rfl rfl (sub_nil)))) ⟨_, F.wk, by omega, fun x hx => by have := hle2 x hx; omega⟩ (by omega)
  · obtain rfl : i = 24 := by omega
    have hol := t.own_len 24
    generalize t.own 24 = l at F hol
    obtain rfl : N = l.length := by omega
    obtain ⟨O, F⟩ := F.frzSl (n := l.length) (Nat.le_refl _)
    refine go_on ?_
    refine go_back ?_
    exact F.fin ⟨rfl, rfl⟩
end Go.Proofs.YtcfpnghkkkphhaaGreat
