/- A thing is loaded; all are. -/
import Derived.Test.YtcfpnghkkkphhaaGreatVol
import Derived.Test.YtcfpnghkkkphhaaGreatSlotw
import Derived.Test.YtcfpnghkkkphhaaGreatInodep
namespace Go.Proofs.YtcfpnghkkkphhaaGreat
open Gk Go
set_option linter.unusedVariables false
set_option maxHeartbeats 4000000
set_option maxRecDepth 4000
set_option linter.unusedSimpArgs false
attribute [local irreducible] Int.decLt Int.decLe Int.decEq Int.instDecidableEq Gk.Rnds Gk.E Gk.G Gk.R Gk.RD Gk.RX Gk.RO Gk.Y Gk.Ent Gk.Sat Gk.Round Gk.After Gk.Cell Gk.Sl Gk.SlA Gk.CB Gk.OK Gk.FnC Gk.Bytes Gk.BytesL Gk.StrL Gk.Buf Gk.MapI
section
variable {M O0 O : List Nat} {w0 w : World} {L L' : List KT} {Φ : List Fact}
theorem tnAt (F : Fr M O0 w0 O w L Φ) {k p m : Nat} {t : Tx} (h : Sel L (k, Tn p m t) L' := by (repeat (first | exact Sel.here | apply Sel.there))) : TxnAt O w p m t := F.th _ h.mem
end
theorem TxnAt.get_big {O : List Nat} {w : World} {p m : Nat} {t : Tx} (h : TxnAt O w p m t) (i : Int) : (t.get i).length ≤ 2000000 := by
  unfold Tx.get
  split
  · exact Tx.now_big h.big h.bigp
  · exact Nat.zero_le _
/-- A thing's bytes, block by block. -/
def ldGo (t : Tx) : List Nat → Nat → List UInt8 → Option (List UInt8)
  | [], _, acc => some acc
  | k :: ks, left, acc => if k < t.was.length - 35 ∧ (t.get (35 + (k : Int))).length = (if left ≤ 96 then left else 96) then ldGo t ks (left - (t.get (35 + (k : Int))).length) (acc ++ t.get (35 + (k : Int))) else none
def Slt.zero : Slt := ⟨0, 0, 0, 0, 0, 0, 0, 0, []⟩
def Slt.of (i : Nat) (n : Ino) (b : List UInt8) : Slt := ⟨i, n.kind, n.gen, n.links, n.mode, n.change, n.cookie, n.verf, b⟩
/-- What is known of a thing. -/
def Tx.ino (t : Tx) (i : Nat) : Ino × Nat := inoGet (t.get (11 + (i : Int)))
def volLd (t : Tx) (i : Nat) : Slt × Nat :=
  if (t.ino i).2 = 0 then (match ldGo t (t.ino i).1.blocks (t.ino i).1.size [] with
    | none => (.zero, 11)
    | some b => if (Slt.of i (t.ino i).1 b).ok then (Slt.of i (t.ino i).1 b, 0) else (.zero, 11)) else (.zero, (t.ino i).2)
def volLoad (t : Tx) (ino : Int) : Slt × Nat := if t.right then (if ino < 0 ∨ 24 ≤ ino then (.zero, 15) else volLd t ino.toNat) else (.zero, 1)
theorem vload_c {p m : Nat} {t : Tx} {ino : Int} (h : True) : Con Tryz.prog 15 [tptr p, .int .i64 ino] [] [Tn p m t] [] fun r T Φ => ∃ v, r = .tuple #[sltV (volLoad t ino).1 v, errT (volLoad t ino).2] ∧ T = [] ∧ Φ = [Fact.bytes v (volLoad t ino).1.data] := by
  refine con_of (fun O0 w0 F => ?_)
  refine tidy F (fun F => ?_)
  refine fn_of _ Tryz.func15 rfl (by kernel_rfl) Tryz.ntmps15 rfl ?_
  have hbig := (tnAt (t := t) F).get_big
  have F := F.fact (f := Fact.bytes (.slice none 0 0) []) Bytes.nil
  refine go_on ?_
  (first | refine f_alloc1 F rfl (fun q4 w F => ?_) | refine f_allocN F rfl (fun q4 w F => ?_)); refine go_on ?_
  refine go_on ?_
  refine f_call F rfl rfl (vright_c (t := t)) ?_ (hp := trivial)
  clear F; rintro r O w T Φ ⟨rfl, rfl, rfl⟩ F0
  refine tidy F0 (fun F => ?_); clear F0
  by_cases hr : t.right
  · rw [decide_eq_true hr]
    have hr1 : 35 < t.was.length := hr.1
    have hr2 : t.was.length ≤ 803 := hr.2
    by_cases hi : ino < 0 ∨ 24 ≤ ino
    · have e : volLoad t ino = (.zero, 15) := by unfold volLoad; rw [if_pos hr, if_pos hi]
      rw [e]
      rcases hi with hi | hi
      · refine go_on ?_
        refine f_storeAll F rfl rfl rfl (fun w F => ?_); refine go_on ?_
        refine go_on ?_
        refine go_back ?_
        exact F.fin ⟨_, rfl, rfl, rfl⟩
      · refine go_on ?_
        refine f_storeAll F rfl rfl rfl (fun w F => ?_); refine go_on ?_
        refine go_on ?_
        refine go_back ?_
        exact F.fin ⟨_, rfl, rfl, rfl⟩
    · obtain ⟨i, rfl⟩ : ∃ i : Nat, ino = i := ⟨ino.toNat, by omega⟩
      have e : volLoad t i = volLd t i := by unfold volLoad; rw [if_pos hr, if_neg hi]; rfl
      rw [e]
      refine go_on ?_
      refine f_call F rfl rfl (txnGet_c (t := t)) ?_ (hp := trivial)
      clear F; rintro r O w T Φ ⟨rfl, rfl⟩ F0
      refine tidy F0 (fun F => ?_); clear F0
      refine go_on ?_
      refine f_call F rfl rfl inoGet_c ?_ (hp := (Nat.le_trans (hbig _) (by decide)))
      clear F; rintro r O w T Φ ⟨bv, rfl, rfl, rfl⟩ F0
      refine tidy F0 (fun F => ?_); clear F0
      have hf := inoGet_fit (t.get (11 + (i : Int)))
      change (t.ino i).1.fit at hf
      obtain ⟨n, en, hn⟩ : ∃ n en, t.ino i = (n, en) := ⟨_, _, rfl⟩
      have hn' : inoGet (t.get (11 + (i : Int))) = (n, en) := hn
      rw [hn'] at F
      rw [hn']
      rw [hn] at hf
      dsimp only at F hf ⊢
      obtain ⟨ba, bc, rfl, _⟩ := (F.sl (cs := n.blocks.map u32V)).form
      refine go_on ?_
      (first | refine f_alloc1 F rfl (fun q6 w F => ?_) | refine f_allocN F rfl (fun q6 w F => ?_)); refine go_on ?_
      refine f_storeAll F rfl rfl rfl (fun w F => ?_); refine go_on ?_
      refine go_on ?_
      by_cases g1 : en = 0
      · subst g1
        have F := F
        refine go_on ?_
        have F := F.nilbuf 1
        have hsz : n.size < 4294967296 := hf.2.2.2.2.1
        have hblk : ∀ x, x ∈ n.blocks → x < 4294967296 := hf.2.2.2.2.2.2.2.2.1
        have hbl : n.blocks.length ≤ 1000000 := hf.2.2.2.2.2.2.2.2.2
        have hld : volLd t i = (match ldGo t n.blocks n.size [] with
          | none => (.zero, 11)
          | some b => if (Slt.of i n b).ok then (Slt.of i n b, 0) else (.zero, 11)) := by unfold volLd; rw [hn]; exact if_pos rfl
        rw [hld]
        clear hld e
        refine go_on ?_
        refine g_loop (X := Nat × Nat × List UInt8 × Value) (fun y => [(0, tptr p), (1, .int .i64 i), (4, bptr q4), (6, bptr q6), (8, y.2.2.2), (9, .int .i64 y.2.1), (43, .slice ba n.blocks.length bc), (44, .int .i64 n.blocks.length), (45, .int .i64 y.1)])
          (fun y wr => ∃ O, Fr [] O0 w0 O wr [(2, Thing.buf 1 y.2.2.2 y.2.2.1.length (bytesV y.2.2.1)), (2, Thing.cells q6 [.int .u32 n.kind, .int .u32 n.gen, .int .u32 n.links, .int .u32 n.mode, .int .u32 n.size, .int .u64 n.change, .int .u64 n.cookie, .int .u64 n.verf, .slice ba n.blocks.length bc]), (2, Thing.cells q4 [.int .u32 0, .int .u32 0, .int .u32 0, .int .u32 0, .int .u32 0, .int .u64 0, .int .u64 0, .int .u64 0, .slice none 0 0]), (0, Tn p m t)] [Fact.u32s (.slice ba n.blocks.length bc) n.blocks, Fact.bytes (.slice none 0 0) []] ∧ y.1 ≤ n.blocks.length ∧ ldGo t n.blocks n.size [] = ldGo t (n.blocks.drop y.1) y.2.1 y.2.2.1 ∧ y.2.2.1.length + y.2.1 = n.size) (fun y => n.blocks.length - y.1)
          (0, n.size, [], .slice none 0 0) (sub_cons rfl rfl (sub_cons rfl rfl (sub_cons rfl rfl (sub_cons rfl rfl (sub_cons rfl rfl (sub_cons rfl rfl (sub_cons rfl rfl (sub_cons rfl rfl (sub_cons rfl rfl (sub_nil)))))))))) ⟨_, F.wk, Nat.zero_le _, rfl, by simp⟩ ?_
        clear F
        rintro ⟨j, left, acc, v⟩ w ⟨O, F, hj, hgo, hlen⟩
        dsimp only at F hj hgo hlen ⊢
        obtain ⟨va, vc, rfl, _⟩ := (F.bufAt (v := v)).form
        refine go_on ?_
        refine g_dec rfl (fun g => ?_) (fun g => ?_)
        · have hj' : j < n.blocks.length := by omega
          obtain ⟨k, hk⟩ : ∃ k, n.blocks[j] = k := ⟨_, rfl⟩
          have hkl : k < 4294967296 := hk ▸ hblk _ (List.getElem_mem hj')
          have hd : n.blocks.drop j = k :: n.blocks.drop (j + 1) := by rw [List.drop_eq_getElem_cons hj', hk]
          rw [hd, ldGo] at hgo
          refine go_on ?_
          obtain ⟨x, hx9, hc⟩ := ((F.sl (cs := n.blocks.map u32V))).atm hj'
          (first | subst hx9 | (injection hx9 with hx9; subst hx9))
          have F := F.fact (f := Fact.cell _ _) hc
          refine go_on ?_
          rw [hk]
          refine go_on ?_
          refine f_call F rfl rfl (txnGet_c (t := t)) ?_ (hp := trivial)
          clear F; rintro r O w T Φ ⟨rfl, rfl⟩ F0
          refine tidy F0 (fun F => ?_); clear F0
          obtain ⟨x, hx⟩ : ∃ x, t.get (35 + (k : Int)) = x := ⟨_, rfl⟩
          have hxl := hbig (35 + (k : Int))
          rw [hx] at F hgo hxl
          obtain ⟨ra, rc, rfl, _⟩ := (F.bytes (xs := x)).form
          refine go_on ?_
          refine f_call F rfl rfl (txnLen_c (t := t)) ?_ (hp := trivial)
          clear F; rintro r O w T Φ ⟨rfl, rfl, rfl⟩ F0
          refine tidy F0 (fun F => ?_); clear F0
          refine go_on ?_
          rw [show ((t.was.length : Int) - 35) = ((t.was.length - 35 : Nat) : Int) from by have := hr.1; omega]
          refine go_on ?_
          by_cases h1 : k < t.was.length - 35
          · refine go_on ?_
            refine r_y (y_min2 rfl rfl) rfl ?_
            rw [show (if (96 : Int) < (left : Int) then (96 : Int) else (left : Int)) = ((if left ≤ 96 then left else 96 : Nat) : Int) from by split <;> split <;> omega]
            refine go_on ?_
            by_cases h2 : x.length = (if left ≤ 96 then left else 96)
            · rw [if_pos ⟨h1, h2⟩] at hgo
              have hxle : x.length ≤ left := by rw [h2]; split <;> omega
              rw [← h2]
              refine go_on ?_
              refine f_append F rfl rfl rfl (src_bytes (F.bytes (v := .slice ra x.length rc) (xs := x))) (fun r w O F => ?_)
              refine go_on ?_
              rw [show ((left : Int) - (x.length : Int)) = ((left - x.length : Nat) : Int) from by omega]
              refine go_on ?_
              rw [show bytesV acc ++ bytesV x = bytesV (acc ++ x) from (List.map_append ..).symm, ← List.length_append] at F
              exact e_round (j + 1, left - x.length, acc ++ x, r) (sub_cons rfl rfl (sub_cons rfl rfl (sub_cons rfl rfl (sub_cons rfl rfl (sub_cons rfl rfl (sub_cons rfl rfl (sub_cons rfl rfl (sub_cons rfl rfl (sub_cons rfl rfl (sub_nil)))))))))) ⟨_, F.wk, by simp only; omega, hgo, by simp only [List.length_append]; omega⟩ (by simp only; omega)
            · rw [if_neg (fun h => h2 h.2)] at hgo
              rw [hgo]
              refine go_on ?_
              refine f_storeAll F rfl rfl rfl (fun w F => ?_); refine go_on ?_
              refine go_on ?_
              refine go_back ?_
              exact F.fin ⟨_, rfl, rfl, rfl⟩
          · rw [if_neg (fun h => h1 h.1)] at hgo
            rw [hgo]
            refine go_on ?_
            refine f_storeAll F rfl rfl rfl (fun w F => ?_); refine go_on ?_
            refine go_on ?_
            refine go_back ?_
            exact F.fin ⟨_, rfl, rfl, rfl⟩
        · have hj' : j = n.blocks.length := by omega
          subst hj'
          rw [List.drop_length, ldGo] at hgo
          rw [hgo]
          dsimp only
          obtain ⟨O, F⟩ := F.frzB
          refine go_on ?_
          (first | refine f_alloc1 F rfl (fun q13 w F => ?_) | refine f_allocN F rfl (fun q13 w F => ?_)); refine go_on ?_
          refine f_storeAll F rfl rfl rfl (fun w F => ?_); refine go_on ?_
          refine go_on ?_
          refine f_call F rfl rfl (scheck_c (s := Slt.of i n acc) (v := .slice va acc.length vc)) ?_ (hp := trivial)
          clear F; rintro r O w T Φ ⟨rfl, rfl, rfl⟩ F0
          refine tidy F0 (fun F => ?_); clear F0
          by_cases g2 : (Slt.of i n acc).ok
          · rw [if_pos g2, if_pos g2]
            refine go_on ?_
            refine f_storeAll F rfl rfl rfl (fun w F => ?_); refine go_on ?_
            refine go_on ?_
            refine go_back ?_
            exact F.fin ⟨_, rfl, rfl, rfl⟩
          · rw [if_neg g2, if_neg g2]
            refine go_on ?_
            refine f_storeAll F rfl rfl rfl (fun w F => ?_); refine go_on ?_
            refine go_on ?_
            refine go_back ?_
            exact F.fin ⟨_, rfl, rfl, rfl⟩
      · have e : volLd t i = (.zero, en) := by unfold volLd; rw [hn]; exact if_neg g1
        rw [e]
        refine go_on ?_
        refine f_storeAll F rfl rfl rfl (fun w F => ?_); refine go_on ?_
        refine go_on ?_
        refine go_back ?_
        exact F.fin ⟨_, rfl, rfl, rfl⟩
  · have e : volLoad t ino = (.zero, 1) := by unfold volLoad; rw [if_neg hr]
    rw [e, decide_eq_false hr]
    refine go_on ?_
    refine f_storeAll F rfl rfl rfl (fun w F => ?_); refine go_on ?_
    refine go_on ?_
    refine go_back ?_
    exact F.fin ⟨_, rfl, rfl, rfl⟩
end Go.Proofs.YtcfpnghkkkphhaaGreat
