/- The frame of a sector's bytes. -/
import Derived.Test.YtmohjmfcbhpldaaFrame
namespace Go.Proofs.Ytmohjmfcbhpldaa
open Gk Go
set_option linter.unusedVariables false
set_option maxHeartbeats 4000000
set_option maxRecDepth 4000
set_option linter.unusedSimpArgs false
attribute [local irreducible] Int.decLt Int.decLe Int.decEq Int.instDecidableEq Gk.Rnds Gk.E Gk.G Gk.R Gk.RD Gk.RX Gk.RO Gk.Y Gk.Ent Gk.Sat Gk.Round Gk.After Gk.Cell Gk.Sl Gk.SlA Gk.CB Gk.OK Gk.FnC Gk.Bytes Gk.BytesL Gk.StrL Gk.Buf Gk.MapI
def bat (b : List UInt8) (i : Nat) : Nat := (b.getD i 0).toNat
theorem bat_eq {b : List UInt8} {i : Nat} (h : i < b.length) : b[i].toNat = bat b i := by simp [bat, h]
theorem bat_cell {O : List Nat} {w : World} {x : Addr} {n c : Nat} {b : List UInt8} (h : Bytes O w (.slice (some x) n c) b) {i : Nat} (hi : i < b.length) : Cell O w (x.add i) (.int .u8 (bat b i)) := by
  obtain ⟨y, e, hc⟩ := h.atm hi
  injection e with e
  subst e
  have : byteV b[i] = .int .u8 (bat b i) := by rw [← bat_eq hi]; rfl
  rwa [this] at hc
theorem bat_lt (b : List UInt8) (i : Nat) : bat b i < 256 := UInt8.toNat_lt _
def cutB (b : List UInt8) (l h : Nat) : List UInt8 := (b.drop l).take (h - l)
theorem cutB_len {b : List UInt8} {l h : Nat} (hh : h ≤ b.length) : (cutB b l h).length = h - l := by simp [cutB]; omega
def secBad (b : List UInt8) : Prop := bat b 0 < 1 ∨ 4 < bat b 0 ∨ 108 < bat b 3 ∨ cleanB (cutB b (16 + bat b 3) 124) = false
instance secBadDec (b : List UInt8) : Decidable (secBad b) := by unfold secBad; infer_instance
def secOf (b : List UInt8) : Fm := ⟨bat b 0, bat b 1, bat b 2, numB (cutB b 4 12), numB (cutB b 12 16), cutB b 16 (16 + bat b 3)⟩
def secGet (b : List UInt8) : Fm × Nat :=
  if b.length ≠ 128 then (.zero, 11) else if rightB b = false then (.zero, 14) else if secBad b then (.zero, 11) else (secOf b, 0)
theorem secGet_of {b : List UInt8} {f : Fm} {e : Nat} (h : secGet b = (f, e)) : (secGet b).1 = f ∧ (secGet b).2 = e := by rw [h]; exact ⟨rfl, rfl⟩

attribute [local irreducible] bat
theorem secGet_c {u : Value} {b : List UInt8} (h : b.length ≤ 1000000) : Con Try.prog 39 [u] [] [] [Fact.bytes u b] fun r T Φ => ∃ v, r = .tuple #[fmV (secGet b).1 v, .int .i64 (secGet b).2] ∧ T = [Thing.buf 1 v (secGet b).1.body.length (bytesV (secGet b).1.body)] ∧ Φ = [] := by
  refine con_of (fun O0 w0 F => ?_)
  refine tidy F (fun F => ?_)
  refine fn_of _ Try.func39 rfl (by kernel_rfl) Try.ntmps39 rfl ?_
  obtain ⟨a, c, rfl, hc⟩ := (F.bytes (v := u)).form
  have bad : ∀ (e : Nat), secGet b = (.zero, e) → (secGet b).1 = .zero ∧ (secGet b).2 = e := fun e h => secGet_of h
  by_cases g1 : b.length = 128
  · refine go_on ?_
    (first | refine f_alloc1 F rfl (fun z w F => ?_) | refine f_allocN F rfl (fun z w F => ?_)); refine go_on ?_
    refine f_call F rfl rfl right_c ?_
    clear F; rintro r O w T Φ ⟨rfl, rfl, rfl⟩ F0
    refine tidy F0 (fun F => ?_); clear F0
    refine go_on ?_
    by_cases g2 : rightB b = false
    · have e : secGet b = (.zero, 14) := by unfold secGet; rw [if_neg (by simpa using g1), if_pos g2]
      rw [e, g2]
      have F := F.nilbuf 1
      refine go_on ?_
      refine f_storeAll F rfl rfl rfl (fun w F => ?_); refine go_on ?_
      refine go_back ?_
      exact F.fin ⟨_, rfl, rfl, rfl⟩
    · have g2' : rightB b = true := by simpa using g2
      rw [g2']
      have hn := bat_lt b 3
      have hb1 := bat_lt b 1
      have hb2 := bat_lt b 2
      obtain ⟨x, rfl, _⟩ := (F.bytes (xs := b)).atm (show 0 < b.length by omega)
      have F := F.fact (f := Fact.cell _ _) (bat_cell (F.bytes (xs := b)) (show 3 < b.length by omega))
      have F := F.fact (f := Fact.cell _ _) (bat_cell (F.bytes (xs := b)) (show 2 < b.length by omega))
      have F := F.fact (f := Fact.cell _ _) (bat_cell (F.bytes (xs := b)) (show 1 < b.length by omega))
      have F := F.fact (f := Fact.cell _ _) (bat_cell (F.bytes (xs := b)) (show 0 < b.length by omega))
      refine go_on ?_
      refine r_y (y_index1L (i := 3) rfl rfl rfl (by omega)) rfl ?_
      refine go_on ?_
      refine r_y (y_index1L (i := 0) rfl rfl rfl (by omega)) rfl ?_
      refine go_on ?_
      by_cases g3 : bat b 0 < 1
      · have e : secGet b = (.zero, 11) := by unfold secGet; rw [if_neg (by simpa using g1), if_neg g2, if_pos (show secBad b from Or.inl g3)]
        rw [e]
        have F := F.nilbuf 1
        refine go_on ?_
        refine f_storeAll F rfl rfl rfl (fun w F => ?_); refine go_on ?_
        refine go_back ?_
        exact F.fin ⟨_, rfl, rfl, rfl⟩
      refine go_on ?_
      refine r_y (y_index1L (i := 0) rfl rfl rfl (by omega)) rfl ?_
      refine go_on ?_
      by_cases g4 : 4 < bat b 0
      · have e : secGet b = (.zero, 11) := by unfold secGet; rw [if_neg (by simpa using g1), if_neg g2, if_pos (show secBad b from Or.inr (Or.inl g4))]
        rw [e]
        have F := F.nilbuf 1
        refine go_on ?_
        refine f_storeAll F rfl rfl rfl (fun w F => ?_); refine go_on ?_
        refine go_back ?_
        exact F.fin ⟨_, rfl, rfl, rfl⟩
      by_cases g5 : 108 < bat b 3
      · have e : secGet b = (.zero, 11) := by unfold secGet; rw [if_neg (by simpa using g1), if_neg g2, if_pos (show secBad b from Or.inr (Or.inr (Or.inl g5)))]
        rw [e]
        have F := F.nilbuf 1
        refine go_on ?_
        refine f_storeAll F rfl rfl rfl (fun w F => ?_); refine go_on ?_
        refine go_back ?_
        exact F.fin ⟨_, rfl, rfl, rfl⟩
      refine go_on ?_
      obtain ⟨n, hn1⟩ : ∃ n : Nat, n = 16 + bat b 3 := ⟨_, rfl⟩
      rw [show (16 : Int) + (bat b 3 : Nat) = (n : Nat) from by omega]
      refine r_y (y_slice (li := (n : Nat)) (hi' := 124) (mi := (c : Nat)) rfl rfl rfl rfl (by simp) (by omega)) rfl ?_
      have F := F.factB (v := cutV (some x) 1 ((n : Nat) : Int).toNat (124 : Int).toNat ((c : Nat) : Int).toNat) (xs := cutB b n 124) (Bytes.cut (F.bytes (v := .slice (some x) b.length c) (xs := b)) (l := n) (h := 124) (k := c) (by omega) (by omega) (by omega) (by omega))
      have hl1 : (cutB b n 124).length ≤ 1000000 := by rw [cutB_len (by omega)]; omega
      refine go_on ?_
      refine f_call F rfl rfl (clean_c (b := cutB b n 124)) ?_
      clear F; rintro r O w T Φ ⟨rfl, rfl, rfl⟩ F0
      refine tidy F0 (fun F => ?_); clear F0
      refine go_on ?_
      by_cases g6 : cleanB (cutB b n 124) = false
      · have e : secGet b = (.zero, 11) := by unfold secGet; rw [if_neg (by simpa using g1), if_neg g2, if_pos (show secBad b from Or.inr (Or.inr (Or.inr (by rw [← hn1]; exact g6))))]
        rw [e, g6]
        have F := F.nilbuf 1
        refine go_on ?_
        refine f_storeAll F rfl rfl rfl (fun w F => ?_); refine go_on ?_
        refine go_back ?_
        exact F.fin ⟨_, rfl, rfl, rfl⟩
      have e : secGet b = (secOf b, 0) := by
        unfold secGet
        rw [if_neg (by simpa using g1), if_neg g2, if_neg]
        rintro (h | h | h | h)
        · exact g3 h
        · exact g4 h
        · exact g5 h
        · rw [← hn1] at h; exact g6 h
      have g6' : cleanB (cutB b n 124) = true := by simpa using g6
      have eb : (secOf b).body = cutB b 16 n := by rw [hn1]; rfl
      rw [e, g6']
      dsimp only
      rw [eb]
      refine go_on ?_
      refine f_buildSlice (cs := []) F rfl rfl rfl rfl (fun q w F => ?_); refine go_on ?_
      rw [show (16 : Int) + (bat b 3 : Nat) = (n : Nat) from by omega]
      refine r_y (y_slice (li := 16) (hi' := (n : Nat)) (mi := (c : Nat)) rfl rfl rfl rfl (by simp) (by omega)) rfl ?_
      have F := F.factB (v := cutV (some x) 1 (16 : Int).toNat ((n : Nat) : Int).toNat ((c : Nat) : Int).toNat) (xs := cutB b 16 n) (Bytes.cut (F.bytes (v := .slice (some x) b.length c) (xs := b)) (l := 16) (h := n) (k := c) (by omega) (by omega) (by omega) (by omega))
      have hl2 : (cutB b 16 n).length ≤ 108 := by rw [cutB_len (by omega)]; omega
      have F := F.asBuf (m := 0) (sz := 1) Sel.here rfl (by decide)
      refine go_on ?_
      refine f_append F rfl rfl rfl (src_bytes (F.bytes (v := cutV (some x) 1 (16 : Int).toNat ((n : Nat) : Int).toNat ((c : Nat) : Int).toNat) (xs := cutB b 16 n))) (fun r w O F => ?_)
      rw [List.nil_append, Nat.zero_add] at F
      obtain ⟨ra, rc, rfl, _⟩ := F.bufAt.form
      have F := F.factB (v := cutV (some x) 1 (4 : Int).toNat (12 : Int).toNat ((c : Nat) : Int).toNat) (xs := cutB b 4 12) (Bytes.cut (F.bytes (v := .slice (some x) b.length c) (xs := b)) (l := 4) (h := 12) (k := c) (by omega) (by omega) (by omega) (by omega))
      have F := F.factB (v := cutV (some x) 1 (12 : Int).toNat (16 : Int).toNat ((c : Nat) : Int).toNat) (xs := cutB b 12 16) (Bytes.cut (F.bytes (v := .slice (some x) b.length c) (xs := b)) (l := 12) (h := 16) (k := c) (by omega) (by omega) (by omega) (by omega))
      have hl3 : (cutB b 4 12).length ≤ 8 := by rw [cutB_len (by omega)]; omega
      have hl4 : (cutB b 12 16).length ≤ 8 := by rw [cutB_len (by omega)]; omega
      have hl5 : numB (cutB b 12 16) < 4294967296 := Nat.lt_of_lt_of_le (numB_lt _) (by rw [cutB_len (by omega)]; decide)
      refine go_on ?_
      refine f_draw [] F [] [(0, true), (1, true), (2, true), (3, true), (4, true), (5, true), (6, true), (7, true), (8, true), (9, true), (10, true), (11, true), (12, true), (13, true), (15, true), (16, true), (19, true), (14, false), (17, false), (18, true), (20, true), (21, false), (22, true)] (by kernel_rfl) (by kernel_rfl) (fun w F hS => ?_); refine go_look ?_
      refine rd_open rfl ?_; (first | refine ro_n ?_ | refine ro_g rfl rfl ?_); refine rx_y rfl (fun _ hw => y_index1L (m := b.length) (i := 0) rfl rfl rfl (by omega)) (by assumption) ?_; refine go_look ?_
      refine rd_open rfl ?_; (first | refine ro_n ?_ | refine ro_g rfl rfl ?_); refine rx_y rfl (fun _ hw => y_index1L (m := b.length) (i := 1) rfl rfl rfl (by omega)) (by assumption) ?_; refine go_look ?_
      refine rd_open rfl ?_; (first | refine ro_n ?_ | refine ro_g rfl rfl ?_); refine rx_y rfl (fun _ hw => y_index1L (m := b.length) (i := 2) rfl rfl rfl (by omega)) (by assumption) ?_; refine go_look ?_
      refine rd_open rfl ?_; (first | refine ro_n ?_ | refine ro_g rfl rfl ?_); refine rx_y rfl (fun _ hw => y_slice (c := c) (li := 4) (hi' := 12) (mi := (c : Nat)) rfl rfl rfl rfl (by simp) (by omega)) (by assumption) ?_; refine go_look ?_
      refine rd_open rfl ?_; (first | refine ro_n ?_ | refine ro_g rfl rfl ?_); refine rx_y rfl (fun _ hw => y_slice (c := c) (li := 12) (hi' := 16) (mi := (c : Nat)) rfl rfl rfl rfl (by simp) (by omega)) (by assumption) ?_; refine go_look ?_
      refine rd_do rfl ?_
      (try refine r_go rfl rfl ?_)
      refine f_call F rfl rfl (number_c (s := cutB b 4 12)) ?_
      clear F; rintro r O w T Φ ⟨rfl, rfl, rfl⟩ F0
      refine tidy F0 (fun F => ?_); clear F0
      refine r_nil ?_; refine e_afterF F (fun hS => ?_); refine go_look ?_
      refine rd_do rfl ?_
      (try refine r_go rfl rfl ?_)
      refine f_call F rfl rfl (number_c (s := cutB b 12 16)) ?_
      clear F; rintro r O w T Φ ⟨rfl, rfl, rfl⟩ F0
      refine tidy F0 (fun F => ?_); clear F0
      refine r_nil ?_; refine e_afterF F (fun hS => ?_); refine go_look ?_
      refine rd_do rfl ?_; (try refine r_go rfl rfl ?_)
      refine f_storeAll F rfl rfl rfl (fun w F => ?_)
      (try refine r_nil ?_); refine e_afterF F (fun hS => ?_); refine go_look ?_
      refine rd_done ?_; refine go_on ?_
      refine go_back ?_
      exact F.fin ⟨.slice ra (cutB b 16 n).length rc, rfl, rfl, rfl⟩
  · have e : secGet b = (.zero, 11) := by unfold secGet; rw [if_pos g1]
    rw [e]
    have F := F.nilbuf 1
    refine go_on ?_
    (first | refine f_alloc1 F rfl (fun z w F => ?_) | refine f_allocN F rfl (fun z w F => ?_)); refine go_on ?_
    refine f_storeAll F rfl rfl rfl (fun w F => ?_); refine go_on ?_
    refine go_back ?_
    exact F.fin ⟨_, rfl, rfl, rfl⟩
end Go.Proofs.Ytmohjmfcbhpldaa
