/- JournalRoom answers true. -/
import Derived.Test.YtmohjmfcbhpldaaJlaw
namespace Go.Proofs.Ytmohjmfcbhpldaa
open Gk Go
set_option linter.unusedVariables false
set_option maxHeartbeats 4000000
set_option maxRecDepth 4000
set_option linter.unusedSimpArgs false
attribute [local irreducible] Int.decLt Int.decLe Int.decEq Int.instDecidableEq Gk.Rnds Gk.E Gk.G Gk.R Gk.RD Gk.RX Gk.RO Gk.Y Gk.Ent Gk.Sat Gk.Round Gk.After Gk.Cell Gk.Sl Gk.SlA Gk.CB Gk.OK Gk.FnC Gk.Bytes Gk.BytesL Gk.StrL Gk.Buf Gk.MapI
def rowB (i b : Nat) : Int × List UInt8 := ((b : Int), [UInt8.ofNat i, UInt8.ofNat b])
def rowsB (i : Nat) : Nat → Chg
  | 0 => []
  | b + 1 => rowsB i b ++ [rowB i b]
theorem rowsB_len (i : Nat) : ∀ b, (rowsB i b).length = b
  | 0 => rfl
  | b + 1 => by rw [rowsB, List.length_append, rowsB_len i b]; rfl
theorem rowsB_at (i : Nat) : ∀ m b, b < m → wAt (rowsB i m) b = rowB i b
  | 0, b, h => by omega
  | m + 1, b, h => by
    unfold wAt
    rw [rowsB, List.getD_eq_getElem?_getD]
    by_cases e : b < m
    · rw [List.getElem?_append_left (by rw [rowsB_len]; exact e), ← List.getD_eq_getElem?_getD]
      exact rowsB_at i m b e
    · have : b = m := by omega
      subst this
      rw [List.getElem?_append_right (by rw [rowsB_len]; exact Nat.le_refl _), rowsB_len]
      simp
theorem rowsB_may {N i m : Nat} (h1 : 1 ≤ m) (h2 : m ≤ N) (h3 : m ≤ 100) : mayW N (rowsB i m) := by
  refine ⟨fun b hb => ?_, by rw [rowsB_len]; exact h1, by rw [rowsB_len]; exact h3⟩
  rw [rowsB_len] at hb
  unfold goodAt
  rw [rowsB_at i m b hb]
  refine ⟨by show 0 ≤ (b : Int); omega, by show (b : Int) < N; omega, fun h => ?_, by show 2 ≤ 96; omega⟩
  rw [rowsB_at i m (b - 1) (by omega)]
  show ((b - 1 : Nat) : Int) < (b : Int)
  omega
theorem rowsB_fold (i : Nat) (x : List UInt8) (b : Nat) : ∀ m, foldAt x b (rowsB i m) = if b < m then [UInt8.ofNat i, UInt8.ofNat b] else x
  | 0 => by rw [if_neg (by omega)]; rfl
  | m + 1 => by
    rw [rowsB, foldAt_app, rowsB_fold i x b m]
    show (if ((m : Nat) : Int).toNat = b then [UInt8.ofNat i, UInt8.ofNat m] else _) = _
    rw [Int.toNat_natCast]
    by_cases e : m = b
    · subst e
      rw [if_pos rfl, if_pos (by omega)]
    · rw [if_neg e]
      by_cases e2 : b < m
      · rw [if_pos e2, if_pos (by omega)]
      · rw [if_neg e2, if_neg (by omega)]
theorem byteV_nat {i : Nat} (h : i < 256) : byteV (UInt8.ofNat i) = .int .u8 i := by
  show Value.int .u8 ((UInt8.ofNat i).toNat : Int) = _
  rw [ofNat_back h]
theorem JournalRoom_ok {w0 : World} {lg : UInt8} {sv : Value} {sizes : List UInt8} (F : Fr [] [] w0 [] w0 [] [Fact.bytes sv sizes]) :
    FnC Try.prog 3 [byteV lg, sv] [] [] w0 fun r O' w' => r = .bool true := by
  obtain ⟨sa, sc, rfl, _⟩ := (F.bytes (v := sv)).form
  refine fn_of _ Try.func3 rfl (by kernel_rfl) Try.ntmps3 rfl ?_
  refine go_on ?_
  refine f_call F rfl rfl awake_c ?_ (hp := trivial)
  clear F; rintro r O w T Φ ⟨rfl, rfl, rfl⟩ F0
  refine tidy F0 (fun F => ?_); clear F0
  refine go_on ?_
  by_cases g1 : 30 < sizes.length
  · refine go_on ?_
    refine go_back ?_
    exact F.law
  have hlg : lg.toNat % 10 < 10 := Nat.mod_lt _ (by omega)
  refine go_on ?_
  refine r_y (y_remN (b := 10) rfl rfl (by omega)) rfl ?_
  obtain ⟨k0, hk⟩ : ∃ k0, lg.toNat % 10 = k0 := ⟨_, rfl⟩
  rw [hk] at hlg ⊢
  refine go_on ?_
  obtain ⟨k, hk4⟩ : ∃ k, k0 + 4 = k := ⟨_, rfl⟩
  rw [show ((k0 : Int) + 4) = ((k : Nat) : Int) from by omega]
  refine f_call F rfl rfl (dnewK_c (n := 60)) ?_ (hp := ⟨by omega, by omega⟩)
  clear F; rintro r O w T Φ ⟨q, m, rfl, rfl, rfl⟩ F0
  refine tidy F0 (fun F => ?_); clear F0
  refine go_on ?_
  refine f_call F rfl rfl (jopenL_c (q := q) (m := m) (K := k) (N := 20) (d := ⟨60, [], [], -1, false⟩)) ?_ (hp := (rdy_zero (by omega)))
  clear F; rintro r O w T Φ ⟨p, bq, v1, j1, d1, ⟨a1, a2, a3, a4, a5, a6, a7⟩, rfl, rfl, rfl⟩ F0
  refine tidy F0 (fun F => ?_); clear F0
  have a6 : d1.waits.length ≤ 200 := a6
  refine go_on ?_
  refine g_loop (X := Nat × Nat × Jr × Dk × Value) (fun y => [(1, .slice sa sizes.length sc), (6, .int .i64 k), (9, dptr p), (11, .int .u64 y.2.1), (12, .int .i64 y.1)])
    (fun y wr => ∃ O, Fr [] [] w0 O wr [(1, Jt p q bq y.2.2.1), (1, Dn q m y.2.2.2.2 y.2.2.2.1)] [Fact.bytes (.slice sa sizes.length sc) sizes] ∧ y.1 ≤ sizes.length ∧ Alive k 20 y.2.2.1 y.2.2.2.1 ∧ y.2.2.2.1.left = -1 ∧ y.2.2.1.seq = y.2.1 ∧ y.2.1 ≤ y.1 ∧ y.2.2.1.used ≤ k ∧ y.2.2.2.1.waits.length ≤ 200 + 300 * y.1) (fun y => sizes.length - y.1) (0, 0, j1, d1, v1) (sub_cons rfl rfl (sub_cons rfl rfl (sub_cons rfl rfl (sub_cons rfl rfl (sub_cons rfl rfl (sub_nil)))))) ⟨_, (F.demote (t := Jt p q bq j1)).demote (t := Dn q m v1 d1) |>.wk, Nat.zero_le _, a1, a2, a4, Nat.le_refl _, by dsimp only; omega, by dsimp only; omega⟩ ?_
  clear F
  rintro ⟨i, n, j, d, v⟩ w ⟨O, F, hi, A, hl, hsq, hni, hus, hwt⟩
  dsimp only at F hi A hl hsq hni hus hwt ⊢
  refine go_on ?_
  refine g_dec rfl (fun g => ?_) (fun g => ?_)
  · have hi' : i < sizes.length := by omega
    refine go_on ?_
    obtain ⟨x, rfl, hc⟩ := ((F.bytes (xs := sizes))).atm hi'
    have F := F.fact (f := Fact.cell _ _) hc
    refine go_on ?_
    obtain ⟨c, hc⟩ : ∃ c, sizes[i].toNat % 18 = c := ⟨_, rfl⟩
    have hc18 : c < 18 := by rw [← hc]; exact Nat.mod_lt _ (by decide)
    refine r_y (y_remN (b := 18) rfl rfl (by omega)) rfl ?_
    rw [hc]
    refine go_on ?_
    obtain ⟨mn, hmn⟩ : ∃ mn, c + 1 = mn := ⟨_, rfl⟩
    rw [show ((c : Int) + 1) = ((mn : Nat) : Int) from by omega]
    have F := (F.nilbuf 2).all0 2 WrR
    refine g_loop (X := Nat × Value × List (List Value)) (fun y => [(1, .slice (some x) sizes.length sc), (6, .int .i64 k), (9, dptr p), (11, .int .u64 n), (12, .int .i64 i), (13, .int .i64 mn), (14, y.2.1), (15, .int .i64 y.1)])
      (fun y wr => ∃ O, Fr [] [] w0 O wr [(2, Thing.buf 2 y.2.1 (rowsB i y.1).length y.2.2.flatten), (1, Jt p q bq j), (1, Dn q m v d)] [Fact.all 2 WrR y.2.2 (rowsB i y.1), Fact.bytes (.slice (some x) sizes.length sc) sizes] ∧ y.1 ≤ mn) (fun y => mn - y.1) (0, .slice none 0 0, []) (sub_cons rfl rfl (sub_cons rfl rfl (sub_cons rfl rfl (sub_cons rfl rfl (sub_cons rfl rfl (sub_cons rfl rfl (sub_cons rfl rfl (sub_cons rfl rfl (sub_nil))))))))) ⟨_, F.wk, Nat.zero_le _⟩ ?_
    clear F
    rintro ⟨b, lv, rows⟩ w ⟨O, F, hb⟩
    dsimp only at F hb ⊢
    refine go_on ?_
    refine g_dec rfl (fun g2 => ?_) (fun g2 => ?_)
    · have hb' : b < mn := by omega
      obtain ⟨la, lc, rfl, _⟩ := (F.bufAt (v := lv)).form
      refine go_on ?_
      refine f_buildSlice (cs := [_, _]) F rfl rfl rfl rfl (fun q9 w F => ?_)
      change Fr _ _ _ _ _ ((2, Thing.cells q9 [.int .u8 ((i % 256 : Nat) : Int), .int .u8 ((b % 256 : Nat) : Int)]) :: _) _ at F
      rw [Nat.mod_eq_of_lt (show i < 256 by omega), Nat.mod_eq_of_lt (show b < 256 by omega)] at F
      rw [show ([.int .u8 i, .int .u8 b] : List Value) = bytesV [UInt8.ofNat i, UInt8.ofNat b] from by show _ = [byteV _, byteV _]; rw [byteV_nat (by omega), byteV_nat (by omega)]] at F
      obtain ⟨O, F⟩ := frzBy [UInt8.ofNat i, UInt8.ofNat b] F Sel.here (by show 2 ≤ 1000000; omega)
      have hlb := rowsB_len i b
      refine go_on ?_
      refine f_buildSlice (cs := [.int .i64 b, .slice (some ⟨q9, 0, none⟩) 2 2]) F rfl rfl rfl rfl (fun q8 w F => ?_)
      refine go_on ?_
      refine f_append F rfl rfl rfl (F.srcRow) (fun r w O F => ?_); refine go_on ?_
      have F := F.allSnoc (R := WrR) (y := rowB i b) (row := [.int .i64 b, .slice (some ⟨q9, 0, none⟩) 2 2]) ⟨_, rfl, F.bytes (v := .slice (some ⟨q9, 0, none⟩) 2 2) (xs := [UInt8.ofNat i, UInt8.ofNat b])⟩ rfl
      have e8 : rows.flatten ++ [Value.int .i64 b, Value.slice (some ⟨q9, 0, none⟩) 2 2] = (rows ++ [[Value.int .i64 b, Value.slice (some ⟨q9, 0, none⟩) 2 2]]).flatten := (flat_snoc _ _).symm
      have e9 : (rowsB i b).length + 1 = (rowsB i (b + 1)).length := by rw [rowsB_len, rowsB_len]
      rw [e8, e9] at F
      exact e_round (b + 1, r, rows ++ [[Value.int .i64 b, Value.slice (some ⟨q9, 0, none⟩) 2 2]]) (sub_cons rfl rfl (sub_cons rfl rfl (sub_cons rfl rfl (sub_cons rfl rfl (sub_cons rfl rfl (sub_cons rfl rfl (sub_cons rfl rfl (sub_cons rfl rfl (sub_nil))))))))) ⟨O, F.wk, by simp only; omega⟩ (by simp only; omega)
    · obtain rfl : mn = b := by omega
      obtain ⟨O, F⟩ := F.frzRel (R := WrR) rfl
      have hmay : mayW 20 (rowsB i mn) := rowsB_may (by omega) (by omega) (by omega)
      have hlen := rowsB_len i mn
      refine go_on ?_
      refine f_call F rfl rfl (jcommit_c (p := p) (q := q) (bq := bq) (m := m) (v0 := v) (j := j) (d := d) (l := rowsB i mn)) ?_ (hp := ⟨by omega, by omega⟩)
      clear F; rintro r O w T Φ ⟨v2, rfl, rfl, rfl⟩ F0
      refine tidy F0 (fun F => ?_); clear F0
      by_cases g3 : mn < k
      · have hc2 := commit_goes A (rowsB i mn) (by omega) hl hmay (by omega)
        obtain ⟨⟨⟨j2, d2⟩, e2⟩, hx⟩ : ∃ x, j.commit d (rowsB i mn) = x := ⟨_, rfl⟩
        rw [hx] at hc2 F ⊢
        dsimp only at hc2 F ⊢
        obtain ⟨rfl, b1, b2, b3, b4, b5, b6, b7⟩ := hc2
        have hBl : j.B.length = 20 := by obtain ⟨_, _, _, U, _⟩ := A; exact U.r0.len
        have hrd : ∀ b, b < mn → j2.rdB ((b : Nat) : Int) = [UInt8.ofNat i, UInt8.ofNat b] := fun b hb => by
          rw [rdB_nat (by rw [b3, setAll_len, hBl]; omega), b3, setAll_at _ _ _ (by rw [hBl]; omega), rowsB_fold, if_pos hb]
        refine go_on ?_
        rw [show (!(decide (((0 : Nat) : Int) = 0) == decide ((mn : Int) < (k : Int)))) = false from by rw [decide_eq_true (show (mn : Int) < (k : Int) by omega)]; simp]
        refine go_on ?_
        refine r_y (y_addM (k := .u64) (a := n) (b := 1) rfl rfl rfl) rfl ?_
        rw [show (n + 1) % lim .u64 = n + 1 from Nat.mod_eq_of_lt (by simp only [lim]; omega)]
        refine go_on ?_
        refine g_loop (X := Nat) (fun y => [(1, .slice (some x) sizes.length sc), (6, .int .i64 k), (9, dptr p), (11, .int .u64 (n + 1 : Nat)), (12, .int .i64 i), (13, .int .i64 mn), (17, .int .i64 y)])
          (fun y wr => ∃ O, Fr [] [] w0 O wr [(1, Jt p q bq j2), (1, Dn q m v2 d2)] [Fact.bytes (.slice (some x) sizes.length sc) sizes] ∧ y ≤ mn) (fun y => mn - y) 0 (sub_cons rfl rfl (sub_cons rfl rfl (sub_cons rfl rfl (sub_cons rfl rfl (sub_cons rfl rfl (sub_cons rfl rfl (sub_cons rfl rfl (sub_nil)))))))) ⟨_, F.wk, Nat.zero_le _⟩ ?_
        clear F
        rintro y w ⟨O, F, hy⟩
        refine go_on ?_
        refine g_dec rfl (fun g4 => ?_) (fun g4 => ?_)
        · have hy' : y < mn := by omega
          refine go_on ?_
          refine f_call F rfl rfl (jread_c (p := p) (q := q) (bq := bq) (j := j2) (i := ((y : Nat) : Int))) ?_ (hp := trivial)
          clear F; rintro r O w T Φ ⟨rfl, rfl⟩ F0
          refine tidy F0 (fun F => ?_); clear F0
          rw [hrd y hy'] at F
          obtain ⟨O, F⟩ := F.frzB
          obtain ⟨ra, rc, hrr, _⟩ := (F.bytes (v := r) (xs := [UInt8.ofNat i, UInt8.ofNat y])).form
          have hrr : r = .slice ra 2 rc := hrr
          subst hrr
          obtain ⟨x2, rfl, hc0⟩ := (F.bytes (v := .slice ra 2 rc) (xs := [UInt8.ofNat i, UInt8.ofNat y])).atm (show 0 < 2 by omega)
          obtain ⟨x3, hx3, hc1⟩ := (F.bytes (v := .slice (some x2) 2 rc) (xs := [UInt8.ofNat i, UInt8.ofNat y])).atm (show 1 < 2 by omega)
          injection hx3 with hx3
          subst hx3
          have hc0 : Cell O w (x2.add 0) (byteV (UInt8.ofNat i)) := hc0
          have hc1 : Cell O w (x2.add 1) (byteV (UInt8.ofNat y)) := hc1
          have F := (F.fact (f := Fact.cell _ _) hc0).fact (f := Fact.cell _ _) hc1
          refine go_on ?_
          refine e_round (y + 1) (sub_cons rfl rfl (sub_cons rfl rfl (sub_cons rfl rfl (sub_cons rfl rfl (sub_cons rfl rfl (sub_cons rfl rfl (sub_cons rfl rfl (sub_nil)))))))) ⟨_, F.wk, by omega⟩ (by omega)
        · obtain rfl : mn = y := by omega
          refine go_on ?_
          refine f_call F rfl rfl (jseq_c (p := p) (q := q) (bq := bq) (j := j2)) ?_ (hp := trivial)
          clear F; rintro r O w T Φ ⟨rfl, rfl, rfl⟩ F0
          refine tidy F0 (fun F => ?_); clear F0
          rw [show j2.seq = n + 1 from by omega]
          refine go_on ?_
          refine f_call F rfl rfl (jused_c (p := p) (q := q) (bq := bq) (j := j2)) ?_ (hp := trivial)
          clear F; rintro r O w T Φ ⟨rfl, rfl, rfl⟩ F0
          refine tidy F0 (fun F => ?_); clear F0
          refine go_on ?_
          exact e_round (i + 1, n + 1, j2, d2, v2) (sub_cons rfl rfl (sub_cons rfl rfl (sub_cons rfl rfl (sub_cons rfl rfl (sub_cons rfl rfl (sub_nil)))))) ⟨_, F.wk, by dsimp only; omega, b1, b2, by dsimp only; omega, by dsimp only; omega, b5, by dsimp only; omega⟩ (by simp only; omega)
      · rcases commit_alive A (rowsB i mn) (by omega) with ⟨h, _⟩ | ⟨_, _, hx⟩ | ⟨_, h, _⟩ | ⟨_, h, _⟩
        · exact absurd hmay h
        · rw [hx] at F ⊢
          dsimp only at F ⊢
          refine go_on ?_
          rw [show (!(decide (((21 : Nat) : Int) = 0) == decide ((mn : Int) < (k : Int)))) = false from by rw [decide_eq_false (show ¬ (mn : Int) < (k : Int) by omega)]; simp]
          refine go_on ?_
          refine f_call F rfl rfl (jseq_c (p := p) (q := q) (bq := bq) (j := j)) ?_ (hp := trivial)
          clear F; rintro r O w T Φ ⟨rfl, rfl, rfl⟩ F0
          refine tidy F0 (fun F => ?_); clear F0
          rw [hsq]
          refine go_on ?_
          refine f_call F rfl rfl (jused_c (p := p) (q := q) (bq := bq) (j := j)) ?_ (hp := trivial)
          clear F; rintro r O w T Φ ⟨rfl, rfl, rfl⟩ F0
          refine tidy F0 (fun F => ?_); clear F0
          refine go_on ?_
          exact e_round (i + 1, n, j, d, v2) (sub_cons rfl rfl (sub_cons rfl rfl (sub_cons rfl rfl (sub_cons rfl rfl (sub_cons rfl rfl (sub_nil)))))) ⟨_, F.wk, by dsimp only; omega, A, hl, hsq, by dsimp only; omega, hus, by dsimp only; omega⟩ (by simp only; omega)
        · omega
        · omega
  · obtain rfl : sizes.length = i := by omega
    refine go_on ?_
    refine go_back ?_
    exact F.law
theorem JournalRoom_true {w : World} {v0 v1 : Value} (r0 : Reads Try.prog w 5 [v0]) (r1 : Reads Try.prog w 22 [v1]) :
    FnC Try.prog 3 [v0, v1] [] [] w fun r O' w' => r = .bool true := by
  obtain ⟨k, e0, hk⟩ := reads_nat (k := .u8) rfl r0
  simp only [List.cons.injEq, and_true] at e0
  subst e0
  obtain ⟨b, hb, _⟩ := reads_bytes r1
  have hk : k < 256 := hk
  rw [← byteV_nat hk]
  exact JournalRoom_ok ((Fr.start OK_nil).fact (f := Fact.bytes v1 b) hb)
end Go.Proofs.Ytmohjmfcbhpldaa
