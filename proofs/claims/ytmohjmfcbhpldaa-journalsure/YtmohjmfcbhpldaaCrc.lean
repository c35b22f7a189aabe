/- What the sums of bytes are. -/
import Derived.Test.YtmohjmfcbhpldaaDisk
namespace Go.Proofs.Ytmohjmfcbhpldaa
open Gk Go
set_option linter.unusedVariables false
set_option maxHeartbeats 4000000
set_option maxRecDepth 4000
set_option linter.unusedSimpArgs false
attribute [local irreducible] Int.decLt Int.decLe Int.decEq Int.instDecidableEq Gk.Rnds Gk.E Gk.G Gk.R Gk.RD Gk.RX Gk.RO Gk.Y Gk.Ent Gk.Sat Gk.Round Gk.After Gk.Cell Gk.Sl Gk.SlA Gk.CB Gk.OK Gk.FnC Gk.Bytes Gk.BytesL Gk.StrL Gk.Buf Gk.MapI
def u32N (x : Nat) : Value := .int .u32 x
def tabS (x : Nat) : Nat := if 2147483648 ≤ x then ((x * 2) % 4294967296) ^^^ 79764919 else (x * 2) % 4294967296
def tabK (x : Nat) : Nat → Nat
  | 0 => x
  | k + 1 => tabS (tabK x k)
def tabN (i : Nat) : Nat := tabK (i * 268435456) 4
def tabC (i : Nat) : List Value := (List.range 16).map fun k => u32N (if k < i then tabN k else 0)
def nib (x n : Nat) : Nat := ((x * 16) % 4294967296) ^^^ tabN ((x / 268435456) ^^^ n)
def crcB (x : Nat) (c : UInt8) : Nat := nib (nib x (c.toNat / 16)) (c.toNat &&& 15)
def crcMore (s : Nat) (b : List UInt8) : Nat := 4294967295 ^^^ b.foldl crcB (4294967295 ^^^ s)
def crcOf (b : List UInt8) : Nat := crcMore 0 b
def sealB (b : List UInt8) : List UInt8 := b ++ be 4 (crcOf b)

theorem xor_lt {a b : Nat} (ha : a < 4294967296) (hb : b < 4294967296) : a ^^^ b < 4294967296 := Nat.xor_lt_two_pow (n := 32) ha hb
theorem tabS_lt (x : Nat) : tabS x < 4294967296 := by
  unfold tabS
  split
  · exact xor_lt (Nat.mod_lt _ (by decide)) (by decide)
  · exact Nat.mod_lt _ (by decide)
theorem tabN_lt (i : Nat) : tabN i < 4294967296 := tabS_lt _
theorem nib_lt (x n : Nat) : nib x n < 4294967296 := xor_lt (Nat.mod_lt _ (by decide)) (tabN_lt _)
theorem crcB_lt (x : Nat) (c : UInt8) : crcB x c < 4294967296 := nib_lt _ _
theorem foldC_lt : ∀ (b : List UInt8) (x : Nat), x < 4294967296 → b.foldl crcB x < 4294967296
  | [], x, h => h
  | c :: b, x, _ => foldC_lt b _ (crcB_lt x c)
theorem crcOf_lt (b : List UInt8) : crcOf b < 4294967296 := xor_lt (by decide) (foldC_lt b _ (xor_lt (by decide) (by decide)))

theorem tabK_0 (x : Nat) : tabK x 0 = x := rfl
theorem tabK_s (x k : Nat) : tabK x (k + 1) = tabS (tabK x k) := rfl
theorem tabN_eq (i : Nat) : tabN i = tabK (i * 268435456) 4 := rfl
theorem tabC_0 : ([.int .u32 0, .int .u32 0, .int .u32 0, .int .u32 0, .int .u32 0, .int .u32 0, .int .u32 0, .int .u32 0, .int .u32 0, .int .u32 0, .int .u32 0, .int .u32 0, .int .u32 0, .int .u32 0, .int .u32 0, .int .u32 0] : List Value) = tabC 0 := rfl
theorem tabC_len (i : Nat) : (tabC i).length = 16 := by simp [tabC]
theorem tabC_at {i k : Nat} (h : k < 16) : (tabC i)[k]? = some (u32N (if k < i then tabN k else 0)) := by simp [tabC, h]
theorem tabC_set {i : Nat} (h : i < 16) : (tabC i).set i (u32N (tabN i)) = tabC (i + 1) := by
  refine List.ext_getElem? (fun k => ?_)
  rw [List.getElem?_set]
  by_cases hk : k < 16
  · rw [tabC_at hk, tabC_at hk]
    by_cases hik : i = k
    · subst hik
      rw [if_pos rfl, if_pos (by rw [tabC_len]; exact h), if_pos (by omega)]
    · rw [if_neg hik]
      by_cases h2 : k < i
      · rw [if_pos h2, if_pos (by omega)]
      · rw [if_neg h2, if_neg (by omega)]
  · rw [if_neg (by omega), List.getElem?_eq_none (by rw [tabC_len]; omega), List.getElem?_eq_none (by rw [tabC_len]; omega)]
theorem tabC_one (i : Nat) : (tabC i).all (·.oneCell') = true := by
  unfold tabC
  rw [List.all_map]
  exact List.all_eq_true.2 fun _ _ => rfl

attribute [local irreducible] tabC tabN tabK
theorem table_c (h : True) : Con Try.prog 80 [] [] [] [] fun r T Φ => r = .agg (tabC 16).toArray ∧ T = [] ∧ Φ = [] := by
  refine con_of (fun O0 w0 F => ?_)
  refine tidy F (fun F => ?_)
  refine fn_of _ Try.func80 rfl (by kernel_rfl) Try.ntmps80 rfl ?_
  refine go_on ?_
  (first | refine f_alloc1 F rfl (fun q0 w F => ?_) | refine f_allocN F rfl (fun q0 w F => ?_)); refine go_on ?_
  (first | refine f_alloc1 F rfl (fun q1 w F => ?_) | refine f_allocN F rfl (fun q1 w F => ?_)); refine go_on ?_
  rw [tabC_0] at F
  refine g_loop (X := Nat) (fun y => [(0, dptr q0), (1, dptr q1), (4, .int .i64 y)]) (fun y wr => ∃ O, Fr [] O0 w0 O wr [(2, Thing.cells q0 (tabC 0)), (2, Thing.cells q1 (tabC y))] [] ∧ y ≤ 16) (fun y => 16 - y) 0 (sub_cons rfl rfl (sub_cons rfl rfl (sub_cons rfl rfl (sub_nil)))) ⟨_, F.wk, by omega⟩ ?_
  clear F
  rintro i w ⟨O, F, hi⟩
  refine go_on ?_
  refine g_dec rfl (fun g2 => ?_) (fun g2 => ?_)
  · refine go_on ?_
    refine r_y (y_shlN (k := .u32) (a := i) (c := 28) rfl rfl (by decide) (by simp only [lim]; omega)) rfl ?_
    have e0 : i * 2 ^ 28 = tabK (i * 268435456) 0 := by rw [tabK_0]
    rw [e0]
    refine go_on ?_
    refine g_loop (X := Nat) (fun y => [(0, dptr q0), (1, dptr q1), (2, .int .i64 i), (3, .int .u32 (tabK (i * 268435456) y)), (4, .int .i64 i), (10, .int .i64 y)]) (fun y wr => ∃ O, Fr [] O0 w0 O wr [(2, Thing.cells q0 (tabC 0)), (2, Thing.cells q1 (tabC i))] [] ∧ y ≤ 4) (fun y => 4 - y) 0 (sub_cons rfl rfl (sub_cons rfl rfl (sub_cons rfl rfl (sub_cons rfl rfl (sub_cons rfl rfl (sub_cons rfl rfl (sub_nil))))))) ⟨_, F.wk, by omega⟩ ?_
    clear F
    rintro j w ⟨O, F, hj⟩
    refine go_on ?_
    refine g_dec rfl (fun g3 => ?_) (fun g3 => ?_)
    · have e : tabK (i * 268435456) (j + 1) = tabS (tabK (i * 268435456) j) := tabK_s _ _
      have hx : tabK (i * 268435456) j < 4294967296 := by
        cases j with
        | zero => rw [tabK_0]; omega
        | succ j => rw [tabK_s]; exact tabS_lt _
      generalize tabK (i * 268435456) j = x at e hx
      unfold tabS at e
      refine go_on ?_
      by_cases g4 : 2147483648 ≤ x
      · rw [if_pos g4] at e
        refine go_on ?_
        refine r_y (y_shlM (k := .u32) (a := x) (c := 1) rfl rfl (by decide) rfl) rfl ?_
        have hm : (x * 2 ^ 1) % lim .u32 = (x * 2) % 4294967296 := rfl
        rw [hm]
        refine go_on ?_
        refine r_y (y_xorN (k := .u32) (a := (x * 2) % 4294967296) (b := 79764919) rfl rfl (by simp only [full]; omega) (by decide) (by simp only [lim]; exact xor_lt (Nat.mod_lt _ (by decide)) (by decide))) rfl ?_
        refine go_on ?_
        rw [← e]
        exact e_round (j + 1) (sub_cons rfl rfl (sub_cons rfl rfl (sub_cons rfl rfl (sub_cons rfl rfl (sub_cons rfl rfl (sub_cons rfl rfl (sub_nil))))))) ⟨_, F.wk, by omega⟩ (by omega)
      · rw [if_neg g4] at e
        refine go_on ?_
        refine r_y (y_shlM (k := .u32) (a := x) (c := 1) rfl rfl (by decide) rfl) rfl ?_
        have hm : (x * 2 ^ 1) % lim .u32 = (x * 2) % 4294967296 := rfl
        rw [hm]
        refine go_on ?_
        rw [← e]
        exact e_round (j + 1) (sub_cons rfl rfl (sub_cons rfl rfl (sub_cons rfl rfl (sub_cons rfl rfl (sub_cons rfl rfl (sub_cons rfl rfl (sub_nil))))))) ⟨_, F.wk, by omega⟩ (by omega)
    · have hj4 : j = 4 := by omega
      subst hj4
      refine go_on ?_
      refine r_y (y_indexArr (i := i) rfl rfl (by omega)) rfl ?_
      refine f_store1 F rfl rfl rfl (fun w F => ?_) (hc := .any) (hi := by rw [tabC_len]; omega)
      have e : (tabC i).set i (.int .u32 (tabK (i * 268435456) 4)) = tabC (i + 1) := by rw [← tabN_eq]; exact tabC_set (by omega)
      rw [e] at F
      refine go_on ?_
      exact e_round (i + 1) (sub_cons rfl rfl (sub_cons rfl rfl (sub_cons rfl rfl (sub_nil)))) ⟨_, F.wk, by omega⟩ (by omega)
  · have hi16 : i = 16 := by omega
    subst hi16
    refine go_on ?_
    refine r_y (y_loadAll (vs := tabC 16) rfl F (Sel.there Sel.here) (tabC_len 16)) rfl ?_
    refine f_storeAll F rfl rfl (vs := tabC 16) rfl (fun w F => ?_) (hv := tabC_one 16) (hm := tabC_len 16) (hi := by rw [tabC_len, tabC_len])
    refine go_on ?_
    refine g_ret ?_
    (repeat (first | refine e_then_ret ?_ | refine e_block_ret ?_))
    refine retR1 (.inl rfl) rfl (res_aggF (cs := tabC 16) (by exact rfl) F (hk := tabC_len 16)) ?_
    exact F.fin ⟨rfl, rfl, rfl⟩

theorem u8_id {n : Nat} (h : n < 256) : (UInt8.ofNat n).toNat = n := by
  rw [UInt8.toNat_ofNat']
  exact Nat.mod_eq_of_lt h

theorem nib_in {x n : Nat} (hx : x < 4294967296) (hn : n < 16) : x / 2 ^ 28 < 16 ∧ ((x / 2 ^ 28) ^^^ n) < 16 := by
  have h1 : x / 2 ^ 28 < 16 := by omega
  exact ⟨h1, Nat.xor_lt_two_pow (n := 4) h1 hn⟩


theorem more_c {s : Nat} {v : Value} {b : List UInt8} (hh : s < 4294967296 ∧ b.length ≤ 1000000) : Con Try.prog 78 [.int .u32 s, v] [] [] [Fact.bytes v b] fun r T Φ => r = .int .u32 (crcMore s b) ∧ T = [] ∧ Φ = [] := by
  obtain ⟨h, hbl⟩ := hh
  refine con_of (fun O0 w0 F => ?_)
  refine tidy F (fun F => ?_)
  refine fn_of _ Try.func78 rfl (by kernel_rfl) Try.ntmps78 rfl ?_
  obtain ⟨va, vc, rfl, _⟩ := (F.bytes (v := v)).form
  refine go_on ?_
  refine f_call F rfl rfl table_c ?_
  clear F; rintro r O w T Φ ⟨rfl, rfl, rfl⟩ F0
  refine tidy F0 (fun F => ?_); clear F0
  refine go_on ?_
  refine f_decl F rfl (vs := tabC 16) rfl (tabC_len 16) (List.all_eq_true.1 (tabC_one 16)) ⟨_, rfl, rfl⟩ (fun q w F => ?_)
  refine go_on ?_
  refine r_y (y_not32 rfl h) rfl ?_
  refine go_on ?_
  refine g_loop (X := Nat × Nat) (fun y => [(5, dptr q), (6, .int .u32 y.2), (14, .slice va b.length vc), (15, .int .i64 b.length), (16, .int .i64 y.1)]) (fun y wr => ∃ O, Fr [] O0 w0 O wr [(2, Thing.cells q (tabC 16))] [Fact.bytes (.slice va b.length vc) b] ∧ y.1 ≤ b.length ∧ y.2 < 4294967296 ∧ (b.drop y.1).foldl crcB y.2 = b.foldl crcB (4294967295 ^^^ s)) (fun y => b.length - y.1) (0, 4294967295 ^^^ s) (sub_cons rfl rfl (sub_cons rfl rfl (sub_cons rfl rfl (sub_cons rfl rfl (sub_cons rfl rfl (sub_nil)))))) ⟨_, F.wk, Nat.zero_le _, xor_lt (by decide) h, rfl⟩ ?_
  clear F
  rintro ⟨i, z⟩ w ⟨O, F, hi, hx, hg⟩
  dsimp only at F hi hx hg ⊢
  refine go_on ?_
  refine g_dec rfl (fun g2 => ?_) (fun g2 => ?_)
  · have hi' : i < b.length := by omega
    rw [List.drop_eq_getElem_cons hi'] at hg
    refine go_on ?_
    obtain ⟨x, hx9, hc⟩ := ((F.bytes (xs := b))).atm hi'
    (first | subst hx9 | (injection hx9 with hx9; subst hx9))
    have F := F.fact (f := Fact.cell _ _) hc
    refine go_on ?_
    generalize b[i] = c at hg hc F ⊢
    refine r_y (y_shrN (k := .u8) (a := c.toNat) (c := 4) rfl rfl (by decide)) rfl ?_
    refine go_on ?_
    refine r_y (y_andN (k := .u8) (a := c.toNat) (b := 15) rfl rfl (by simp only [full]; exact c.toNat_lt) (by decide) (by simp only [lim]; exact Nat.lt_of_le_of_lt Nat.and_le_right (by decide))) rfl ?_
    refine r_y (y_buildA (cs := [_, _]) rfl rfl) rfl ?_
    have hn1 : c.toNat / 2 ^ 4 < 16 := by have := c.toNat_lt; omega
    have hn2 : c.toNat &&& 15 < 16 := Nat.lt_of_le_of_lt Nat.and_le_right (by decide)
    have hr1 := nib_in hx hn1
    have hr2 := nib_in (nib_lt z (c.toNat / 2 ^ 4)) hn2
    refine go_on ?_
    refine g_unroll 4 ?_; refine go_on ?_
    refine r_y (y_index_arr rfl rfl rfl (by decide) (by rfl)) rfl ?_; refine go_on ?_
    refine r_y (y_shlM (k := .u32) (a := z) (c := 4) rfl rfl (by decide) rfl) rfl ?_
    refine go_on ?_
    refine r_y (y_shrN (k := .u32) (a := z) (c := 28) rfl rfl (by decide)) rfl ?_
    refine go_on ?_
    rw [u8_id (n := z / 2 ^ 28) (by omega)]
    refine r_y (y_xorN (k := .u8) (a := z / 2 ^ 28) (b := (c.toNat / 2 ^ 4)) rfl rfl (by simp only [full]; omega) (by simp only [full]; omega) (by simp only [lim]; omega)) rfl ?_
    refine go_on ?_
    refine r_y (y_indexArr (i := (z / 2 ^ 28) ^^^ (c.toNat / 2 ^ 4)) rfl rfl (by omega)) rfl ?_
    refine r_y (y_loadF rfl F Sel.here (tabC_at (i := 16) (k := (z / 2 ^ 28) ^^^ (c.toNat / 2 ^ 4)) (by omega))) rfl ?_
    rw [if_pos (by omega)]
    refine r_y (y_xorN (k := .u32) (a := (z * 2 ^ 4) % lim .u32) (b := tabN ((z / 2 ^ 28) ^^^ (c.toNat / 2 ^ 4))) rfl rfl (Nat.mod_lt _ (by decide)) (tabN_lt _) (by exact nib_lt z (c.toNat / 2 ^ 4))) rfl ?_
    rw [show (((z * 2 ^ 4) % lim .u32) ^^^ tabN ((z / 2 ^ 28) ^^^ (c.toNat / 2 ^ 4))) = nib z (c.toNat / 2 ^ 4) from rfl]
    refine go_on ?_
    refine r_y (y_index_arr rfl rfl rfl (by decide) (by rfl)) rfl ?_; refine go_on ?_
    refine r_y (y_shlM (k := .u32) (a := (nib z (c.toNat / 2 ^ 4))) (c := 4) rfl rfl (by decide) rfl) rfl ?_
    refine go_on ?_
    refine r_y (y_shrN (k := .u32) (a := (nib z (c.toNat / 2 ^ 4))) (c := 28) rfl rfl (by decide)) rfl ?_
    refine go_on ?_
    rw [u8_id (n := (nib z (c.toNat / 2 ^ 4)) / 2 ^ 28) (by omega)]
    refine r_y (y_xorN (k := .u8) (a := (nib z (c.toNat / 2 ^ 4)) / 2 ^ 28) (b := (c.toNat &&& 15)) rfl rfl (by simp only [full]; omega) (by simp only [full]; omega) (by simp only [lim]; omega)) rfl ?_
    refine go_on ?_
    refine r_y (y_indexArr (i := ((nib z (c.toNat / 2 ^ 4)) / 2 ^ 28) ^^^ (c.toNat &&& 15)) rfl rfl (by omega)) rfl ?_
    refine r_y (y_loadF rfl F Sel.here (tabC_at (i := 16) (k := ((nib z (c.toNat / 2 ^ 4)) / 2 ^ 28) ^^^ (c.toNat &&& 15)) (by omega))) rfl ?_
    rw [if_pos (by omega)]
    refine r_y (y_xorN (k := .u32) (a := ((nib z (c.toNat / 2 ^ 4)) * 2 ^ 4) % lim .u32) (b := tabN (((nib z (c.toNat / 2 ^ 4)) / 2 ^ 28) ^^^ (c.toNat &&& 15))) rfl rfl (Nat.mod_lt _ (by decide)) (tabN_lt _) (by exact nib_lt (nib z (c.toNat / 2 ^ 4)) (c.toNat &&& 15))) rfl ?_
    rw [show ((((nib z (c.toNat / 2 ^ 4)) * 2 ^ 4) % lim .u32) ^^^ tabN (((nib z (c.toNat / 2 ^ 4)) / 2 ^ 28) ^^^ (c.toNat &&& 15))) = nib (nib z (c.toNat / 2 ^ 4)) (c.toNat &&& 15) from rfl]
    refine go_on ?_
    exact e_round (i + 1, crcB z c) (sub_cons rfl rfl (sub_cons rfl rfl (sub_cons rfl rfl (sub_cons rfl rfl (sub_cons rfl rfl (sub_nil)))))) ⟨_, F.wk, by simp only; omega, crcB_lt z c, hg⟩ (by simp only; omega)
  · have hi' : i = b.length := by omega
    subst hi'
    rw [List.drop_length] at hg
    have hg : z = b.foldl crcB (4294967295 ^^^ s) := hg
    refine go_on ?_
    refine r_y (y_not32 rfl hx) rfl ?_
    refine go_on ?_
    refine go_back ?_
    exact F.fin ⟨by rw [hg]; rfl, rfl, rfl⟩

theorem of_c {v : Value} {b : List UInt8} (h : b.length ≤ 1000000) : Con Try.prog 71 [v] [] [] [Fact.bytes v b] fun r T Φ => r = .int .u32 (crcOf b) ∧ T = [] ∧ Φ = [] := by
  refine con_of (fun O0 w0 F => ?_)
  refine tidy F (fun F => ?_)
  refine fn_of _ Try.func71 rfl (by kernel_rfl) Try.ntmps71 rfl ?_
  refine go_on ?_
  refine f_call F rfl rfl (more_c (s := 0)) ?_
  clear F; rintro r O w T Φ ⟨rfl, rfl, rfl⟩ F0
  refine tidy F0 (fun F => ?_); clear F0
  refine go_on ?_
  refine go_back ?_
  exact F.fin ⟨rfl, rfl, rfl⟩

theorem bclone_c {v : Value} {b : List UInt8} (h : b.length ≤ 1000000) : Con Try.prog 36 [v] [] [] [Fact.bytes v b] fun r T Φ => T = [Thing.buf 1 r b.length (bytesV b)] ∧ Φ = [] :=
  con0_buf fun O w hO hF => sclone_ok hO (hF (Fact.bytes v b) (by simp)) (by omega)

theorem sealed_c {v : Value} {b : List UInt8} (h : b.length ≤ 1000000) : Con Try.prog 58 [v] [] [] [Fact.bytes v b] fun r T Φ => T = [Thing.buf 1 r (sealB b).length (bytesV (sealB b))] ∧ Φ = [] := by
  refine con_of (fun O0 w0 F => ?_)
  refine tidy F (fun F => ?_)
  refine fn_of _ Try.func58 rfl (by kernel_rfl) Try.ntmps58 rfl ?_
  refine go_on ?_
  refine f_call F rfl rfl of_c ?_
  clear F; rintro r O w T Φ ⟨rfl, rfl, rfl⟩ F0
  refine tidy F0 (fun F => ?_); clear F0
  refine go_on ?_
  refine go_on ?_
  refine f_call F rfl rfl bclone_c ?_
  clear F; rintro r O w T Φ ⟨rfl, rfl⟩ F0
  refine tidy F0 (fun F => ?_); clear F0
  refine go_on ?_
  refine r_y (y_shrN (k := .u32) (a := crcOf b) (c := 24) rfl rfl (by decide)) rfl ?_
  refine go_on ?_
  refine r_y (y_shrN (k := .u32) (a := crcOf b) (c := 16) rfl rfl (by decide)) rfl ?_
  refine go_on ?_
  refine r_y (y_shrN (k := .u32) (a := crcOf b) (c := 8) rfl rfl (by decide)) rfl ?_
  refine go_on ?_
  have hcs : [Value.int .u8 (UInt8.ofNat (crcOf b / 2 ^ 24)).toNat, Value.int .u8 (UInt8.ofNat (crcOf b / 2 ^ 16)).toNat, Value.int .u8 (UInt8.ofNat (crcOf b / 2 ^ 8)).toNat, Value.int .u8 (UInt8.ofNat (crcOf b)).toNat] = bytesV (be 4 (crcOf b)) := by simp [be, bytesV, byteV]
  refine f_buildSlice (cs := [Value.int .u8 (UInt8.ofNat (crcOf b / 2 ^ 24)).toNat, Value.int .u8 (UInt8.ofNat (crcOf b / 2 ^ 16)).toNat, Value.int .u8 (UInt8.ofNat (crcOf b / 2 ^ 8)).toNat, Value.int .u8 (UInt8.ofNat (crcOf b)).toNat]) F rfl rfl rfl rfl (fun q w F => ?_)
  rw [hcs] at F
  refine go_on ?_
  refine f_append F rfl rfl rfl (src_cb (q := q) (m := 4) (cap := 4) (news := bytesV (be 4 (crcOf b))) (rest := []) (by rw [List.append_nil]; exact F.thing Sel.here) (by simp [bytesV]) one_bytes) (fun r w O F => ?_)
  have e : bytesV b ++ bytesV (be 4 (crcOf b)) = bytesV (sealB b) := by simp [bytesV, sealB]
  have el : b.length + 4 = (sealB b).length := by simp [sealB]
  rw [e, el] at F
  refine go_on ?_
  refine go_back ?_
  exact F.fin ⟨rfl, rfl⟩

theorem equal_c {u v : Value} {xs ys : List UInt8} (h : xs.length ≤ 1000000) : Con Try.prog 59 [u, v] [] [] [Fact.bytes u xs, Fact.bytes v ys] fun r T Φ => r = .bool (decide (xs = ys)) ∧ T = [] ∧ Φ = [] := by
  refine con_of (fun O0 w0 F => ?_)
  refine tidy F (fun F => ?_)
  refine fn_of _ Try.func59 rfl (by kernel_rfl) Try.ntmps59 rfl ?_
  obtain ⟨ua, uc, rfl, _⟩ := (F.bytes (v := u) (xs := xs)).form
  obtain ⟨va, vc, rfl, _⟩ := (F.bytes (v := v) (xs := ys)).form
  by_cases g : xs.length = ys.length
  · refine go_on ?_
    refine g_loop (X := Nat) (fun y => [(0, .slice ua xs.length uc), (1, .slice va ys.length vc), (12, .int .i64 xs.length), (13, .int .i64 y)]) (fun y wr => ∃ O, Fr [] O0 w0 O wr [] [Fact.bytes (.slice ua xs.length uc) xs, Fact.bytes (.slice va ys.length vc) ys] ∧ y ≤ xs.length ∧ xs.take y = ys.take y) (fun y => xs.length - y) 0 (sub_cons rfl rfl (sub_cons rfl rfl (sub_cons rfl rfl (sub_cons rfl rfl (sub_nil))))) ⟨_, F.wk, Nat.zero_le _, rfl⟩ ?_
    clear F
    rintro i w ⟨O, F, hi, he⟩
    refine go_on ?_
    refine g_dec rfl (fun g2 => ?_) (fun g2 => ?_)
    · have hi' : i < xs.length := by omega
      have hj' : i < ys.length := by omega
      obtain ⟨x1, rfl, hc1⟩ := (F.bytes (v := .slice ua xs.length uc) (xs := xs)).atm hi'
      have F := F.fact (f := Fact.cell _ _) hc1
      obtain ⟨x2, rfl, hc2⟩ := (F.bytes (v := .slice va ys.length vc) (xs := ys)).atm hj'
      have F := F.fact (f := Fact.cell _ _) hc2
      refine go_on ?_
      refine f_drawA F [] [(0, true), (1, true), (2, true), (3, true), (4, true), (5, true), (6, true), (7, true), (8, true)] (by kernel_rfl) (by kernel_rfl) (fun w F hS => ?_); refine go_look ?_
      refine rd_done ?_; refine go_on ?_
      refine g_ndec rfl (fun e => ?_) (fun e => ?_)
      · have hne : xs ≠ ys := by
          rintro rfl
          exact e rfl
        refine go_on ?_
        refine go_back ?_
        exact F.fin ⟨by rw [decide_eq_false hne], rfl, rfl⟩
      · refine go_on ?_
        refine e_round (i + 1) (sub_cons rfl rfl (sub_cons rfl rfl (sub_cons rfl rfl (sub_cons rfl rfl (sub_nil))))) ⟨_, F.wk, by omega, ?_⟩ (by omega)
        rw [List.take_succ_eq_append_getElem hi', List.take_succ_eq_append_getElem hj', he]
        have e2 : xs[i].toNat = ys[i].toNat := by omega
        have : xs[i] = ys[i] := UInt8.toNat_inj.1 e2
        rw [this]
    · have hi' : i = xs.length := by omega
      have hxy : xs = ys := by
        subst hi'
        rw [List.take_length, g, List.take_length] at he
        exact he
      refine go_on ?_
      refine go_back ?_
      exact F.fin ⟨by rw [decide_eq_true hxy], rfl, rfl⟩
  · have hne : xs ≠ ys := fun h => g (by rw [h])
    refine go_on ?_
    refine go_back ?_
    exact F.fin ⟨by rw [decide_eq_false hne], rfl, rfl⟩

def rightB (b : List UInt8) : Bool := decide (4 ≤ b.length ∧ sealB (b.take (b.length - 4)) = b)
theorem right_c {v : Value} {b : List UInt8} (h : b.length ≤ 1000000) : Con Try.prog 50 [v] [] [] [Fact.bytes v b] fun r T Φ => r = .bool (rightB b) ∧ T = [] ∧ Φ = [] := by
  refine con_of (fun O0 w0 F => ?_)
  refine tidy F (fun F => ?_)
  refine fn_of _ Try.func50 rfl (by kernel_rfl) Try.ntmps50 rfl ?_
  obtain ⟨va, vc, rfl, hvc⟩ := (F.bytes (v := v)).form
  unfold rightB
  refine go_on ?_
  by_cases g : 4 ≤ b.length
  · refine go_on ?_
    obtain ⟨n, hn⟩ : ∃ n : Nat, (b.length : Int) - 4 = n := ⟨b.length - 4, by omega⟩
    have hn2 : b.length - 4 = n := by omega
    rw [hn, hn2]
    refine r_y (y_slice (li := 0) (hi' := (n : Nat)) (mi := (n : Nat)) rfl rfl rfl rfl (by simp) (by omega)) rfl ?_
    have hcut := Bytes.cut (F.bytes (v := .slice va b.length vc) (xs := b)) (l := 0) (h := n) (k := n) (by omega) (Nat.zero_le _) (Nat.le_refl _) (by omega)
    have F := F.factB (v := cutV va 1 (0 : Int).toNat ((n : Nat) : Int).toNat ((n : Nat) : Int).toNat) (xs := b.take n) (by simpa using hcut)
    have hl : (b.take n).length ≤ 1000000 := by simp; omega
    refine go_on ?_
    refine f_call F rfl rfl (sealed_c (b := b.take n)) ?_
    clear F; rintro r O w T Φ ⟨rfl, rfl⟩ F0
    refine tidy F0 (fun F => ?_); clear F0
    refine go_on ?_
    obtain ⟨O, F⟩ := F.frzB
    refine go_on ?_
    refine f_call F rfl rfl (equal_c (xs := sealB (b.take n)) (ys := b)) ?_ (hp := (by simp [sealB]; omega))
    clear F; rintro r O w T Φ ⟨rfl, rfl, rfl⟩ F0
    refine tidy F0 (fun F => ?_); clear F0
    refine go_on ?_
    refine go_back ?_
    refine F.fin ⟨?_, rfl, rfl⟩
    have : decide (4 ≤ b.length ∧ sealB (b.take n) = b) = decide (sealB (b.take n) = b) := by
      rw [decide_eq_decide]
      exact ⟨fun h => h.2, fun h => ⟨g, h⟩⟩
    rw [this]
  · have hne : ¬ (4 ≤ b.length ∧ sealB (b.take (b.length - 4)) = b) := fun h => g h.1
    rw [decide_eq_false hne]
    refine go_on ?_
    refine go_back ?_
    exact F.fin ⟨rfl, rfl, rfl⟩
end Go.Proofs.Ytmohjmfcbhpldaa
