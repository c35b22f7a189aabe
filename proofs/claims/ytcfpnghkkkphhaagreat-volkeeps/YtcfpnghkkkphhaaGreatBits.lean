/- What the functions of bits do: which of some things are taken. -/
import Derived.Test.YtcfpnghkkkphhaaGreatXdrn
import Derived.Test.YtcfpnghkkkphhaaGreatGkGo
import Derived.Test.YtcfpnghkkkphhaaGreatGkArr
import Derived.Test.YtcfpnghkkkphhaaGreatGkScope
namespace Go.Proofs.YtcfpnghkkkphhaaGreat
open Gk Go
set_option linter.unusedVariables false
set_option maxHeartbeats 4000000
set_option maxRecDepth 4000
set_option linter.unusedSimpArgs false
attribute [local irreducible] Int.decLt Int.decLe Int.decEq Int.instDecidableEq Gk.Rnds Gk.E Gk.G Gk.R Gk.RD Gk.RX Gk.RO Gk.Y Gk.Ent Gk.Sat Gk.Round Gk.After Gk.Cell Gk.Sl Gk.SlA Gk.CB Gk.OK Gk.FnC Gk.Bytes Gk.BytesL Gk.StrL Gk.Buf Gk.MapI
/-- A thing's bit in its byte. -/
def maskN (i : Nat) : Nat := 2 ^ (7 - i % 8)
theorem maskN_lt (i : Nat) : maskN i < 256 := by
  unfold maskN
  have : 2 ^ (7 - i % 8) ≤ 2 ^ 7 := Nat.pow_le_pow_right (by omega) (by omega)
  omega
theorem mask_shr {k : Nat} (h : k < 8) : 128 / 2 ^ k = 2 ^ (7 - k) := by
  have : (128 : Nat) = 2 ^ (7 - k) * 2 ^ k := by rw [← Nat.pow_add]; rw [show 7 - k + k = 7 by omega]
  rw [this, Nat.mul_div_cancel _ (Nat.two_pow_pos k)]
theorem and_pow (x k : Nat) : x &&& 2 ^ k = if x.testBit k then 2 ^ k else 0 := by
  apply Nat.eq_of_testBit_eq
  intro j
  rw [Nat.testBit_and, Nat.testBit_two_pow]
  by_cases e : k = j
  · subst e
    cases h : x.testBit k <;> simp [Nat.testBit_two_pow]
  · cases h : x.testBit k <;> simp [Nat.testBit_two_pow, e]
theorem bmask_c {i : Nat} (h : i ≤ 1000000000) : Con Tryz.prog 55 [.int .i64 i] [] [] [] fun r T Φ => r = .int .u8 (maskN i) ∧ T = [] ∧ Φ = [] := by
  refine con_of (fun O0 w0 F => ?_)
  refine tidy F (fun F => ?_)
  refine fn_of _ Tryz.func55 rfl (by kernel_rfl) Tryz.ntmps55 rfl ?_
  refine go_on ?_
  refine r_y (y_rem64 rfl rfl (by omega)) rfl ?_
  rw [show ((i : Int) % 8) = ((i % 8 : Nat) : Int) from by omega]
  refine r_y (y_shrN (a := 128) (c := i % 8) rfl rfl (by show i % 8 ≤ 8; omega)) rfl ?_
  rw [mask_shr (Nat.mod_lt _ (by omega))]
  refine go_on ?_
  refine go_back ?_
  exact F.fin ⟨rfl, rfl, rfl⟩
/-- Is one taken? -/
def hasB (b : List UInt8) (i : Nat) : Bool := (b.getD (i / 8) 0).toNat.testBit (7 - i % 8)
theorem hasB_out {b : List UInt8} {i : Nat} (h : b.length ≤ i / 8) : hasB b i = false := by
  unfold hasB
  rw [List.getD_eq_getElem?_getD, List.getElem?_eq_none h]
  simp
theorem bhas_c {u : Value} {b : List UInt8} {i : Nat} (h : i ≤ 1000000000 ∧ b.length ≤ 1000000000) : Con Tryz.prog 35 [u, .int .i64 i] [] [] [Fact.bytes u b] fun r T Φ => r = .bool (hasB b i) ∧ T = [] ∧ Φ = [] := by
  obtain ⟨h1, h2⟩ := h
  refine con_of (fun O0 w0 F => ?_)
  refine tidy F (fun F => ?_)
  refine fn_of _ Tryz.func35 rfl (by kernel_rfl) Tryz.ntmps35 rfl ?_
  obtain ⟨a, c, rfl, _⟩ := (F.bytes (v := u)).form
  refine go_on ?_
  by_cases g : i / 8 < b.length
  · obtain ⟨x, hx, hc⟩ := (F.bytes (xs := b)).atm g
    subst hx
    have F := F.fact (f := Fact.cell _ _) hc
    have hl := b[i / 8].toNat_lt
    have hm := maskN_lt i
    have e : hasB b i = !decide (((b[i / 8].toNat &&& maskN i : Nat) : Int) = 0) := by
      unfold hasB maskN
      rw [show b.getD (i / 8) 0 = b[i / 8] from by simp [List.getD_eq_getElem?_getD, g], and_pow]
      have := Nat.two_pow_pos (7 - i % 8)
      cases (b[i / 8].toNat.testBit (7 - i % 8)) with
      | true => rw [if_pos rfl, decide_eq_false (by omega)]; rfl
      | false => rw [if_neg (by simp)]; simp
    refine f_draw [] F [] [(0, true), (1, true), (2, true), (3, true), (4, true), (5, true), (6, true), (7, true), (8, true), (9, true), (10, true), (11, true), (12, true), (13, true), (14, true), (15, true), (16, false), (17, true), (18, true), (19, true), (20, true)] (by kernel_rfl) (by kernel_rfl) (fun w F hS => ?_); refine go_look ?_
    refine rd_open rfl ?_; (first | refine ro_n ?_ | refine ro_g rfl rfl ?_); refine rx_y rfl (fun _ hw => y_quo64 rfl rfl ⟨by omega, by omega, by omega⟩) (by assumption) ?_; refine go_look ?_
    rw [show ((i : Int) / 8) = ((i / 8 : Nat) : Int) from by omega]
    refine go_look ?_
    refine rd_open rfl ?_; (first | refine ro_n ?_ | refine ro_g rfl rfl ?_); refine rx_y rfl (fun _ hw => y_quo64 rfl rfl ⟨by omega, by omega, by omega⟩) (by assumption) ?_; refine go_look ?_
    rw [show ((i : Int) / 8) = ((i / 8 : Nat) : Int) from by omega]
    refine go_look ?_
    refine rd_do rfl ?_
    (try refine r_go rfl rfl ?_)
    refine f_call F rfl rfl (bmask_c (i := i)) ?_ (hp := h1)
    clear F; rintro r O w T Φ ⟨rfl, rfl, rfl⟩ F0
    refine tidy F0 (fun F => ?_); clear F0
    refine r_nil ?_; refine e_afterF F (fun hS => ?_); refine go_look ?_
    refine rd_open rfl ?_; (first | refine ro_n ?_ | refine ro_g rfl rfl ?_); refine rx_y rfl (fun _ hw => y_andN (k := .u8) rfl rfl (by show _ < 256; omega) (by show _ < 256; omega) (by show _ < 256; have := @Nat.and_le_right b[i / 8].toNat (maskN i); omega)) (by assumption) ?_; refine go_look ?_
    refine rd_done ?_; refine go_on ?_
    refine go_back ?_
    exact F.fin ⟨by rw [e], rfl, rfl⟩
  · refine f_draw [] F [] [(0, true), (1, true), (2, true), (3, true), (4, true), (5, true), (6, true), (7, true), (8, true), (9, true), (10, true), (11, true), (12, true), (13, true), (14, true), (15, true), (16, false), (17, true), (18, true), (19, true), (20, true)] (by kernel_rfl) (by kernel_rfl) (fun w F hS => ?_); refine go_look ?_
    refine rd_open rfl ?_; (first | refine ro_n ?_ | refine ro_g rfl rfl ?_); refine rx_y rfl (fun _ hw => y_quo64 rfl rfl ⟨by omega, by omega, by omega⟩) (by assumption) ?_; refine go_look ?_
    rw [show ((i : Int) / 8) = ((i / 8 : Nat) : Int) from by omega]
    refine go_look ?_
    refine rd_do rfl ?_; (first | refine r_pass rfl rfl rfl ?_ | refine r_passu rfl rfl rfl ?_); refine r_nil ?_; refine e_afterF F (fun hS => ?_); refine go_look ?_
    refine rd_done ?_; refine go_on ?_
    refine go_back ?_
    exact F.fin ⟨by rw [hasB_out (by omega)], rfl, rfl⟩
theorem sclone_c {v : Value} {b : List UInt8} (h : b.length ≤ 1000000000) : Con Tryz.prog 52 [v] [] [] [Fact.bytes v b] fun r T Φ => T = [Thing.buf 1 r b.length (bytesV b)] ∧ Φ = [] :=
  con0_buf fun O w hO hF => sclone_ok hO (hF (Fact.bytes v b) (by simp)) (by omega)
/-- Bytes without noughts at the end. -/
def cutN (b : List UInt8) : Nat → Nat
  | 0 => 0
  | n + 1 => if b.getD n 0 = 0 then cutN b n else n + 1
theorem cutN_le (b : List UInt8) : ∀ n, cutN b n ≤ n
  | 0 => Nat.le_refl _
  | n + 1 => by
    unfold cutN
    split
    · exact Nat.le_succ_of_le (cutN_le b n)
    · exact Nat.le_refl _
def cutB0 (b : List UInt8) : List UInt8 := b.take (cutN b b.length)
theorem bcut_c {u : Value} {b : List UInt8} (h : b.length ≤ 1000000000) : Con Tryz.prog 74 [u] [] [] [Fact.bytes u b] fun r T Φ => T = [Thing.buf 1 r (cutB0 b).length (bytesV (cutB0 b))] ∧ Φ = [] := by
  refine con_of (fun O0 w0 F => ?_)
  refine tidy F (fun F => ?_)
  refine fn_of _ Tryz.func74 rfl (by kernel_rfl) Tryz.ntmps74 rfl ?_
  obtain ⟨a, c, rfl, hcap⟩ := (F.bytes (v := u)).form
  refine go_on ?_
  refine g_loop (X := Nat) (fun n => [(0, .slice a b.length c), (3, .int .i64 n)]) (fun n wr => ∃ O, Fr [] O0 w0 O wr [] [Fact.bytes (.slice a b.length c) b] ∧ n ≤ b.length ∧ cutN b b.length = cutN b n) (fun n => n) b.length (sub_cons rfl rfl (sub_cons rfl rfl (sub_nil))) ⟨_, F.wk, Nat.le_refl _, rfl⟩ ?_
  clear F
  rintro n w ⟨O, F, hn, hcn⟩
  cases n with
  | zero =>
    refine go_on ?_
    refine r_y (y_slice (li := 0) (hi' := (0 : Nat)) (mi := (0 : Nat)) rfl rfl rfl rfl (by simp) (by omega)) rfl ?_
    have hcut := Bytes.cut (F.bytes (v := .slice a b.length c) (xs := b)) (l := 0) (h := 0) (k := 0) (by omega) (Nat.zero_le _) (Nat.le_refl _) (by omega)
    have F := F.factB (v := cutV a 1 (0 : Int).toNat ((0 : Nat) : Int).toNat ((0 : Nat) : Int).toNat) (xs := b.take (0)) (by simpa using hcut)
    have hl : (b.take 0).length ≤ 1000000000 := by simp
    have e : cutB0 b = b.take (0) := by unfold cutB0; rw [hcn]; simp [cutN]
    refine go_on ?_
    refine f_call F rfl rfl (sclone_c (b := b.take (0))) ?_ (hp := hl)
    clear F; rintro r O w T Φ ⟨rfl, rfl⟩ F0
    refine tidy F0 (fun F => ?_); clear F0
    rw [e]
    refine go_on ?_
    refine go_back ?_
    exact F.fin ⟨rfl, rfl⟩
  | succ k =>
    have hk : k < b.length := by omega
    obtain ⟨x, hx, hc⟩ := (F.bytes (xs := b)).atm hk
    subst hx
    have F := F.fact (f := Fact.cell _ _) hc
    have eb : b.getD k 0 = b[k] := by simp [List.getD_eq_getElem?_getD, hk]
    refine go_on ?_
    rw [show (((k + 1 : Nat) : Int) - 1) = (k : Nat) from by omega]
    refine go_on ?_
    by_cases z : b[k] = 0
    · have z2 : b[k].toNat = 0 := by rw [z]; rfl
      have e0 : cutN b (k + 1) = cutN b k := if_pos (by rw [eb]; exact z)
      refine go_on ?_
      rw [show (((k + 1 : Nat) : Int) - 1) = (k : Nat) from by omega]
      exact e_round k (sub_cons rfl rfl (sub_cons rfl rfl (sub_nil))) ⟨_, F.wk, by omega, by rw [hcn, e0]⟩ (by omega)
    · have z2 : ¬ b[k].toNat = 0 := fun h => z (UInt8.toNat_inj.1 h)
      have hcn : cutN b b.length = k + 1 := by rw [hcn]; exact if_neg (by rw [eb]; exact z)
      refine go_on ?_
      refine r_y (y_slice (li := 0) (hi' := (k + 1 : Nat)) (mi := (k + 1 : Nat)) rfl rfl rfl rfl (by simp) (by omega)) rfl ?_
      have hcut := Bytes.cut (F.bytes (v := .slice (some x) b.length c) (xs := b)) (l := 0) (h := k + 1) (k := k + 1) (by omega) (Nat.zero_le _) (Nat.le_refl _) (by omega)
      have F := F.factB (v := cutV (some x) 1 (0 : Int).toNat ((k + 1 : Nat) : Int).toNat ((k + 1 : Nat) : Int).toNat) (xs := b.take (k + 1)) (by simpa using hcut)
      have hl : (b.take (k + 1)).length ≤ 1000000000 := by simp; omega
      have e : cutB0 b = b.take (k + 1) := by unfold cutB0; rw [hcn]
      refine go_on ?_
      refine f_call F rfl rfl (sclone_c (b := b.take (k + 1))) ?_ (hp := hl)
      clear F; rintro r O w T Φ ⟨rfl, rfl⟩ F0
      refine tidy F0 (fun F => ?_); clear F0
      rw [e]
      refine go_on ?_
      refine go_back ?_
      exact F.fin ⟨rfl, rfl⟩
/-- How many are taken. -/
def cntB (b : List UInt8) : Nat → Nat
  | 0 => 0
  | k + 1 => cntB b k + (if hasB b k then 1 else 0)
theorem cntB_le (b : List UInt8) : ∀ n, cntB b n ≤ n
  | 0 => Nat.le_refl _
  | n + 1 => by
    unfold cntB
    have := cntB_le b n
    split <;> omega
theorem cntB_out (b : List UInt8) : ∀ n, cntB b n = cntB b (if 8 * b.length < n then 8 * b.length else n)
  | 0 => by rw [if_neg (by omega)]
  | n + 1 => by
    have ih := cntB_out b n
    by_cases h : 8 * b.length < n + 1
    · rw [if_pos h]
      have e : cntB b (n + 1) = cntB b n := by
        rw [cntB, hasB_out (by omega)]
        rfl
      rw [e, ih]
      by_cases h2 : 8 * b.length < n
      · rw [if_pos h2]
      · rw [if_neg h2, show n = 8 * b.length by omega]
    · rw [if_neg h]
theorem bcount_c {u : Value} {b : List UInt8} {n : Nat} (h : n ≤ 1000000000 ∧ b.length ≤ 100000000) : Con Tryz.prog 33 [u, .int .i64 n] [] [] [Fact.bytes u b] fun r T Φ => r = .int .i64 (cntB b n) ∧ T = [] ∧ Φ = [] := by
  obtain ⟨h1, h2⟩ := h
  refine con_of (fun O0 w0 F => ?_)
  refine tidy F (fun F => ?_)
  refine fn_of _ Tryz.func33 rfl (by kernel_rfl) Tryz.ntmps33 rfl ?_
  obtain ⟨a, c, rfl, hcap⟩ := (F.bytes (v := u)).form
  rw [cntB_out b n]
  refine go_on ?_
  refine r_y (y_max2 rfl rfl) rfl ?_
  rw [if_neg (show ¬ (0 : Int) > (n : Int) by omega)]
  refine go_on ?_
  refine r_y (y_mul64 rfl rfl (by omega)) rfl ?_
  refine r_y (y_min2 rfl rfl) rfl ?_
  obtain ⟨m, hm⟩ : ∃ m : Nat, (if 8 * b.length < n then 8 * b.length else n) = m := ⟨_, rfl⟩
  have hm2 : (if (8 * (b.length : Int)) < (n : Int) then 8 * (b.length : Int) else (n : Int)) = (m : Int) := by
    rw [← hm]
    split <;> split <;> omega
  rw [hm, hm2]
  have hmn : m ≤ 1000000000 := by rw [← hm]; split <;> omega
  refine go_on ?_
  refine g_loop (X := Nat) (fun k => [(0, .slice a b.length c), (5, .int .i64 (cntB b k)), (12, .int .i64 m), (13, .int .i64 k)]) (fun k wr => ∃ O, Fr [] O0 w0 O wr [] [Fact.bytes (.slice a b.length c) b] ∧ k ≤ m) (fun k => m - k) 0 (sub_cons rfl rfl (sub_cons rfl rfl (sub_cons rfl rfl (sub_cons rfl rfl (sub_nil))))) ⟨_, F.wk, Nat.zero_le _⟩ ?_
  clear F
  rintro k w ⟨O, F, hk⟩
  have hcl := cntB_le b k
  refine go_on ?_
  refine g_dec rfl (fun g => ?_) (fun g => ?_)
  · refine go_on ?_
    refine f_call F rfl rfl (bhas_c (b := b) (i := k)) ?_ (hp := ⟨by omega, by omega⟩)
    clear F; rintro r O w T Φ ⟨rfl, rfl, rfl⟩ F0
    refine tidy F0 (fun F => ?_); clear F0
    cases hb : hasB b k with
    | true =>
      have e : cntB b (k + 1) = cntB b k + 1 := by rw [cntB, hb]; rfl
      refine go_on ?_
      exact e_round (k + 1) (by rw [e]; exact (sub_cons rfl rfl (sub_cons rfl rfl (sub_cons rfl rfl (sub_cons rfl rfl (sub_nil)))))) ⟨_, F.wk, by omega⟩ (by omega)
    | false =>
      have e : cntB b (k + 1) = cntB b k := by rw [cntB, hb]; rfl
      refine go_on ?_
      exact e_round (k + 1) (by rw [e]; exact (sub_cons rfl rfl (sub_cons rfl rfl (sub_cons rfl rfl (sub_cons rfl rfl (sub_nil)))))) ⟨_, F.wk, by omega⟩ (by omega)
  · obtain rfl : m = k := by omega
    refine go_on ?_
    refine go_back ?_
    exact F.fin ⟨rfl, rfl, rfl⟩
/-! ### one is taken, or not -/
def turnN (x : Nat) (i : Nat) (t : Bool) : Nat := if t then x ||| maskN i else x &&& (255 - maskN i)
theorem or_lt8 {x y : Nat} (hx : x < 256) (hy : y < 256) : x ||| y < 256 := Nat.or_lt_two_pow (n := 8) hx hy
theorem turnN_lt {x : Nat} (hx : x < 256) (i : Nat) (t : Bool) : turnN x i t < 256 := by
  unfold turnN
  have := maskN_lt i
  split
  · exact or_lt8 hx this
  · have := @Nat.and_le_left x (255 - maskN i)
    omega
theorem y_andNot8 {P : Program} {ρ : Env} {w : World} {T yT : TypeId} {x y : Operand} {a b : Nat} (hx : evo ρ x = some (.int .u8 a)) (hy : evo ρ y = some (.int .u8 b)) (ha : a < 256) (hb : b < 256) :
    Y P ρ w (.binOp .andNot T x y yT) (.int .u8 ((a &&& (255 - b) : Nat) : Int)) := by
  refine y_arith hx hy (by simp) ?_
  have e : (BitVec.ofInt 8 (a : Int) &&& ~~~ BitVec.ofInt 8 (b : Int)).toNat = a &&& (255 - b) := by
    rw [BitVec.toNat_and, BitVec.toNat_not, BitVec.ofInt_natCast, BitVec.toNat_ofNat, BitVec.ofInt_natCast, BitVec.toNat_ofNat, Nat.mod_eq_of_lt ha, Nat.mod_eq_of_lt hb]
  have hl : IntKind.u8.wrap (((a &&& (255 - b)) : Nat) : Int) = ((a &&& (255 - b) : Nat) : Int) := wrap_lim (by simp only [lim]; have := @Nat.and_le_left a (255 - b); omega)
  simp only [binOp, Op.intBits, ne_eq, not_true_eq_false, if_false]
  show Result.ok (Value.int .u8 (IntKind.u8.wrap ((BitVec.ofInt 8 (a : Int) &&& ~~~ BitVec.ofInt 8 (b : Int)).toNat : Int))) w = _
  rw [e, hl]
theorem bturn_c {x i q5 q4 : Nat} {t : Bool} (h : x < 256 ∧ i ≤ 1000000000) : Con Tryz.prog 75 [.int .u8 x, .pointer (some ⟨q5, 0, none⟩), .pointer (some ⟨q4, 0, none⟩)] [] [Thing.cells q5 [.bool t], Thing.cells q4 [.int .i64 i]] [] fun r T Φ => r = .int .u8 (turnN x i t) ∧ T = [] ∧ Φ = [] := by
  obtain ⟨h1, h2⟩ := h
  have hm := maskN_lt i
  refine con_of (fun O0 w0 F => ?_)
  refine tidy F (fun F => ?_)
  refine fn_of _ Tryz.func75 rfl (by kernel_rfl) Tryz.ntmps75 rfl ?_
  cases t with
  | true =>
    refine go_on ?_
    refine f_call F rfl rfl (bmask_c (i := i)) ?_ (hp := h2)
    clear F; rintro r O w T Φ ⟨rfl, rfl, rfl⟩ F0
    refine tidy F0 (fun F => ?_); clear F0
    refine go_on ?_
    refine r_y (y_orN (k := .u8) rfl rfl (by show _ < 256; omega) (by show _ < 256; omega) (by show _ < 256; exact or_lt8 h1 hm)) rfl ?_
    refine go_on ?_
    refine go_back ?_
    exact F.fin ⟨rfl, rfl, rfl⟩
  | false =>
    refine go_on ?_
    refine f_call F rfl rfl (bmask_c (i := i)) ?_ (hp := h2)
    clear F; rintro r O w T Φ ⟨rfl, rfl, rfl⟩ F0
    refine tidy F0 (fun F => ?_); clear F0
    refine go_on ?_
    refine r_y (y_andNot8 rfl rfl h1 hm) rfl ?_
    refine go_on ?_
    refine go_back ?_
    exact F.fin ⟨rfl, rfl, rfl⟩
def padB (b : List UInt8) (n : Nat) : List UInt8 := b ++ List.replicate (n - b.length) 0
def withB (b : List UInt8) (i : Nat) (t : Bool) : List UInt8 := if t = false ∧ b.length ≤ i / 8 then cutB0 b else cutB0 ((padB b (i / 8 + 1)).set (i / 8) (UInt8.ofNat (turnN ((padB b (i / 8 + 1)).getD (i / 8) 0).toNat i t)))
theorem padB_len (b : List UInt8) (n : Nat) : (padB b n).length = if b.length < n then n else b.length := by
  unfold padB
  rw [List.length_append, List.length_replicate]
  split <;> omega
theorem cutB0_len (b : List UInt8) : (cutB0 b).length ≤ b.length := by
  unfold cutB0
  rw [List.length_take]
  omega
theorem bwith_c {u : Value} {b : List UInt8} {i : Nat} {t : Bool} (h : i ≤ 1000000 ∧ b.length ≤ 1000000) : Con Tryz.prog 62 [u, .int .i64 i, .bool t] [] [] [Fact.bytes u b] fun r T Φ => T = [Thing.buf 1 r (withB b i t).length (bytesV (withB b i t))] ∧ Φ = [] := by
  obtain ⟨h1, h2⟩ := h
  refine con_of (fun O0 w0 F => ?_)
  refine tidy F (fun F => ?_)
  refine fn_of _ Tryz.func62 rfl (by kernel_rfl) Tryz.ntmps62 rfl ?_
  obtain ⟨ua, uc, rfl, _⟩ := (F.bytes (v := u)).form
  refine go_on ?_
  (first | refine f_box1 F rfl rfl (fun q4 w F => ?_) | refine f_boxN F rfl rfl (fun q4 w F => ?_)); refine go_on ?_
  refine go_on ?_
  (first | refine f_box1 F rfl rfl (fun q5 w F => ?_) | refine f_boxN F rfl rfl (fun q5 w F => ?_)); refine go_on ?_
  refine go_on ?_
  refine f_call F rfl rfl (sclone_c (b := b)) ?_ (hp := (by omega))
  clear F; rintro r O w T Φ ⟨rfl, rfl⟩ F0
  refine tidy F0 (fun F => ?_); clear F0
  obtain ⟨ra, rc, rfl, _⟩ := (F.bufAt (v := r)).form
  by_cases c : t = false ∧ b.length ≤ i / 8
  · obtain ⟨rfl, c2⟩ := id c
    have e : withB b i false = cutB0 b := by unfold withB; rw [if_pos c]
    rw [e]
    obtain ⟨O, F⟩ := F.frzB
    refine go_on ?_
    refine r_y (y_quo64 rfl rfl ⟨by omega, by omega, by omega⟩) rfl ?_
    rw [show ((i : Int) / 8) = ((i / 8 : Nat) : Int) from by omega]
    refine go_on ?_
    refine f_call F rfl rfl (bcut_c (u := .slice ra b.length rc) (b := b)) ?_ (hp := (by omega))
    clear F; rintro r O w T Φ ⟨rfl, rfl⟩ F0
    refine tidy F0 (fun F => ?_); clear F0
    refine go_on ?_
    refine go_back ?_
    exact F.fin ⟨rfl, rfl⟩
  have e : withB b i t = cutB0 ((padB b (i / 8 + 1)).set (i / 8) (UInt8.ofNat (turnN ((padB b (i / 8 + 1)).getD (i / 8) 0).toNat i t))) := by unfold withB; rw [if_neg c]
  rw [e]
  apply g_join (X := Unit) (fun _ => [(4, .pointer (some ⟨q4, 0, none⟩)), (5, .pointer (some ⟨q5, 0, none⟩)), (7, .slice ra b.length rc), (8, .func (.func 75) #[] #[.pointer (some ⟨q5, 0, none⟩), .pointer (some ⟨q4, 0, none⟩)])])
    (fun _ w => ∃ O, Fr [] O0 w0 O w [(2, Thing.buf 1 (.slice ra b.length rc) b.length (bytesV b)), (2, Thing.cells q4 [.int .i64 i]), (2, Thing.cells q5 [.bool t])] [])
  · intro K
    by_cases ht : t = true
    · have F := F
      rw [ht] at F
      refine go_on ?_
      exact K () _ _ ⟨_, by rw [ht]; exact F.wk⟩ (sub_cons rfl rfl (sub_cons rfl rfl (sub_cons rfl rfl (sub_cons rfl rfl (sub_nil)))))
    · have ht : t = false := by simpa using ht
      have c2 : i / 8 < b.length := by
        by_cases g : b.length ≤ i / 8
        · exact absurd ⟨ht, g⟩ c
        · omega
      have F := F
      rw [ht] at F
      refine go_on ?_
      refine r_y (y_quo64 rfl rfl ⟨by omega, by omega, by omega⟩) rfl ?_
      rw [show ((i : Int) / 8) = ((i / 8 : Nat) : Int) from by omega]
      refine go_on ?_
      exact K () _ _ ⟨_, by rw [ht]; exact F.wk⟩ (sub_cons rfl rfl (sub_cons rfl rfl (sub_cons rfl rfl (sub_cons rfl rfl (sub_nil)))))
  clear F
  rintro - w ⟨O, F⟩
  refine g_loop (X := Nat × Value) (fun y => [(4, .pointer (some ⟨q4, 0, none⟩)), (5, .pointer (some ⟨q5, 0, none⟩)), (7, y.2), (8, .func (.func 75) #[] #[.pointer (some ⟨q5, 0, none⟩), .pointer (some ⟨q4, 0, none⟩)])])
    (fun y wr => ∃ O, Fr [] O0 w0 O wr [(2, Thing.buf 1 y.2 (b.length + y.1) (bytesV (b ++ List.replicate y.1 0))), (2, Thing.cells q4 [.int .i64 i]), (2, Thing.cells q5 [.bool t])] [] ∧ (0 < y.1 → b.length + y.1 ≤ i / 8 + 1)) (fun y => i / 8 + 1 - (b.length + y.1)) (0, .slice ra b.length rc) (sub_cons rfl rfl (sub_cons rfl rfl (sub_cons rfl rfl (sub_cons rfl rfl (sub_nil))))) ⟨_, by simpa using F.wk, fun h => absurd h (Nat.lt_irrefl 0)⟩ ?_
  clear F
  rintro ⟨k, v⟩ w ⟨O, F, hk⟩
  dsimp only at F hk ⊢
  obtain ⟨va, vc, rfl, _⟩ := (F.bufAt (v := v)).form
  refine go_on ?_
  refine r_y (y_quo64 rfl rfl ⟨by omega, by omega, by omega⟩) rfl ?_
  rw [show ((i : Int) / 8) = ((i / 8 : Nat) : Int) from by omega]
  refine go_on ?_
  refine g_dec rfl (fun g => ?_) (fun g => ?_)
  · refine go_on ?_
    refine f_buildSlice (cs := [.int .u8 0]) F rfl rfl rfl rfl (fun q8 w F => ?_)
    refine go_on ?_
    refine f_append F rfl rfl rfl (F.srcOne) (fun r w O F => ?_); refine go_on ?_
    have eb : bytesV (b ++ List.replicate k 0) ++ [Value.int .u8 0] = bytesV (b ++ List.replicate (k + 1) 0) := by
      rw [List.replicate_succ', ← List.append_assoc]
      simp [bytesV]
      rfl
    rw [eb] at F
    exact e_round (k + 1, _) (sub_cons rfl rfl (sub_cons rfl rfl (sub_cons rfl rfl (sub_cons rfl rfl (sub_nil))))) ⟨_, F.wk, fun _ => by omega⟩ (by simp only; omega)
  · have hkk : k = i / 8 + 1 - b.length := by
      rcases Nat.eq_zero_or_pos k with h0 | h0
      · omega
      · have := hk h0; omega
    have hp : b ++ List.replicate k 0 = padB b (i / 8 + 1) := by unfold padB; rw [hkk]
    have hpl := padB_len b (i / 8 + 1)
    have hlk : b.length + k = (padB b (i / 8 + 1)).length := by rw [← hp, List.length_append, List.length_replicate]
    rw [hp, hlk] at F
    have hil : i / 8 < (padB b (i / 8 + 1)).length := by omega
    generalize padB b (i / 8 + 1) = pb at F hil hlk hpl ⊢
    have hpm : pb.length ≤ 1125002 := by rw [hpl]; split <;> omega
    have hcell : (bytesV pb)[i / 8]? = some (.int .u8 ((pb.getD (i / 8) 0).toNat : Nat)) := by simp [bytesV, byteV, List.getD_eq_getElem?_getD, hil]
    have hx8 := (pb.getD (i / 8) 0).toNat_lt
    generalize (pb.getD (i / 8) 0).toNat = x8 at hcell hx8 ⊢
    have htl := turnN_lt hx8 i t
    obtain ⟨qq, cap, rest, hv, hcap, hlen, F2⟩ := F.openBuf (n := pb.length) (by omega)
    rw [hlk]
    injection hv with hv1 hv2 hv3
    subst hv1 hv3
    clear F
    have F := F2
    clear F2
    have hcell2 : (bytesV pb ++ rest)[i / 8]? = some (.int .u8 (x8 : Nat)) := by rw [List.getElem?_append_left (by simp [bytesV]; exact hil)]; exact hcell
    refine go_on ?_
    refine f_draw [(2, Thing.cells qq _), (2, Thing.cells q4 _), (2, Thing.cells q5 _)] F [11] [(0, true), (1, true), (2, true), (3, true), (4, true), (5, true), (6, true), (7, true), (8, true), (9, false), (10, true), (11, false)] (by kernel_rfl) (by kernel_rfl) (fun w F hS => ?_); refine go_look ?_
    refine rd_open rfl ?_; (first | refine ro_n ?_ | refine ro_g rfl rfl ?_); refine rx_y rfl (fun _ hw => y_quo64 rfl rfl ⟨by omega, by omega, by omega⟩) (by assumption) ?_; refine go_look ?_
    rw [show ((i : Int) / 8) = ((i / 8 : Nat) : Int) from by omega]
    refine go_look ?_
    refine rd_open rfl ?_; (first | refine ro_n ?_ | refine ro_g rfl rfl ?_); refine rx_y rfl (fun _ hw => y_quo64 rfl rfl ⟨by omega, by omega, by omega⟩) (by assumption) ?_; refine go_look ?_
    rw [show ((i : Int) / 8) = ((i / 8 : Nat) : Int) from by omega]
    refine go_look ?_
    refine rd_open rfl ?_; (first | refine ro_n ?_ | refine ro_g rfl rfl ?_); refine rx_y rfl (fun _ hw => y_loadS rfl hw Sel.here hcell2) (by assumption) ?_; refine go_look ?_
    refine rd_do rfl ?_; (try refine r_go rfl rfl ?_)
    refine f_callv F rfl rfl rfl rfl (bturn_c (x := x8) (i := i) (q5 := q5) (q4 := q4) (t := t)) ?_ (hp := ⟨hx8, by omega⟩)
    clear F; rintro r O w T Φ ⟨rfl, rfl, rfl⟩ F0
    refine tidy F0 (fun F => ?_); clear F0
    (try refine r_nil ?_); refine e_afterF F (fun hS => ?_); refine go_look ?_
    refine rd_do rfl ?_; (try refine r_go rfl rfl ?_)
    refine f_store1 (cs := bytesV pb ++ rest) (i := i / 8) F rfl rfl rfl (fun w F => ?_) (hc := .any) (hi := by rw [List.length_append]; simp [bytesV]; omega)
    have es : (bytesV pb ++ rest).set (i / 8) (.int .u8 (turnN x8 i t : Nat)) = bytesV (pb.set (i / 8) (UInt8.ofNat (turnN x8 i t))) ++ rest := by
      rw [List.set_append_left _ _ (by simp [bytesV]; exact hil)]
      unfold bytesV
      rw [List.map_set]
      congr 2
      show _ = byteV _
      unfold byteV
      rw [UInt8.toNat_ofNat_of_lt' htl]
    have F : Fr _ _ _ _ _ ((2, Thing.cells qq ((bytesV pb ++ rest).set (i / 8) (.int .u8 (turnN x8 i t : Nat)))) :: _) _ := F
    rw [es] at F
    (try refine r_nil ?_); refine e_after (fun h => by cases h) ?_; refine go_look ?_
    refine rd_done ?_; refine go_on ?_
    have hsl : (pb.set (i / 8) (UInt8.ofNat (turnN x8 i t))).length = pb.length := List.length_set
    generalize pb.set (i / 8) (UInt8.ofNat (turnN x8 i t)) = pc at F hsl ⊢
    obtain ⟨O, F⟩ := F.frzPre (bytesV pc) hcap ⟨rest, rfl⟩
    have F := F.fact (f := Fact.bytes (.slice (some ⟨qq, 0, none⟩) pb.length vc) pc) (Sl.bytes (by rw [hsl]; exact F.sl (cs := bytesV pc)))
    refine f_call F rfl rfl (bcut_c (b := pc)) ?_ (hp := (by omega))
    clear F; rintro r O w T Φ ⟨rfl, rfl⟩ F0
    refine tidy F0 (fun F => ?_); clear F0
    refine go_on ?_
    refine go_back ?_
    exact F.fin ⟨rfl, rfl⟩
end Go.Proofs.YtcfpnghkkkphhaaGreat
