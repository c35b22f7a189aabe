/- Which names may be: the library's search through a text. -/
import Derived.Test.YtcfpnghkkkphhaaGreatEn
import Derived.Test.YtcfpnghkkkphhaaGreatGkText
import Derived.Test.YtcfpnghkkkphhaaGreatGkArr
namespace Go.Proofs.YtcfpnghkkkphhaaGreat
open Gk Go
set_option linter.unusedVariables false
set_option maxHeartbeats 4000000
set_option maxRecDepth 4000
set_option linter.unusedSimpArgs false
attribute [local irreducible] Int.decLt Int.decLe Int.decEq Int.instDecidableEq Gk.Rnds Gk.E Gk.G Gk.R Gk.RD Gk.RX Gk.RO Gk.Y Gk.Ent Gk.Sat Gk.Round Gk.After Gk.Cell Gk.Sl Gk.SlA Gk.CB Gk.OK Gk.FnC Gk.Bytes Gk.BytesL Gk.StrL Gk.Buf Gk.MapI
theorem sliteIndexByte_c {s : List UInt8} {c : UInt8} (h : True) : Con Tryz.prog 109 [str s, byteV c] [] [] [] fun r T Φ => r = .int .i64 (Lib.indexByte s c) ∧ T = [] ∧ Φ = [] := by
  refine con_of (fun O0 w0 F => ?_)
  refine tidy F (fun F => ?_)
  refine fn_of _ Tryz.func109 rfl (by kernel_rfl) Tryz.ntmps109 rfl ?_
  refine go_on ?_
  refine r_indexByte Tryz.func110 (by kernel_rfl) (by kernel_rfl) (by rfl) (by rfl) rfl rfl ?_
  refine go_on ?_
  refine go_back ?_
  exact F.fin ⟨by simp, rfl, rfl⟩
theorem indexByte_c {s : List UInt8} {c : UInt8} (h : True) : Con Tryz.prog 105 [str s, byteV c] [] [] [] fun r T Φ => r = .int .i64 (Lib.indexByte s c) ∧ T = [] ∧ Φ = [] := by
  refine con_of (fun O0 w0 F => ?_)
  refine tidy F (fun F => ?_)
  refine fn_of _ Tryz.func105 rfl (by kernel_rfl) Tryz.ntmps105 rfl ?_
  refine go_on ?_
  refine f_call F rfl rfl sliteIndexByte_c ?_ (hp := trivial)
  clear F; rintro r O w T Φ ⟨rfl, rfl, rfl⟩ F0
  refine tidy F0 (fun F => ?_); clear F0
  refine go_on ?_
  refine go_back ?_
  exact F.fin ⟨rfl, rfl, rfl⟩
def validR (c : Nat) : Prop := c < 55296 ∨ (57343 < c ∧ c ≤ 1114111)
instance (c : Nat) : Decidable (validR c) := by unfold validR; infer_instance
theorem validRune_c {c : Nat} (h : c ≤ 2147483647) : Con Tryz.prog 106 [.int .i32 c] [] [] [] fun r T Φ => r = .bool (decide (validR c)) ∧ T = [] ∧ Φ = [] := by
  refine con_of (fun O0 w0 F => ?_)
  refine tidy F (fun F => ?_)
  refine fn_of _ Tryz.func106 rfl (by kernel_rfl) Tryz.ntmps106 rfl ?_
  by_cases h1 : c < 55296
  · rw [decide_eq_true (show validR c from .inl h1)]
    refine go_on ?_
    refine go_back ?_
    exact F.fin ⟨rfl, rfl, rfl⟩
  by_cases h2 : 57343 < c
  · by_cases h3 : c ≤ 1114111
    · rw [decide_eq_true (show validR c from .inr ⟨h2, h3⟩)]
      refine go_on ?_
      refine go_back ?_
      exact F.fin ⟨rfl, rfl, rfl⟩
    · rw [decide_eq_false (show ¬ validR c from fun h => h.elim h1 (fun h => h3 h.2))]
      refine go_on ?_
      refine go_back ?_
      exact F.fin ⟨rfl, rfl, rfl⟩
  · rw [decide_eq_false (show ¬ validR c from fun h => h.elim h1 (fun h => h2 h.1))]
    refine go_on ?_
    refine go_back ?_
    exact F.fin ⟨rfl, rfl, rfl⟩
theorem validR_valid {c : Nat} (hv : validR c) : Utf8.valid (c : Int) = true := by
  unfold Utf8.valid
  unfold validR at hv
  rw [Bool.or_eq_true, Bool.and_eq_true, Bool.and_eq_true, decide_eq_true_eq, decide_eq_true_eq, decide_eq_true_eq, decide_eq_true_eq]
  omega
theorem enc_list {c : Nat} (hv : validR c) (h : 128 ≤ c) : ∃ E, (Utf8.encode (c : Int)).data.toList = E ∧ ((∃ a b, E = [a, b] ∧ b ≠ 0) ∨ 3 ≤ E.length) ∧ E.length ≤ 4 := by
  refine ⟨_, rfl, ?_⟩
  have hc : ¬ ((c : Int)).toNat < 128 := by omega
  have hnz : UInt8.ofNat (128 + ((c : Int)).toNat % 64) ≠ 0 := fun h0 => by
    have h1 : (UInt8.ofNat (128 + ((c : Int)).toNat % 64)).toNat = 0 := by rw [h0]; rfl
    rw [UInt8.toNat_ofNat_of_lt' (by show 128 + ((c : Int)).toNat % 64 < 256; omega)] at h1
    omega
  unfold Utf8.encode
  simp only [validR_valid hv, if_true, hc, if_false]
  split
  · exact ⟨.inl ⟨_, _, rfl, hnz⟩, by simp⟩
  · split
    · exact ⟨.inr (by simp), by simp⟩
    · exact ⟨.inr (by simp), by simp⟩
def runeAt (c : Nat) : Int := if c = 47 then 0 else if c = 0 then 1 else -1
theorem runeAt_byte {c : Nat} (h : c < 128) : Lib.indexByte [47, 0] (UInt8.ofNat c) = runeAt c := by
  unfold runeAt
  by_cases h1 : c = 47
  · subst h1
    rw [if_pos rfl]
    rfl
  by_cases h2 : c = 0
  · subst h2
    rw [if_neg h1, if_pos rfl]
    simp [Lib.indexByte]
  rw [if_neg h1, if_neg h2]
  have e : (UInt8.ofNat c).toNat = c := by rw [UInt8.toNat_ofNat_of_lt']; show c < 256; omega
  have n1 : ((47 : UInt8) == UInt8.ofNat c) = false := beq_eq_false_iff_ne.2 (fun h => h1 (by rw [← h] at e; exact e.symm))
  have n2 : ((0 : UInt8) == UInt8.ofNat c) = false := beq_eq_false_iff_ne.2 (fun h => h2 (by rw [← h] at e; exact e.symm))
  simp [Lib.indexByte, n1, n2]
theorem dec0 : Utf8.decode ⟨([47, 0] : List UInt8).toArray⟩ 0 = (47, 1) := by decide
theorem dec1 : Utf8.decode ⟨([47, 0] : List UInt8).toArray⟩ 1 = (0, 1) := by decide
theorem indexRune_c {c : Nat} (h : c ≤ 2147483647) : Con Tryz.prog 101 [str [47, 0], .int .i32 c] [] [] [] fun r T Φ => r = .int .i64 (runeAt c) ∧ T = [] ∧ Φ = [] := by
  refine con_of (fun O0 w0 F => ?_)
  refine tidy F (fun F => ?_)
  refine fn_of _ Tryz.func101 rfl (by kernel_rfl) Tryz.ntmps101 rfl ?_
  by_cases h1 : c < 128
  · refine go_on ?_
    refine f_call F rfl rfl (indexByte_c (s := [47, 0]) (c := UInt8.ofNat c)) ?_ (hp := trivial)
    clear F; rintro r O w T Φ ⟨rfl, rfl, rfl⟩ F0
    refine tidy F0 (fun F => ?_); clear F0
    rw [runeAt_byte h1]
    refine go_on ?_
    refine go_back ?_
    exact F.fin ⟨rfl, rfl, rfl⟩
  by_cases h2 : c = 65533
  · have er : runeAt c = -1 := by
      unfold runeAt
      rw [if_neg (by omega), if_neg (by omega)]
    rw [er]
    refine go_on ?_
    refine f_rangeT F rfl rfl (fun k w F => ?_)
    refine go_on ?_
    refine g_unroll 3 ?_; refine go_on ?_
    refine f_nextT (s := [47, 0]) (i := 0) F rfl rfl (by decide) (fun w F => ?_)
    rw [dec0] at F ⊢
    refine go_on ?_
    refine f_nextT (s := [47, 0]) (i := 1) F rfl rfl (by decide) (fun w F => ?_)
    rw [dec1] at F ⊢
    refine go_on ?_
    refine f_endT (s := [47, 0]) (i := 2) F rfl rfl (by decide) ?_
    refine go_on ?_
    refine go_back ?_
    exact F.fin ⟨rfl, rfl, rfl⟩
  have er : runeAt c = -1 := by
    unfold runeAt
    rw [if_neg (by omega), if_neg (by omega)]
  rw [er]
  refine go_on ?_
  refine f_call F rfl rfl validRune_c ?_ (hp := h)
  clear F; rintro r O w T Φ ⟨rfl, rfl, rfl⟩ F0
  refine tidy F0 (fun F => ?_); clear F0
  by_cases hv : validR c
  · rw [decide_eq_true hv]
    refine go_on ?_
    refine g_scope ?_
    refine go_on ?_
    refine r_y (y_runeStr rfl) rfl ?_
    obtain ⟨E, hE, hor, hE4⟩ := enc_list hv (by omega)
    rw [hE]
    clear hE
    refine go_on ?_
    refine g_unroll 1 ?_; refine go_on ?_
    rcases hor with ⟨e0, e1, rfl, hnz⟩ | h3
    · rw [show ((([e0, e1] : List UInt8).length : Int) - 1) = ((1 : Nat) : Int) from by simp, show ((([47, 0] : List UInt8).length : Nat) : Int) = ((2 : Nat) : Int) from rfl]
      refine go_on ?_
      refine g_scope ?_
      refine go_on ?_
      have hz : ¬ ((0 : UInt8).toNat : Int) = (e1.toNat : Int) := fun h0 => hnz (by
        apply UInt8.toNat_inj.1
        have : (0 : UInt8).toNat = e1.toNat := by exact_mod_cast h0
        rw [← this])
      refine f_draw [] F [] [(0, true), (1, true), (2, true), (3, true), (4, true), (5, true), (6, true)] (by kernel_rfl) (by kernel_rfl) (fun w F hS => ?_); refine go_look ?_
      refine rd_open rfl ?_; (first | refine ro_n ?_ | refine ro_g rfl rfl ?_); refine rx_y rfl (fun _ hw => y_str_at (i := 1) (b := 0) rfl rfl rfl) (by assumption) ?_; refine go_look ?_
      refine rd_open rfl ?_; (first | refine ro_n ?_ | refine ro_g rfl rfl ?_); refine rx_y rfl (fun _ hw => y_str_at (i := 1) (b := e1) rfl rfl rfl) (by assumption) ?_; refine go_look ?_
      refine rd_done ?_; refine go_on ?_
      refine f_draw [] F [] [(0, true), (1, true), (2, true), (3, true), (4, true), (5, true), (6, true), (7, false), (8, true)] (by kernel_rfl) (by kernel_rfl) (fun w F hS => ?_); refine go_look ?_
      refine rd_open rfl ?_; (first | refine ro_n ?_ | refine ro_g rfl rfl ?_); refine rx_y rfl (fun _ hw => y_str_slice (l := 2) (k := 2) rfl rfl rfl (by decide) (by decide)) (by assumption) ?_; refine go_look ?_
      refine rd_open rfl ?_; (first | refine ro_n ?_ | refine ro_g rfl rfl ?_); refine rx_y rfl (fun _ hw => y_str_at (i := 1) (b := e1) rfl rfl rfl) (by assumption) ?_; refine go_look ?_
      refine rd_do rfl ?_
      (try refine r_go rfl rfl ?_)
      refine f_call F rfl rfl (indexByte_c (s := []) (c := e1)) ?_ (hp := trivial)
      clear F; rintro r O w T Φ ⟨rfl, rfl, rfl⟩ F0
      refine tidy F0 (fun F => ?_); clear F0
      refine r_nil ?_; refine e_afterF F (fun hS => ?_); refine go_look ?_
      rw [show Lib.indexByte ([] : List UInt8) e1 = -1 from rfl]
      refine rd_done ?_; refine go_on ?_
      refine go_back ?_
      exact F.fin ⟨rfl, rfl, rfl⟩
    · rw [show ((E.length : Int) - 1) = ((E.length - 1 : Nat) : Int) from by omega, show ((([47, 0] : List UInt8).length : Nat) : Int) = ((2 : Nat) : Int) from rfl]
      refine go_on ?_
      refine go_back ?_
      exact F.fin ⟨rfl, rfl, rfl⟩
  · rw [decide_eq_false hv]
    refine go_on ?_
    refine go_back ?_
    exact F.fin ⟨rfl, rfl, rfl⟩
/-- Where the first of the two runes stands, as a range comes to it; below 0: nowhere. -/
def anyF (s : List UInt8) : Nat → Nat → Int
  | 0, _ => -1
  | n + 1, i => if i < s.length then (if 0 ≤ runeAt (Utf8.decode ⟨s.toArray⟩ i).1 then i else anyF s n (i + (Utf8.decode ⟨s.toArray⟩ i).2)) else -1
theorem dec_width (s : List UInt8) (i : Nat) (h : i < s.length) : 1 ≤ (Utf8.decode ⟨s.toArray⟩ i).2 := by
  have hs : i < (⟨s.toArray⟩ : ByteArray).size := by show i < s.toArray.size; simpa using h
  by_cases g : ((⟨s.toArray⟩ : ByteArray)[i]'hs).toNat < 128
  · rw [decode_ascii _ _ hs g]
    exact Nat.le_refl 1
  · exact (decode_high _ _ hs (by omega)).2
theorem ascset_c {n : Nat} (h : True) : Con Tryz.prog 102 [.int .i64 n] [] [] [] fun r T Φ => r = .bool (decide ((8 : Int) < (n : Int))) ∧ T = [] ∧ Φ = [] := by
  refine con_of (fun O0 w0 F => ?_)
  refine tidy F (fun F => ?_)
  refine fn_of _ Tryz.func102 rfl (by kernel_rfl) Tryz.ntmps102 rfl ?_
  refine go_on ?_
  refine go_back ?_
  exact F.fin ⟨rfl, rfl, rfl⟩
theorem shortAny_c {s : List UInt8} (h : s.length ≤ 8) : Con Tryz.prog 100 [str s, str [47, 0]] [] [] [] fun r T Φ => r = .int .i64 (anyF s (s.length + 1) 0) ∧ T = [] ∧ Φ = [] := by
  refine con_of (fun O0 w0 F => ?_)
  refine tidy F (fun F => ?_)
  refine fn_of _ Tryz.func100 rfl (by kernel_rfl) Tryz.ntmps100 rfl ?_
  have e2 : ((([47, 0] : List UInt8).length : Nat) : Int) = ((2 : Nat) : Int) := rfl
  refine go_on ?_
  rw [e2]
  refine go_on ?_
  refine f_call F rfl rfl (ascset_c (n := s.length)) ?_ (hp := trivial)
  clear F; rintro r O w T Φ ⟨rfl, rfl, rfl⟩ F0
  refine tidy F0 (fun F => ?_); clear F0
  refine go_on ?_
  refine f_rangeT F rfl rfl (fun k w F => ?_)
  refine go_on ?_
  refine g_loop (X := Nat × Nat) (fun y => [(1, str [47, 0]), (45, .pointer (some ⟨k, 0, none⟩))])
    (fun y wr => ∃ O, Fr [] O0 w0 O wr [(2, Thing.txt k s y.2)] [] ∧ anyF s (s.length + 1) 0 = anyF s y.1 y.2 ∧ s.length < y.1 + y.2) (fun y => s.length + 1 - y.2) (s.length + 1, 0) (sub_cons rfl rfl (sub_cons rfl rfl (sub_nil))) ⟨_, F.wk, rfl, by dsimp only; omega⟩ ?_
  clear F
  rintro ⟨n, i⟩ w ⟨O, F, hf, hn⟩
  dsimp only at F hf hn ⊢
  refine go_on ?_
  by_cases hi : i < s.length
  · have hw1 := dec_width s i hi
    have hle := decode_le ⟨s.toArray⟩ i
    refine f_nextT (s := s) (i := i) F rfl rfl hi (fun w F => ?_)
    obtain ⟨n', rfl⟩ : ∃ n', n = n' + 1 := ⟨n - 1, by omega⟩
    have hs : anyF s (n' + 1) i = if 0 ≤ runeAt (Utf8.decode ⟨s.toArray⟩ i).1 then (i : Int) else anyF s n' (i + (Utf8.decode ⟨s.toArray⟩ i).2) := by rw [anyF, if_pos hi]
    generalize Utf8.decode ⟨s.toArray⟩ i = dc at F hs hw1 hle ⊢
    obtain ⟨c, wd⟩ := dc
    dsimp only at F hs hw1 hle ⊢
    refine go_on ?_
    refine f_call F rfl rfl (indexRune_c (c := c)) ?_ (hp := hle)
    clear F; rintro r O w T Φ ⟨rfl, rfl, rfl⟩ F0
    refine tidy F0 (fun F => ?_); clear F0
    by_cases hr : 0 ≤ runeAt c
    · rw [if_pos hr] at hs
      rw [hf, hs]
      refine go_on ?_
      refine go_back ?_
      exact F.fin ⟨rfl, rfl, rfl⟩
    · rw [if_neg hr] at hs
      refine go_on ?_
      exact e_round (n', i + wd) (sub_cons rfl rfl (sub_cons rfl rfl (sub_nil))) ⟨_, F.wk, hf.trans hs, by dsimp only; omega⟩ (by simp only; omega)
  · refine f_endT (s := s) (i := i) F rfl rfl (by omega) ?_
    have hs : anyF s n i = -1 := by
      cases n with
      | zero => rfl
      | succ n => rw [anyF, if_neg hi]
    rw [hf, hs]
    refine go_on ?_
    refine go_back ?_
    exact F.fin ⟨rfl, rfl, rfl⟩
/-- The set of the two, as the library lays it. -/
def setL : List Value := ((List.replicate 256 (Value.bool false)).set 47 (.bool true)).set 0 (.bool true)
theorem makeSet_c (h : True) : Con Tryz.prog 103 [str [47, 0]] [] [] [] fun r T Φ => r = .tuple #[.agg setL.toArray, .bool true] ∧ T = [] ∧ Φ = [] := by
  refine con_of (fun O0 w0 F => ?_)
  refine tidy F (fun F => ?_)
  refine fn_of _ Tryz.func103 rfl (by kernel_rfl) Tryz.ntmps103 rfl ?_
  have e2 : ((([47, 0] : List UInt8).length : Nat) : Int) = ((2 : Nat) : Int) := rfl
  refine go_on ?_
  (first | refine f_alloc1 F rfl (fun z w F => ?_) | refine f_allocN F rfl (fun z w F => ?_)); refine go_on ?_
  refine go_on ?_
  refine g_unroll 3 ?_; refine go_on ?_
  refine r_y (y_str_at (i := 0) (b := 47) rfl rfl rfl) rfl ?_
  rw [show (((47 : UInt8).toNat : Nat) : Int) = ((47 : Nat) : Int) from rfl]
  refine go_on ?_
  refine r_y (y_indexArr (i := 47) rfl rfl (by omega)) rfl ?_
  refine go_on ?_
  refine f_store1 (i := 47) F rfl rfl rfl (fun w F => ?_) (hc := .any) (hi := by simp)
  refine go_on ?_
  rw [show ((0 : Int) + 1) = ((1 : Nat) : Int) from rfl]
  refine r_y (y_str_at (i := 1) (b := 0) rfl rfl rfl) rfl ?_
  rw [show (((0 : UInt8).toNat : Nat) : Int) = ((0 : Nat) : Int) from rfl]
  refine go_on ?_
  refine r_y (y_indexArr (i := 0) rfl rfl (by omega)) rfl ?_
  refine go_on ?_
  refine f_store1 (i := 0) F rfl rfl rfl (fun w F => ?_) (hc := .any) (hi := by simp)
  refine go_on ?_
  refine f_storeAll F rfl rfl rfl (fun w F => ?_); refine go_on ?_
  refine go_back ?_
  exact F.fin ⟨rfl, rfl, rfl⟩
def badB (b : UInt8) : Prop := b = 47 ∨ b = 0
instance (b : UInt8) : Decidable (badB b) := by unfold badB; infer_instance
theorem setL_at (b : UInt8) : setL[b.toNat]? = some (.bool (decide (badB b))) := by
  have hl := b.toNat_lt
  unfold setL
  rw [List.getElem?_set, List.getElem?_set, List.getElem?_replicate, List.length_set, List.length_replicate]
  by_cases h0 : 0 = b.toNat
  · have e : b = 0 := UInt8.toNat_inj.1 h0.symm
    rw [if_pos h0, if_pos (by omega), decide_eq_true (show badB b from .inr e)]
  · have n0 : ¬ b = 0 := fun h => h0 (by rw [h]; rfl)
    rw [if_neg h0]
    by_cases h1 : 47 = b.toNat
    · have e : b = 47 := UInt8.toNat_inj.1 h1.symm
      rw [if_pos h1, if_pos (by omega), decide_eq_true (show badB b from .inl e)]
    · have n1 : ¬ b = 47 := fun h => h1 (by rw [h]; rfl)
      rw [if_neg h1, if_pos (by omega), decide_eq_false (show ¬ badB b from fun h => h.elim n1 n0)]
theorem ascHas_c {z : Nat} {b : UInt8} (h : True) : Con Tryz.prog 104 [.pointer (some ⟨z, 0, none⟩), byteV b] [] [Thing.cells z setL] [] fun r T Φ => r = .bool (decide (badB b)) ∧ T = [] ∧ Φ = [] := by
  refine con_of (fun O0 w0 F => ?_)
  refine tidy F (fun F => ?_)
  refine fn_of _ Tryz.func104 rfl (by kernel_rfl) Tryz.ntmps104 rfl ?_
  have hb := b.toNat_lt
  refine go_on ?_
  refine r_y (y_indexArr (i := b.toNat) rfl rfl (by omega)) rfl ?_
  refine r_y (y_loadF rfl F Sel.here (setL_at b)) rfl ?_
  refine go_on ?_
  refine go_back ?_
  exact F.fin ⟨rfl, rfl, rfl⟩
theorem longAny_c {s : List UInt8} (h : 8 < s.length ∧ s.length ≤ 1000000) : Con Tryz.prog 100 [str s, str [47, 0]] [] [] [] fun r T Φ => ∃ i : Int, (0 ≤ i ↔ ∃ b, b ∈ s ∧ badB b) ∧ r = .int .i64 i ∧ T = [] ∧ Φ = [] := by
  obtain ⟨h8, hs⟩ := h
  refine con_of (fun O0 w0 F => ?_)
  refine tidy F (fun F => ?_)
  refine fn_of _ Tryz.func100 rfl (by kernel_rfl) Tryz.ntmps100 rfl ?_
  have e2 : ((([47, 0] : List UInt8).length : Nat) : Int) = ((2 : Nat) : Int) := rfl
  refine go_on ?_
  rw [e2]
  refine go_on ?_
  refine f_call F rfl rfl (ascset_c (n := s.length)) ?_ (hp := trivial)
  clear F; rintro r O w T Φ ⟨rfl, rfl, rfl⟩ F0
  refine tidy F0 (fun F => ?_); clear F0
  refine go_on ?_
  refine f_call F rfl rfl makeSet_c ?_ (hp := trivial)
  clear F; rintro r O w T Φ ⟨rfl, rfl, rfl⟩ F0
  refine tidy F0 (fun F => ?_); clear F0
  refine go_on ?_
  (first | refine f_alloc1 F rfl (fun z w F => ?_) | refine f_allocN F rfl (fun z w F => ?_)); refine go_on ?_
  refine f_storeAll (vs := setL) F rfl rfl rfl (fun w F => ?_)
  refine go_on ?_
  refine g_loop (X := Nat) (fun i => [(0, str s), (6, .pointer (some ⟨z, 0, none⟩)), (8, .int .i64 i)])
    (fun i wr => ∃ O, Fr [] O0 w0 O wr [(2, Thing.cells z setL)] [] ∧ i ≤ s.length ∧ ∀ k (hk : k < s.length), k < i → ¬ badB s[k]) (fun i => s.length - i) 0 (sub_cons rfl rfl (sub_cons rfl rfl (sub_cons rfl rfl (sub_nil)))) ⟨_, F.wk, Nat.zero_le _, fun k hk h => absurd h (Nat.not_lt_zero _)⟩ ?_
  clear F
  rintro i w ⟨O, F, hi, hno⟩
  refine go_on ?_
  refine g_dec rfl (fun g => ?_) (fun g => ?_)
  · have hi' : i < s.length := by omega
    refine go_on ?_
    refine r_y (y_str_at (i := i) (b := s[i]) rfl rfl (List.getElem?_eq_getElem hi')) rfl ?_
    refine go_on ?_
    refine f_call F rfl rfl (ascHas_c (z := z) (b := s[i])) ?_ (hp := trivial)
    clear F; rintro r O w T Φ ⟨rfl, rfl, rfl⟩ F0
    refine tidy F0 (fun F => ?_); clear F0
    by_cases hb : badB s[i]
    · refine go_on ?_
      refine go_back ?_
      exact F.fin ⟨_, ⟨fun _ => ⟨_, List.getElem_mem hi', hb⟩, fun _ => by omega⟩, rfl, rfl, rfl⟩
    · refine go_on ?_
      exact e_round (i + 1) (sub_cons rfl rfl (sub_cons rfl rfl (sub_cons rfl rfl (sub_nil)))) ⟨_, F.wk, by omega, fun k hk h => by
        by_cases e : k = i
        · subst e; exact hb
        · exact hno k hk (by omega)⟩ (by omega)
  · obtain rfl : s.length = i := by omega
    refine go_on ?_
    refine go_back ?_
    exact F.fin ⟨_, ⟨fun h => absurd h (by omega), fun ⟨b, hb, hbad⟩ => by
      obtain ⟨k, hk, rfl⟩ := List.getElem_of_mem hb
      exact absurd hbad (hno k hk hk)⟩, rfl, rfl, rfl⟩
/-- What the library says: is one of the two in a text? -/
def anyS (s : List UInt8) : Bool := if s.length ≤ 8 then decide (0 ≤ anyF s (s.length + 1) 0) else s.any (fun b => decide (badB b))
theorem containsAny_c {s : List UInt8} (h : s.length ≤ 1000000) : Con Tryz.prog 97 [str s, str [47, 0]] [] [] [] fun r T Φ => r = .bool (anyS s) ∧ T = [] ∧ Φ = [] := by
  refine con_of (fun O0 w0 F => ?_)
  refine tidy F (fun F => ?_)
  refine fn_of _ Tryz.func97 rfl (by kernel_rfl) Tryz.ntmps97 rfl ?_
  by_cases h8 : s.length ≤ 8
  · have e : anyS s = decide (0 ≤ anyF s (s.length + 1) 0) := if_pos h8
    rw [e]
    refine go_on ?_
    refine f_call F rfl rfl shortAny_c ?_ (hp := h8)
    clear F; rintro r O w T Φ ⟨rfl, rfl, rfl⟩ F0
    refine tidy F0 (fun F => ?_); clear F0
    refine go_on ?_
    refine go_back ?_
    exact F.fin ⟨rfl, rfl, rfl⟩
  · have e : anyS s = s.any (fun b => decide (badB b)) := if_neg h8
    rw [e]
    refine go_on ?_
    refine f_call F rfl rfl longAny_c ?_ (hp := ⟨by omega, h⟩)
    clear F; rintro r O w T Φ ⟨i, hi, rfl, rfl, rfl⟩ F0
    refine tidy F0 (fun F => ?_); clear F0
    refine go_on ?_
    refine go_back ?_
    refine F.fin ⟨?_, rfl, rfl⟩
    congr 1
    rw [Bool.eq_iff_iff, List.any_eq_true, decide_eq_true_eq, hi]
    exact ⟨fun ⟨b, h1, h2⟩ => ⟨b, h1, decide_eq_true h2⟩, fun ⟨b, h1, h2⟩ => ⟨b, h1, of_decide_eq_true h2⟩⟩
/-- Which names may be. -/
def nameOk (s : List UInt8) : Prop := s ≠ [] ∧ s.length ≤ 24 ∧ anyS s = false ∧ s ≠ [46] ∧ s ≠ [46, 46]
instance (s : List UInt8) : Decidable (nameOk s) := by unfold nameOk; infer_instance
theorem dname_c {s : List UInt8} (h : s.length ≤ 9223372036854775807) : Con Tryz.prog 93 [str s] [] [] [] fun r T Φ => r = .int .i64 (if nameOk s then (0 : Nat) else (67 : Nat) : Nat) ∧ T = [] ∧ Φ = [] := by
  refine con_of (fun O0 w0 F => ?_)
  refine tidy F (fun F => ?_)
  refine fn_of _ Tryz.func93 rfl (by kernel_rfl) Tryz.ntmps93 rfl ?_
  by_cases n0 : s = []
  · rw [if_neg (show ¬ nameOk s from fun k => k.1 n0)]
    refine go_on ?_
    refine go_back ?_
    exact F.fin ⟨rfl, rfl, rfl⟩
  by_cases n1 : 24 < s.length
  · rw [if_neg (show ¬ nameOk s from fun k => by have := k.2.1; omega)]
    refine go_on ?_
    refine go_back ?_
    exact F.fin ⟨rfl, rfl, rfl⟩
  refine go_on ?_
  refine f_call F rfl rfl containsAny_c ?_ (hp := (by omega))
  clear F; rintro r O w T Φ ⟨rfl, rfl, rfl⟩ F0
  refine tidy F0 (fun F => ?_); clear F0
  cases ha : anyS s with
  | true =>
    rw [if_neg (show ¬ nameOk s from fun k => by rw [k.2.2.1] at ha; cases ha)]
    refine go_on ?_
    refine go_back ?_
    exact F.fin ⟨rfl, rfl, rfl⟩
  | false =>
    by_cases n2 : s = [46]
    · rw [if_neg (show ¬ nameOk s from fun k => k.2.2.2.1 n2)]
      refine go_on ?_
      refine go_back ?_
      exact F.fin ⟨rfl, rfl, rfl⟩
    by_cases n3 : s = [46, 46]
    · rw [if_neg (show ¬ nameOk s from fun k => k.2.2.2.2 n3)]
      refine go_on ?_
      refine go_back ?_
      exact F.fin ⟨rfl, rfl, rfl⟩
    rw [if_pos (show nameOk s from ⟨n0, by omega, ha, n2, n3⟩)]
    refine go_on ?_
    refine go_back ?_
    exact F.fin ⟨rfl, rfl, rfl⟩
end Go.Proofs.YtcfpnghkkkphhaaGreat
