/- XdrPuts answers true. -/
import Derived.Test.YtejkpngghbcbbaaRef01
namespace Go.Proofs.Ytejkpngghbcbbaa
open Gk Go
set_option linter.unusedVariables false
attribute [local irreducible] Gk.E Gk.G Gk.R Gk.RD Gk.RX Gk.RO Gk.Y Gk.Ent Gk.Sat Gk.Round Gk.After Gk.Cell Gk.Sl Gk.SlA Gk.CB Gk.OK Gk.FnC Gk.Bytes Gk.BytesL Gk.StrL Gk.Buf Gk.MapI
set_option maxHeartbeats 2000000 in
theorem XdrPuts_ok {w0 : World} {va vb vc : Value} {a b : List Nat} {c : List UInt8} {d : Bool} (ha : ∀ x, x ∈ a → x < 4294967296) (hb : ∀ x, x ∈ b → x < 18446744073709551616)
    (F : Fr [] [] w0 [] w0 [] [Fact.sl va a.length (a.map fun n : Nat => Value.int .u32 n), Fact.sl vb b.length (b.map fun n : Nat => Value.int .u64 n), Fact.bytes vc c]) :
    FnC Try.prog 5 [va, vb, vc, .bool d] [] [] w0 fun r O' w' => r = .bool true := by
  obtain ⟨aa, ac, rfl, _⟩ := (F.sl (v := va)).form
  obtain ⟨ba, bc, rfl, _⟩ := (F.sl (v := vb)).form
  obtain ⟨ca, cc, rfl, _⟩ := (F.bytes (v := vc)).form
  refine fn_of _ Try.func5 rfl (by kernel_rfl) Try.ntmps5 rfl ?_
  refine go_on ?_
  refine f_call F rfl rfl awake01_c ?_
  clear F; rintro r O w T Φ ⟨rfl, rfl, rfl⟩ F0
  refine tidy F0 (fun F => ?_); clear F0
  refine go_on ?_
  refine r_partd rfl rfl (fun h1 => ?_) (fun h1 => ?_)
  · refine go_on ?_
    refine go_back ?_
    exact F.law
  refine go_on ?_
  refine r_partd rfl rfl (fun h2 => ?_) (fun h2 => ?_)
  · refine go_on ?_
    refine go_back ?_
    exact F.law
  refine go_on ?_
  refine g_dec rfl (fun h3 => ?_) (fun h3 => ?_)
  · refine go_on ?_
    refine go_back ?_
    exact F.law
  have hal : a.length ≤ 30 := by omega
  have hbl : b.length ≤ 30 := by omega
  have hcl : c.length ≤ 200 := by omega
  refine go_on ?_
  refine f_call F rfl rfl newWriter_c ?_
  clear F; rintro r O w T Φ ⟨p, rfl, rfl, rfl⟩ F0
  refine tidy F0 (fun F => ?_); clear F0
  refine go_on ?_
  refine g_loop (X := Nat × Value) (fun y => [(0, .slice aa a.length ac), (1, .slice ba b.length bc), (2, .slice ca c.length cc), (3, .bool d), (10, ptr p), (11, str (nB 4 (a.take y.1))), (12, .int .i64 y.1)])
    (fun y wr => ∃ O, Fr [] [] w0 O wr [(2, Wr p y.2 (nB 4 (a.take y.1)))] [Fact.sl (.slice aa a.length ac) a.length (a.map fun n : Nat => Value.int .u32 n), Fact.sl (.slice ba b.length bc) b.length (b.map fun n : Nat => Value.int .u64 n), Fact.bytes (.slice ca c.length cc) c] ∧ y.1 ≤ a.length) (fun y => a.length - y.1) (0, _) (sub_cons rfl rfl (sub_cons rfl rfl (sub_cons rfl rfl (sub_cons rfl rfl (sub_cons rfl rfl (sub_cons rfl rfl (sub_cons rfl rfl (sub_nil)))))))) ⟨_, F, by simp⟩ ?_
  clear F
  rintro ⟨i, v⟩ w ⟨O, F, hi⟩
  dsimp only at F hi ⊢
  refine go_on ?_
  refine g_dec rfl (fun h => ?_) (fun h => ?_)
  · have hi' : i < a.length := by omega
    have hx := ha a[i] (List.getElem_mem hi')
    have hlen := nB_len 4 (a.take i)
    rw [List.length_take] at hlen
    refine go_on ?_
    obtain ⟨x, rfl, hc⟩ := (F.sl).atm hi'
    have F := F.fact (f := Fact.cell _ _) hc
    refine go_on ?_
    refine f_call F rfl rfl u32_c ?_
    clear F; rintro r O w T Φ ⟨v, rfl, rfl, rfl⟩ F0
    refine tidy F0 (fun F => ?_); clear F0
    refine go_on ?_
    refine f_call F rfl rfl rU32_c ?_
    clear F; rintro r O w T Φ ⟨rfl, rfl, rfl⟩ F0
    refine tidy F0 (fun F => ?_); clear F0
    refine go_on ?_
    refine r_y (y_str_add rfl rfl (by rw [be_length]; omega)) rfl ?_
    refine go_on ?_
    exact e_round (i + 1, v) (sub_cons rfl rfl (sub_cons rfl rfl (sub_cons rfl rfl (sub_cons rfl rfl (sub_cons rfl rfl (sub_cons rfl (by rw [nB_take 4 a i hi']) (sub_cons rfl rfl sub_nil))))))) ⟨_, by rw [nB_take 4 a i hi']; exact F.wk, by simp only; omega⟩ (by simp only; omega)
  have hi' : i = a.length := by omega
  subst hi'
  rw [List.take_length] at F ⊢
  have hlen := nB_len 4 a
  refine go_on ?_
  refine g_loop (X := Nat × Value) (fun y => [(1, .slice ba b.length bc), (2, .slice ca c.length cc), (3, .bool d), (10, ptr p), (11, str (nB 4 a ++ nB 8 (b.take y.1))), (13, .int .i64 y.1)])
    (fun y wr => ∃ O, Fr [] [] w0 O wr [(2, Wr p y.2 (nB 4 a ++ nB 8 (b.take y.1)))] [Fact.sl (.slice ba b.length bc) b.length (b.map fun n : Nat => Value.int .u64 n), Fact.bytes (.slice ca c.length cc) c] ∧ y.1 ≤ b.length) (fun y => b.length - y.1) (0, v) (sub_cons rfl rfl (sub_cons rfl rfl (sub_cons rfl rfl (sub_cons rfl rfl (sub_cons rfl (by simp [nB]) (sub_cons rfl rfl sub_nil)))))) ⟨_, by simpa [nB] using F.wk, by simp⟩ ?_
  clear F
  rintro ⟨i, v⟩ w ⟨O, F, hi⟩
  dsimp only at F hi ⊢
  refine go_on ?_
  refine g_dec rfl (fun h => ?_) (fun h => ?_)
  · have hi' : i < b.length := by omega
    have hx := hb b[i] (List.getElem_mem hi')
    have hlen2 := nB_len 8 (b.take i)
    rw [List.length_take] at hlen2
    have hle : (nB 4 a ++ nB 8 (b.take i)).length ≤ 1000 := by rw [List.length_append]; omega
    refine go_on ?_
    obtain ⟨x, rfl, hc⟩ := (F.sl).atm hi'
    have F := F.fact (f := Fact.cell _ _) hc
    refine go_on ?_
    refine f_call F rfl rfl u64_c ?_
    clear F; rintro r O w T Φ ⟨v, rfl, rfl, rfl⟩ F0
    refine tidy F0 (fun F => ?_); clear F0
    refine go_on ?_
    refine f_call F rfl rfl rU64_c ?_
    clear F; rintro r O w T Φ ⟨rfl, rfl, rfl⟩ F0
    refine tidy F0 (fun F => ?_); clear F0
    refine go_on ?_
    refine r_y (y_str_add rfl rfl (by rw [be_length]; omega)) rfl ?_
    refine go_on ?_
    exact e_round (i + 1, v) (sub_cons rfl rfl (sub_cons rfl rfl (sub_cons rfl rfl (sub_cons rfl rfl (sub_cons rfl (by rw [nB_take 8 b i hi', List.append_assoc]) (sub_cons rfl rfl sub_nil)))))) ⟨_, by rw [nB_take 8 b i hi', ← List.append_assoc]; exact F.wk, by simp only; omega⟩ (by simp only; omega)
  have hi' : i = b.length := by omega
  subst hi'
  rw [List.take_length] at F ⊢
  have hlen2 := nB_len 8 b
  have hol := opaqueB_length c
  have hfl := fillN_lt c.length
  have hle : (nB 4 a ++ nB 8 b).length = 4 * a.length + 8 * b.length := by rw [List.length_append]; omega
  generalize nB 4 a ++ nB 8 b = s at F hle ⊢
  have hle2 : (s ++ opaqueB c).length = s.length + (opaqueB c).length := List.length_append
  refine go_on ?_
  refine f_call F rfl rfl wopaque_c ?_
  clear F; rintro r O w T Φ ⟨v, rfl, rfl, rfl⟩ F0
  refine tidy F0 (fun F => ?_); clear F0
  refine go_on ?_
  refine f_call F rfl rfl wbool_c ?_
  clear F; rintro r O w T Φ ⟨v, rfl, rfl, rfl⟩ F0
  refine tidy F0 (fun F => ?_); clear F0
  refine go_on ?_
  refine f_call F rfl rfl u32n_c ?_
  clear F; rintro r O w T Φ ⟨rfl, rfl, rfl⟩ F0
  refine tidy F0 (fun F => ?_); clear F0
  refine go_on ?_
  refine f_call F rfl rfl wopaquen_c ?_
  clear F; rintro r O w T Φ ⟨rfl, rfl, rfl⟩ F0
  refine tidy F0 (fun F => ?_); clear F0
  refine go_on ?_
  refine f_call F rfl rfl wbooln_c ?_
  clear F; rintro r O w T Φ ⟨rfl, rfl, rfl⟩ F0
  refine tidy F0 (fun F => ?_); clear F0
  refine go_on ?_
  have hle3 : (s ++ opaqueB c ++ be 4 (if d = true then 1 else 0)).length = s.length + (opaqueB c).length + 4 := by rw [List.length_append, List.length_append, be_length]
  refine f_draw [(2, Wr p v (s ++ opaqueB c ++ be 4 (if d = true then 1 else 0)))] F [] [(0, true), (3, true), (4, true), (5, true), (8, true), (1, false), (2, true), (6, false), (7, true), (9, false), (10, true), (11, true), (12, true), (13, true), (14, false), (15, true), (16, true), (17, true), (18, true), (19, true), (20, false), (21, true), (22, true), (23, true), (24, true), (25, true)] (by kernel_rfl) (by kernel_rfl) (fun w F hS => ?_); refine go_look ?_
  refine rd_do rfl ?_
  (try refine r_go rfl rfl ?_)
  refine f_call F rfl rfl out_c ?_
  clear F; rintro r O w T Φ ⟨rfl, rfl⟩ F0
  refine tidy F0 (fun F => ?_); clear F0
  refine r_nil ?_; refine e_afterF F (fun hS => ?_); refine go_look ?_
  refine rd_do rfl ?_
  (try refine r_go rfl rfl ?_)
  refine f_call F rfl rfl rOpaque_c ?_
  clear F; rintro r O w T Φ ⟨rfl, rfl, rfl⟩ F0
  refine tidy F0 (fun F => ?_); clear F0
  refine r_nil ?_; refine e_afterF F (fun hS => ?_); refine go_look ?_
  refine rd_open rfl ?_; (first | refine ro_n ?_ | refine ro_g rfl rfl ?_); refine rx_y rfl (fun _ hw => y_str_add rfl rfl (by omega)) (by assumption) ?_; refine go_look ?_
  refine rd_do rfl ?_
  (try refine r_go rfl rfl ?_)
  refine f_call F rfl rfl rBool_c ?_
  clear F; rintro r O w T Φ ⟨rfl, rfl, rfl⟩ F0
  refine tidy F0 (fun F => ?_); clear F0
  refine r_nil ?_; refine e_afterF F (fun hS => ?_); refine go_look ?_
  refine rd_open rfl ?_; (first | refine ro_n ?_ | refine ro_g rfl rfl ?_); refine rx_y rfl (fun _ hw => y_str_add rfl rfl (by rw [be_length]; omega)) (by assumption) ?_; refine go_look ?_
  refine rd_do rfl ?_
  (try refine r_go rfl rfl ?_)
  refine f_call F rfl rfl outn_c ?_
  clear F; rintro r O w T Φ ⟨rfl, rfl, rfl⟩ F0
  refine tidy F0 (fun F => ?_); clear F0
  refine r_nil ?_; refine e_afterF F (fun hS => ?_); refine go_look ?_
  refine rd_do rfl ?_
  (try refine r_go rfl rfl ?_)
  refine f_call F rfl rfl out_c ?_
  clear F; rintro r O w T Φ ⟨rfl, rfl⟩ F0
  refine tidy F0 (fun F => ?_); clear F0
  refine r_nil ?_; refine e_afterF F (fun hS => ?_); refine go_look ?_
  obtain ⟨oa, oc, rfl, _⟩ := (F.bytes (v := r)).form
  refine go_look ?_
  refine rd_open rfl ?_; (first | refine ro_n ?_ | refine ro_g rfl rfl ?_); refine rx_y rfl (fun _ hw => y_remN (b := 4) rfl rfl (by decide)) (by assumption) ?_; refine go_look ?_
  refine rd_done ?_; refine go_on ?_
  rw [show decide ((((s ++ opaqueB c ++ be 4 (if d = true then 1 else 0)).length % 4 : Nat) : Int) = 0) = true from decide_eq_true (by have := fillN_zero c.length; omega)]
  refine go_on ?_
  refine go_back ?_
  exact F.law

theorem XdrPuts_true {w : World} {v0 v1 v2 v3 : Value} (r0 : Reads Try.prog w 36 [v0]) (r1 : Reads Try.prog w 37 [v1]) (r2 : Reads Try.prog w 22 [v2]) (r3 : Reads Try.prog w 4 [v3]) :
    FnC Try.prog 5 [v0, v1, v2, v3] [] [] w fun r O' w' => r = .bool true := by
  obtain ⟨a, ha, _, hx⟩ := reads_nats (k := .u32) rfl r0
  obtain ⟨b, hb, _, hy⟩ := reads_nats (k := .u64) rfl r1
  obtain ⟨c, hc, _⟩ := reads_bytes r2
  obtain ⟨d, h⟩ := reads_bool r3
  injection h with h
  subst h
  exact XdrPuts_ok hx hy ((((Fr.start OK_nil).factB hc).fact (f := Fact.sl v1 b.length (b.map fun n : Nat => Value.int .u64 n)) hb).fact (f := Fact.sl v0 a.length (a.map fun n : Nat => Value.int .u32 n)) ha)
end Go.Proofs.Ytejkpngghbcbbaa
