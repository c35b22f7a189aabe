/- Plain laws of replies: bytes that are none; what is handed in. -/
import Derived.Test.YtdhfikbehbpdjaaRepl
namespace Go.Proofs.Ytdhfikbehbpdjaa
open Gk Go
set_option linter.unusedVariables false
set_option maxHeartbeats 4000000
set_option maxRecDepth 4000
set_option linter.unusedSimpArgs false
attribute [local irreducible] Int.decLt Int.decLe Int.decEq Int.instDecidableEq Gk.Rnds Gk.E Gk.G Gk.R Gk.RD Gk.RX Gk.RO Gk.Y Gk.Ent Gk.Sat Gk.Round Gk.After Gk.Cell Gk.Sl Gk.SlA Gk.CB Gk.OK Gk.FnC Gk.Bytes Gk.BytesL Gk.StrL Gk.Buf Gk.MapI
theorem rdN_run' {n m e : Nat} {bs : List UInt8} (h : e = 10 ∨ (e = 0 ∧ bs.length < n + m)) {x e' : Nat} {bs' : List UInt8} (hr : rdN bs e n = (x, bs', e')) : e' = 10 ∨ (e' = 0 ∧ bs'.length < m) := by
  rcases h with rfl | ⟨rfl, h⟩
  · rw [rdN_err bs n (by decide)] at hr
    injection hr with _ hr
    injection hr with _ hr
    exact .inl hr.symm
  · unfold rdN takeR at hr
    simp only [if_true] at hr
    split at hr
    · simp only [Prod.mk.injEq] at hr
      exact .inl hr.2.2.symm
    · rename_i hl
      simp only [Prod.mk.injEq] at hr
      refine .inr ⟨hr.2.2.symm, ?_⟩
      rw [← hr.2.1]
      simp only [List.length_drop]
      omega

theorem repRead_short {client : Nat} {b : List UInt8} (h : b.length < 52) : (repRead client b).2 = 10 := by
  obtain ⟨x1, b1, e1, r1⟩ : ∃ x b' e', rdN b 0 4 = (x, b', e') := ⟨_, _, _, rfl⟩
  obtain ⟨x2, b2, e2, r2⟩ : ∃ x b' e', rdN b1 e1 4 = (x, b', e') := ⟨_, _, _, rfl⟩
  obtain ⟨x3, b3, e3, r3⟩ : ∃ x b' e', rdN b2 e2 4 = (x, b', e') := ⟨_, _, _, rfl⟩
  obtain ⟨x4, b4, e4, r4⟩ : ∃ x b' e', rdN b3 e3 4 = (x, b', e') := ⟨_, _, _, rfl⟩
  obtain ⟨x5, b5, e5, r5⟩ : ∃ x b' e', rdN b4 e4 4 = (x, b', e') := ⟨_, _, _, rfl⟩
  obtain ⟨x6, b6, e6, r6⟩ : ∃ x b' e', rdN b5 e5 4 = (x, b', e') := ⟨_, _, _, rfl⟩
  obtain ⟨x7, b7, e7, r7⟩ : ∃ x b' e', rdN b6 e6 4 = (x, b', e') := ⟨_, _, _, rfl⟩
  obtain ⟨x8, b8, e8, r8⟩ : ∃ x b' e', rdN b7 e7 4 = (x, b', e') := ⟨_, _, _, rfl⟩
  obtain ⟨x9, b9, e9, r9⟩ : ∃ x b' e', rdN b8 e8 8 = (x, b', e') := ⟨_, _, _, rfl⟩
  obtain ⟨x10, b10, e10, r10⟩ : ∃ x b' e', rdN b9 e9 8 = (x, b', e') := ⟨_, _, _, rfl⟩
  obtain ⟨x11, b11, e11, r11⟩ : ∃ x b' e', rdN b10 e10 4 = (x, b', e') := ⟨_, _, _, rfl⟩
  have k1 := rdN_run' (n := 4) (m := 48) (.inr ⟨rfl, h⟩) r1
  have k2 := rdN_run' (n := 4) (m := 44) k1 r2
  have k3 := rdN_run' (n := 4) (m := 40) k2 r3
  have k4 := rdN_run' (n := 4) (m := 36) k3 r4
  have k5 := rdN_run' (n := 4) (m := 32) k4 r5
  have k6 := rdN_run' (n := 4) (m := 28) k5 r6
  have k7 := rdN_run' (n := 4) (m := 24) k6 r7
  have k8 := rdN_run' (n := 4) (m := 20) k7 r8
  have k9 := rdN_run' (n := 8) (m := 12) k8 r9
  have k10 := rdN_run' (n := 8) (m := 4) k9 r10
  have k11 := rdN_run' (n := 4) (m := 0) k10 r11
  have k : e11 = 10 := k11.elim id (fun h => by omega)
  unfold repRead
  simp only [r1, r2, r3, r4, r5, r6, r7, r8, r9, r10, r11, k]
  have : endE b11 10 = 10 := by unfold endE; rw [if_neg (by decide)]
  rw [this, if_pos (by decide)]

theorem repRead_left {r : Rp} {client : Nat} {more : List UInt8} (hf : r.fit) (hm : r.may) (h : more ≠ []) : (repRead client (r.bytes ++ more)).2 = 12 := by
  obtain ⟨cl, xid, status, ino, gen, kind, mode, links, size, change, data, ents, eof, verf, free⟩ := r
  obtain ⟨h1, h2, h3, h4, h5, h6, h7, h8, h9, h10, h11⟩ := hf
  obtain ⟨m1, m2, m3, m4⟩ := hm
  dsimp only at *
  have hst : ∃ k : Nat, status = k ∧ k < 4294967296 := by
    rcases m2 with g2 | g2
    · exact ⟨0, by omega, by omega⟩
    · exact ⟨status.toNat, by omega, by omega⟩
  obtain ⟨st, rfl, hst⟩ := hst
  have hg : Rp.bytes ⟨cl, xid, st, ino, gen, kind, mode, links, size, change, data, ents, eof, verf, free⟩ ++ more = be 4 xid ++ (be 4 st ++ (be 4 ino ++ (be 4 gen ++ (be 4 kind ++ (be 4 mode ++ (be 4 links ++ (be 4 size ++ (be 8 change ++ (be 8 verf ++ (be 4 free ++ more)))))))))) := by simp [Rp.bytes]
  rw [hg]
  unfold repRead
  simp only [rdN_be (n := 4) h2, rdN_be (n := 4) hst, rdN_be (n := 4) h3, rdN_be (n := 4) h4, rdN_be (n := 4) h5, rdN_be (n := 4) h6, rdN_be (n := 4) h7, rdN_be (n := 4) h8, rdN_be (n := 8) h9, rdN_be (n := 8) h10, rdN_be (n := 4) h11]
  have : endE more 0 = 12 := by unfold endE; simp [h]
  rw [this, if_pos (by decide)]

theorem and7 (c : Nat) (h : c < 4294967296) : andI .u32 c 7 = ((c % 8 : Nat) : Int) := by
  unfold andI
  have e : (BitVec.ofInt 32 (c : Int) &&& BitVec.ofInt 32 7).toNat = c % 8 := by
    rw [BitVec.toNat_and, BitVec.ofInt_natCast, BitVec.toNat_ofNat, Nat.mod_eq_of_lt (by simpa using h)]
    show c &&& 7 = c % 8
    exact Nat.and_two_pow_sub_one_eq_mod c 3
  show IntKind.u32.wrap (((BitVec.ofInt 32 (c : Int) &&& BitVec.ofInt 32 7).toNat : Nat) : Int) = _
  rw [e]
  exact wrap_lim (by simp only [lim]; omega)

theorem reads_en {w : World} {row : List Value} (h : row.length = 4) (r : Reads Try.prog w 94 row) : ∃ y : En, EnR.φ [] w row y := by
  match row, h with
  | [a0, a1, a2, a3], _ =>
    obtain ⟨k, e0, _⟩ := reads_nat (k := .u64) rfl (reads_field (i := 0) r)
    obtain ⟨j, e1, _⟩ := reads_nat (k := .u32) rfl (reads_field (i := 0) (reads_field (i := 1) r))
    obtain ⟨l, e2, _⟩ := reads_nat (k := .u32) rfl (reads_field (i := 1) (reads_field (i := 1) r))
    obtain ⟨s, e3, _⟩ := reads_str (reads_field (i := 2) r)
    simp only [List.drop_zero, List.take_succ_cons, List.take_zero, List.drop_succ_cons, List.cons.injEq, and_true] at e0 e1 e2 e3
    subst e0 e1 e2 e3
    exact ⟨⟨k, j, l, s.data.toList⟩, by show [_, _, _, _] = [_, _, _, _]; rfl⟩

theorem reads_rp {w : World} {row : List Value} (h : row.length = 15) (r : Reads Try.prog w 41 row) : ∃ (y : Rp) (dv ev : Value), Value.agg row.toArray = repV y dv ev ∧ y.fit ∧ -9223372036854775808 ≤ y.status ∧ y.status ≤ 9223372036854775807 ∧ Bytes [] w dv y.data ∧ SlR 4 (EnR.φ [] w) [] w ev y.ents := by
  match row, h with
  | [a0, a1, a2, a3, a4, a5, a6, a7, a8, a9, a10, a11, a12, a13, a14], _ =>
    obtain ⟨n0, e0, f0⟩ := reads_nat (k := .u32) rfl (reads_field (i := 0) r)
    obtain ⟨n1, e1, f1⟩ := reads_nat (k := .u32) rfl (reads_field (i := 1) r)
    obtain ⟨n2, e2, f2⟩ := reads_int (k := .i64) (reads_field (i := 2) r)
    obtain ⟨n3, e3, f3⟩ := reads_nat (k := .u32) rfl (reads_field (i := 0) (reads_field (i := 3) r))
    obtain ⟨n4, e4, f4⟩ := reads_nat (k := .u32) rfl (reads_field (i := 1) (reads_field (i := 3) r))
    obtain ⟨n5, e5, f5⟩ := reads_nat (k := .u32) rfl (reads_field (i := 0) (reads_field (i := 4) r))
    obtain ⟨n6, e6, f6⟩ := reads_nat (k := .u32) rfl (reads_field (i := 1) (reads_field (i := 4) r))
    obtain ⟨n7, e7, f7⟩ := reads_nat (k := .u32) rfl (reads_field (i := 2) (reads_field (i := 4) r))
    obtain ⟨n8, e8, f8⟩ := reads_nat (k := .u32) rfl (reads_field (i := 3) (reads_field (i := 4) r))
    obtain ⟨n9, e9, f9⟩ := reads_nat (k := .u64) rfl (reads_field (i := 4) (reads_field (i := 4) r))
    obtain ⟨d, hd, _⟩ := reads_bytes (v := a10) (reads_field (i := 5) r)
    obtain ⟨es, hes, _⟩ := reads_slR (r := EnR.φ [] w) (v := a11) (reads_field (i := 6) r) (fun row h hr => reads_en h hr)
    obtain ⟨b12, e12⟩ := reads_bool (reads_field (i := 7) r)
    obtain ⟨n13, e13, f13⟩ := reads_nat (k := .u64) rfl (reads_field (i := 8) r)
    obtain ⟨n14, e14, f14⟩ := reads_nat (k := .u32) rfl (reads_field (i := 9) r)
    simp only [List.drop_zero, List.take_succ_cons, List.take_zero, List.drop_succ_cons, List.cons.injEq, and_true] at e0 e1 e2 e3 e4 e5 e6 e7 e8 e9 e12 e13 e14
    subst e0 e1 e2 e3 e4 e5 e6 e7 e8 e9 e12 e13 e14
    simp only [lim] at f0 f1 f3 f4 f5 f6 f7 f8 f9 f13 f14
    simp only [Lit.wf, Bool.and_eq_true, decide_eq_true_eq] at f2
    have k1 : IntKind.i64.min = -9223372036854775808 := rfl
    have k2 : IntKind.i64.max = 9223372036854775807 := rfl
    rw [k1, k2] at f2
    exact ⟨⟨n0, n1, n2, n3, n4, n5, n6, n7, n8, n9, d, es, b12, n13, n14⟩, a10, a11, rfl, ⟨f0, f1, f3, f4, f5, f6, f7, f8, f9, f13, f14⟩, f2.1, f2.2, hd, hes⟩
end Go.Proofs.Ytdhfikbehbpdjaa
