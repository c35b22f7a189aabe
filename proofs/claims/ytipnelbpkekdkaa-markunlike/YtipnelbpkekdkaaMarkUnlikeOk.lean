/- MarkUnlike answers true. -/
import Derived.Test.YtipnelbpkekdkaaMarkl
namespace Go.Proofs.Ytipnelbpkekdkaa
open Gk Go
set_option linter.unusedVariables false
set_option maxHeartbeats 4000000
set_option maxRecDepth 4000
set_option linter.unusedSimpArgs false
attribute [local irreducible] Int.decLt Int.decLe Int.decEq Int.instDecidableEq Gk.Rnds Gk.E Gk.G Gk.R Gk.RD Gk.RX Gk.RO Gk.Y Gk.Ent Gk.Sat Gk.Round Gk.After Gk.Cell Gk.Sl Gk.SlA Gk.CB Gk.OK Gk.FnC Gk.Bytes Gk.BytesL Gk.StrL Gk.Buf Gk.MapI
theorem rdN_run {n m e : Nat} {bs : List UInt8} (h : e = 10 ∨ (e = 0 ∧ bs.length < n + m)) {x e' : Nat} {bs' : List UInt8} (hr : rdN bs e n = (x, bs', e')) : e' = 10 ∨ (e' = 0 ∧ bs'.length < m) := by
  rcases h with rfl | ⟨rfl, h⟩
  · rw [rdN_err bs n (by decide)] at hr
    injection hr with _ hr
    injection hr with _ hr
    exact .inl hr.symm
  · unfold rdN takeR at hr
    simp only [if_true] at hr
    split at hr
    · simp only [Prod.mk.injEq] at hr
      exact .inl hr.2.2.symm
    · rename_i hl
      simp only [Prod.mk.injEq] at hr
      refine .inr ⟨hr.2.2.symm, ?_⟩
      rw [← hr.2.1]
      simp only [List.length_drop]
      omega

theorem mkGet_run {b : List UInt8} (hb : b ≠ []) {x0 : Bool} {b0 : List UInt8} {e0 : Nat} (r0 : rdBool b 0 = (x0, b0, e0)) (h : e0 = 10 ∨ (e0 = 0 ∧ b0.length < 48)) : (mkGet b).2 = 10 := by
  obtain ⟨x1, b1, e1, r1⟩ : ∃ x b' e', rdN b0 e0 4 = (x, b', e') := ⟨_, _, _, rfl⟩
  obtain ⟨x2, b2, e2, r2⟩ : ∃ x b' e', rdN b1 e1 4 = (x, b', e') := ⟨_, _, _, rfl⟩
  obtain ⟨x3, b3, e3, r3⟩ : ∃ x b' e', rdN b2 e2 8 = (x, b', e') := ⟨_, _, _, rfl⟩
  obtain ⟨x4, b4, e4, r4⟩ : ∃ x b' e', rdN b3 e3 8 = (x, b', e') := ⟨_, _, _, rfl⟩
  obtain ⟨x5, b5, e5, r5⟩ : ∃ x b' e', rdN b4 e4 8 = (x, b', e') := ⟨_, _, _, rfl⟩
  obtain ⟨x6, b6, e6, r6⟩ : ∃ x b' e', rdN b5 e5 8 = (x, b', e') := ⟨_, _, _, rfl⟩
  obtain ⟨x7, b7, e7, r7⟩ : ∃ x b' e', rdN b6 e6 4 = (x, b', e') := ⟨_, _, _, rfl⟩
  obtain ⟨x8, b8, e8, r8⟩ : ∃ x b' e', rdN b7 e7 4 = (x, b', e') := ⟨_, _, _, rfl⟩
  have k1 := rdN_run (n := 4) (m := 44) h r1
  have k2 := rdN_run (n := 4) (m := 40) k1 r2
  have k3 := rdN_run (n := 8) (m := 32) k2 r3
  have k4 := rdN_run (n := 8) (m := 24) k3 r4
  have k5 := rdN_run (n := 8) (m := 16) k4 r5
  have k6 := rdN_run (n := 8) (m := 8) k5 r6
  have k7 := rdN_run (n := 4) (m := 4) k6 r7
  have k8 := rdN_run (n := 4) (m := 0) k7 r8
  have k : e8 = 10 := k8.elim id (fun h => by omega)
  unfold mkGet
  rw [if_neg hb]
  simp only [r0, r1, r2, r3, r4, r5, r6, r7, r8, k]
  have : endE b8 10 = 10 := by unfold endE; rw [if_neg (by decide)]
  rw [this, if_pos (by decide)]

theorem mkGet_short {s : Mk} {k : Nat} (h0 : k ≠ 0) (h : k < 52) : (mkGet (s.bytes.take k)).2 = 10 := by
  have hl := s.bytes_len
  have hb : s.bytes.take k ≠ [] := fun h => by
    have := congrArg List.length h
    simp only [List.length_take, List.length_nil] at this; omega
  by_cases h4 : k < 4
  · refine mkGet_run (x0 := false) (b0 := s.bytes.take k) (e0 := 10) hb ?_ (.inl rfl)
    have hlt : (s.bytes.take k).length < 4 := by simp; omega
    generalize s.bytes.take k = b at hlt ⊢
    unfold rdBool rdN takeR
    simp [hlt, numB]
  · have e : s.bytes.take k = be 4 (if s.owner then 1 else 0) ++ (s.bytes.take k).drop 4 := by
      have hg : ∃ r, s.bytes = be 4 (if s.owner then 1 else 0) ++ r := ⟨_, by simp only [Mk.bytes, List.append_assoc]; rfl⟩
      obtain ⟨r, hr⟩ := hg
      rw [hr, List.take_append, be_length, List.take_of_length_le (by rw [be_length]; omega), List.drop_append]
      simp [be_length]
    refine mkGet_run (x0 := s.owner) (b0 := (s.bytes.take k).drop 4) (e0 := 0) hb ?_ (.inr ⟨rfl, by simp; omega⟩)
    rw [e]
    generalize (s.bytes.take k).drop 4 = rest
    rw [rdBool_be]
    simp [be_length]

theorem mkGet_left {s : Mk} (hf : s.fit) (x : UInt8) : (mkGet (s.bytes ++ [x])).2 = 12 := by
  obtain ⟨h1, h2, h3, h4, h5, h6, h7, h8⟩ := hf
  have hb : s.bytes ++ [x] ≠ [] := by simp
  have hg : s.bytes ++ [x] = be 4 (if s.owner then 1 else 0) ++ (be 4 s.phase ++ (be 4 s.peer ++ (be 8 s.epoch ++ (be 8 s.seq ++ (be 8 s.base ++ (be 8 s.goal ++ (be 4 s.next ++ (be 4 s.round ++ [x])))))))) := by simp [Mk.bytes]
  unfold mkGet
  rw [if_neg hb, hg, rdBool_be]
  simp only [rdN_be (n := 4) h1, rdN_be (n := 4) h2, rdN_be (n := 8) h3, rdN_be (n := 8) h4, rdN_be (n := 8) h5, rdN_be (n := 8) h6, rdN_be (n := 4) h7, rdN_be (n := 4) h8]
  have : endE [x] 0 = 12 := by simp [endE]
  rw [this, if_pos (by decide)]

theorem MarkUnlike_ok {w0 : World} {s t : Mk} {ab xb : UInt8} (hs : s.fit) (ht : t.fit) (F : Fr [] [] w0 [] w0 [] []) :
    FnC Try.prog 7 [mkV s, mkV t, byteV ab, byteV xb] [] [] w0 fun r O' w' => r = .bool true := by
  refine fn_of _ Try.func7 rfl (by kernel_rfl) Try.ntmps7 rfl ?_
  refine go_on ?_
  (first | refine f_box1 F rfl rfl (fun z1 w F => ?_) | refine f_boxN F rfl rfl (fun z1 w F => ?_)); refine go_on ?_
  (first | refine f_box1 F rfl rfl (fun z2 w F => ?_) | refine f_boxN F rfl rfl (fun z2 w F => ?_)); refine go_on ?_
  refine f_call F rfl rfl awake15_c ?_
  clear F; rintro r O w T Φ ⟨rfl, rfl, rfl⟩ F0
  refine tidy F0 (fun F => ?_); clear F0
  refine go_on ?_
  refine f_call F rfl rfl (mkPut_c (s := s)) ?_
  clear F; rintro r O w T Φ ⟨u, rfl, rfl, rfl⟩ F0
  refine tidy F0 (fun F => ?_); clear F0
  refine go_on ?_
  refine f_call F rfl rfl (mkPut_c (s := t)) ?_
  clear F; rintro r O w T Φ ⟨v, rfl, rfl, rfl⟩ F0
  refine tidy F0 (fun F => ?_); clear F0
  refine go_on ?_
  obtain ⟨ua, uc, rfl, huc⟩ := (F.bufAt (v := u)).form
  obtain ⟨va, vc, rfl, _⟩ := (F.bufAt (v := v)).form
  by_cases ms : s.may
  · rw [if_pos ms]
    by_cases mt : t.may
    · rw [if_pos mt]
      have ha := Mk.alike hs ht ms mt
      have hne : (!(decide (s.out = t.out) == decide (s = t))) = false := by simp [ha]
      refine go_on ?_
      refine f_drawA F [] [(0, true), (1, true), (2, true), (3, true), (4, true), (5, true), (6, true), (7, true), (8, true)] (by kernel_rfl) (by kernel_rfl) (fun w F hS => ?_); refine go_look ?_
      refine rd_open rfl ?_; (first | refine ro_n ?_ | refine ro_g rfl rfl ?_); refine rx_y rfl (fun _ hw => y_bytes_str rfl (FS.bytesOwn (xs := s.out) hw)) (by assumption) ?_; refine go_look ?_
      refine rd_open rfl ?_; (first | refine ro_n ?_ | refine ro_g rfl rfl ?_); refine rx_y rfl (fun _ hw => y_bytes_str rfl (FS.bytesOwn (xs := t.out) hw)) (by assumption) ?_; refine go_look ?_
      refine rd_open rfl ?_; (first | refine ro_n ?_ | refine ro_g rfl rfl ?_); refine rx_y rfl (fun _ hw => y_agg_eq (r := decide (s = t)) rfl rfl (mk_eq s t)) (by assumption) ?_; refine go_look ?_
      refine rd_done ?_; refine go_on ?_
      rw [hne]
      have hsl := s.out_len
      by_cases h0 : s.out.length = 0
      · have hz : s = .zero := Decidable.byContradiction fun hn => by
          unfold Mk.out at h0
          rw [if_pos ⟨ms, hn⟩, s.bytes_len] at h0
          cases h0
        refine go_on ?_
        refine r_y (y_agg_eq (r := decide (s = .zero)) rfl rfl (mk_eq s .zero)) rfl ?_
        refine go_on ?_
        refine go_back ?_
        exact F.lawb (by simp [hz])
      · have hz : s ≠ .zero := fun hn => h0 (by unfold Mk.out; rw [if_neg (fun h => h.2 hn)]; rfl)
        have ho : s.out = s.bytes := by unfold Mk.out; rw [if_pos ⟨ms, hz⟩]
        have hl52 : s.out.length = 52 := by omega
        have hk : ab.toNat % s.out.length < 52 := by rw [hl52]; exact Nat.mod_lt _ (by decide)
        refine go_on ?_
        generalize ab.toNat % s.out.length = k at hk ⊢
        refine r_y (y_slice (li := 0) (hi' := (k : Nat)) (mi := (uc : Nat)) rfl rfl rfl rfl (by simp) (by omega)) rfl ?_
        have hcut := Bytes.cut (F.bytesOwn (xs := s.out)) (l := 0) (h := k) (k := uc) (Nat.le_refl _) (Nat.zero_le _) (by omega) (by omega)
        refine f_lend F rfl rfl (mkGet_c (b := s.out.take k)) (fun g hg => ?_) (fun r w hr F => ?_) (by simp; omega)
        · simp at hg; subst hg; show Bytes _ _ _ _; simpa using hcut
        subst hr
        refine go_on ?_
        (first | refine f_alloc1 F rfl (fun z3 w F => ?_) | refine f_allocN F rfl (fun z3 w F => ?_)); refine go_on ?_
        refine f_storeAll F rfl rfl rfl (fun w F => ?_); refine go_on ?_
        refine f_buildSlice (cs := [_]) F rfl rfl rfl rfl (fun q w F => ?_); refine go_on ?_
        refine f_append F rfl rfl rfl (F.srcOne) (fun r w O F => ?_); refine go_on ?_
        have eb : bytesV s.out ++ [byteV xb] = bytesV (s.out ++ [xb]) := by simp [bytesV]
        change Fr _ _ _ _ _ ((2, Thing.buf 1 r (s.out.length + 1) (bytesV s.out ++ [byteV xb])) :: _) _ at F
        rw [eb] at F
        refine f_lend F rfl rfl (mkGet_c (b := s.out ++ [xb])) (fun g hg => ?_) (fun r2 w hr F => ?_) (by simp; omega)
        · simp at hg; subst hg; exact F.bytesOwn
        subst hr
        have hleft : (mkGet (s.out ++ [xb])).2 = 12 := by rw [ho]; exact mkGet_left hs xb
        rw [hleft]
        by_cases k0 : k = 0
        · subst k0
          rw [List.take_zero, mkGet_nil]
          refine go_on ?_
          (first | refine f_alloc1 F rfl (fun z4 w F => ?_) | refine f_allocN F rfl (fun z4 w F => ?_)); refine go_on ?_
          refine f_storeAll F rfl rfl rfl (fun w F => ?_); refine go_on ?_
          refine go_back ?_
          exact F.lawb (by simp; omega)
        · have hsh : (mkGet (s.out.take k)).2 = 10 := by rw [ho]; exact mkGet_short k0 hk
          rw [hsh]
          refine go_on ?_
          (first | refine f_alloc1 F rfl (fun z4 w F => ?_) | refine f_allocN F rfl (fun z4 w F => ?_)); refine go_on ?_
          refine f_storeAll F rfl rfl rfl (fun w F => ?_); refine go_on ?_
          have hq : (decide ((k : Int) = 0) == decide (((10 : Nat) : Int) = 0)) = true := by
            simp; exact k0
          have hk0 : decide ((k : Int) = 0) = false := decide_eq_false (by omega)
          rw [hq]
          refine go_on ?_
          refine go_back ?_
          exact F.lawb (by simp; omega)
    · rw [if_neg mt]
      refine go_on ?_
      refine go_back ?_
      exact F.law
  · rw [if_neg ms]
    refine go_on ?_
    refine go_back ?_
    exact F.law
theorem MarkUnlike_true {w : World} {l k : List Value} {v2 v3 : Value} (r0 : Reads Try.prog w 77 l) (r1 : Reads Try.prog w 77 k) (r2 : Reads Try.prog w 5 [v2]) (r3 : Reads Try.prog w 5 [v3]) :
    FnC Try.prog 7 [.agg l.toArray, .agg k.toArray, v2, v3] [] [] w fun r O' w' => r = .bool true := by
  obtain ⟨s, e, hf⟩ := reads_mk r0
  obtain ⟨t, e2, hg⟩ := reads_mk r1
  obtain ⟨x, hx⟩ := reads_u8 r2
  obtain ⟨y, hy⟩ := reads_u8 r3
  injection hx with hx
  injection hy with hy
  subst hx hy
  rw [e, e2]
  exact MarkUnlike_ok hf hg (Fr.start OK_nil)
end Go.Proofs.Ytipnelbpkekdkaa
