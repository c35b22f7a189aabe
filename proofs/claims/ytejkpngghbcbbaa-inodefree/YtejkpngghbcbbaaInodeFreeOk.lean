/- InodeFree answers true. -/
import Derived.Test.YtejkpngghbcbbaaInodel
namespace Go.Proofs.Ytejkpngghbcbbaa
open Gk Go
set_option linter.unusedVariables false
set_option maxHeartbeats 4000000
set_option linter.unusedSimpArgs false
attribute [local irreducible] Int.decLt Int.decLe Int.decEq Int.instDecidableEq Gk.Rnds Gk.E Gk.G Gk.R Gk.RD Gk.RX Gk.RO Gk.Y Gk.Ent Gk.Sat Gk.Round Gk.After Gk.Cell Gk.Sl Gk.SlA Gk.CB Gk.OK Gk.FnC Gk.Bytes Gk.BytesL Gk.StrL Gk.Buf Gk.MapI
theorem InodeFree_ok {w0 : World} {n : Ino} {v : Value} (hf : n.blocks.length ≤ 1000000 → n.fit) (F : Fr [] [] w0 [] w0 [] [Fact.u32s v n.blocks]) :
    FnC Try.prog 14 [inoV n v] [] [] w0 fun r O' w' => r = .bool true := by
  obtain ⟨a, c, rfl, _⟩ := (F.sl (v := v) (cs := n.blocks.map u32V)).form
  refine fn_of _ Try.func14 rfl (by kernel_rfl) Try.ntmps14 rfl ?_
  refine go_on ?_
  (first | refine f_box1 F rfl rfl (fun q w F => ?_) | refine f_boxN F rfl rfl (fun q w F => ?_)); refine go_on ?_
  refine f_call F rfl rfl awake07_c ?_
  clear F; rintro r O w T Φ ⟨rfl, rfl, rfl⟩ F0
  refine tidy F0 (fun F => ?_); clear F0
  refine go_on ?_
  by_cases g : 20 < n.blocks.length
  · refine go_on ?_
    refine go_back ?_
    exact F.law
  obtain ⟨h1, h2, h3, h4, h5, h6, h7, h8, h9, h10⟩ := hf (by omega)
  have hf0 : Ino.fit ⟨0, n.gen, n.links, n.mode, n.size, n.change, n.cookie, n.verf, n.blocks⟩ := ⟨(by decide : 0 < 4294967296), h2, h3, h4, h5, h6, h7, h8, h9, h10⟩
  have hlen := Ino.bytes_len ⟨0, n.gen, n.links, n.mode, n.size, n.change, n.cookie, n.verf, n.blocks⟩
  dsimp only at hlen
  have q1 : Ino.zero.gen = 0 := rfl
  have q2 : Ino.zero.change = 0 := rfl
  have q3 : Ino.zero.kind = 0 := rfl
  refine go_on ?_
  refine f_store1 F rfl rfl rfl (fun w F => ?_); refine go_on ?_
  apply f_and 4 24 20 F
  · exact rfl
  · intro e; have e' := e; (try simp only [Bool.and_eq_true, Bool.or_eq_true, decide_eq_true_eq, decide_eq_false_iff_not, Bool.not_eq_true', Bool.or_eq_false_iff, Bool.not_eq_false', Bool.and_eq_false_iff] at e'); refine go_on ?_; refine e_cut rfl rfl (by (repeat (first | exact sub_refl | refine sub_new rfl ?_ | refine sub_bool rfl (by assumption) ?_))) (by (first | exact ⟨_, F⟩ | exact ⟨_, F.wk⟩))
  · intro e; have e' := e; (try simp only [Bool.and_eq_true, Bool.or_eq_true, decide_eq_true_eq, decide_eq_false_iff_not, Bool.not_eq_true', Bool.or_eq_false_iff, Bool.not_eq_false', Bool.and_eq_false_iff] at e'); refine go_on ?_; refine e_cut rfl rfl (by (repeat (first | exact sub_refl | refine sub_new rfl ?_ | refine sub_bool rfl (by assumption) ?_))) (by (first | exact ⟨_, F⟩ | exact ⟨_, F.wk⟩))
  intro O w F; refine go_on ?_
  apply f_and 4 29 25 F
  · exact rfl
  · intro e; have e' := e; (try simp only [Bool.and_eq_true, Bool.or_eq_true, decide_eq_true_eq, decide_eq_false_iff_not, Bool.not_eq_true', Bool.or_eq_false_iff, Bool.not_eq_false', Bool.and_eq_false_iff] at e'); refine go_on ?_; refine e_cut rfl rfl (by (repeat (first | exact sub_refl | refine sub_new rfl ?_ | refine sub_bool rfl (by assumption) ?_))) (by (first | exact ⟨_, F⟩ | exact ⟨_, F.wk⟩))
  · intro e; have e' := e; (try simp only [Bool.and_eq_true, Bool.or_eq_true, decide_eq_true_eq, decide_eq_false_iff_not, Bool.not_eq_true', Bool.or_eq_false_iff, Bool.not_eq_false', Bool.and_eq_false_iff] at e'); refine go_on ?_; refine e_cut rfl rfl (by (repeat (first | exact sub_refl | refine sub_new rfl ?_ | refine sub_bool rfl (by assumption) ?_))) (by (first | exact ⟨_, F⟩ | exact ⟨_, F.wk⟩))
  intro O w F; refine go_on ?_
  apply f_and 4 34 30 F
  · exact rfl
  · intro e; have e' := e; (try simp only [Bool.and_eq_true, Bool.or_eq_true, decide_eq_true_eq, decide_eq_false_iff_not, Bool.not_eq_true', Bool.or_eq_false_iff, Bool.not_eq_false', Bool.and_eq_false_iff] at e'); refine go_on ?_; refine e_cut rfl rfl (by (repeat (first | exact sub_refl | refine sub_new rfl ?_ | refine sub_bool rfl (by assumption) ?_))) (by (first | exact ⟨_, F⟩ | exact ⟨_, F.wk⟩))
  · intro e; have e' := e; (try simp only [Bool.and_eq_true, Bool.or_eq_true, decide_eq_true_eq, decide_eq_false_iff_not, Bool.not_eq_true', Bool.or_eq_false_iff, Bool.not_eq_false', Bool.and_eq_false_iff] at e'); refine go_on ?_; refine e_cut rfl rfl (by (repeat (first | exact sub_refl | refine sub_new rfl ?_ | refine sub_bool rfl (by assumption) ?_))) (by (first | exact ⟨_, F⟩ | exact ⟨_, F.wk⟩))
  intro O w F; refine go_on ?_
  apply f_and 4 39 35 F
  · exact rfl
  · intro e; have e' := e; (try simp only [Bool.and_eq_true, Bool.or_eq_true, decide_eq_true_eq, decide_eq_false_iff_not, Bool.not_eq_true', Bool.or_eq_false_iff, Bool.not_eq_false', Bool.and_eq_false_iff] at e'); refine go_on ?_; refine e_cut rfl rfl (by (repeat (first | exact sub_refl | refine sub_new rfl ?_ | refine sub_bool rfl (by assumption) ?_))) (by (first | exact ⟨_, F⟩ | exact ⟨_, F.wk⟩))
  · intro e; have e' := e; (try simp only [Bool.and_eq_true, Bool.or_eq_true, decide_eq_true_eq, decide_eq_false_iff_not, Bool.not_eq_true', Bool.or_eq_false_iff, Bool.not_eq_false', Bool.and_eq_false_iff] at e'); refine go_on ?_; refine e_cut rfl rfl (by (repeat (first | exact sub_refl | refine sub_new rfl ?_ | refine sub_bool rfl (by assumption) ?_))) (by (first | exact ⟨_, F⟩ | exact ⟨_, F.wk⟩))
  intro O w F; refine go_on ?_
  apply f_and 5 45 40 F
  · exact rfl
  · intro e; have e' := e; (try simp only [Bool.and_eq_true, Bool.or_eq_true, decide_eq_true_eq, decide_eq_false_iff_not, Bool.not_eq_true', Bool.or_eq_false_iff, Bool.not_eq_false', Bool.and_eq_false_iff] at e'); refine go_on ?_; refine e_cut rfl rfl (by (repeat (first | exact sub_refl | refine sub_new rfl ?_ | refine sub_bool rfl (by assumption) ?_))) (by (first | exact ⟨_, F⟩ | exact ⟨_, F.wk⟩))
  · intro e; have e' := e; (try simp only [Bool.and_eq_true, Bool.or_eq_true, decide_eq_true_eq, decide_eq_false_iff_not, Bool.not_eq_true', Bool.or_eq_false_iff, Bool.not_eq_false', Bool.and_eq_false_iff] at e'); refine go_on ?_; refine e_cut rfl rfl (by (repeat (first | exact sub_refl | refine sub_new rfl ?_ | refine sub_bool rfl (by assumption) ?_))) (by (first | exact ⟨_, F⟩ | exact ⟨_, F.wk⟩))
  intro O w F; refine go_on ?_
  refine f_call F rfl rfl (inoPut_c (n := ⟨0, n.gen, n.links, n.mode, n.size, n.change, n.cookie, n.verf, n.blocks⟩)) ?_
  clear F; rintro r O w T Φ ⟨u, rfl, rfl, rfl⟩ F0
  refine tidy F0 (fun F => ?_); clear F0
  refine go_on ?_
  by_cases hb : n.links = 0 ∧ n.mode = 0 ∧ n.size = 0 ∧ n.cookie = 0 ∧ n.verf = 0 ∧ n.blocks.length = 0
  · have e : (decide ((n.links : Int) = 0) && decide ((n.mode : Int) = 0) && decide ((n.size : Int) = 0) && decide ((n.cookie : Int) = 0) && decide ((n.verf : Int) = 0) && decide ((n.blocks.length : Int) = 0)) = true := by
      simp only [Bool.and_eq_true, decide_eq_true_eq]; omega
    rw [e]
    obtain ⟨b1, b2, b3, b4, b5, b6⟩ := hb
    have hbl := List.length_eq_zero_iff.1 b6
    have hm : Ino.may ⟨0, n.gen, n.links, n.mode, n.size, n.change, n.cookie, n.verf, n.blocks⟩ := by
      refine ⟨Nat.zero_le _, by dsimp only; omega, by dsimp only; rw [b6, b3]; rfl, by dsimp only; rw [hbl]; exact List.nodup_nil, ?_⟩
      rw [if_pos rfl]; exact ⟨b1, b2, b3, b4, b5⟩
    rw [if_pos hm]
    by_cases hz : Ino.none ⟨0, n.gen, n.links, n.mode, n.size, n.change, n.cookie, n.verf, n.blocks⟩
    · have z1 : n.gen = 0 := hz.2.1
      have z2 : n.change = 0 := hz.2.2.2.2.2.1
      rw [if_neg (fun h => h.2 hz)] at F
      obtain ⟨ua, uc, rfl, _⟩ := (F.bytes (v := u) (xs := [])).form
      refine go_on ?_
      refine f_call F rfl rfl (inoGet_c (b := [])) ?_
      clear F; rintro r O w T Φ ⟨x, rfl, rfl, rfl⟩ F0
      refine tidy F0 (fun F => ?_); clear F0
      refine go_on ?_
      rw [inoGet_nil] at F ⊢
      dsimp only at F ⊢
      obtain ⟨xa, xc, rfl, _⟩ := (F.sl (v := x) (cs := [])).form
      refine go_on ?_
      (first | refine f_alloc1 F rfl (fun p w F => ?_) | refine f_allocN F rfl (fun p w F => ?_)); refine go_on ?_
      refine f_storeAll F rfl rfl rfl (fun w F => ?_); refine go_on ?_
      refine r_y (y_beq true rfl rfl (by simp [z1, z2])) rfl ?_
      refine go_on ?_
      refine go_back ?_
      exact F.lawb (by simp [Ino.zero])
    · have hmz : Ino.may ⟨0, n.gen, n.links, n.mode, n.size, n.change, n.cookie, n.verf, n.blocks⟩ ∧ ¬ Ino.none ⟨0, n.gen, n.links, n.mode, n.size, n.change, n.cookie, n.verf, n.blocks⟩ := ⟨hm, hz⟩
      have hg := inoGet_bytes hf0 hm hz
      rw [if_pos hmz] at F
      generalize Ino.bytes ⟨0, n.gen, n.links, n.mode, n.size, n.change, n.cookie, n.verf, n.blocks⟩ = bs at hg hlen F
      obtain ⟨ua, uc, rfl, _⟩ := (F.bytes (v := u) (xs := bs)).form
      have hl0 : bs.length ≠ 0 := by omega
      have hz2 : n.gen = 0 → n.change ≠ 0 := fun z1 z2 => hz ⟨rfl, z1, b1, b2, b3, z2, b4, b5, b6⟩
      refine go_on ?_
      refine f_call F rfl rfl (inoGet_c (b := bs)) ?_
      clear F; rintro r O w T Φ ⟨x, rfl, rfl, rfl⟩ F0
      refine tidy F0 (fun F => ?_); clear F0
      refine go_on ?_
      rw [hg] at F ⊢
      dsimp only at F ⊢
      obtain ⟨xa, xc, rfl, _⟩ := (F.sl (v := x) (cs := n.blocks.map u32V)).form
      refine go_on ?_
      (first | refine f_alloc1 F rfl (fun p w F => ?_) | refine f_allocN F rfl (fun p w F => ?_)); refine go_on ?_
      refine f_storeAll F rfl rfl rfl (fun w F => ?_); refine go_on ?_
      by_cases z1 : n.gen = 0
      · have z2 := hz2 z1
        refine go_on ?_
        refine r_y (y_beq true rfl rfl (by rw [decide_eq_false (by omega), decide_eq_false (by omega)]; rfl)) rfl ?_
        refine go_on ?_
        refine go_back ?_
        exact F.lawb (by simp)
      · refine go_on ?_
        refine r_y (y_beq true rfl rfl (by rw [decide_eq_false (by omega)]; rfl)) rfl ?_
        refine go_on ?_
        refine go_back ?_
        exact F.lawb (by simp)
  · have e : (decide ((n.links : Int) = 0) && decide ((n.mode : Int) = 0) && decide ((n.size : Int) = 0) && decide ((n.cookie : Int) = 0) && decide ((n.verf : Int) = 0) && decide ((n.blocks.length : Int) = 0)) = false := by
      rw [Bool.eq_false_iff]
      simp only [ne_eq, Bool.and_eq_true, decide_eq_true_eq]; omega
    rw [e]
    have hm : ¬ Ino.may ⟨0, n.gen, n.links, n.mode, n.size, n.change, n.cookie, n.verf, n.blocks⟩ := by
      rintro ⟨_, _, k3, _, k5⟩
      rw [if_pos rfl] at k5
      dsimp only at k3 k5
      refine hb ⟨k5.1, k5.2.1, k5.2.2.1, k5.2.2.2.1, k5.2.2.2.2, ?_⟩
      rw [k3, k5.2.2.1]; rfl
    rw [if_neg hm]
    rw [if_neg (fun h => hm h.1)] at F
    obtain ⟨ua, uc, rfl, _⟩ := (F.bytes (v := u) (xs := [])).form
    refine go_on ?_
    refine go_back ?_
    exact F.lawb (by simp)
theorem InodeFree_true {w : World} {l : List Value} (r0 : Reads Try.prog w 69 l) :
    FnC Try.prog 14 [.agg l.toArray] [] [] w fun r O' w' => r = .bool true := by
  obtain ⟨n, v, e, hv, hf⟩ := reads_ino r0
  rw [e]
  exact InodeFree_ok hf ((Fr.start OK_nil).fact (f := Fact.u32s v n.blocks) hv)
end Go.Proofs.Ytejkpngghbcbbaa
