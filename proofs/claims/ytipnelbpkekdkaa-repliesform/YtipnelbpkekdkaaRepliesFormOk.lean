/- RepliesForm answers true. -/
import Derived.Test.YtipnelbpkekdkaaAwake14
import Derived.Test.YtipnelbpkekdkaaReplaw
namespace Go.Proofs.Ytipnelbpkekdkaa
open Gk Go
set_option linter.unusedVariables false
set_option maxHeartbeats 4000000
set_option maxRecDepth 4000
set_option linter.unusedSimpArgs false
attribute [local irreducible] Int.decLt Int.decLe Int.decEq Int.instDecidableEq Gk.Rnds Gk.E Gk.G Gk.R Gk.RD Gk.RX Gk.RO Gk.Y Gk.Ent Gk.Sat Gk.Round Gk.After Gk.Cell Gk.Sl Gk.SlA Gk.CB Gk.OK Gk.FnC Gk.Bytes Gk.BytesL Gk.StrL Gk.Buf Gk.MapI
theorem RepliesForm_ok {w0 : World} {r : Rp} {dv ev mv : Value} {ab : UInt8} {more : List UInt8} (hf : r.fit) (hs1 : -9223372036854775808 ≤ r.status) (hs2 : r.status ≤ 9223372036854775807)
    (F : Fr [] [] w0 [] w0 [] [Fact.bytes dv r.data, Fact.rel 4 EnR ev r.ents, Fact.bytes mv more]) :
    FnC Try.prog 9 [repV r dv ev, byteV ab, mv] [] [] w0 fun r O' w' => r = .bool true := by
  obtain ⟨da, dc, rfl, _⟩ := (F.bytes (v := dv)).form
  obtain ⟨ea, ec, rfl, _⟩ := (F.rel (v := ev) (R := EnR)).form
  obtain ⟨ma, mc, rfl, _⟩ := (F.bytes (v := mv)).form
  refine fn_of _ Try.func9 rfl (by kernel_rfl) Try.ntmps9 rfl ?_
  (refine go_on ?_; repeat (first | (refine f_store1 F rfl rfl rfl (fun w F => ?_); refine go_on ?_) | (refine f_storeAll F rfl rfl rfl (fun w F => ?_); refine go_on ?_) | (refine f_box1 F rfl rfl (fun q w F => ?_); refine go_on ?_) | (refine f_boxN F rfl rfl (fun q w F => ?_); refine go_on ?_) | (refine f_alloc1 F rfl (fun q w F => ?_); refine go_on ?_) | (refine f_allocN F rfl (fun q w F => ?_); refine go_on ?_) | (refine f_call F rfl rfl awake14_c ?_; clear F; rintro r O w T Φ ⟨rfl, rfl, rfl⟩ F0; refine tidy F0 (fun F => ?_); clear F0; refine go_on ?_) | (refine f_call F rfl rfl txnNew_c ?_; clear F; rintro r O w T Φ ⟨p, m, rfl, rfl, rfl⟩ F0; refine tidy F0 (fun F => ?_); clear F0; refine go_on ?_) | (refine f_call F rfl rfl repPut_c ?_; clear F; rintro r O w T Φ ⟨rfl, rfl, rfl⟩ F0; refine tidy F0 (fun F => ?_); clear F0; refine go_on ?_) | (refine f_call F rfl rfl repSetRaw_c ?_; clear F; rintro r O w T Φ ⟨rfl, rfl, rfl⟩ F0; refine tidy F0 (fun F => ?_); clear F0; refine go_on ?_) | (refine f_call F rfl rfl repRaw_c ?_; clear F; rintro r O w T Φ ⟨rfl, rfl⟩ F0; refine tidy F0 (fun F => ?_); clear F0; refine go_on ?_) | (refine f_call F rfl rfl txnChanges_c ?_; clear F; rintro r O w T Φ ⟨rfl, rfl⟩ F0; refine tidy F0 (fun F => ?_); clear F0; refine go_on ?_) | (refine f_call F rfl rfl txnChangesn_c ?_; clear F; rintro r O w T Φ ⟨rfl, rfl, rfl⟩ F0; refine tidy F0 (fun F => ?_); clear F0; refine go_on ?_)))
  by_cases g1 : 100 < r.data.length
  · (refine go_on ?_; repeat (first | (refine f_store1 F rfl rfl rfl (fun w F => ?_); refine go_on ?_) | (refine f_storeAll F rfl rfl rfl (fun w F => ?_); refine go_on ?_) | (refine f_box1 F rfl rfl (fun q w F => ?_); refine go_on ?_) | (refine f_boxN F rfl rfl (fun q w F => ?_); refine go_on ?_) | (refine f_alloc1 F rfl (fun q w F => ?_); refine go_on ?_) | (refine f_allocN F rfl (fun q w F => ?_); refine go_on ?_) | (refine f_call F rfl rfl awake14_c ?_; clear F; rintro r O w T Φ ⟨rfl, rfl, rfl⟩ F0; refine tidy F0 (fun F => ?_); clear F0; refine go_on ?_) | (refine f_call F rfl rfl txnNew_c ?_; clear F; rintro r O w T Φ ⟨p, m, rfl, rfl, rfl⟩ F0; refine tidy F0 (fun F => ?_); clear F0; refine go_on ?_) | (refine f_call F rfl rfl repPut_c ?_; clear F; rintro r O w T Φ ⟨rfl, rfl, rfl⟩ F0; refine tidy F0 (fun F => ?_); clear F0; refine go_on ?_) | (refine f_call F rfl rfl repSetRaw_c ?_; clear F; rintro r O w T Φ ⟨rfl, rfl, rfl⟩ F0; refine tidy F0 (fun F => ?_); clear F0; refine go_on ?_) | (refine f_call F rfl rfl repRaw_c ?_; clear F; rintro r O w T Φ ⟨rfl, rfl⟩ F0; refine tidy F0 (fun F => ?_); clear F0; refine go_on ?_) | (refine f_call F rfl rfl txnChanges_c ?_; clear F; rintro r O w T Φ ⟨rfl, rfl⟩ F0; refine tidy F0 (fun F => ?_); clear F0; refine go_on ?_) | (refine f_call F rfl rfl txnChangesn_c ?_; clear F; rintro r O w T Φ ⟨rfl, rfl, rfl⟩ F0; refine tidy F0 (fun F => ?_); clear F0; refine go_on ?_)))
    refine go_back ?_
    exact F.law
  by_cases g2 : 10 < r.ents.length
  · (refine go_on ?_; repeat (first | (refine f_store1 F rfl rfl rfl (fun w F => ?_); refine go_on ?_) | (refine f_storeAll F rfl rfl rfl (fun w F => ?_); refine go_on ?_) | (refine f_box1 F rfl rfl (fun q w F => ?_); refine go_on ?_) | (refine f_boxN F rfl rfl (fun q w F => ?_); refine go_on ?_) | (refine f_alloc1 F rfl (fun q w F => ?_); refine go_on ?_) | (refine f_allocN F rfl (fun q w F => ?_); refine go_on ?_) | (refine f_call F rfl rfl awake14_c ?_; clear F; rintro r O w T Φ ⟨rfl, rfl, rfl⟩ F0; refine tidy F0 (fun F => ?_); clear F0; refine go_on ?_) | (refine f_call F rfl rfl txnNew_c ?_; clear F; rintro r O w T Φ ⟨p, m, rfl, rfl, rfl⟩ F0; refine tidy F0 (fun F => ?_); clear F0; refine go_on ?_) | (refine f_call F rfl rfl repPut_c ?_; clear F; rintro r O w T Φ ⟨rfl, rfl, rfl⟩ F0; refine tidy F0 (fun F => ?_); clear F0; refine go_on ?_) | (refine f_call F rfl rfl repSetRaw_c ?_; clear F; rintro r O w T Φ ⟨rfl, rfl, rfl⟩ F0; refine tidy F0 (fun F => ?_); clear F0; refine go_on ?_) | (refine f_call F rfl rfl repRaw_c ?_; clear F; rintro r O w T Φ ⟨rfl, rfl⟩ F0; refine tidy F0 (fun F => ?_); clear F0; refine go_on ?_) | (refine f_call F rfl rfl txnChanges_c ?_; clear F; rintro r O w T Φ ⟨rfl, rfl⟩ F0; refine tidy F0 (fun F => ?_); clear F0; refine go_on ?_) | (refine f_call F rfl rfl txnChangesn_c ?_; clear F; rintro r O w T Φ ⟨rfl, rfl, rfl⟩ F0; refine tidy F0 (fun F => ?_); clear F0; refine go_on ?_)))
    refine go_back ?_
    exact F.law
  by_cases g3 : more.length = 0
  · (refine go_on ?_; repeat (first | (refine f_store1 F rfl rfl rfl (fun w F => ?_); refine go_on ?_) | (refine f_storeAll F rfl rfl rfl (fun w F => ?_); refine go_on ?_) | (refine f_box1 F rfl rfl (fun q w F => ?_); refine go_on ?_) | (refine f_boxN F rfl rfl (fun q w F => ?_); refine go_on ?_) | (refine f_alloc1 F rfl (fun q w F => ?_); refine go_on ?_) | (refine f_allocN F rfl (fun q w F => ?_); refine go_on ?_) | (refine f_call F rfl rfl awake14_c ?_; clear F; rintro r O w T Φ ⟨rfl, rfl, rfl⟩ F0; refine tidy F0 (fun F => ?_); clear F0; refine go_on ?_) | (refine f_call F rfl rfl txnNew_c ?_; clear F; rintro r O w T Φ ⟨p, m, rfl, rfl, rfl⟩ F0; refine tidy F0 (fun F => ?_); clear F0; refine go_on ?_) | (refine f_call F rfl rfl repPut_c ?_; clear F; rintro r O w T Φ ⟨rfl, rfl, rfl⟩ F0; refine tidy F0 (fun F => ?_); clear F0; refine go_on ?_) | (refine f_call F rfl rfl repSetRaw_c ?_; clear F; rintro r O w T Φ ⟨rfl, rfl, rfl⟩ F0; refine tidy F0 (fun F => ?_); clear F0; refine go_on ?_) | (refine f_call F rfl rfl repRaw_c ?_; clear F; rintro r O w T Φ ⟨rfl, rfl⟩ F0; refine tidy F0 (fun F => ?_); clear F0; refine go_on ?_) | (refine f_call F rfl rfl txnChanges_c ?_; clear F; rintro r O w T Φ ⟨rfl, rfl⟩ F0; refine tidy F0 (fun F => ?_); clear F0; refine go_on ?_) | (refine f_call F rfl rfl txnChangesn_c ?_; clear F; rintro r O w T Φ ⟨rfl, rfl, rfl⟩ F0; refine tidy F0 (fun F => ?_); clear F0; refine go_on ?_)))
    refine go_back ?_
    exact F.law
  by_cases g4 : 20 < more.length
  · (refine go_on ?_; repeat (first | (refine f_store1 F rfl rfl rfl (fun w F => ?_); refine go_on ?_) | (refine f_storeAll F rfl rfl rfl (fun w F => ?_); refine go_on ?_) | (refine f_box1 F rfl rfl (fun q w F => ?_); refine go_on ?_) | (refine f_boxN F rfl rfl (fun q w F => ?_); refine go_on ?_) | (refine f_alloc1 F rfl (fun q w F => ?_); refine go_on ?_) | (refine f_allocN F rfl (fun q w F => ?_); refine go_on ?_) | (refine f_call F rfl rfl awake14_c ?_; clear F; rintro r O w T Φ ⟨rfl, rfl, rfl⟩ F0; refine tidy F0 (fun F => ?_); clear F0; refine go_on ?_) | (refine f_call F rfl rfl txnNew_c ?_; clear F; rintro r O w T Φ ⟨p, m, rfl, rfl, rfl⟩ F0; refine tidy F0 (fun F => ?_); clear F0; refine go_on ?_) | (refine f_call F rfl rfl repPut_c ?_; clear F; rintro r O w T Φ ⟨rfl, rfl, rfl⟩ F0; refine tidy F0 (fun F => ?_); clear F0; refine go_on ?_) | (refine f_call F rfl rfl repSetRaw_c ?_; clear F; rintro r O w T Φ ⟨rfl, rfl, rfl⟩ F0; refine tidy F0 (fun F => ?_); clear F0; refine go_on ?_) | (refine f_call F rfl rfl repRaw_c ?_; clear F; rintro r O w T Φ ⟨rfl, rfl⟩ F0; refine tidy F0 (fun F => ?_); clear F0; refine go_on ?_) | (refine f_call F rfl rfl txnChanges_c ?_; clear F; rintro r O w T Φ ⟨rfl, rfl⟩ F0; refine tidy F0 (fun F => ?_); clear F0; refine go_on ?_) | (refine f_call F rfl rfl txnChangesn_c ?_; clear F; rintro r O w T Φ ⟨rfl, rfl, rfl⟩ F0; refine tidy F0 (fun F => ?_); clear F0; refine go_on ?_)))
    refine go_back ?_
    exact F.law
  (refine go_on ?_; repeat (first | (refine f_store1 F rfl rfl rfl (fun w F => ?_); refine go_on ?_) | (refine f_storeAll F rfl rfl rfl (fun w F => ?_); refine go_on ?_) | (refine f_box1 F rfl rfl (fun q w F => ?_); refine go_on ?_) | (refine f_boxN F rfl rfl (fun q w F => ?_); refine go_on ?_) | (refine f_alloc1 F rfl (fun q w F => ?_); refine go_on ?_) | (refine f_allocN F rfl (fun q w F => ?_); refine go_on ?_) | (refine f_call F rfl rfl awake14_c ?_; clear F; rintro r O w T Φ ⟨rfl, rfl, rfl⟩ F0; refine tidy F0 (fun F => ?_); clear F0; refine go_on ?_) | (refine f_call F rfl rfl txnNew_c ?_; clear F; rintro r O w T Φ ⟨p, m, rfl, rfl, rfl⟩ F0; refine tidy F0 (fun F => ?_); clear F0; refine go_on ?_) | (refine f_call F rfl rfl repPut_c ?_; clear F; rintro r O w T Φ ⟨rfl, rfl, rfl⟩ F0; refine tidy F0 (fun F => ?_); clear F0; refine go_on ?_) | (refine f_call F rfl rfl repSetRaw_c ?_; clear F; rintro r O w T Φ ⟨rfl, rfl, rfl⟩ F0; refine tidy F0 (fun F => ?_); clear F0; refine go_on ?_) | (refine f_call F rfl rfl repRaw_c ?_; clear F; rintro r O w T Φ ⟨rfl, rfl⟩ F0; refine tidy F0 (fun F => ?_); clear F0; refine go_on ?_) | (refine f_call F rfl rfl txnChanges_c ?_; clear F; rintro r O w T Φ ⟨rfl, rfl⟩ F0; refine tidy F0 (fun F => ?_); clear F0; refine go_on ?_) | (refine f_call F rfl rfl txnChangesn_c ?_; clear F; rintro r O w T Φ ⟨rfl, rfl, rfl⟩ F0; refine tidy F0 (fun F => ?_); clear F0; refine go_on ?_)))
  refine r_y (y_andI rfl rfl) rfl ?_
  rw [and7 r.client hf.1]
  obtain ⟨c8, hc8⟩ : ∃ k, r.client % 8 = k := ⟨_, rfl⟩
  rw [hc8]
  have h8 : c8 < 8 := by omega
  (refine go_on ?_; repeat (first | (refine f_store1 F rfl rfl rfl (fun w F => ?_); refine go_on ?_) | (refine f_storeAll F rfl rfl rfl (fun w F => ?_); refine go_on ?_) | (refine f_box1 F rfl rfl (fun q w F => ?_); refine go_on ?_) | (refine f_boxN F rfl rfl (fun q w F => ?_); refine go_on ?_) | (refine f_alloc1 F rfl (fun q w F => ?_); refine go_on ?_) | (refine f_allocN F rfl (fun q w F => ?_); refine go_on ?_) | (refine f_call F rfl rfl awake14_c ?_; clear F; rintro r O w T Φ ⟨rfl, rfl, rfl⟩ F0; refine tidy F0 (fun F => ?_); clear F0; refine go_on ?_) | (refine f_call F rfl rfl txnNew_c ?_; clear F; rintro r O w T Φ ⟨p, m, rfl, rfl, rfl⟩ F0; refine tidy F0 (fun F => ?_); clear F0; refine go_on ?_) | (refine f_call F rfl rfl repPut_c ?_; clear F; rintro r O w T Φ ⟨rfl, rfl, rfl⟩ F0; refine tidy F0 (fun F => ?_); clear F0; refine go_on ?_) | (refine f_call F rfl rfl repSetRaw_c ?_; clear F; rintro r O w T Φ ⟨rfl, rfl, rfl⟩ F0; refine tidy F0 (fun F => ?_); clear F0; refine go_on ?_) | (refine f_call F rfl rfl repRaw_c ?_; clear F; rintro r O w T Φ ⟨rfl, rfl⟩ F0; refine tidy F0 (fun F => ?_); clear F0; refine go_on ?_) | (refine f_call F rfl rfl txnChanges_c ?_; clear F; rintro r O w T Φ ⟨rfl, rfl⟩ F0; refine tidy F0 (fun F => ?_); clear F0; refine go_on ?_) | (refine f_call F rfl rfl txnChangesn_c ?_; clear F; rintro r O w T Φ ⟨rfl, rfl, rfl⟩ F0; refine tidy F0 (fun F => ?_); clear F0; refine go_on ?_)))
  obtain ⟨s, hs⟩ : ∃ s : Rp, s = ⟨c8, r.xid, r.status, r.ino, r.gen, r.kind, r.mode, r.links, r.size, r.change, r.data, r.ents, r.eof, r.verf, r.free⟩ := ⟨_, rfl⟩
  have e1 : s.client = c8 := by rw [hs]
  have e2 : s.status = r.status := by rw [hs]
  have e3 : s.data = r.data := by rw [hs]
  have e4 : s.ents = r.ents := by rw [hs]
  have e5 : s.eof = r.eof := by rw [hs]
  have e6 : s.xid = r.xid := by rw [hs]
  have e7 : s.ino = r.ino := by rw [hs]
  have e8 : s.gen = r.gen := by rw [hs]
  have e9 : s.kind = r.kind := by rw [hs]
  have e10 : s.mode = r.mode := by rw [hs]
  have e11 : s.links = r.links := by rw [hs]
  have e12 : s.size = r.size := by rw [hs]
  have e13 : s.change = r.change := by rw [hs]
  have e14 : s.verf = r.verf := by rw [hs]
  have e15 : s.free = r.free := by rw [hs]
  have hsf : s.fit := by
    obtain ⟨f1, f2, f3, f4, f5, f6, f7, f8, f9, f10, f11⟩ := hf
    unfold Rp.fit
    rw [e1, e6, e7, e8, e9, e10, e11, e12, e13, e14, e15]
    exact ⟨by omega, f2, f3, f4, f5, f6, f7, f8, f9, f10, f11⟩
  have hmay : s.may ↔ (statB r.status ∧ r.data.length = 0 ∧ r.ents.length = 0 ∧ r.eof = false) := by
    unfold Rp.may
    rw [e1, e2, e3, e4, e5]
    constructor
    · rintro ⟨_, k2, k3, k4⟩; exact ⟨k2, by omega, by omega, k4⟩
    · rintro ⟨k2, k3, k4, k5⟩; exact ⟨h8, k2, by omega, k5⟩
  rw [← e3, ← e4] at F
  rw [← e1, ← e2, ← e5, ← e6, ← e7, ← e8, ← e9, ← e10, ← e11, ← e12, ← e13, ← e14, ← e15] at F
  rw [← e2] at hs1 hs2 hmay
  rw [← e3] at g1 hmay
  rw [← e4] at g2 hmay
  rw [← e5] at hmay
  clear e2 e3 e4 e5 e6 e7 e8 e9 e10 e11 e12 e13 e14 e15 hs hf
  refine f_make (l := 40) (c := 40) F rfl rfl rfl (fun q1 w F => ?_)
  obtain ⟨O, F⟩ := F.frzSl (Nat.le_refl 40)
  have F := F.fact (f := Fact.bytesL (.slice (some ⟨q1, 0, none⟩) 40 40) (List.replicate 40 [])) (nil_bytesL (F.sl (cs := List.replicate 40 (.slice none 0 0))))
  refine go_on ?_
  refine f_call F rfl rfl (txnNew_c (l := List.replicate 40 [])) ?_ (hp := ⟨by decide, fun b hb => by rw [List.eq_of_mem_replicate hb]; exact Nat.zero_le _⟩)
  clear F; rintro r O w T Φ ⟨p, m, rfl, rfl, rfl⟩ F0
  refine tidy F0 (fun F => ?_); clear F0
  refine go_on ?_
  change Fr _ _ _ _ _ ((2, Tn p m t40) :: _) _ at F
  refine f_call F rfl rfl (repPut_c (t := t40) (r := s) (dv := .slice da s.data.length dc) (ev := .slice ea s.ents.length ec)) ?_
  clear F; rintro r O w T Φ ⟨rfl, rfl, rfl⟩ F0
  refine tidy F0 (fun F => ?_); clear F0
  refine go_on ?_
  by_cases hm : s.may
  · have hm' := hmay.1 hm
    obtain ⟨hst, hd0, he0, hf0⟩ := hm'
    have hst : s.status = 0 ∨ (60 ≤ s.status ∧ s.status ≤ 71) := hst
    have hl := s.bytes_len
    have hp : t40.putE (1 + s.client) s.bytes = 0 := by
      unfold Tx.putE
      rw [if_pos (show 0 ≤ (1 + (s.client : Int)) ∧ 1 + (s.client : Int) < t40.was.length from ⟨by omega, by show 1 + (s.client : Int) < ((40 : Nat) : Int); omega⟩), if_neg (by omega)]
    have hget : (t40.put1 (1 + s.client) s.bytes).get (1 + (s.client : Int)) = s.bytes := by
      rw [Tx.get_put1, if_pos ⟨by omega, by show 1 + (s.client : Int) < ((40 : Nat) : Int); omega, by omega, rfl⟩]
    have hw1 : (t40.put1 (1 + s.client) s.bytes).was.length = 40 := by rw [Tx.put_was]; rfl
    rw [if_pos hm] at F ⊢
    rw [hp]
    generalize t40.put1 (1 + s.client) s.bytes = t1 at F hget hw1
    rw [hf0] at F
    refine go_on ?_
    apply f_or 9 59 50 F
    · exact rfl
    · intro e; have e' := e; (try simp only [Bool.and_eq_true, Bool.or_eq_true, decide_eq_true_eq, decide_eq_false_iff_not, Bool.not_eq_true', Bool.or_eq_false_iff, Bool.not_eq_false', Bool.and_eq_false_iff] at e'); refine go_on ?_; refine e_cut rfl rfl (by (repeat (first | exact sub_refl | refine sub_new rfl ?_ | refine sub_bool rfl (by assumption) ?_))) (by (first | exact ⟨_, F⟩ | exact ⟨_, F.wk⟩))
    · intro e; have e' := e; (try simp only [Bool.and_eq_true, Bool.or_eq_true, decide_eq_true_eq, decide_eq_false_iff_not, Bool.not_eq_true', Bool.or_eq_false_iff, Bool.not_eq_false', Bool.and_eq_false_iff] at e'); refine go_on ?_; refine e_cut rfl rfl (by (repeat (first | exact sub_refl | refine sub_new rfl ?_ | refine sub_bool rfl (by assumption) ?_))) (by (first | exact ⟨_, F⟩ | exact ⟨_, F.wk⟩))
    intro O w F; refine go_on ?_
    rw [show (decide (s.status = 0) || decide (s.status ≤ 71)) = true from by simp; omega]
    refine go_on ?_
    refine f_call F rfl rfl (repRaw_c (t := t1) (client := s.client)) ?_
    clear F; rintro r O w T Φ ⟨rfl, rfl⟩ F0
    refine tidy F0 (fun F => ?_); clear F0
    refine go_on ?_
    rw [if_pos (by omega), hget] at F
    obtain ⟨ua, uc, rfl, huc⟩ := (F.bufAt (v := r)).form
    refine go_on ?_
    obtain ⟨k, hk⟩ : ∃ k, ab.toNat % 52 = k := ⟨_, rfl⟩
    have hk52 : k < 52 := by rw [← hk]; exact Nat.mod_lt _ (by decide)
    refine r_y (y_remN (b := 52) rfl rfl (by omega)) rfl ?_
    rw [hk]
    refine go_on ?_
    refine f_append2 F rfl rfl rfl (src_bytes (F.bytes (v := .slice ma more.length mc) (xs := more))) (fun r w O F => ?_)
    have hsl := F.sl (v := r) (cs := bytesV s.bytes ++ bytesV more) (m := s.bytes.length + more.length)
    have eb : bytesV s.bytes ++ bytesV more = bytesV (s.bytes ++ more) := by simp [bytesV]
    rw [eb, ← List.length_append] at hsl
    have F := F.factB (Sl.bytes hsl)
    have hsv := F.sl (v := .slice ua s.bytes.length uc) (cs := bytesV s.bytes) (m := s.bytes.length)
    have F := F.factB (Sl.bytes hsv)
    have hne : s.bytes ++ more ≠ [] := fun h => by
      have := congrArg List.length h
      rw [List.length_append, List.length_nil] at this; omega
    have hleft : (repRead 1 (s.bytes ++ more)).2 ≠ 0 := by rw [repRead_left hsf hm (fun h => g3 (by rw [h]; rfl))]; decide
    refine go_on ?_
    refine f_call F rfl rfl (repSetRaw_c (t := t1) (client := 1) (b := s.bytes ++ more)) ?_
    clear F; rintro r O w T Φ ⟨rfl, rfl, rfl⟩ F0
    refine tidy F0 (fun F => ?_); clear F0
    rw [if_pos (by decide), if_pos ⟨hne, hleft⟩]
    rw [if_neg (fun h => h.2 ⟨hne, hleft⟩)] at F
    refine go_on ?_
    have F := F.fact (f := Fact.bytes nilV []) Bytes.nil
    have hp3 : t1.putE (1 + ((2 : Nat) : Int)) [] = 0 := by
      unfold Tx.putE
      rw [hw1, if_pos (by omega), if_neg (by decide)]
    by_cases k0 : k = 0
    · refine go_on ?_
      refine f_call F rfl rfl (repSetRaw_c (t := t1) (client := 8) (b := [])) ?_
      clear F; rintro r O w T Φ ⟨rfl, rfl, rfl⟩ F0
      refine tidy F0 (fun F => ?_); clear F0
      rw [if_neg (by decide)]
      rw [if_neg (fun h => absurd h.1 (by decide))] at F
      refine go_on ?_
      refine f_call F rfl rfl (repSetRaw_c (t := t1) (client := 2) (b := [])) ?_
      clear F; rintro r O w T Φ ⟨rfl, rfl, rfl⟩ F0
      refine tidy F0 (fun F => ?_); clear F0
      rw [if_pos (by decide), if_neg (fun h => h.1 rfl), hp3]
      refine go_on ?_
      refine go_back ?_
      exact F.lawb (by simp [hl])
    · refine go_on ?_
      refine r_y (y_slice (li := 0) (hi' := (k : Nat)) (mi := (uc : Nat)) rfl rfl rfl rfl (by simp) (by omega)) rfl ?_
      have hcut := Bytes.cut (F.bytes (v := .slice ua s.bytes.length uc) (xs := s.bytes)) (l := 0) (h := k) (k := uc) (Nat.le_refl _) (Nat.zero_le _) (by omega) (by omega)
      have hlk : (s.bytes.take k).length = k := by rw [List.length_take]; omega
      have hnk : s.bytes.take k ≠ [] := fun h => k0 (by rw [h] at hlk; exact hlk.symm)
      have hsh : (repRead 1 (s.bytes.take k)).2 ≠ 0 := by rw [repRead_short (by omega)]; decide
      have F := F.factB (v := cutV ua 1 (0 : Int).toNat ((k : Nat) : Int).toNat ((uc : Nat) : Int).toNat) (xs := s.bytes.take k) (by simpa using hcut)
      refine go_on ?_
      refine f_call F rfl rfl (repSetRaw_c (t := t1) (client := 1) (b := s.bytes.take k)) ?_
      clear F; rintro r O w T Φ ⟨rfl, rfl, rfl⟩ F0
      refine tidy F0 (fun F => ?_); clear F0
      rw [if_pos (by decide), if_pos ⟨hnk, hsh⟩]
      rw [if_neg (fun h => h.2 ⟨hnk, hsh⟩)] at F
      refine go_on ?_
      refine f_call F rfl rfl (repSetRaw_c (t := t1) (client := 8) (b := [])) ?_
      clear F; rintro r O w T Φ ⟨rfl, rfl, rfl⟩ F0
      refine tidy F0 (fun F => ?_); clear F0
      rw [if_neg (by decide)]
      rw [if_neg (fun h => absurd h.1 (by decide))] at F
      refine go_on ?_
      refine f_call F rfl rfl (repSetRaw_c (t := t1) (client := 2) (b := [])) ?_
      clear F; rintro r O w T Φ ⟨rfl, rfl, rfl⟩ F0
      refine tidy F0 (fun F => ?_); clear F0
      rw [if_pos (by decide), if_neg (fun h => h.1 rfl), hp3]
      refine go_on ?_
      refine go_back ?_
      exact F.lawb (by simp [hl])
  · have hc : t40.changes = [] := rfl
    rw [if_neg hm] at F ⊢
    rw [hmay] at hm
    refine go_on ?_
    by_cases k1 : s.status = 0 ∨ (60 ≤ s.status ∧ s.status ≤ 71)
    · apply f_or 9 59 50 F
      · exact rfl
      · intro e; have e' := e; (try simp only [Bool.and_eq_true, Bool.or_eq_true, decide_eq_true_eq, decide_eq_false_iff_not, Bool.not_eq_true', Bool.or_eq_false_iff, Bool.not_eq_false', Bool.and_eq_false_iff] at e'); refine go_on ?_; refine e_cut rfl rfl (by (repeat (first | exact sub_refl | refine sub_new rfl ?_ | refine sub_bool rfl (by assumption) ?_))) (by (first | exact ⟨_, F⟩ | exact ⟨_, F.wk⟩))
      · intro e; have e' := e; (try simp only [Bool.and_eq_true, Bool.or_eq_true, decide_eq_true_eq, decide_eq_false_iff_not, Bool.not_eq_true', Bool.or_eq_false_iff, Bool.not_eq_false', Bool.and_eq_false_iff] at e'); refine go_on ?_; refine e_cut rfl rfl (by (repeat (first | exact sub_refl | refine sub_new rfl ?_ | refine sub_bool rfl (by assumption) ?_))) (by (first | exact ⟨_, F⟩ | exact ⟨_, F.wk⟩))
      intro O w F; refine go_on ?_
      rw [show (decide (s.status = 0) || decide (s.status ≤ 71)) = true from by simp; omega]
      refine go_on ?_
      by_cases k2 : s.data.length = 0
      · by_cases k3 : s.ents.length = 0
        · by_cases k4 : s.eof = true
          · rw [k4] at F
            (refine go_on ?_; repeat (first | (refine f_store1 F rfl rfl rfl (fun w F => ?_); refine go_on ?_) | (refine f_storeAll F rfl rfl rfl (fun w F => ?_); refine go_on ?_) | (refine f_box1 F rfl rfl (fun q w F => ?_); refine go_on ?_) | (refine f_boxN F rfl rfl (fun q w F => ?_); refine go_on ?_) | (refine f_alloc1 F rfl (fun q w F => ?_); refine go_on ?_) | (refine f_allocN F rfl (fun q w F => ?_); refine go_on ?_) | (refine f_call F rfl rfl awake14_c ?_; clear F; rintro r O w T Φ ⟨rfl, rfl, rfl⟩ F0; refine tidy F0 (fun F => ?_); clear F0; refine go_on ?_) | (refine f_call F rfl rfl txnNew_c ?_; clear F; rintro r O w T Φ ⟨p, m, rfl, rfl, rfl⟩ F0; refine tidy F0 (fun F => ?_); clear F0; refine go_on ?_) | (refine f_call F rfl rfl repPut_c ?_; clear F; rintro r O w T Φ ⟨rfl, rfl, rfl⟩ F0; refine tidy F0 (fun F => ?_); clear F0; refine go_on ?_) | (refine f_call F rfl rfl repSetRaw_c ?_; clear F; rintro r O w T Φ ⟨rfl, rfl, rfl⟩ F0; refine tidy F0 (fun F => ?_); clear F0; refine go_on ?_) | (refine f_call F rfl rfl repRaw_c ?_; clear F; rintro r O w T Φ ⟨rfl, rfl⟩ F0; refine tidy F0 (fun F => ?_); clear F0; refine go_on ?_) | (refine f_call F rfl rfl txnChanges_c ?_; clear F; rintro r O w T Φ ⟨rfl, rfl⟩ F0; refine tidy F0 (fun F => ?_); clear F0; refine go_on ?_) | (refine f_call F rfl rfl txnChangesn_c ?_; clear F; rintro r O w T Φ ⟨rfl, rfl, rfl⟩ F0; refine tidy F0 (fun F => ?_); clear F0; refine go_on ?_)))
            obtain ⟨ca, cc, rfl, _⟩ := (F.rel (R := WrR)).form
            rw [hc]
            (refine go_on ?_; repeat (first | (refine f_store1 F rfl rfl rfl (fun w F => ?_); refine go_on ?_) | (refine f_storeAll F rfl rfl rfl (fun w F => ?_); refine go_on ?_) | (refine f_box1 F rfl rfl (fun q w F => ?_); refine go_on ?_) | (refine f_boxN F rfl rfl (fun q w F => ?_); refine go_on ?_) | (refine f_alloc1 F rfl (fun q w F => ?_); refine go_on ?_) | (refine f_allocN F rfl (fun q w F => ?_); refine go_on ?_) | (refine f_call F rfl rfl awake14_c ?_; clear F; rintro r O w T Φ ⟨rfl, rfl, rfl⟩ F0; refine tidy F0 (fun F => ?_); clear F0; refine go_on ?_) | (refine f_call F rfl rfl txnNew_c ?_; clear F; rintro r O w T Φ ⟨p, m, rfl, rfl, rfl⟩ F0; refine tidy F0 (fun F => ?_); clear F0; refine go_on ?_) | (refine f_call F rfl rfl repPut_c ?_; clear F; rintro r O w T Φ ⟨rfl, rfl, rfl⟩ F0; refine tidy F0 (fun F => ?_); clear F0; refine go_on ?_) | (refine f_call F rfl rfl repSetRaw_c ?_; clear F; rintro r O w T Φ ⟨rfl, rfl, rfl⟩ F0; refine tidy F0 (fun F => ?_); clear F0; refine go_on ?_) | (refine f_call F rfl rfl repRaw_c ?_; clear F; rintro r O w T Φ ⟨rfl, rfl⟩ F0; refine tidy F0 (fun F => ?_); clear F0; refine go_on ?_) | (refine f_call F rfl rfl txnChanges_c ?_; clear F; rintro r O w T Φ ⟨rfl, rfl⟩ F0; refine tidy F0 (fun F => ?_); clear F0; refine go_on ?_) | (refine f_call F rfl rfl txnChangesn_c ?_; clear F; rintro r O w T Φ ⟨rfl, rfl, rfl⟩ F0; refine tidy F0 (fun F => ?_); clear F0; refine go_on ?_)))
            refine go_back ?_
            exact F.lawb (by simp)
          · exact absurd ⟨k1, k2, k3, by cases hh : s.eof <;> simp_all⟩ hm
        · (refine go_on ?_; repeat (first | (refine f_store1 F rfl rfl rfl (fun w F => ?_); refine go_on ?_) | (refine f_storeAll F rfl rfl rfl (fun w F => ?_); refine go_on ?_) | (refine f_box1 F rfl rfl (fun q w F => ?_); refine go_on ?_) | (refine f_boxN F rfl rfl (fun q w F => ?_); refine go_on ?_) | (refine f_alloc1 F rfl (fun q w F => ?_); refine go_on ?_) | (refine f_allocN F rfl (fun q w F => ?_); refine go_on ?_) | (refine f_call F rfl rfl awake14_c ?_; clear F; rintro r O w T Φ ⟨rfl, rfl, rfl⟩ F0; refine tidy F0 (fun F => ?_); clear F0; refine go_on ?_) | (refine f_call F rfl rfl txnNew_c ?_; clear F; rintro r O w T Φ ⟨p, m, rfl, rfl, rfl⟩ F0; refine tidy F0 (fun F => ?_); clear F0; refine go_on ?_) | (refine f_call F rfl rfl repPut_c ?_; clear F; rintro r O w T Φ ⟨rfl, rfl, rfl⟩ F0; refine tidy F0 (fun F => ?_); clear F0; refine go_on ?_) | (refine f_call F rfl rfl repSetRaw_c ?_; clear F; rintro r O w T Φ ⟨rfl, rfl, rfl⟩ F0; refine tidy F0 (fun F => ?_); clear F0; refine go_on ?_) | (refine f_call F rfl rfl repRaw_c ?_; clear F; rintro r O w T Φ ⟨rfl, rfl⟩ F0; refine tidy F0 (fun F => ?_); clear F0; refine go_on ?_) | (refine f_call F rfl rfl txnChanges_c ?_; clear F; rintro r O w T Φ ⟨rfl, rfl⟩ F0; refine tidy F0 (fun F => ?_); clear F0; refine go_on ?_) | (refine f_call F rfl rfl txnChangesn_c ?_; clear F; rintro r O w T Φ ⟨rfl, rfl, rfl⟩ F0; refine tidy F0 (fun F => ?_); clear F0; refine go_on ?_)))
          obtain ⟨ca, cc, rfl, _⟩ := (F.rel (R := WrR)).form
          rw [hc]
          (refine go_on ?_; repeat (first | (refine f_store1 F rfl rfl rfl (fun w F => ?_); refine go_on ?_) | (refine f_storeAll F rfl rfl rfl (fun w F => ?_); refine go_on ?_) | (refine f_box1 F rfl rfl (fun q w F => ?_); refine go_on ?_) | (refine f_boxN F rfl rfl (fun q w F => ?_); refine go_on ?_) | (refine f_alloc1 F rfl (fun q w F => ?_); refine go_on ?_) | (refine f_allocN F rfl (fun q w F => ?_); refine go_on ?_) | (refine f_call F rfl rfl awake14_c ?_; clear F; rintro r O w T Φ ⟨rfl, rfl, rfl⟩ F0; refine tidy F0 (fun F => ?_); clear F0; refine go_on ?_) | (refine f_call F rfl rfl txnNew_c ?_; clear F; rintro r O w T Φ ⟨p, m, rfl, rfl, rfl⟩ F0; refine tidy F0 (fun F => ?_); clear F0; refine go_on ?_) | (refine f_call F rfl rfl repPut_c ?_; clear F; rintro r O w T Φ ⟨rfl, rfl, rfl⟩ F0; refine tidy F0 (fun F => ?_); clear F0; refine go_on ?_) | (refine f_call F rfl rfl repSetRaw_c ?_; clear F; rintro r O w T Φ ⟨rfl, rfl, rfl⟩ F0; refine tidy F0 (fun F => ?_); clear F0; refine go_on ?_) | (refine f_call F rfl rfl repRaw_c ?_; clear F; rintro r O w T Φ ⟨rfl, rfl⟩ F0; refine tidy F0 (fun F => ?_); clear F0; refine go_on ?_) | (refine f_call F rfl rfl txnChanges_c ?_; clear F; rintro r O w T Φ ⟨rfl, rfl⟩ F0; refine tidy F0 (fun F => ?_); clear F0; refine go_on ?_) | (refine f_call F rfl rfl txnChangesn_c ?_; clear F; rintro r O w T Φ ⟨rfl, rfl, rfl⟩ F0; refine tidy F0 (fun F => ?_); clear F0; refine go_on ?_)))
          refine go_back ?_
          exact F.lawb (by simp)
      · (refine go_on ?_; repeat (first | (refine f_store1 F rfl rfl rfl (fun w F => ?_); refine go_on ?_) | (refine f_storeAll F rfl rfl rfl (fun w F => ?_); refine go_on ?_) | (refine f_box1 F rfl rfl (fun q w F => ?_); refine go_on ?_) | (refine f_boxN F rfl rfl (fun q w F => ?_); refine go_on ?_) | (refine f_alloc1 F rfl (fun q w F => ?_); refine go_on ?_) | (refine f_allocN F rfl (fun q w F => ?_); refine go_on ?_) | (refine f_call F rfl rfl awake14_c ?_; clear F; rintro r O w T Φ ⟨rfl, rfl, rfl⟩ F0; refine tidy F0 (fun F => ?_); clear F0; refine go_on ?_) | (refine f_call F rfl rfl txnNew_c ?_; clear F; rintro r O w T Φ ⟨p, m, rfl, rfl, rfl⟩ F0; refine tidy F0 (fun F => ?_); clear F0; refine go_on ?_) | (refine f_call F rfl rfl repPut_c ?_; clear F; rintro r O w T Φ ⟨rfl, rfl, rfl⟩ F0; refine tidy F0 (fun F => ?_); clear F0; refine go_on ?_) | (refine f_call F rfl rfl repSetRaw_c ?_; clear F; rintro r O w T Φ ⟨rfl, rfl, rfl⟩ F0; refine tidy F0 (fun F => ?_); clear F0; refine go_on ?_) | (refine f_call F rfl rfl repRaw_c ?_; clear F; rintro r O w T Φ ⟨rfl, rfl⟩ F0; refine tidy F0 (fun F => ?_); clear F0; refine go_on ?_) | (refine f_call F rfl rfl txnChanges_c ?_; clear F; rintro r O w T Φ ⟨rfl, rfl⟩ F0; refine tidy F0 (fun F => ?_); clear F0; refine go_on ?_) | (refine f_call F rfl rfl txnChangesn_c ?_; clear F; rintro r O w T Φ ⟨rfl, rfl, rfl⟩ F0; refine tidy F0 (fun F => ?_); clear F0; refine go_on ?_)))
        obtain ⟨ca, cc, rfl, _⟩ := (F.rel (R := WrR)).form
        rw [hc]
        (refine go_on ?_; repeat (first | (refine f_store1 F rfl rfl rfl (fun w F => ?_); refine go_on ?_) | (refine f_storeAll F rfl rfl rfl (fun w F => ?_); refine go_on ?_) | (refine f_box1 F rfl rfl (fun q w F => ?_); refine go_on ?_) | (refine f_boxN F rfl rfl (fun q w F => ?_); refine go_on ?_) | (refine f_alloc1 F rfl (fun q w F => ?_); refine go_on ?_) | (refine f_allocN F rfl (fun q w F => ?_); refine go_on ?_) | (refine f_call F rfl rfl awake14_c ?_; clear F; rintro r O w T Φ ⟨rfl, rfl, rfl⟩ F0; refine tidy F0 (fun F => ?_); clear F0; refine go_on ?_) | (refine f_call F rfl rfl txnNew_c ?_; clear F; rintro r O w T Φ ⟨p, m, rfl, rfl, rfl⟩ F0; refine tidy F0 (fun F => ?_); clear F0; refine go_on ?_) | (refine f_call F rfl rfl repPut_c ?_; clear F; rintro r O w T Φ ⟨rfl, rfl, rfl⟩ F0; refine tidy F0 (fun F => ?_); clear F0; refine go_on ?_) | (refine f_call F rfl rfl repSetRaw_c ?_; clear F; rintro r O w T Φ ⟨rfl, rfl, rfl⟩ F0; refine tidy F0 (fun F => ?_); clear F0; refine go_on ?_) | (refine f_call F rfl rfl repRaw_c ?_; clear F; rintro r O w T Φ ⟨rfl, rfl⟩ F0; refine tidy F0 (fun F => ?_); clear F0; refine go_on ?_) | (refine f_call F rfl rfl txnChanges_c ?_; clear F; rintro r O w T Φ ⟨rfl, rfl⟩ F0; refine tidy F0 (fun F => ?_); clear F0; refine go_on ?_) | (refine f_call F rfl rfl txnChangesn_c ?_; clear F; rintro r O w T Φ ⟨rfl, rfl, rfl⟩ F0; refine tidy F0 (fun F => ?_); clear F0; refine go_on ?_)))
        refine go_back ?_
        exact F.lawb (by simp)
    · by_cases k5 : 60 ≤ s.status
      · (refine go_on ?_; repeat (first | (refine f_store1 F rfl rfl rfl (fun w F => ?_); refine go_on ?_) | (refine f_storeAll F rfl rfl rfl (fun w F => ?_); refine go_on ?_) | (refine f_box1 F rfl rfl (fun q w F => ?_); refine go_on ?_) | (refine f_boxN F rfl rfl (fun q w F => ?_); refine go_on ?_) | (refine f_alloc1 F rfl (fun q w F => ?_); refine go_on ?_) | (refine f_allocN F rfl (fun q w F => ?_); refine go_on ?_) | (refine f_call F rfl rfl awake14_c ?_; clear F; rintro r O w T Φ ⟨rfl, rfl, rfl⟩ F0; refine tidy F0 (fun F => ?_); clear F0; refine go_on ?_) | (refine f_call F rfl rfl txnNew_c ?_; clear F; rintro r O w T Φ ⟨p, m, rfl, rfl, rfl⟩ F0; refine tidy F0 (fun F => ?_); clear F0; refine go_on ?_) | (refine f_call F rfl rfl repPut_c ?_; clear F; rintro r O w T Φ ⟨rfl, rfl, rfl⟩ F0; refine tidy F0 (fun F => ?_); clear F0; refine go_on ?_) | (refine f_call F rfl rfl repSetRaw_c ?_; clear F; rintro r O w T Φ ⟨rfl, rfl, rfl⟩ F0; refine tidy F0 (fun F => ?_); clear F0; refine go_on ?_) | (refine f_call F rfl rfl repRaw_c ?_; clear F; rintro r O w T Φ ⟨rfl, rfl⟩ F0; refine tidy F0 (fun F => ?_); clear F0; refine go_on ?_) | (refine f_call F rfl rfl txnChanges_c ?_; clear F; rintro r O w T Φ ⟨rfl, rfl⟩ F0; refine tidy F0 (fun F => ?_); clear F0; refine go_on ?_) | (refine f_call F rfl rfl txnChangesn_c ?_; clear F; rintro r O w T Φ ⟨rfl, rfl, rfl⟩ F0; refine tidy F0 (fun F => ?_); clear F0; refine go_on ?_)))
        obtain ⟨ca, cc, rfl, _⟩ := (F.rel (R := WrR)).form
        rw [hc]
        (refine go_on ?_; repeat (first | (refine f_store1 F rfl rfl rfl (fun w F => ?_); refine go_on ?_) | (refine f_storeAll F rfl rfl rfl (fun w F => ?_); refine go_on ?_) | (refine f_box1 F rfl rfl (fun q w F => ?_); refine go_on ?_) | (refine f_boxN F rfl rfl (fun q w F => ?_); refine go_on ?_) | (refine f_alloc1 F rfl (fun q w F => ?_); refine go_on ?_) | (refine f_allocN F rfl (fun q w F => ?_); refine go_on ?_) | (refine f_call F rfl rfl awake14_c ?_; clear F; rintro r O w T Φ ⟨rfl, rfl, rfl⟩ F0; refine tidy F0 (fun F => ?_); clear F0; refine go_on ?_) | (refine f_call F rfl rfl txnNew_c ?_; clear F; rintro r O w T Φ ⟨p, m, rfl, rfl, rfl⟩ F0; refine tidy F0 (fun F => ?_); clear F0; refine go_on ?_) | (refine f_call F rfl rfl repPut_c ?_; clear F; rintro r O w T Φ ⟨rfl, rfl, rfl⟩ F0; refine tidy F0 (fun F => ?_); clear F0; refine go_on ?_) | (refine f_call F rfl rfl repSetRaw_c ?_; clear F; rintro r O w T Φ ⟨rfl, rfl, rfl⟩ F0; refine tidy F0 (fun F => ?_); clear F0; refine go_on ?_) | (refine f_call F rfl rfl repRaw_c ?_; clear F; rintro r O w T Φ ⟨rfl, rfl⟩ F0; refine tidy F0 (fun F => ?_); clear F0; refine go_on ?_) | (refine f_call F rfl rfl txnChanges_c ?_; clear F; rintro r O w T Φ ⟨rfl, rfl⟩ F0; refine tidy F0 (fun F => ?_); clear F0; refine go_on ?_) | (refine f_call F rfl rfl txnChangesn_c ?_; clear F; rintro r O w T Φ ⟨rfl, rfl, rfl⟩ F0; refine tidy F0 (fun F => ?_); clear F0; refine go_on ?_)))
        refine go_back ?_
        exact F.lawb (by simp)
      · (refine go_on ?_; repeat (first | (refine f_store1 F rfl rfl rfl (fun w F => ?_); refine go_on ?_) | (refine f_storeAll F rfl rfl rfl (fun w F => ?_); refine go_on ?_) | (refine f_box1 F rfl rfl (fun q w F => ?_); refine go_on ?_) | (refine f_boxN F rfl rfl (fun q w F => ?_); refine go_on ?_) | (refine f_alloc1 F rfl (fun q w F => ?_); refine go_on ?_) | (refine f_allocN F rfl (fun q w F => ?_); refine go_on ?_) | (refine f_call F rfl rfl awake14_c ?_; clear F; rintro r O w T Φ ⟨rfl, rfl, rfl⟩ F0; refine tidy F0 (fun F => ?_); clear F0; refine go_on ?_) | (refine f_call F rfl rfl txnNew_c ?_; clear F; rintro r O w T Φ ⟨p, m, rfl, rfl, rfl⟩ F0; refine tidy F0 (fun F => ?_); clear F0; refine go_on ?_) | (refine f_call F rfl rfl repPut_c ?_; clear F; rintro r O w T Φ ⟨rfl, rfl, rfl⟩ F0; refine tidy F0 (fun F => ?_); clear F0; refine go_on ?_) | (refine f_call F rfl rfl repSetRaw_c ?_; clear F; rintro r O w T Φ ⟨rfl, rfl, rfl⟩ F0; refine tidy F0 (fun F => ?_); clear F0; refine go_on ?_) | (refine f_call F rfl rfl repRaw_c ?_; clear F; rintro r O w T Φ ⟨rfl, rfl⟩ F0; refine tidy F0 (fun F => ?_); clear F0; refine go_on ?_) | (refine f_call F rfl rfl txnChanges_c ?_; clear F; rintro r O w T Φ ⟨rfl, rfl⟩ F0; refine tidy F0 (fun F => ?_); clear F0; refine go_on ?_) | (refine f_call F rfl rfl txnChangesn_c ?_; clear F; rintro r O w T Φ ⟨rfl, rfl, rfl⟩ F0; refine tidy F0 (fun F => ?_); clear F0; refine go_on ?_)))
        obtain ⟨ca, cc, rfl, _⟩ := (F.rel (R := WrR)).form
        rw [hc]
        (refine go_on ?_; repeat (first | (refine f_store1 F rfl rfl rfl (fun w F => ?_); refine go_on ?_) | (refine f_storeAll F rfl rfl rfl (fun w F => ?_); refine go_on ?_) | (refine f_box1 F rfl rfl (fun q w F => ?_); refine go_on ?_) | (refine f_boxN F rfl rfl (fun q w F => ?_); refine go_on ?_) | (refine f_alloc1 F rfl (fun q w F => ?_); refine go_on ?_) | (refine f_allocN F rfl (fun q w F => ?_); refine go_on ?_) | (refine f_call F rfl rfl awake14_c ?_; clear F; rintro r O w T Φ ⟨rfl, rfl, rfl⟩ F0; refine tidy F0 (fun F => ?_); clear F0; refine go_on ?_) | (refine f_call F rfl rfl txnNew_c ?_; clear F; rintro r O w T Φ ⟨p, m, rfl, rfl, rfl⟩ F0; refine tidy F0 (fun F => ?_); clear F0; refine go_on ?_) | (refine f_call F rfl rfl repPut_c ?_; clear F; rintro r O w T Φ ⟨rfl, rfl, rfl⟩ F0; refine tidy F0 (fun F => ?_); clear F0; refine go_on ?_) | (refine f_call F rfl rfl repSetRaw_c ?_; clear F; rintro r O w T Φ ⟨rfl, rfl, rfl⟩ F0; refine tidy F0 (fun F => ?_); clear F0; refine go_on ?_) | (refine f_call F rfl rfl repRaw_c ?_; clear F; rintro r O w T Φ ⟨rfl, rfl⟩ F0; refine tidy F0 (fun F => ?_); clear F0; refine go_on ?_) | (refine f_call F rfl rfl txnChanges_c ?_; clear F; rintro r O w T Φ ⟨rfl, rfl⟩ F0; refine tidy F0 (fun F => ?_); clear F0; refine go_on ?_) | (refine f_call F rfl rfl txnChangesn_c ?_; clear F; rintro r O w T Φ ⟨rfl, rfl, rfl⟩ F0; refine tidy F0 (fun F => ?_); clear F0; refine go_on ?_)))
        refine go_back ?_
        exact F.lawb (by simp)
theorem RepliesForm_true {w : World} {l : List Value} {v1 v2 : Value} (r0 : Reads Try.prog w 41 l) (r1 : Reads Try.prog w 5 [v1]) (r2 : Reads Try.prog w 38 [v2]) :
    FnC Try.prog 9 [.agg l.toArray, v1, v2] [] [] w fun r O' w' => r = .bool true := by
  have hl := reads_agg (k := 15) (reads_structs (P := Try.prog) (t := 41) (i := 0) inferInstance) r0
  obtain ⟨y, dv, ev, e, hf, h1, h2, hd, he⟩ := reads_rp hl r0
  obtain ⟨c, hc⟩ := reads_u8 r1
  obtain ⟨more, hm, _⟩ := reads_bytes r2
  injection hc with hc
  subst hc
  rw [e]
  exact RepliesForm_ok hf h1 h2 ((((Fr.start OK_nil).factB hm).fact (f := Fact.rel 4 EnR ev y.ents) he).factB hd)
end Go.Proofs.Ytipnelbpkekdkaa
