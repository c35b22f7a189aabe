/- RepliesPlays answers true. -/
import Derived.Test.YtdhfikbehbpdjaaRsame
import Derived.Test.YtdhfikbehbpdjaaRef14b
import Derived.Test.YtdhfikbehbpdjaaRef14p
import Derived.Test.YtdhfikbehbpdjaaAwake14
import Derived.Test.YtdhfikbehbpdjaaReplaw
namespace Go.Proofs.Ytdhfikbehbpdjaa
open Gk Go
set_option linter.unusedVariables false
set_option maxHeartbeats 4000000
set_option maxRecDepth 4000
set_option linter.unusedSimpArgs false
attribute [local irreducible] Int.decLt Int.decLe Int.decEq Int.instDecidableEq Gk.Rnds Gk.E Gk.G Gk.R Gk.RD Gk.RX Gk.RO Gk.Y Gk.Ent Gk.Sat Gk.Round Gk.After Gk.Cell Gk.Sl Gk.SlA Gk.CB Gk.OK Gk.FnC Gk.Bytes Gk.BytesL Gk.StrL Gk.Buf Gk.MapI
theorem r_weak {P : Program} {n : Nat} {all : Array Oper} {os : List Oper} {ρ ρ' : Env} {D : Dr} {w : World} {Q : Exit → Act → World → Prop} (hs : Env.Sub ρ' ρ) (h : R P n all os ρ' D w Q) : R P n all os ρ D w Q := by
  unfold R at h ⊢
  exact fun a h1 h2 h3 => h a h1 (h2.sub hs) h3
theorem r_join {X : Type} {P : Program} {n : Nat} {all : Array Oper} {os : List Oper} {D : Dr} {Q : Exit → Act → World → Prop} {goal : Prop} (ρ' : X → Env) (J : X → World → Prop)
    (h : (∀ x w ρ, J x w → Env.Sub (ρ' x) ρ → R P n all os ρ D w Q) → goal) (k : ∀ x w, J x w → R P n all os (ρ' x) D w Q) : goal := h (fun x w ρ hj hs => r_weak hs (k x w hj))
structure Ac where
  kind : Int
  rep : Rp
  client : Nat
  xid : Nat
  bytes : List UInt8
def AcR : Rel Ac := ⟨fun O w row y => ∃ dv ev bv, row = [.int .i64 y.kind, .int .u32 y.rep.client, .int .u32 y.rep.xid, .int .i64 y.rep.status, .int .u32 y.rep.ino, .int .u32 y.rep.gen, .int .u32 y.rep.kind, .int .u32 y.rep.mode, .int .u32 y.rep.links, .int .u32 y.rep.size, .int .u64 y.rep.change, dv, ev, .bool y.rep.eof, .int .u64 y.rep.verf, .int .u32 y.rep.free, .int .u32 y.client, .int .u32 y.xid, bv] ∧ Bytes O w dv y.rep.data ∧ (Fact.rel 4 EnR ev y.rep.ents).φ O w ∧ Bytes O w bv y.bytes ∧ y.rep.fit ∧ -9223372036854775808 ≤ y.rep.status ∧ y.rep.status ≤ 9223372036854775807 ∧ y.client < 4294967296 ∧ y.xid < 4294967296,
  fun s ⟨dv, ev, bv, h1, h2, h3, h4, h5⟩ => ⟨dv, ev, bv, h1, h2.step s, (Fact.rel 4 EnR ev _).st s h3, h4.step s, h5⟩, fun hs ⟨dv, ev, bv, h1, h2, h3, h4, h5⟩ => ⟨dv, ev, bv, h1, h2.sub hs, (Fact.rel 4 EnR ev _).sb hs h3, h4.sub hs, h5⟩⟩
theorem nil_strs {O : List Nat} {w : World} {v : Value} {n : Nat} (h : Sl O w v n (List.replicate n (.string ⟨#[]⟩))) : (Fact.strs v (List.replicate n [])).φ O w := by
  show Sl O w v (List.replicate n []).length ((List.replicate n []).map str)
  rw [List.length_replicate, List.map_replicate]
  exact h
theorem getB (t : Tx) (b : Nat) (h : b < t.all.length) : t.get (b : Int) = t.all[b] := by
  rw [Tx.get_all, if_pos (by omega)]
  simp [List.getD_eq_getElem?_getD, h]
/-- No block is too great. -/
def TB (t : Tx) : Prop := ∀ i, (t.get i).length ≤ 96
theorem TB.put {t : Tx} (h : TB t) (i : Int) (xs : List UInt8) : TB (t.put1 i xs) := by
  intro j
  rw [Tx.get_put1]
  split
  · rename_i g; exact g.2.2.1
  · exact h j
theorem repRead_nil (c : Nat) (b : List UInt8) : (repRead c b).1.data = [] ∧ (repRead c b).1.ents = [] := by
  obtain ⟨x1, b1, e1, r1⟩ : ∃ x b' e', rdN b 0 4 = (x, b', e') := ⟨_, _, _, rfl⟩
  obtain ⟨x2, b2, e2, r2⟩ : ∃ x b' e', rdN b1 e1 4 = (x, b', e') := ⟨_, _, _, rfl⟩
  obtain ⟨x3, b3, e3, r3⟩ : ∃ x b' e', rdN b2 e2 4 = (x, b', e') := ⟨_, _, _, rfl⟩
  obtain ⟨x4, b4, e4, r4⟩ : ∃ x b' e', rdN b3 e3 4 = (x, b', e') := ⟨_, _, _, rfl⟩
  obtain ⟨x5, b5, e5, r5⟩ : ∃ x b' e', rdN b4 e4 4 = (x, b', e') := ⟨_, _, _, rfl⟩
  obtain ⟨x6, b6, e6, r6⟩ : ∃ x b' e', rdN b5 e5 4 = (x, b', e') := ⟨_, _, _, rfl⟩
  obtain ⟨x7, b7, e7, r7⟩ : ∃ x b' e', rdN b6 e6 4 = (x, b', e') := ⟨_, _, _, rfl⟩
  obtain ⟨x8, b8, e8, r8⟩ : ∃ x b' e', rdN b7 e7 4 = (x, b', e') := ⟨_, _, _, rfl⟩
  obtain ⟨x9, b9, e9, r9⟩ : ∃ x b' e', rdN b8 e8 8 = (x, b', e') := ⟨_, _, _, rfl⟩
  obtain ⟨x10, b10, e10, r10⟩ : ∃ x b' e', rdN b9 e9 8 = (x, b', e') := ⟨_, _, _, rfl⟩
  obtain ⟨x11, b11, e11, r11⟩ : ∃ x b' e', rdN b10 e10 4 = (x, b', e') := ⟨_, _, _, rfl⟩
  unfold repRead
  simp only [r1, r2, r3, r4, r5, r6, r7, r8, r9, r10, r11]
  split
  · exact ⟨rfl, rfl⟩
  · split
    · exact ⟨rfl, rfl⟩
    · exact ⟨rfl, rfl⟩
attribute [local irreducible] repRead
theorem repGetB_nil (b : List UInt8) (c : Nat) : (repGetB b c).1.data = [] ∧ (repGetB b c).1.ents = [] := by
  unfold repGetB
  split
  · split
    · exact ⟨rfl, rfl⟩
    · exact repRead_nil c b
  · exact ⟨rfl, rfl⟩
attribute [local irreducible] repGetB
theorem repAskB_nil (b : List UInt8) (c x : Nat) : (repAskB b c x).2.data = [] ∧ (repAskB b c x).2.ents = [] := by
  unfold repAskB
  split
  · exact ⟨rfl, rfl⟩
  · split
    · exact repGetB_nil b c
    · exact ⟨rfl, rfl⟩
attribute [local irreducible] repAskB
theorem RepliesPlays_ok {w0 : World} {n : Int} {vs : Value} {sc : List Ac} (F : Fr [] [] w0 [] w0 [] [Fact.rel 19 AcR vs sc]) :
    FnC Try.prog 3 [.int .i64 n, vs] [] [] w0 fun r O' w' => r = .bool true := by
  obtain ⟨sa, sd, rfl, _⟩ := (F.rel (v := vs) (R := AcR)).form
  refine fn_of _ Try.func3 rfl (by kernel_rfl) Try.ntmps3 rfl ?_
  refine go_on ?_
  refine f_call F rfl rfl awake14_c ?_ (hp := trivial)
  clear F; rintro r O w T Φ ⟨rfl, rfl, rfl⟩ F0
  refine tidy F0 (fun F => ?_); clear F0
  refine go_on ?_
  by_cases g1 : n < 0
  · refine go_on ?_
    refine go_back ?_
    exact F.law
  by_cases g2 : 20 < n
  · refine go_on ?_
    refine go_back ?_
    exact F.law
  obtain ⟨k, rfl⟩ : ∃ k : Nat, n = k := ⟨n.toNat, by omega⟩
  refine go_on ?_
  refine f_make (l := k) (c := k) F rfl rfl rfl (fun q1 w F => ?_)
  obtain ⟨O, F⟩ := F.frzSl (Nat.le_refl k)
  have F := F.fact (f := Fact.bytesL (.slice (some ⟨q1, 0, none⟩) k k) (List.replicate k [])) (nil_bytesL (F.sl (cs := List.replicate k (.slice none 0 0))))
  refine go_on ?_
  refine f_call F rfl rfl (txnNew_c (l := List.replicate k [])) ?_ (hp := ⟨by rw [List.length_replicate]; omega, fun b hb => by rw [List.eq_of_mem_replicate hb]; exact Nat.zero_le _⟩)
  clear F; rintro r O w T Φ ⟨p, m, rfl, rfl, rfl⟩ F0
  refine tidy F0 (fun F => ?_); clear F0
  refine go_on ?_
  refine f_make (l := k) (c := k) F rfl rfl rfl (fun q2 w F => ?_)
  obtain ⟨O, F⟩ := F.frzSl (Nat.le_refl k)
  have F := F.fact (f := Fact.strs (.slice (some ⟨q2, 0, none⟩) k k) (List.replicate k [])) (nil_strs (F.sl (cs := List.replicate k (.string ⟨#[]⟩))))
  refine go_on ?_
  refine f_call F rfl rfl rNew_c ?_ (hp := trivial)
  clear F; rintro r O w T Φ ⟨rfl, rfl, rfl⟩ F0
  refine tidy F0 (fun F => ?_); clear F0
  refine go_on ?_
  (first | refine f_alloc1 F rfl (fun c7 w F => ?_) | refine f_allocN F rfl (fun c7 w F => ?_)); refine go_on ?_
  refine f_storeAll F rfl rfl rfl (fun w F => ?_); refine go_on ?_
  have hall : List.replicate k ([] : List UInt8) = (Tx.mk (List.replicate k []) []).all := by
    refine List.ext_getElem (by simp [Tx.all]) (fun j h1 h2 => ?_)
    rw [Tx.all_at]
    unfold Tx.now
    simp only [lookI, Option.getD_none]
    rw [List.getD_eq_getElem?_getD, List.getElem?_eq_getElem h1]; rfl
  have F := F.fact (f := Fact.strs (.slice (some ⟨q2, 0, none⟩) k k) (Tx.mk (List.replicate k []) []).all) (by rw [← hall]; exact F.fa _ (by simp))
  have hTB : TB ⟨List.replicate k [], []⟩ := fun i => by
    rw [Tx.get_all, ← hall]
    split
    · rw [List.getD_eq_getElem?_getD, List.getElem?_replicate]; split <;> exact Nat.zero_le _
    · exact Nat.zero_le _
  refine g_loop (X := Nat × Tx × Nat × Value) (fun y => [(0, .int .i64 k), (1, .slice sa sc.length sd), (6, tptr p), (7, tptr c7), (8, .int .i64 y.1)])
    (fun y wr => ∃ O, Fr [] [] w0 O wr [(2, Tn p y.2.2.1 y.2.1), (2, Thing.cells c7 [.slice (some ⟨q2, 0, none⟩) k k, y.2.2.2])]
      [Fact.rel 19 AcR (.slice sa sc.length sd) sc, Fact.strs y.2.2.2 y.2.1.all] ∧ y.1 ≤ sc.length ∧ y.2.1.was.length = k ∧ TB y.2.1) (fun y => sc.length - y.1)
    (0, ⟨List.replicate k [], []⟩, m, .slice (some ⟨q2, 0, none⟩) k k) (sub_cons rfl rfl (sub_cons rfl rfl (sub_cons rfl rfl (sub_cons rfl rfl (sub_cons rfl rfl (sub_nil)))))) ⟨_, F.wk, Nat.zero_le _, by simp, hTB⟩ ?_
  clear F hall hTB
  rintro ⟨i, t, m, nv⟩ w ⟨O, F, hi, ht, hb⟩
  dsimp only at F hi ht hb ⊢
  have hla : t.all.length = k := by rw [Tx.all_len, ht]
  obtain ⟨na, nc, rfl, _⟩ := (F.sl (v := nv) (cs := t.all.map str)).form
  refine go_on ?_
  apply f_and 3 45 42 F
  · exact rfl
  · intro e; have e' := e; (try simp only [Bool.and_eq_true, Bool.or_eq_true, decide_eq_true_eq, decide_eq_false_iff_not, Bool.not_eq_true', Bool.or_eq_false_iff, Bool.not_eq_false', Bool.and_eq_false_iff] at e'); refine go_on ?_; refine e_cut rfl rfl (by (repeat (first | exact sub_refl | refine sub_new rfl ?_ | refine sub_bool rfl (by assumption) ?_))) (by (first | exact ⟨_, F⟩ | exact ⟨_, F.wk⟩))
  · intro e; have e' := e; (try simp only [Bool.and_eq_true, Bool.or_eq_true, decide_eq_true_eq, decide_eq_false_iff_not, Bool.not_eq_true', Bool.or_eq_false_iff, Bool.not_eq_false', Bool.and_eq_false_iff] at e'); refine go_on ?_; refine e_cut rfl rfl (by (repeat (first | exact sub_refl | refine sub_new rfl ?_ | refine sub_bool rfl (by assumption) ?_))) (by (first | exact ⟨_, F⟩ | exact ⟨_, F.wk⟩))
  intro O w F; refine go_on ?_
  refine g_cond rfl (fun e => ?_) (fun e => ?_)
  · simp only [Bool.and_eq_true, decide_eq_true_eq] at e
    have hi' : i < sc.length := by omega
    obtain ⟨x, row, rfl, hrl, ⟨dv, ev, bv, rfl, hd, he, hbv, hfit, hs1, hs2, hcl, hxd⟩, hrow⟩ := (F.rel (R := AcR) (ys := sc)).elem hi'
    generalize sc[i] = act at hd he hbv hfit hs1 hs2 hcl hxd hrow
    obtain ⟨kd0, rp, cl, xd, bs⟩ := act
    dsimp only at hd he hbv hfit hs1 hs2 hcl hxd hrow
    obtain ⟨da, dc, rfl, _⟩ := hd.form
    obtain ⟨ba, bc, rfl, _⟩ := hbv.form
    have F := (((F.factB hd).factB hbv).fact (f := Fact.rel 4 EnR ev rp.ents) he).fact hrow
    obtain ⟨ea, ec, rfl, _⟩ := (F.rel (v := ev) (R := EnR) (ys := rp.ents)).form
    refine go_on ?_
    (first | refine f_alloc1 F rfl (fun c9 w F => ?_) | refine f_allocN F rfl (fun c9 w F => ?_)); refine go_on ?_
    refine f_storeAll F rfl rfl rfl (fun w F => ?_); refine go_on ?_
    by_cases g3 : 120 < bs.length
    · refine go_on ?_
      refine go_back ?_
      exact F.law
    by_cases g4 : 100 < rp.data.length
    · refine go_on ?_
      refine go_back ?_
      exact F.law
    by_cases g5 : 10 < rp.ents.length
    · refine go_on ?_
      refine go_back ?_
      exact F.law
    refine go_on ?_
    refine r_y (y_andI rfl rfl) rfl ?_
    generalize andI .i64 kd0 3 = kd
    refine go_on ?_
    apply r_join (X := Tx × Nat × Value × Nat) (fun y => [(0, .int .i64 k), (1, .slice (some x) sc.length sd), (6, tptr p), (7, tptr c7), (8, .int .i64 i), (9, tptr c9), (10, errT y.2.2.2), (11, errT y.2.2.2), (129, tptr p), (131, .int .u32 cl)])
      (fun y wr => ∃ O, Fr [] [] w0 O wr [(2, Tn p y.2.1 y.1), (2, Thing.cells c7 [.slice (some ⟨q2, 0, none⟩) k k, y.2.2.1]), (2, Thing.cells c9 [.int .i64 kd0, .int .u32 rp.client, .int .u32 rp.xid, .int .i64 rp.status, .int .u32 rp.ino, .int .u32 rp.gen, .int .u32 rp.kind, .int .u32 rp.mode, .int .u32 rp.links, .int .u32 rp.size, .int .u64 rp.change, .slice da rp.data.length dc, .slice ea rp.ents.length ec, .bool rp.eof, .int .u64 rp.verf, .int .u32 rp.free, .int .u32 cl, .int .u32 xd, .slice ba bs.length bc])]
        [Fact.rel 19 AcR (.slice (some x) sc.length sd) sc, Fact.strs y.2.2.1 y.1.all] ∧ y.1.was.length = k ∧ TB y.1)
    · intro K
      have F := F
      have hp : ∀ j xs, putEL t.all.length j xs = t.putE j xs := fun j xs => by rw [Tx.all_len]; rfl
      have hq : ∀ j xs, putL t.all j xs = (t.put1 j xs).all := fun j xs => by unfold putL; rw [Tx.all_put, Tx.all_len]
      have hpw : ∀ j xs, (t.put1 j xs).was.length = k := fun j xs => by rw [Tx.put_was]; exact ht
      by_cases n0 : kd = 0
      · refine go_on ?_
        refine f_call F rfl rfl (repPut_c (t := t) (r := rp) (dv := .slice da rp.data.length dc) (ev := .slice ea rp.ents.length ec)) ?_ (hp := ⟨hfit, by omega, by omega, hs1, hs2⟩)
        clear F; rintro r O w T Φ ⟨rfl, rfl, rfl⟩ F0
        refine tidy F0 (fun F => ?_); clear F0
        refine go_on ?_
        have e2 : (if rp.may then putL t.all (1 + rp.client) rp.bytes else t.all) = (if rp.may then t.put1 (1 + rp.client) rp.bytes else t).all := by
          split
          · exact hq _ _
          · rfl
        have h2 : (if rp.may then t.put1 (1 + rp.client) rp.bytes else t).was.length = k ∧ TB (if rp.may then t.put1 (1 + rp.client) rp.bytes else t) := by
          split
          · exact ⟨hpw _ _, hb.put _ _⟩
          · exact ⟨ht, hb⟩
        generalize (if rp.may then t.put1 (1 + rp.client) rp.bytes else t) = t2 at F e2 h2
        refine f_draw [(2, Thing.cells c9 _)] F [] [(1, true), (2, true), (10, true), (10, true), (10, true), (10, true), (10, true), (10, true), (10, true), (10, true)] (by kernel_rfl) (by kernel_rfl) (fun w F hS => ?_); refine go_look ?_
        refine rd_fork (i := 0) (j := 3) (Li := [(3, false), (4, false), (5, true), (6, true), (7, true), (8, false), (9, true)]) (Lj := [(0, false), (4, false), (5, true), (6, true), (7, true), (8, false), (9, true)]) rfl rfl (by kernel_rfl) rfl rfl (by kernel_rfl) (by kernel_rfl) ?_ ?_
        · refine go_on ?_
          (try refine r_nil ?_); refine e_afterF F (fun hS => ?_); refine go_look ?_
          have F := F
          refine rd_do rfl ?_
          (try refine r_go rfl rfl ?_)
          refine f_call F rfl rfl (replyOf_c (r := rp) (dv := .slice da rp.data.length dc) (ev := .slice ea rp.ents.length ec)) ?_ (hp := (by omega))
          clear F; rintro r O w T Φ ⟨ev', ⟨⟨a5, c5, rfl⟩, _⟩, rfl, rfl, rfl⟩ F0
          refine tidy F0 (fun F => ?_); clear F0
          refine r_nil ?_; refine e_afterF F (fun hS => ?_); refine go_look ?_
          refine rd_do rfl ?_; (try refine r_go rfl rfl ?_)
          refine f_call F rfl rfl (rPut14_c (l := t.all) (r := rp) (ev := .slice a5 rp.ents.length c5)) ?_ (hp := ⟨hfit, by omega, by omega, by omega, hs1, hs2⟩)
          clear F; rintro r O w T Φ ⟨nv2, rfl, rfl, rfl⟩ F0
          refine tidy F0 (fun F => ?_); clear F0
          rw [e2] at F
          rw [hp]
          obtain ⟨n2a, n2c, rfl, _⟩ := (F.sl (v := nv2) (cs := t2.all.map str)).form
          have hl2 : t2.all.length = k := by rw [Tx.all_len]; exact h2.1
          rw [hl2] at F ⊢
          (try refine r_nil ?_); refine e_afterF F (fun hS => ?_); refine go_look ?_
          refine rd_do rfl ?_; (try refine r_go rfl rfl ?_)
          refine f_storeAll F rfl rfl rfl (fun w F => ?_)
          (try refine r_nil ?_); refine e_afterF F (fun hS => ?_); refine go_look ?_
          refine rd_done ?_; refine go_on ?_
          exact K (t2, m, _, _) _ _ ⟨_, F.wk, h2⟩ (sub_cons rfl rfl (sub_cons rfl rfl (sub_cons rfl rfl (sub_cons rfl rfl (sub_cons rfl rfl (sub_cons rfl rfl (sub_cons rfl rfl (sub_cons rfl rfl (sub_cons rfl rfl (sub_cons rfl rfl (sub_nil)))))))))))
        · have F := F
          refine f_call F rfl rfl (replyOf_c (r := rp) (dv := .slice da rp.data.length dc) (ev := .slice ea rp.ents.length ec)) ?_ (hp := (by omega))
          clear F; rintro r O w T Φ ⟨ev', ⟨⟨a5, c5, rfl⟩, _⟩, rfl, rfl, rfl⟩ F0
          refine tidy F0 (fun F => ?_); clear F0
          (try refine r_nil ?_); refine e_afterF F (fun hS => ?_); refine go_look ?_
          refine rd_do rfl ?_; (try refine r_go rfl rfl ?_)
          refine go_on ?_
          (try refine r_nil ?_); refine e_afterF F (fun hS => ?_); refine go_look ?_
          refine rd_do rfl ?_; (try refine r_go rfl rfl ?_)
          refine f_call F rfl rfl (rPut14_c (l := t.all) (r := rp) (ev := .slice a5 rp.ents.length c5)) ?_ (hp := ⟨hfit, by omega, by omega, by omega, hs1, hs2⟩)
          clear F; rintro r O w T Φ ⟨nv2, rfl, rfl, rfl⟩ F0
          refine tidy F0 (fun F => ?_); clear F0
          rw [e2] at F
          rw [hp]
          obtain ⟨n2a, n2c, rfl, _⟩ := (F.sl (v := nv2) (cs := t2.all.map str)).form
          have hl2 : t2.all.length = k := by rw [Tx.all_len]; exact h2.1
          rw [hl2] at F ⊢
          (try refine r_nil ?_); refine e_afterF F (fun hS => ?_); refine go_look ?_
          refine rd_do rfl ?_; (try refine r_go rfl rfl ?_)
          refine f_storeAll F rfl rfl rfl (fun w F => ?_)
          (try refine r_nil ?_); refine e_afterF F (fun hS => ?_); refine go_look ?_
          refine rd_done ?_; refine go_on ?_
          exact K (t2, m, _, _) _ _ ⟨_, F.wk, h2⟩ (sub_cons rfl rfl (sub_cons rfl rfl (sub_cons rfl rfl (sub_cons rfl rfl (sub_cons rfl rfl (sub_cons rfl rfl (sub_cons rfl rfl (sub_cons rfl rfl (sub_cons rfl rfl (sub_cons rfl rfl (sub_nil)))))))))))
      by_cases n1 : kd = 1
      · refine go_on ?_
        refine f_call F rfl rfl (repPut_c (t := t) (r := rp) (dv := .slice da rp.data.length dc) (ev := .slice ea rp.ents.length ec)) ?_ (hp := ⟨hfit, by omega, by omega, hs1, hs2⟩)
        clear F; rintro r O w T Φ ⟨rfl, rfl, rfl⟩ F0
        refine tidy F0 (fun F => ?_); clear F0
        refine go_on ?_
        have e2 : (if rp.may then putL t.all (1 + rp.client) rp.bytes else t.all) = (if rp.may then t.put1 (1 + rp.client) rp.bytes else t).all := by
          split
          · exact hq _ _
          · rfl
        have h2 : (if rp.may then t.put1 (1 + rp.client) rp.bytes else t).was.length = k ∧ TB (if rp.may then t.put1 (1 + rp.client) rp.bytes else t) := by
          split
          · exact ⟨hpw _ _, hb.put _ _⟩
          · exact ⟨ht, hb⟩
        generalize (if rp.may then t.put1 (1 + rp.client) rp.bytes else t) = t2 at F e2 h2
        refine f_draw [(2, Thing.cells c9 _)] F [] [(1, true), (2, true), (10, true), (10, true), (10, true), (10, true), (10, true), (10, true), (10, true), (10, true)] (by kernel_rfl) (by kernel_rfl) (fun w F hS => ?_); refine go_look ?_
        refine rd_fork (i := 0) (j := 3) (Li := [(3, false), (4, false), (5, true), (6, true), (7, true), (8, false), (9, true)]) (Lj := [(0, false), (4, false), (5, true), (6, true), (7, true), (8, false), (9, true)]) rfl rfl (by kernel_rfl) rfl rfl (by kernel_rfl) (by kernel_rfl) ?_ ?_
        · refine go_on ?_
          (try refine r_nil ?_); refine e_afterF F (fun hS => ?_); refine go_look ?_
          have F := F
          refine rd_do rfl ?_
          (try refine r_go rfl rfl ?_)
          refine f_call F rfl rfl (replyOf_c (r := rp) (dv := .slice da rp.data.length dc) (ev := .slice ea rp.ents.length ec)) ?_ (hp := (by omega))
          clear F; rintro r O w T Φ ⟨ev', ⟨⟨a5, c5, rfl⟩, _⟩, rfl, rfl, rfl⟩ F0
          refine tidy F0 (fun F => ?_); clear F0
          refine r_nil ?_; refine e_afterF F (fun hS => ?_); refine go_look ?_
          refine rd_do rfl ?_; (try refine r_go rfl rfl ?_)
          refine f_call F rfl rfl (rPut14_c (l := t.all) (r := rp) (ev := .slice a5 rp.ents.length c5)) ?_ (hp := ⟨hfit, by omega, by omega, by omega, hs1, hs2⟩)
          clear F; rintro r O w T Φ ⟨nv2, rfl, rfl, rfl⟩ F0
          refine tidy F0 (fun F => ?_); clear F0
          rw [e2] at F
          rw [hp]
          obtain ⟨n2a, n2c, rfl, _⟩ := (F.sl (v := nv2) (cs := t2.all.map str)).form
          have hl2 : t2.all.length = k := by rw [Tx.all_len]; exact h2.1
          rw [hl2] at F ⊢
          (try refine r_nil ?_); refine e_afterF F (fun hS => ?_); refine go_look ?_
          refine rd_do rfl ?_; (try refine r_go rfl rfl ?_)
          refine f_storeAll F rfl rfl rfl (fun w F => ?_)
          (try refine r_nil ?_); refine e_afterF F (fun hS => ?_); refine go_look ?_
          refine rd_done ?_; refine go_on ?_
          exact K (t2, m, _, _) _ _ ⟨_, F.wk, h2⟩ (sub_cons rfl rfl (sub_cons rfl rfl (sub_cons rfl rfl (sub_cons rfl rfl (sub_cons rfl rfl (sub_cons rfl rfl (sub_cons rfl rfl (sub_cons rfl rfl (sub_cons rfl rfl (sub_cons rfl rfl (sub_nil)))))))))))
        · have F := F
          refine f_call F rfl rfl (replyOf_c (r := rp) (dv := .slice da rp.data.length dc) (ev := .slice ea rp.ents.length ec)) ?_ (hp := (by omega))
          clear F; rintro r O w T Φ ⟨ev', ⟨⟨a5, c5, rfl⟩, _⟩, rfl, rfl, rfl⟩ F0
          refine tidy F0 (fun F => ?_); clear F0
          (try refine r_nil ?_); refine e_afterF F (fun hS => ?_); refine go_look ?_
          refine rd_do rfl ?_; (try refine r_go rfl rfl ?_)
          refine go_on ?_
          (try refine r_nil ?_); refine e_afterF F (fun hS => ?_); refine go_look ?_
          refine rd_do rfl ?_; (try refine r_go rfl rfl ?_)
          refine f_call F rfl rfl (rPut14_c (l := t.all) (r := rp) (ev := .slice a5 rp.ents.length c5)) ?_ (hp := ⟨hfit, by omega, by omega, by omega, hs1, hs2⟩)
          clear F; rintro r O w T Φ ⟨nv2, rfl, rfl, rfl⟩ F0
          refine tidy F0 (fun F => ?_); clear F0
          rw [e2] at F
          rw [hp]
          obtain ⟨n2a, n2c, rfl, _⟩ := (F.sl (v := nv2) (cs := t2.all.map str)).form
          have hl2 : t2.all.length = k := by rw [Tx.all_len]; exact h2.1
          rw [hl2] at F ⊢
          (try refine r_nil ?_); refine e_afterF F (fun hS => ?_); refine go_look ?_
          refine rd_do rfl ?_; (try refine r_go rfl rfl ?_)
          refine f_storeAll F rfl rfl rfl (fun w F => ?_)
          (try refine r_nil ?_); refine e_afterF F (fun hS => ?_); refine go_look ?_
          refine rd_done ?_; refine go_on ?_
          exact K (t2, m, _, _) _ _ ⟨_, F.wk, h2⟩ (sub_cons rfl rfl (sub_cons rfl rfl (sub_cons rfl rfl (sub_cons rfl rfl (sub_cons rfl rfl (sub_cons rfl rfl (sub_cons rfl rfl (sub_cons rfl rfl (sub_cons rfl rfl (sub_cons rfl rfl (sub_nil)))))))))))
      by_cases n2 : kd = 2
      · refine go_on ?_
        refine f_call F rfl rfl (repSetRaw_c (t := t) (client := cl) (b := bs)) ?_ (hp := ⟨hcl, by omega⟩)
        clear F; rintro r O w T Φ ⟨rfl, rfl, rfl⟩ F0
        refine tidy F0 (fun F => ?_); clear F0
        refine go_on ?_
        have e2 : (if cl < 8 ∧ ¬ (bs ≠ [] ∧ (repRead cl bs).2 ≠ 0) then putL t.all (1 + cl) bs else t.all) = (if cl < 8 ∧ ¬ (bs ≠ [] ∧ (repRead cl bs).2 ≠ 0) then t.put1 (1 + cl) bs else t).all := by
          split
          · exact hq _ _
          · rfl
        have h2 : (if cl < 8 ∧ ¬ (bs ≠ [] ∧ (repRead cl bs).2 ≠ 0) then t.put1 (1 + cl) bs else t).was.length = k ∧ TB (if cl < 8 ∧ ¬ (bs ≠ [] ∧ (repRead cl bs).2 ≠ 0) then t.put1 (1 + cl) bs else t) := by
          split
          · exact ⟨hpw _ _, hb.put _ _⟩
          · exact ⟨ht, hb⟩
        generalize (if cl < 8 ∧ ¬ (bs ≠ [] ∧ (repRead cl bs).2 ≠ 0) then t.put1 (1 + cl) bs else t) = t2 at F e2 h2
        refine f_call F rfl rfl (rSetRaw14_c (l := t.all) (client := cl) (b := bs)) ?_ (hp := ⟨hcl, by omega, by omega⟩)
        clear F; rintro r O w T Φ ⟨nv2, rfl, rfl, rfl⟩ F0
        refine tidy F0 (fun F => ?_); clear F0
        rw [e2] at F
        rw [hp]
        obtain ⟨n2a, n2c, rfl, _⟩ := (F.sl (v := nv2) (cs := t2.all.map str)).form
        have hl2 : t2.all.length = k := by rw [Tx.all_len]; exact h2.1
        rw [hl2] at F ⊢
        refine go_on ?_
        refine f_storeAll F rfl rfl rfl (fun w F => ?_); refine go_on ?_
        exact K (t2, m, _, _) _ _ ⟨_, F.wk, h2⟩ (sub_cons rfl rfl (sub_cons rfl rfl (sub_cons rfl rfl (sub_cons rfl rfl (sub_cons rfl rfl (sub_cons rfl rfl (sub_cons rfl rfl (sub_cons rfl rfl (sub_cons rfl rfl (sub_cons rfl rfl (sub_nil)))))))))))
      · refine go_on ?_
        refine r_y (y_andI rfl rfl) rfl ?_
        rw [and7 cl hcl]
        refine go_on ?_
        refine f_call F rfl rfl (txnPut_c (t := t) (i := 1 + ((cl % 8 : Nat) : Int)) (xs := bs)) ?_ (hp := trivial)
        clear F; rintro r O w T Φ ⟨rfl, rfl, rfl⟩ F0
        refine tidy F0 (fun F => ?_); clear F0
        have e2 := hq (1 + ((cl % 8 : Nat) : Int)) bs
        have h2 : (t.put1 (1 + ((cl % 8 : Nat) : Int)) bs).was.length = k ∧ TB (t.put1 (1 + ((cl % 8 : Nat) : Int)) bs) := ⟨hpw _ _, hb.put _ _⟩
        generalize t.put1 (1 + ((cl % 8 : Nat) : Int)) bs = t2 at F e2 h2
        refine go_on ?_
        refine r_y (y_andI rfl rfl) rfl ?_
        rw [and7 cl hcl]
        refine go_on ?_
        refine f_call F rfl rfl (rPut_c (l := t.all) (i := 1 + ((cl % 8 : Nat) : Int)) (xs := bs)) ?_ (hp := (by omega))
        clear F; rintro r O w T Φ ⟨nv2, rfl, rfl, rfl⟩ F0
        refine tidy F0 (fun F => ?_); clear F0
        rw [e2] at F
        rw [hp]
        obtain ⟨n2a, n2c, rfl, _⟩ := (F.sl (v := nv2) (cs := t2.all.map str)).form
        have hl2 : t2.all.length = k := by rw [Tx.all_len]; exact h2.1
        rw [hl2] at F ⊢
        refine go_on ?_
        refine f_storeAll F rfl rfl rfl (fun w F => ?_); refine go_on ?_
        exact K (t2, m, _, _) _ _ ⟨_, F.wk, h2⟩ (sub_cons rfl rfl (sub_cons rfl rfl (sub_cons rfl rfl (sub_cons rfl rfl (sub_cons rfl rfl (sub_cons rfl rfl (sub_cons rfl rfl (sub_cons rfl rfl (sub_cons rfl rfl (sub_cons rfl rfl (sub_nil)))))))))))
    rintro ⟨t, m, nv, e9⟩ w ⟨O, F, ht, hb⟩
    dsimp only at F ht hb ⊢
    have hla : t.all.length = k := by rw [Tx.all_len, ht]
    obtain ⟨n2a, n2c, rfl, _⟩ := (F.sl (v := nv) (cs := t.all.map str)).form
    have hga : t.get (1 + (cl : Int)) = getL t.all (1 + (cl : Int)) := Tx.get_all t _
    have hgl : (t.get (1 + (cl : Int))).length ≤ 140737488355328 := Nat.le_trans (hb _) (by decide)
    have hgd := repGetB_nil (t.get (1 + (cl : Int))) cl
    have had := repAskB_nil (t.get (1 + (cl : Int))) cl xd
    refine f_call F rfl rfl (repGet_c (t := t) (client := cl)) ?_ (hp := ⟨hcl, hgl⟩)
    clear F; rintro r O w T Φ ⟨rfl, rfl, rfl⟩ F0
    refine tidy F0 (fun F => ?_); clear F0
    rw [repGetB_eq]
    refine go_on ?_
    (first | refine f_alloc1 F rfl (fun c12 w F => ?_) | refine f_allocN F rfl (fun c12 w F => ?_)); refine go_on ?_
    refine f_storeAll F rfl rfl rfl (fun w F => ?_); refine go_on ?_
    refine f_call F rfl rfl (rGet14_c (l := t.all) (client := cl)) ?_ (hp := ⟨hcl, by rw [← hga]; exact hgl⟩)
    clear F; rintro r O w T Φ ⟨rfl, rfl, rfl⟩ F0
    refine tidy F0 (fun F => ?_); clear F0
    rw [← hga]
    generalize hG : repGetB (t.get (1 + (cl : Int))) cl = G at F hgd ⊢
    obtain ⟨r1, is, e1⟩ := G
    dsimp only at F hgd ⊢
    obtain ⟨hg1, hg2⟩ := hgd
    refine go_on ?_
    (first | refine f_alloc1 F rfl (fun c15 w F => ?_) | refine f_allocN F rfl (fun c15 w F => ?_)); refine go_on ?_
    refine f_storeAll F rfl rfl rfl (fun w F => ?_); refine go_on ?_
    refine f_call F rfl rfl (repAsk_c (t := t) (client := cl) (xid := xd)) ?_ (hp := ⟨hcl, hgl⟩)
    clear F; rintro r O w T Φ ⟨rfl, rfl, rfl⟩ F0
    refine tidy F0 (fun F => ?_); clear F0
    rw [repAskB_eq]
    refine go_on ?_
    (first | refine f_alloc1 F rfl (fun c19 w F => ?_) | refine f_allocN F rfl (fun c19 w F => ?_)); refine go_on ?_
    refine f_storeAll F rfl rfl rfl (fun w F => ?_); refine go_on ?_
    refine f_call F rfl rfl (rAsk14_c (l := t.all) (client := cl) (xid := xd)) ?_ (hp := ⟨hcl, by rw [← hga]; exact hgl⟩)
    clear F; rintro r O w T Φ ⟨rfl, rfl, rfl⟩ F0
    refine tidy F0 (fun F => ?_); clear F0
    rw [← hga]
    generalize repAskB (t.get (1 + (cl : Int))) cl xd = A at F had ⊢
    obtain ⟨a1, r2⟩ := A
    dsimp only at F had ⊢
    obtain ⟨ha1, ha2⟩ := had
    refine go_on ?_
    (first | refine f_alloc1 F rfl (fun c21 w F => ?_) | refine f_allocN F rfl (fun c21 w F => ?_)); refine go_on ?_
    refine f_storeAll F rfl rfl rfl (fun w F => ?_); refine go_on ?_
    have F := (((F.fact (f := Fact.bytes nilV r1.data) (by rw [hg1]; exact Bytes.nil)).fact (f := Fact.bytes nilV r2.data) (by rw [ha1]; exact Bytes.nil)).fact (f := Fact.rel 4 EnR nilV r1.ents) (by rw [hg2]; exact SlR.nil)).fact (f := Fact.rel 4 EnR nilV r2.ents) (by rw [ha2]; exact SlR.nil)
    cases is with
    | true =>
      refine f_draw [(2, Thing.cells c12 _), (2, Thing.cells c15 _), (2, Thing.cells c19 _), (2, Thing.cells c21 _)] F [] [(0, true), (1, true), (2, true), (3, true), (4, true), (5, true), (6, true), (7, true), (8, true), (9, true), (10, true), (11, true), (12, true), (13, true), (14, true), (15, true), (16, true), (17, true), (18, true), (19, true), (21, true), (20, false), (22, false), (23, true), (24, true), (25, true), (26, true), (28, true), (27, false), (29, false), (30, true), (31, true)] (by kernel_rfl) (by kernel_rfl) (fun w F hS => ?_); refine go_look ?_
      refine rd_do rfl ?_
      (try refine r_go rfl rfl ?_)
      refine f_call F rfl rfl (replyOf_c (r := r1) (dv := nilV) (ev := nilV)) ?_ (hp := (by rw [hg2]; exact Nat.zero_le _))
      clear F; rintro r O w T Φ ⟨ev', ⟨_, hn1⟩, rfl, rfl, rfl⟩ F0
      refine tidy F0 (fun F => ?_); clear F0
      refine r_nil ?_; refine e_afterF F (fun hS => ?_); refine go_look ?_
      obtain rfl := hn1 hg2
      refine rd_do rfl ?_
      (try refine r_go rfl rfl ?_)
      refine f_call F rfl rfl (same9_c (r := r1)) ?_ (hp := trivial)
      clear F; rintro r O w T Φ ⟨rfl, rfl, rfl⟩ F0
      refine tidy F0 (fun F => ?_); clear F0
      refine r_nil ?_; refine e_afterF F (fun hS => ?_); refine go_look ?_
      refine rd_do rfl ?_
      (try refine r_go rfl rfl ?_)
      refine f_call F rfl rfl (replyOf_c (r := r2) (dv := nilV) (ev := nilV)) ?_ (hp := (by rw [ha2]; exact Nat.zero_le _))
      clear F; rintro r O w T Φ ⟨ev', ⟨_, hn2⟩, rfl, rfl, rfl⟩ F0
      refine tidy F0 (fun F => ?_); clear F0
      refine r_nil ?_; refine e_afterF F (fun hS => ?_); refine go_look ?_
      obtain rfl := hn2 ha2
      refine rd_do rfl ?_
      (try refine r_go rfl rfl ?_)
      refine f_call F rfl rfl (same9_c (r := r2)) ?_ (hp := trivial)
      clear F; rintro r O w T Φ ⟨rfl, rfl, rfl⟩ F0
      refine tidy F0 (fun F => ?_); clear F0
      refine r_nil ?_; refine e_afterF F (fun hS => ?_); refine go_look ?_
      refine rd_done ?_; refine go_on ?_
      refine g_loop (X := Nat) (fun b => [(0, .int .i64 k), (1, .slice (some x) sc.length sd), (6, tptr p), (7, tptr c7), (8, .int .i64 i), (9, tptr c9), (22, .int .i64 b)])
        (fun b wr => ∃ O, Fr [] [] w0 O wr [(2, Tn p m t), (2, Thing.cells c7 [.slice (some ⟨q2, 0, none⟩) k k, .slice n2a t.all.length n2c]), (2, Thing.cells c9 [.int .i64 kd0, .int .u32 rp.client, .int .u32 rp.xid, .int .i64 rp.status, .int .u32 rp.ino, .int .u32 rp.gen, .int .u32 rp.kind, .int .u32 rp.mode, .int .u32 rp.links, .int .u32 rp.size, .int .u64 rp.change, .slice da rp.data.length dc, .slice ea rp.ents.length ec, .bool rp.eof, .int .u64 rp.verf, .int .u32 rp.free, .int .u32 cl, .int .u32 xd, .slice ba bs.length bc])] [Fact.rel 19 AcR (.slice (some x) sc.length sd) sc, Fact.strs (.slice n2a t.all.length n2c) t.all] ∧ b ≤ k) (fun b => k - b) 0 (sub_cons rfl rfl (sub_cons rfl rfl (sub_cons rfl rfl (sub_cons rfl rfl (sub_cons rfl rfl (sub_cons rfl rfl (sub_cons rfl rfl (sub_nil)))))))) ⟨_, F.wk, Nat.zero_le _⟩ ?_
      clear F
      rintro b w ⟨O, F, hbk⟩
      refine go_on ?_
      refine g_dec rfl (fun g9 => ?_) (fun g9 => ?_)
      · have hb' : b < t.all.length := by omega
        obtain ⟨x8, hx8, hc8⟩ := (F.sl (v := .slice n2a t.all.length n2c) (cs := t.all.map str)).atm hb'
        subst hx8
        have F := F.fact (f := Fact.cell _ _) hc8
        have egb := getB t b hb'
        refine go_on ?_
        refine f_draw [(2, Tn p m t), (2, Thing.cells c7 _)] F [] [(0, true), (1, true), (4, true), (5, true), (6, true), (7, true), (8, true), (2, false), (3, true), (9, true)] (by kernel_rfl) (by kernel_rfl) (fun w F hS => ?_); refine go_look ?_
        refine rd_do rfl ?_; (try refine r_go rfl rfl ?_)
        refine f_call F rfl rfl (txnGet_c (p := p) (m := m) (t := t) (i := ((b : Nat) : Int))) ?_ (hp := trivial)
        clear F; rintro r O w T Φ ⟨rfl, rfl⟩ F0
        refine tidy F0 (fun F => ?_); clear F0
        rw [egb] at F
        (try refine r_nil ?_); refine e_afterF F (fun hS => ?_); refine go_look ?_
        refine rd_done ?_; refine go_on ?_
        exact e_round (b + 1) (sub_cons rfl rfl (sub_cons rfl rfl (sub_cons rfl rfl (sub_cons rfl rfl (sub_cons rfl rfl (sub_cons rfl rfl (sub_cons rfl rfl (sub_nil)))))))) ⟨_, F.wk, by omega⟩ (by omega)
      · obtain rfl : k = b := by omega
        refine go_on ?_
        by_cases h8 : cl < 8
        · refine f_draw [(2, Tn p m t), (2, Thing.cells c7 _), (2, Thing.cells c9 _)] F [] [(0, true), (1, true), (2, true), (3, true), (4, true), (5, true), (6, true), (9, true), (10, true), (11, true), (12, true), (13, true), (7, false), (8, true), (14, false), (15, true), (16, true), (17, true), (18, true), (19, true), (20, true), (21, true), (22, true), (23, true), (24, true), (25, false), (26, true), (27, true), (28, true), (29, true)] (by kernel_rfl) (by kernel_rfl) (fun w F hS => ?_); refine go_look ?_
          refine rd_do rfl ?_; (try refine r_go rfl rfl ?_)
          refine f_call F rfl rfl (repRaw_c (p := p) (m := m) (t := t) (client := cl)) ?_ (hp := hcl)
          clear F; rintro r O w T Φ ⟨rfl, rfl⟩ F0
          refine tidy F0 (fun F => ?_); clear F0
          rw [if_pos h8] at F
          obtain ⟨O, F⟩ := F.frzB
          (try refine r_nil ?_); refine e_afterF F (fun hS => ?_); refine go_look ?_
          refine rd_do rfl ?_; (try refine r_go rfl rfl ?_)
          refine f_call F rfl rfl (rGet_c (l := t.all) (i := 1 + (cl : Int))) ?_ (hp := trivial)
          clear F; rintro r O w T Φ ⟨rfl, rfl, rfl⟩ F0
          refine tidy F0 (fun F => ?_); clear F0
          rw [← hga]
          (try refine r_nil ?_); refine e_afterF F (fun hS => ?_); refine go_look ?_
          refine rd_do rfl ?_; (first | refine r_pass rfl rfl rfl ?_ | refine r_passu rfl rfl rfl ?_); refine r_nil ?_; refine e_afterF F (fun hS => ?_); refine go_look ?_
          refine rd_done ?_; refine go_on ?_
          exact e_round (i + 1, t, m, _) (sub_cons rfl rfl (sub_cons rfl rfl (sub_cons rfl rfl (sub_cons rfl rfl (sub_cons rfl rfl (sub_nil)))))) ⟨_, F.wk, by dsimp only; omega, ht, hb⟩ (by simp only; omega)
        · refine f_draw [(2, Tn p m t), (2, Thing.cells c7 _), (2, Thing.cells c9 _)] F [] [(0, true), (1, true), (2, true), (3, true), (4, true), (5, true), (6, true), (9, true), (10, true), (11, true), (12, true), (13, true), (7, false), (8, true), (14, false), (15, true), (16, true), (17, true), (18, true), (19, true), (20, true), (21, true), (22, true), (23, true), (24, true), (25, false), (26, true), (27, true), (28, true), (29, true)] (by kernel_rfl) (by kernel_rfl) (fun w F hS => ?_); refine go_look ?_
          refine rd_do rfl ?_; (first | refine r_pass rfl rfl rfl ?_ | refine r_passu rfl rfl rfl ?_); refine r_nil ?_; refine e_afterF F (fun hS => ?_); refine go_look ?_
          refine rd_do rfl ?_; (first | refine r_pass rfl rfl rfl ?_ | refine r_passu rfl rfl rfl ?_); refine r_nil ?_; refine e_afterF F (fun hS => ?_); refine go_look ?_
          refine rd_do rfl ?_; (try refine r_go rfl rfl ?_)
          refine f_call F rfl rfl (repRaw_c (p := p) (m := m) (t := t) (client := cl)) ?_ (hp := hcl)
          clear F; rintro r O w T Φ ⟨rfl, rfl⟩ F0
          refine tidy F0 (fun F => ?_); clear F0
          rw [if_neg h8] at F
          obtain ⟨O, F⟩ := F.frzB
          obtain ⟨y8, z8, hr9, _⟩ := (F.bytes (v := r) (xs := [])).form
          have hr9 : r = .slice y8 0 z8 := hr9
          subst hr9
          (try refine r_nil ?_); refine e_afterF F (fun hS => ?_); refine go_look ?_
          refine rd_done ?_; refine go_on ?_
          exact e_round (i + 1, t, m, _) (sub_cons rfl rfl (sub_cons rfl rfl (sub_cons rfl rfl (sub_cons rfl rfl (sub_cons rfl rfl (sub_nil)))))) ⟨_, F.wk, by dsimp only; omega, ht, hb⟩ (by simp only; omega)
    | false =>
      refine f_draw [(2, Thing.cells c12 _), (2, Thing.cells c15 _), (2, Thing.cells c19 _), (2, Thing.cells c21 _)] F [] [(0, true), (1, true), (2, true), (3, true), (4, true), (5, true), (6, true), (7, true), (8, true), (9, true), (10, true), (11, true), (12, true), (13, true), (14, true), (15, true), (16, true), (17, true), (18, true), (19, true), (21, true), (20, false), (22, false), (23, true), (24, true), (25, true), (26, true), (28, true), (27, false), (29, false), (30, true), (31, true)] (by kernel_rfl) (by kernel_rfl) (fun w F hS => ?_); refine go_look ?_
      refine rd_do rfl ?_
      (try refine r_go rfl rfl ?_)
      refine f_call F rfl rfl (replyOf_c (r := r1) (dv := nilV) (ev := nilV)) ?_ (hp := (by rw [hg2]; exact Nat.zero_le _))
      clear F; rintro r O w T Φ ⟨ev', ⟨_, hn1⟩, rfl, rfl, rfl⟩ F0
      refine tidy F0 (fun F => ?_); clear F0
      refine r_nil ?_; refine e_afterF F (fun hS => ?_); refine go_look ?_
      obtain rfl := hn1 hg2
      refine rd_do rfl ?_
      (try refine r_go rfl rfl ?_)
      refine f_call F rfl rfl (same9_c (r := r1)) ?_ (hp := trivial)
      clear F; rintro r O w T Φ ⟨rfl, rfl, rfl⟩ F0
      refine tidy F0 (fun F => ?_); clear F0
      refine r_nil ?_; refine e_afterF F (fun hS => ?_); refine go_look ?_
      refine rd_do rfl ?_
      (try refine r_go rfl rfl ?_)
      refine f_call F rfl rfl (replyOf_c (r := r2) (dv := nilV) (ev := nilV)) ?_ (hp := (by rw [ha2]; exact Nat.zero_le _))
      clear F; rintro r O w T Φ ⟨ev', ⟨_, hn2⟩, rfl, rfl, rfl⟩ F0
      refine tidy F0 (fun F => ?_); clear F0
      refine r_nil ?_; refine e_afterF F (fun hS => ?_); refine go_look ?_
      obtain rfl := hn2 ha2
      refine rd_do rfl ?_
      (try refine r_go rfl rfl ?_)
      refine f_call F rfl rfl (same9_c (r := r2)) ?_ (hp := trivial)
      clear F; rintro r O w T Φ ⟨rfl, rfl, rfl⟩ F0
      refine tidy F0 (fun F => ?_); clear F0
      refine r_nil ?_; refine e_afterF F (fun hS => ?_); refine go_look ?_
      refine rd_done ?_; refine go_on ?_
      refine g_loop (X := Nat) (fun b => [(0, .int .i64 k), (1, .slice (some x) sc.length sd), (6, tptr p), (7, tptr c7), (8, .int .i64 i), (9, tptr c9), (22, .int .i64 b)])
        (fun b wr => ∃ O, Fr [] [] w0 O wr [(2, Tn p m t), (2, Thing.cells c7 [.slice (some ⟨q2, 0, none⟩) k k, .slice n2a t.all.length n2c]), (2, Thing.cells c9 [.int .i64 kd0, .int .u32 rp.client, .int .u32 rp.xid, .int .i64 rp.status, .int .u32 rp.ino, .int .u32 rp.gen, .int .u32 rp.kind, .int .u32 rp.mode, .int .u32 rp.links, .int .u32 rp.size, .int .u64 rp.change, .slice da rp.data.length dc, .slice ea rp.ents.length ec, .bool rp.eof, .int .u64 rp.verf, .int .u32 rp.free, .int .u32 cl, .int .u32 xd, .slice ba bs.length bc])] [Fact.rel 19 AcR (.slice (some x) sc.length sd) sc, Fact.strs (.slice n2a t.all.length n2c) t.all] ∧ b ≤ k) (fun b => k - b) 0 (sub_cons rfl rfl (sub_cons rfl rfl (sub_cons rfl rfl (sub_cons rfl rfl (sub_cons rfl rfl (sub_cons rfl rfl (sub_cons rfl rfl (sub_nil)))))))) ⟨_, F.wk, Nat.zero_le _⟩ ?_
      clear F
      rintro b w ⟨O, F, hbk⟩
      refine go_on ?_
      refine g_dec rfl (fun g9 => ?_) (fun g9 => ?_)
      · have hb' : b < t.all.length := by omega
        obtain ⟨x8, hx8, hc8⟩ := (F.sl (v := .slice n2a t.all.length n2c) (cs := t.all.map str)).atm hb'
        subst hx8
        have F := F.fact (f := Fact.cell _ _) hc8
        have egb := getB t b hb'
        refine go_on ?_
        refine f_draw [(2, Tn p m t), (2, Thing.cells c7 _)] F [] [(0, true), (1, true), (4, true), (5, true), (6, true), (7, true), (8, true), (2, false), (3, true), (9, true)] (by kernel_rfl) (by kernel_rfl) (fun w F hS => ?_); refine go_look ?_
        refine rd_do rfl ?_; (try refine r_go rfl rfl ?_)
        refine f_call F rfl rfl (txnGet_c (p := p) (m := m) (t := t) (i := ((b : Nat) : Int))) ?_ (hp := trivial)
        clear F; rintro r O w T Φ ⟨rfl, rfl⟩ F0
        refine tidy F0 (fun F => ?_); clear F0
        rw [egb] at F
        (try refine r_nil ?_); refine e_afterF F (fun hS => ?_); refine go_look ?_
        refine rd_done ?_; refine go_on ?_
        exact e_round (b + 1) (sub_cons rfl rfl (sub_cons rfl rfl (sub_cons rfl rfl (sub_cons rfl rfl (sub_cons rfl rfl (sub_cons rfl rfl (sub_cons rfl rfl (sub_nil)))))))) ⟨_, F.wk, by omega⟩ (by omega)
      · obtain rfl : k = b := by omega
        refine go_on ?_
        by_cases h8 : cl < 8
        · refine f_draw [(2, Tn p m t), (2, Thing.cells c7 _), (2, Thing.cells c9 _)] F [] [(0, true), (1, true), (2, true), (3, true), (4, true), (5, true), (6, true), (9, true), (10, true), (11, true), (12, true), (13, true), (7, false), (8, true), (14, false), (15, true), (16, true), (17, true), (18, true), (19, true), (20, true), (21, true), (22, true), (23, true), (24, true), (25, false), (26, true), (27, true), (28, true), (29, true)] (by kernel_rfl) (by kernel_rfl) (fun w F hS => ?_); refine go_look ?_
          refine rd_do rfl ?_; (try refine r_go rfl rfl ?_)
          refine f_call F rfl rfl (repRaw_c (p := p) (m := m) (t := t) (client := cl)) ?_ (hp := hcl)
          clear F; rintro r O w T Φ ⟨rfl, rfl⟩ F0
          refine tidy F0 (fun F => ?_); clear F0
          rw [if_pos h8] at F
          obtain ⟨O, F⟩ := F.frzB
          (try refine r_nil ?_); refine e_afterF F (fun hS => ?_); refine go_look ?_
          refine rd_do rfl ?_; (try refine r_go rfl rfl ?_)
          refine f_call F rfl rfl (rGet_c (l := t.all) (i := 1 + (cl : Int))) ?_ (hp := trivial)
          clear F; rintro r O w T Φ ⟨rfl, rfl, rfl⟩ F0
          refine tidy F0 (fun F => ?_); clear F0
          rw [← hga]
          (try refine r_nil ?_); refine e_afterF F (fun hS => ?_); refine go_look ?_
          refine rd_do rfl ?_; (first | refine r_pass rfl rfl rfl ?_ | refine r_passu rfl rfl rfl ?_); refine r_nil ?_; refine e_afterF F (fun hS => ?_); refine go_look ?_
          refine rd_done ?_; refine go_on ?_
          exact e_round (i + 1, t, m, _) (sub_cons rfl rfl (sub_cons rfl rfl (sub_cons rfl rfl (sub_cons rfl rfl (sub_cons rfl rfl (sub_nil)))))) ⟨_, F.wk, by dsimp only; omega, ht, hb⟩ (by simp only; omega)
        · refine f_draw [(2, Tn p m t), (2, Thing.cells c7 _), (2, Thing.cells c9 _)] F [] [(0, true), (1, true), (2, true), (3, true), (4, true), (5, true), (6, true), (9, true), (10, true), (11, true), (12, true), (13, true), (7, false), (8, true), (14, false), (15, true), (16, true), (17, true), (18, true), (19, true), (20, true), (21, true), (22, true), (23, true), (24, true), (25, false), (26, true), (27, true), (28, true), (29, true)] (by kernel_rfl) (by kernel_rfl) (fun w F hS => ?_); refine go_look ?_
          refine rd_do rfl ?_; (first | refine r_pass rfl rfl rfl ?_ | refine r_passu rfl rfl rfl ?_); refine r_nil ?_; refine e_afterF F (fun hS => ?_); refine go_look ?_
          refine rd_do rfl ?_; (first | refine r_pass rfl rfl rfl ?_ | refine r_passu rfl rfl rfl ?_); refine r_nil ?_; refine e_afterF F (fun hS => ?_); refine go_look ?_
          refine rd_do rfl ?_; (try refine r_go rfl rfl ?_)
          refine f_call F rfl rfl (repRaw_c (p := p) (m := m) (t := t) (client := cl)) ?_ (hp := hcl)
          clear F; rintro r O w T Φ ⟨rfl, rfl⟩ F0
          refine tidy F0 (fun F => ?_); clear F0
          rw [if_neg h8] at F
          obtain ⟨O, F⟩ := F.frzB
          obtain ⟨y8, z8, hr9, _⟩ := (F.bytes (v := r) (xs := [])).form
          have hr9 : r = .slice y8 0 z8 := hr9
          subst hr9
          (try refine r_nil ?_); refine e_afterF F (fun hS => ?_); refine go_look ?_
          refine rd_done ?_; refine go_on ?_
          exact e_round (i + 1, t, m, _) (sub_cons rfl rfl (sub_cons rfl rfl (sub_cons rfl rfl (sub_cons rfl rfl (sub_cons rfl rfl (sub_nil)))))) ⟨_, F.wk, by dsimp only; omega, ht, hb⟩ (by simp only; omega)
  · refine go_on ?_
    refine go_back ?_
    exact F.law
theorem reads_ac {w : World} {row : List Value} (h : row.length = 19) (r : Reads Try.prog w 43 row) : ∃ y : Ac, AcR.φ [] w row y := by
  match row, h with
  | [a0, a1, a2, a3, a4, a5, a6, a7, a8, a9, a10, a11, a12, a13, a14, a15, a16, a17, a18], _ =>
    obtain ⟨k, e0, _⟩ := reads_int (k := .i64) (reads_field (i := 0) r)
    have rr := reads_field (i := 1) r
    obtain ⟨y, dv, ev, hy, hf, hs1, hs2, hd, he⟩ := reads_rp rfl rr
    obtain ⟨c, e2, f2⟩ := reads_nat (k := .u32) rfl (reads_field (i := 2) r)
    obtain ⟨x, e3, f3⟩ := reads_nat (k := .u32) rfl (reads_field (i := 3) r)
    obtain ⟨b, hb, _⟩ := reads_bytes (v := a18) (reads_field (i := 4) r)
    unfold repV at hy
    injection hy with hy
    have hy := congrArg Array.toList hy
    simp only [List.drop_zero, List.take_succ_cons, List.take_zero, List.drop_succ_cons, List.cons.injEq, and_true] at e0 e2 e3 hy
    simp only [lim] at f2 f3
    obtain ⟨h1, h2, h3, h4, h5, h6, h7, h8, h9, h10, h11, h12, h13, h14, h15⟩ := hy
    subst e0 e2 e3 h1 h2 h3 h4 h5 h6 h7 h8 h9 h10 h11 h12 h13 h14 h15
    exact ⟨⟨k, y, c, x, b⟩, a11, a12, a18, rfl, hd, he, hb, hf, hs1, hs2, f2, f3⟩
theorem RepliesPlays_true {w : World} {v0 v1 : Value} (r0 : Reads Try.prog w 3 [v0]) (r1 : Reads Try.prog w 22 [v1]) :
    FnC Try.prog 3 [v0, v1] [] [] w fun r O' w' => r = .bool true := by
  obtain ⟨n, hn, _⟩ := reads_int (k := .i64) r0
  injection hn with hn
  subst hn
  obtain ⟨sc, hs, _⟩ := reads_slR (r := AcR.φ [] w) r1 (fun row h hr => reads_ac h hr)
  exact RepliesPlays_ok ((Fr.start OK_nil).fact (f := Fact.rel 19 AcR v1 sc) hs)
end Go.Proofs.Ytdhfikbehbpdjaa
