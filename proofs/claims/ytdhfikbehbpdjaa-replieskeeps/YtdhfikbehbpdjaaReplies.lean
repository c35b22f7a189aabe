/- What the functions of replies do. -/
import Derived.Test.YtdhfikbehbpdjaaXdrn
import Derived.Test.YtdhfikbehbpdjaaTxnc
namespace Go.Proofs.Ytdhfikbehbpdjaa
open Gk Go
set_option linter.unusedVariables false
set_option maxHeartbeats 4000000
set_option maxRecDepth 4000
set_option linter.unusedSimpArgs false
attribute [local irreducible] Int.decLt Int.decLe Int.decEq Int.instDecidableEq Gk.Rnds Gk.E Gk.G Gk.R Gk.RD Gk.RX Gk.RO Gk.Y Gk.Ent Gk.Sat Gk.Round Gk.After Gk.Cell Gk.Sl Gk.SlA Gk.CB Gk.OK Gk.FnC Gk.Bytes Gk.BytesL Gk.StrL Gk.Buf Gk.MapI
/-- An entry of a directory. -/
structure En where
  cookie : Nat
  ino : Nat
  gen : Nat
  name : List UInt8
deriving DecidableEq
def EnR : Rel En := Rel.pure fun e => [.int .u64 e.cookie, .int .u32 e.ino, .int .u32 e.gen, str e.name]

/-- A reply. -/
structure Rp where
  client : Nat
  xid : Nat
  status : Int
  ino : Nat
  gen : Nat
  kind : Nat
  mode : Nat
  links : Nat
  size : Nat
  change : Nat
  data : List UInt8
  ents : List En
  eof : Bool
  verf : Nat
  free : Nat
deriving DecidableEq

def repV (r : Rp) (dv ev : Value) : Value := .agg #[.int .u32 r.client, .int .u32 r.xid, .int .i64 r.status, .int .u32 r.ino, .int .u32 r.gen, .int .u32 r.kind, .int .u32 r.mode, .int .u32 r.links, .int .u32 r.size, .int .u64 r.change, dv, ev, .bool r.eof, .int .u64 r.verf, .int .u32 r.free]
def nilV : Value := .slice none 0 0
def Rp.zero : Rp := ⟨0, 0, 0, 0, 0, 0, 0, 0, 0, 0, [], [], false, 0, 0⟩
def statB (e : Int) : Prop := e = 0 ∨ (60 ≤ e ∧ e ≤ 71)
instance (e : Int) : Decidable (statB e) := by unfold statB; infer_instance
def Rp.fit (r : Rp) : Prop := r.client < 4294967296 ∧ r.xid < 4294967296 ∧ r.ino < 4294967296 ∧ r.gen < 4294967296 ∧ r.kind < 4294967296 ∧ r.mode < 4294967296 ∧ r.links < 4294967296 ∧ r.size < 4294967296 ∧ r.change < 18446744073709551616 ∧ r.verf < 18446744073709551616 ∧ r.free < 4294967296
/-- May it be kept? -/
def Rp.may (r : Rp) : Prop := r.client < 8 ∧ statB r.status ∧ r.data.length + r.ents.length = 0 ∧ r.eof = false
instance Rp.mayDec (r : Rp) : Decidable r.may := by unfold Rp.may; infer_instance
def Rp.bytes (r : Rp) : List UInt8 := be 4 r.xid ++ be 4 r.status.toNat ++ be 4 r.ino ++ be 4 r.gen ++ be 4 r.kind ++ be 4 r.mode ++ be 4 r.links ++ be 4 r.size ++ be 8 r.change ++ be 8 r.verf ++ be 4 r.free
theorem Rp.bytes_len (r : Rp) : r.bytes.length = 52 := by simp [Rp.bytes]

theorem one_c {c : Nat} (h : True) : Con Try.prog 25 [.int .u32 c] [] [] [] fun r T Φ => r = .bool (decide ((c : Int) < 8)) ∧ T = [] ∧ Φ = [] := by
  refine con_of (fun O0 w0 F => ?_)
  refine tidy F (fun F => ?_)
  refine fn_of _ Try.func25 rfl (by kernel_rfl) Try.ntmps25 rfl ?_
  refine go_on ?_
  refine go_back ?_
  exact F.fin ⟨rfl, rfl, rfl⟩

theorem status_c {e : Int} (h : True) : Con Try.prog 26 [.int .i64 e] [] [] [] fun r T Φ => r = .bool (decide (statB e)) ∧ T = [] ∧ Φ = [] := by
  refine con_of (fun O0 w0 F => ?_)
  refine tidy F (fun F => ?_)
  refine fn_of _ Try.func26 rfl (by kernel_rfl) Try.ntmps26 rfl ?_
  by_cases h0 : e = 0
  · have hs : statB e := .inl h0
    rw [decide_eq_true hs]
    refine go_on ?_
    refine go_back ?_
    exact F.fin ⟨rfl, rfl, rfl⟩
  by_cases h1 : 60 ≤ e
  · by_cases h2 : e ≤ 71
    · have hs : statB e := .inr ⟨h1, h2⟩
      refine go_on ?_
      refine go_back ?_
      exact F.fin ⟨by rw [decide_eq_true hs, decide_eq_true h2], rfl, rfl⟩
    · have hs : ¬ statB e := fun h => h.elim h0 (fun h => h2 h.2)
      refine go_on ?_
      refine go_back ?_
      exact F.fin ⟨by rw [decide_eq_false hs, decide_eq_false h2], rfl, rfl⟩
  · have hs : ¬ statB e := fun h => h.elim h0 (fun h => h1 h.1)
    refine go_on ?_
    refine go_back ?_
    exact F.fin ⟨by rw [decide_eq_false hs], rfl, rfl⟩

def smallV (p q : Nat) : Value := .agg #[.pointer (some ⟨p, 1, none⟩), .pointer (some ⟨q, 0, none⟩), .pointer (some ⟨p, 3, none⟩), .pointer (some ⟨p, 4, none⟩), .pointer (some ⟨p, 5, none⟩), .pointer (some ⟨p, 6, none⟩), .pointer (some ⟨p, 7, none⟩), .pointer (some ⟨p, 8, none⟩)]

theorem small_c {p q : Nat} (h : True) : Con Try.prog 28 [tptr p, tptr q] [] [] [] fun r T Φ => r = smallV p q ∧ T = [] ∧ Φ = [] := by
  refine con_of (fun O0 w0 F => ?_)
  refine tidy F (fun F => ?_)
  refine fn_of _ Try.func28 rfl (by kernel_rfl) Try.ntmps28 rfl ?_
  refine go_on ?_
  (first | refine f_alloc1 F rfl (fun z w F => ?_) | refine f_allocN F rfl (fun z w F => ?_)); refine go_on ?_
  refine f_draw [] F [29] [(0, true), (1, true), (2, true), (3, true), (4, true), (5, true), (6, true), (7, true), (8, true), (9, true), (10, true), (11, true), (12, true), (13, true), (14, true), (15, true), (16, true), (17, true), (18, true), (19, true), (20, true), (21, true), (22, true), (23, true), (24, true), (25, true), (26, true), (27, true), (28, true), (29, false)] (by kernel_rfl) (by kernel_rfl) (fun w F hS => ?_); refine go_look ?_
  refine rd_open rfl ?_; (first | refine ro_n ?_ | refine ro_g rfl rfl ?_); refine rx_y rfl (fun _ hw => y_buildA (cs := [_, _, _, _, _, _, _, _]) rfl rfl) (by assumption) ?_; refine go_look ?_
  refine rd_do rfl ?_; (try refine r_go rfl rfl ?_)
  refine f_storeAll F rfl rfl rfl (fun w F => ?_); refine go_on ?_
  (try refine r_nil ?_); refine e_after (fun h => by cases h) ?_; refine go_look ?_
  refine rd_done ?_; refine go_on ?_
  refine go_back ?_
  exact F.fin ⟨rfl, rfl, rfl⟩

theorem repPut_c {p m : Nat} {t : Tx} {r : Rp} {dv ev : Value} (h : r.fit ∧ r.data.length ≤ 1000000 ∧ r.ents.length ≤ 1000000 ∧ -9223372036854775808 ≤ r.status ∧ r.status ≤ 9223372036854775807) :
    Con Try.prog 8 [tptr p, repV r dv ev] [Tn p m t] [] [Fact.bytes dv r.data, Fact.rel 4 EnR ev r.ents] fun u T Φ => u = errT (if r.may then t.putE (1 + r.client) r.bytes else 1) ∧ T = [Tn p m (if r.may then t.put1 (1 + r.client) r.bytes else t)] ∧ Φ = [] := by
  obtain ⟨⟨h1, h2, h3, h4, h5, h6, h7, h8, h9, h10, h11⟩, hd, he, hs1, hs2⟩ := h
  refine con_of (fun O0 w0 F => ?_)
  refine tidy F (fun F => ?_)
  refine fn_of _ Try.func8 rfl (by kernel_rfl) Try.ntmps8 rfl ?_
  obtain ⟨da, dc, rfl, _⟩ := (F.bytes (v := dv)).form
  obtain ⟨ea, ec, rfl, _⟩ := (F.rel (v := ev) (R := EnR)).form
  refine go_on ?_
  (first | refine f_box1 F rfl rfl (fun q w F => ?_) | refine f_boxN F rfl rfl (fun q w F => ?_)); refine go_on ?_
  refine f_call F rfl rfl one_c ?_
  clear F; rintro r O w T Φ ⟨rfl, rfl, rfl⟩ F0
  refine tidy F0 (fun F => ?_); clear F0
  refine go_on ?_
  by_cases g1 : r.client < 8
  · by_cases g2 : statB r.status
    · refine go_on ?_
      refine f_call F rfl rfl status_c ?_
      clear F; rintro r O w T Φ ⟨rfl, rfl, rfl⟩ F0
      refine tidy F0 (fun F => ?_); clear F0
      refine go_on ?_
      rw [decide_eq_true g2]
      by_cases g3 : r.data.length + r.ents.length = 0
      · by_cases g4 : r.eof = true
        · have hm : ¬ r.may := fun ⟨_, _, _, k⟩ => by rw [g4] at k; cases k
          rw [if_neg hm, if_neg hm]
          refine go_on ?_
          rw [g4]
          refine go_on ?_
          refine go_back ?_
          exact F.fin ⟨rfl, rfl, rfl⟩
        · have g4 : r.eof = false := by cases hh : r.eof <;> simp_all
          have hm : r.may := ⟨g1, g2, g3, g4⟩
          rw [if_pos hm, if_pos hm]
          have hst : ∃ k : Nat, r.status = k ∧ k < 4294967296 ∧ r.status.toNat = k := by
            rcases g2 with g2 | g2
            · exact ⟨0, by omega, by omega, by omega⟩
            · exact ⟨r.status.toNat, by omega, by omega, rfl⟩
          obtain ⟨st, hst1, hst2, hst3⟩ := hst
          refine go_on ?_
          rw [g4]
          refine go_on ?_
          refine f_call F rfl rfl newWriter_c ?_
          clear F; rintro r O w T Φ ⟨b, rfl, rfl, rfl⟩ F0
          refine tidy F0 (fun F => ?_); clear F0
          refine go_on ?_
          rw [hst1]
          refine go_on ?_
          (first | refine f_alloc1 F rfl (fun c w F => ?_) | refine f_allocN F rfl (fun c w F => ?_)); refine go_on ?_
          refine f_store1 F rfl rfl rfl (fun w F => ?_); refine go_on ?_
          refine f_call F rfl rfl small_c ?_
          clear F; rintro r O w T Φ ⟨rfl, rfl, rfl⟩ F0
          refine tidy F0 (fun F => ?_); clear F0
          refine go_on ?_
          refine g_unroll 10 ?_; refine go_on ?_
          refine r_y (y_index_arr rfl rfl rfl (by decide) (by rfl)) rfl ?_; refine go_on ?_
          refine f_call F rfl rfl u32_c ?_
          clear F; rintro r O w T Φ ⟨v1, rfl, rfl, rfl⟩ F0
          refine tidy F0 (fun F => ?_); clear F0
          refine go_on ?_
          refine r_y (y_index_arr rfl rfl rfl (by decide) (by rfl)) rfl ?_; refine go_on ?_
          refine f_call F rfl rfl u32_c ?_
          clear F; rintro r O w T Φ ⟨v1, rfl, rfl, rfl⟩ F0
          refine tidy F0 (fun F => ?_); clear F0
          refine go_on ?_
          refine r_y (y_index_arr rfl rfl rfl (by decide) (by rfl)) rfl ?_; refine go_on ?_
          refine f_call F rfl rfl u32_c ?_
          clear F; rintro r O w T Φ ⟨v1, rfl, rfl, rfl⟩ F0
          refine tidy F0 (fun F => ?_); clear F0
          refine go_on ?_
          refine r_y (y_index_arr rfl rfl rfl (by decide) (by rfl)) rfl ?_; refine go_on ?_
          refine f_call F rfl rfl u32_c ?_
          clear F; rintro r O w T Φ ⟨v1, rfl, rfl, rfl⟩ F0
          refine tidy F0 (fun F => ?_); clear F0
          refine go_on ?_
          refine r_y (y_index_arr rfl rfl rfl (by decide) (by rfl)) rfl ?_; refine go_on ?_
          refine f_call F rfl rfl u32_c ?_
          clear F; rintro r O w T Φ ⟨v1, rfl, rfl, rfl⟩ F0
          refine tidy F0 (fun F => ?_); clear F0
          refine go_on ?_
          refine r_y (y_index_arr rfl rfl rfl (by decide) (by rfl)) rfl ?_; refine go_on ?_
          refine f_call F rfl rfl u32_c ?_
          clear F; rintro r O w T Φ ⟨v1, rfl, rfl, rfl⟩ F0
          refine tidy F0 (fun F => ?_); clear F0
          refine go_on ?_
          refine r_y (y_index_arr rfl rfl rfl (by decide) (by rfl)) rfl ?_; refine go_on ?_
          refine f_call F rfl rfl u32_c ?_
          clear F; rintro r O w T Φ ⟨v1, rfl, rfl, rfl⟩ F0
          refine tidy F0 (fun F => ?_); clear F0
          refine go_on ?_
          refine r_y (y_index_arr rfl rfl rfl (by decide) (by rfl)) rfl ?_; refine go_on ?_
          refine f_call F rfl rfl u32_c ?_
          clear F; rintro r O w T Φ ⟨v1, rfl, rfl, rfl⟩ F0
          refine tidy F0 (fun F => ?_); clear F0
          refine go_on ?_
          refine f_call F rfl rfl u64_c ?_
          clear F; rintro r O w T Φ ⟨v1, rfl, rfl, rfl⟩ F0
          refine tidy F0 (fun F => ?_); clear F0
          refine go_on ?_
          refine f_call F rfl rfl u64_c ?_
          clear F; rintro r O w T Φ ⟨v1, rfl, rfl, rfl⟩ F0
          refine tidy F0 (fun F => ?_); clear F0
          refine go_on ?_
          refine f_call F rfl rfl u32_c ?_
          clear F; rintro r O w T Φ ⟨v1, rfl, rfl, rfl⟩ F0
          refine tidy F0 (fun F => ?_); clear F0
          refine go_on ?_
          have hbs : r.bytes = be 4 r.xid ++ be 4 st ++ be 4 r.ino ++ be 4 r.gen ++ be 4 r.kind ++ be 4 r.mode ++ be 4 r.links ++ be 4 r.size ++ be 8 r.change ++ be 8 r.verf ++ be 4 r.free := by rw [← hst3]; rfl
          generalize r.bytes = bs at hbs ⊢
          refine f_draw [(2, Thing.cells q _)] F [] [(0, true), (1, true), (2, true), (3, true), (4, true), (5, true), (6, false), (7, false), (8, true)] (by kernel_rfl) (by kernel_rfl) (fun w F hS => ?_); refine go_look ?_
          refine rd_do rfl ?_
          (try refine r_go rfl rfl ?_)
          refine f_call F rfl rfl out_c ?_
          clear F; rintro r O w T Φ ⟨rfl, rfl⟩ F0
          refine tidy F0 (fun F => ?_); clear F0
          refine r_nil ?_; refine e_afterF F (fun hS => ?_); refine go_look ?_
          rw [← hbs] at *
          refine rd_do rfl ?_
          (try refine r_go rfl rfl ?_)
          refine f_call F rfl rfl (txnPut_c (xs := bs)) ?_
          clear F; rintro r O w T Φ ⟨rfl, rfl, rfl⟩ F0
          refine tidy F0 (fun F => ?_); clear F0
          refine r_nil ?_; refine e_afterF F (fun hS => ?_); refine go_look ?_
          refine rd_done ?_; refine go_on ?_
          refine go_back ?_
          exact F.fin ⟨rfl, rfl, rfl⟩
      · have hm : ¬ r.may := fun ⟨_, _, k, _⟩ => g3 k
        rw [if_neg hm, if_neg hm]
        refine go_on ?_
        refine go_back ?_
        exact F.fin ⟨rfl, rfl, rfl⟩
    · have hm : ¬ r.may := fun ⟨_, k, _⟩ => g2 k
      rw [if_neg hm, if_neg hm]
      refine go_on ?_
      refine f_call F rfl rfl status_c ?_
      clear F; rintro r O w T Φ ⟨rfl, rfl, rfl⟩ F0
      refine tidy F0 (fun F => ?_); clear F0
      refine go_on ?_
      rw [decide_eq_false g2]
      refine go_on ?_
      refine go_back ?_
      exact F.fin ⟨rfl, rfl, rfl⟩
  · have hm : ¬ r.may := fun ⟨k, _⟩ => g1 k
    rw [if_neg hm, if_neg hm]
    refine go_on ?_
    refine go_back ?_
    exact F.fin ⟨rfl, rfl, rfl⟩

/-- The reply of a block's bytes, and the error. -/
def repRead (client : Nat) (b : List UInt8) : Rp × Nat :=
  match rdN b 0 4 with
  | (x1, b1, e1) => match rdN b1 e1 4 with
  | (x2, b2, e2) => match rdN b2 e2 4 with
  | (x3, b3, e3) => match rdN b3 e3 4 with
  | (x4, b4, e4) => match rdN b4 e4 4 with
  | (x5, b5, e5) => match rdN b5 e5 4 with
  | (x6, b6, e6) => match rdN b6 e6 4 with
  | (x7, b7, e7) => match rdN b7 e7 4 with
  | (x8, b8, e8) => match rdN b8 e8 8 with
  | (x9, b9, e9) => match rdN b9 e9 8 with
  | (x10, b10, e10) => match rdN b10 e10 4 with
  | (x11, b11, e11) => if endE b11 e11 ≠ 0 then (.zero, endE b11 e11) else if ¬ statB x2 then (.zero, 11) else (⟨client, x1, x2, x3, x4, x5, x6, x7, x8, x9, [], [], false, x10, x11⟩, 0)

theorem ru32_g {p e : Nat} {bs : List UInt8} {x e' : Nat} {bs' : List UInt8} (h : rdN bs e 4 = (x, bs', e')) : Con Try.prog 45 [ptr p] [Rd p bs e] [] [] fun r T Φ => r = .int .u32 x ∧ T = [Rd p bs' e'] ∧ Φ = [] := by
  have := ru32_c (p := p) (e := e) (bs := bs) trivial
  rw [h] at this
  exact this
theorem ru64_g {p e : Nat} {bs : List UInt8} {x e' : Nat} {bs' : List UInt8} (h : rdN bs e 8 = (x, bs', e')) : Con Try.prog 46 [ptr p] [Rd p bs e] [] [] fun r T Φ => r = .int .u64 x ∧ T = [Rd p bs' e'] ∧ Φ = [] := by
  have := ru64_c (p := p) (e := e) (bs := bs) trivial
  rw [h] at this
  exact this

theorem repRead_c {client : Nat} {u : Value} {b : List UInt8} (h : b.length ≤ 140737488355328) : Con Try.prog 35 [.int .u32 client, u] [] [] [Fact.bytes u b] fun r T Φ => r = .tuple #[repV (repRead client b).1 nilV nilV, errT (repRead client b).2] ∧ T = [] ∧ Φ = [] := by
  refine con_of (fun O0 w0 F => ?_)
  refine tidy F (fun F => ?_)
  refine fn_of _ Try.func35 rfl (by kernel_rfl) Try.ntmps35 rfl ?_
  obtain ⟨a, c, rfl, _⟩ := (F.bytes (v := u)).form
  obtain ⟨x1, b1, e1, r1⟩ : ∃ x b' e', rdN b 0 4 = (x, b', e') := ⟨_, _, _, rfl⟩
  obtain ⟨x2, b2, e2, r2⟩ : ∃ x b' e', rdN b1 e1 4 = (x, b', e') := ⟨_, _, _, rfl⟩
  obtain ⟨x3, b3, e3, r3⟩ : ∃ x b' e', rdN b2 e2 4 = (x, b', e') := ⟨_, _, _, rfl⟩
  obtain ⟨x4, b4, e4, r4⟩ : ∃ x b' e', rdN b3 e3 4 = (x, b', e') := ⟨_, _, _, rfl⟩
  obtain ⟨x5, b5, e5, r5⟩ : ∃ x b' e', rdN b4 e4 4 = (x, b', e') := ⟨_, _, _, rfl⟩
  obtain ⟨x6, b6, e6, r6⟩ : ∃ x b' e', rdN b5 e5 4 = (x, b', e') := ⟨_, _, _, rfl⟩
  obtain ⟨x7, b7, e7, r7⟩ : ∃ x b' e', rdN b6 e6 4 = (x, b', e') := ⟨_, _, _, rfl⟩
  obtain ⟨x8, b8, e8, r8⟩ : ∃ x b' e', rdN b7 e7 4 = (x, b', e') := ⟨_, _, _, rfl⟩
  obtain ⟨x9, b9, e9, r9⟩ : ∃ x b' e', rdN b8 e8 8 = (x, b', e') := ⟨_, _, _, rfl⟩
  obtain ⟨x10, b10, e10, r10⟩ : ∃ x b' e', rdN b9 e9 8 = (x, b', e') := ⟨_, _, _, rfl⟩
  obtain ⟨x11, b11, e11, r11⟩ : ∃ x b' e', rdN b10 e10 4 = (x, b', e') := ⟨_, _, _, rfl⟩
  have eg : repRead client b = if endE b11 e11 ≠ 0 then (.zero, endE b11 e11) else if ¬ statB x2 then (.zero, 11) else (⟨client, x1, x2, x3, x4, x5, x6, x7, x8, x9, [], [], false, x10, x11⟩, 0) := by
    unfold repRead
    simp only [r1, r2, r3, r4, r5, r6, r7, r8, r9, r10, r11]
  have k2 := rdN_lt b1 e1 4
  simp only [r2] at k2
  rw [eg]
  clear eg
  refine go_on ?_
  (first | refine f_alloc1 F rfl (fun z w F => ?_) | refine f_allocN F rfl (fun z w F => ?_)); refine go_on ?_
  refine f_call F rfl rfl newReader_c ?_
  clear F; rintro r O w T Φ ⟨p, rfl, rfl, rfl⟩ F0
  refine tidy F0 (fun F => ?_); clear F0
  refine go_on ?_
  (first | refine f_alloc1 F rfl (fun m w F => ?_) | refine f_allocN F rfl (fun m w F => ?_)); refine go_on ?_
  refine f_storeAll F rfl rfl rfl (fun w F => ?_); refine go_on ?_
  (first | refine f_alloc1 F rfl (fun c2 w F => ?_) | refine f_allocN F rfl (fun c2 w F => ?_)); refine go_on ?_
  refine f_store1 F rfl rfl rfl (fun w F => ?_); refine go_on ?_
  refine f_call F rfl rfl small_c ?_
  clear F; rintro r O w T Φ ⟨rfl, rfl, rfl⟩ F0
  refine tidy F0 (fun F => ?_); clear F0
  refine go_on ?_
  refine g_unroll 10 ?_; refine go_on ?_
  refine r_y (y_index_arr rfl rfl rfl (by decide) (by rfl)) rfl ?_; refine go_on ?_
  refine f_call F rfl rfl ru32_g ?_
  clear F; rintro r O w T Φ ⟨rfl, rfl, rfl⟩ F0
  refine tidy F0 (fun F => ?_); clear F0
  refine go_on ?_
  refine f_store1 F rfl rfl rfl (fun w F => ?_); refine go_on ?_
  refine r_y (y_index_arr rfl rfl rfl (by decide) (by rfl)) rfl ?_; refine go_on ?_
  refine f_call F rfl rfl ru32_g ?_
  clear F; rintro r O w T Φ ⟨rfl, rfl, rfl⟩ F0
  refine tidy F0 (fun F => ?_); clear F0
  refine go_on ?_
  refine f_store1 F rfl rfl rfl (fun w F => ?_); refine go_on ?_
  refine r_y (y_index_arr rfl rfl rfl (by decide) (by rfl)) rfl ?_; refine go_on ?_
  refine f_call F rfl rfl ru32_g ?_
  clear F; rintro r O w T Φ ⟨rfl, rfl, rfl⟩ F0
  refine tidy F0 (fun F => ?_); clear F0
  refine go_on ?_
  refine f_store1 F rfl rfl rfl (fun w F => ?_); refine go_on ?_
  refine r_y (y_index_arr rfl rfl rfl (by decide) (by rfl)) rfl ?_; refine go_on ?_
  refine f_call F rfl rfl ru32_g ?_
  clear F; rintro r O w T Φ ⟨rfl, rfl, rfl⟩ F0
  refine tidy F0 (fun F => ?_); clear F0
  refine go_on ?_
  refine f_store1 F rfl rfl rfl (fun w F => ?_); refine go_on ?_
  refine r_y (y_index_arr rfl rfl rfl (by decide) (by rfl)) rfl ?_; refine go_on ?_
  refine f_call F rfl rfl ru32_g ?_
  clear F; rintro r O w T Φ ⟨rfl, rfl, rfl⟩ F0
  refine tidy F0 (fun F => ?_); clear F0
  refine go_on ?_
  refine f_store1 F rfl rfl rfl (fun w F => ?_); refine go_on ?_
  refine r_y (y_index_arr rfl rfl rfl (by decide) (by rfl)) rfl ?_; refine go_on ?_
  refine f_call F rfl rfl ru32_g ?_
  clear F; rintro r O w T Φ ⟨rfl, rfl, rfl⟩ F0
  refine tidy F0 (fun F => ?_); clear F0
  refine go_on ?_
  refine f_store1 F rfl rfl rfl (fun w F => ?_); refine go_on ?_
  refine r_y (y_index_arr rfl rfl rfl (by decide) (by rfl)) rfl ?_; refine go_on ?_
  refine f_call F rfl rfl ru32_g ?_
  clear F; rintro r O w T Φ ⟨rfl, rfl, rfl⟩ F0
  refine tidy F0 (fun F => ?_); clear F0
  refine go_on ?_
  refine f_store1 F rfl rfl rfl (fun w F => ?_); refine go_on ?_
  refine r_y (y_index_arr rfl rfl rfl (by decide) (by rfl)) rfl ?_; refine go_on ?_
  refine f_call F rfl rfl ru32_g ?_
  clear F; rintro r O w T Φ ⟨rfl, rfl, rfl⟩ F0
  refine tidy F0 (fun F => ?_); clear F0
  refine go_on ?_
  refine f_store1 F rfl rfl rfl (fun w F => ?_); refine go_on ?_
  refine f_call F rfl rfl ru64_g ?_
  clear F; rintro r O w T Φ ⟨rfl, rfl, rfl⟩ F0
  refine tidy F0 (fun F => ?_); clear F0
  refine go_on ?_
  refine f_store1 F rfl rfl rfl (fun w F => ?_); refine go_on ?_
  refine f_call F rfl rfl ru64_g ?_
  clear F; rintro r O w T Φ ⟨rfl, rfl, rfl⟩ F0
  refine tidy F0 (fun F => ?_); clear F0
  refine go_on ?_
  refine f_store1 F rfl rfl rfl (fun w F => ?_); refine go_on ?_
  refine f_call F rfl rfl ru32_g ?_
  clear F; rintro r O w T Φ ⟨rfl, rfl, rfl⟩ F0
  refine tidy F0 (fun F => ?_); clear F0
  refine go_on ?_
  refine f_store1 F rfl rfl rfl (fun w F => ?_); refine go_on ?_
  refine f_call F rfl rfl end_c ?_
  clear F; rintro r O w T Φ ⟨rfl, rfl, rfl⟩ F0
  refine tidy F0 (fun F => ?_); clear F0
  refine go_on ?_
  by_cases g1 : endE b11 e11 = 0
  · rw [if_neg (by simpa using g1)]
    refine go_on ?_
    refine f_store1 F rfl rfl rfl (fun w F => ?_); refine go_on ?_
    refine f_call F rfl rfl status_c ?_
    clear F; rintro r O w T Φ ⟨rfl, rfl, rfl⟩ F0
    refine tidy F0 (fun F => ?_); clear F0
    refine go_on ?_
    by_cases g2 : statB x2
    · rw [decide_eq_true g2, if_neg (fun h => h g2)]
      refine go_on ?_
      refine f_storeAll F rfl rfl rfl (fun w F => ?_); refine go_on ?_
      refine go_back ?_
      exact F.fin ⟨rfl, rfl, rfl⟩
    · rw [decide_eq_false g2, if_pos g2]
      refine go_on ?_
      refine f_storeAll F rfl rfl rfl (fun w F => ?_); refine go_on ?_
      refine go_back ?_
      exact F.fin ⟨rfl, rfl, rfl⟩
  · rw [if_pos g1]
    refine go_on ?_
    refine f_storeAll F rfl rfl rfl (fun w F => ?_); refine go_on ?_
    refine go_back ?_
    exact F.fin ⟨rfl, rfl, rfl⟩

theorem repRaw_c {p m client : Nat} {t : Tx} (h : client < 4294967296) : Con Try.prog 21 [tptr p, .int .u32 client] [] [Tn p m t] [] fun r T Φ => T = [Thing.buf 1 r (if client < 8 then t.get (1 + client) else []).length (bytesV (if client < 8 then t.get (1 + client) else []))] ∧ Φ = [] := by
  refine con_of (fun O0 w0 F => ?_)
  refine tidy F (fun F => ?_)
  refine fn_of _ Try.func21 rfl (by kernel_rfl) Try.ntmps21 rfl ?_
  refine go_on ?_
  refine f_call F rfl rfl one_c ?_
  clear F; rintro r O w T Φ ⟨rfl, rfl, rfl⟩ F0
  refine tidy F0 (fun F => ?_); clear F0
  refine go_on ?_
  by_cases g : client < 8
  · rw [if_pos g]
    refine go_on ?_
    refine f_call F rfl rfl txnGetO_c ?_
    clear F; rintro r O w T Φ ⟨rfl, rfl⟩ F0
    refine tidy F0 (fun F => ?_); clear F0
    refine go_on ?_
    refine go_back ?_
    exact F.fin ⟨rfl, rfl⟩
  · rw [if_neg g]
    refine go_on ?_
    refine go_back ?_
    exact (F.nilbuf 1).fin ⟨rfl, rfl⟩

/-- What a client was told last; is there something; the error. -/
def repGet (t : Tx) (client : Nat) : Rp × Bool × Nat :=
  if client < 8 then (if t.get (1 + client) = [] then (.zero, false, 0) else ((repRead client (t.get (1 + client))).1, decide ((repRead client (t.get (1 + client))).2 = 0), (repRead client (t.get (1 + client))).2)) else (.zero, false, 1)

theorem repGet_c {p m client : Nat} {t : Tx} (h : client < 4294967296 ∧ (t.get (1 + client)).length ≤ 140737488355328) : Con Try.prog 15 [tptr p, .int .u32 client] [] [Tn p m t] [] fun r T Φ => r = .tuple #[repV (repGet t client).1 nilV nilV, .bool (repGet t client).2.1, errT (repGet t client).2.2] ∧ T = [] ∧ Φ = [] := by
  obtain ⟨h1, h2⟩ := h
  refine con_of (fun O0 w0 F => ?_)
  refine tidy F (fun F => ?_)
  refine fn_of _ Try.func15 rfl (by kernel_rfl) Try.ntmps15 rfl ?_
  unfold repGet
  refine go_on ?_
  (first | refine f_alloc1 F rfl (fun z w F => ?_) | refine f_allocN F rfl (fun z w F => ?_)); refine go_on ?_
  refine f_call F rfl rfl one_c ?_
  clear F; rintro r O w T Φ ⟨rfl, rfl, rfl⟩ F0
  refine tidy F0 (fun F => ?_); clear F0
  refine go_on ?_
  by_cases g : client < 8
  · rw [if_pos g]
    refine go_on ?_
    refine f_call F rfl rfl repRaw_c ?_
    clear F; rintro r O w T Φ ⟨rfl, rfl⟩ F0
    refine tidy F0 (fun F => ?_); clear F0
    refine go_on ?_
    rw [if_pos g] at F
    obtain ⟨O, F⟩ := F.frzB
    obtain ⟨ra, rc, rfl, _⟩ := (F.bytes (xs := t.get (1 + client))).form
    by_cases g2 : t.get (1 + client) = []
    · rw [if_pos g2]
      have g3 : (t.get (1 + client)).length = 0 := by rw [g2]; rfl
      refine go_on ?_
      refine f_storeAll F rfl rfl rfl (fun w F => ?_); refine go_on ?_
      refine go_back ?_
      exact F.fin ⟨rfl, rfl, rfl⟩
    · rw [if_neg g2]
      have g3 : (t.get (1 + client)).length ≠ 0 := fun h => g2 (List.length_eq_zero_iff.1 h)
      refine go_on ?_
      refine f_call F rfl rfl (repRead_c (client := client) (b := t.get (1 + client))) ?_
      clear F; rintro r O w T Φ ⟨rfl, rfl, rfl⟩ F0
      refine tidy F0 (fun F => ?_); clear F0
      refine go_on ?_
      generalize repRead client (t.get (1 + client)) = g
      (first | refine f_alloc1 F rfl (fun y w F => ?_) | refine f_allocN F rfl (fun y w F => ?_)); refine go_on ?_
      refine f_storeAll F rfl rfl rfl (fun w F => ?_); refine go_on ?_
      refine f_storeAll F rfl rfl rfl (fun w F => ?_); refine go_on ?_
      refine go_back ?_
      refine F.fin ⟨?_, rfl, rfl⟩
      have : decide ((g.2 : Int) = 0) = decide (g.2 = 0) := by rw [decide_eq_decide]; omega
      rw [this]; rfl
  · rw [if_neg g]
    refine go_on ?_
    refine f_storeAll F rfl rfl rfl (fun w F => ?_); refine go_on ?_
    refine go_back ?_
    exact F.fin ⟨rfl, rfl, rfl⟩

/-- How a call stands. -/
def repAsk (t : Tx) (client xid : Nat) : Int × Rp :=
  if (repGet t client).2.1 = false ∨ (repGet t client).1.xid < xid then (0, .zero) else if (repGet t client).1.xid = xid then (1, (repGet t client).1) else (2, .zero)
def callV (client xid : Nat) : Value := .agg #[.int .u32 client, .int .u32 xid, .int .u32 0, .int .u32 0, .int .u32 0, .string ⟨#[]⟩, .int .u32 0, .int .u32 0, .string ⟨#[]⟩, .int .u64 0, .int .u64 0, .int .u32 0, .int .u32 0, .slice none 0 0]

theorem repAsk_c {p m client xid : Nat} {t : Tx} (h : client < 4294967296 ∧ (t.get (1 + client)).length ≤ 140737488355328) : Con Try.prog 17 [tptr p, callV client xid] [] [Tn p m t] [] fun r T Φ => r = .tuple #[.int .i64 (repAsk t client xid).1, repV (repAsk t client xid).2 nilV nilV] ∧ T = [] ∧ Φ = [] := by
  obtain ⟨h1, h2⟩ := h
  refine con_of (fun O0 w0 F => ?_)
  refine tidy F (fun F => ?_)
  refine fn_of _ Try.func17 rfl (by kernel_rfl) Try.ntmps17 rfl ?_
  unfold repAsk
  refine go_on ?_
  (first | refine f_box1 F rfl rfl (fun q w F => ?_) | refine f_boxN F rfl rfl (fun q w F => ?_)); refine go_on ?_
  (first | refine f_alloc1 F rfl (fun z w F => ?_) | refine f_allocN F rfl (fun z w F => ?_)); refine go_on ?_
  refine f_call F rfl rfl repGet_c ?_
  clear F; rintro r O w T Φ ⟨rfl, rfl, rfl⟩ F0
  refine tidy F0 (fun F => ?_); clear F0
  refine go_on ?_
  generalize repGet t client = g
  obtain ⟨r, is, e⟩ := g
  dsimp only
  (first | refine f_alloc1 F rfl (fun y w F => ?_) | refine f_allocN F rfl (fun y w F => ?_)); refine go_on ?_
  refine f_storeAll F rfl rfl rfl (fun w F => ?_); refine go_on ?_
  cases is
  · rw [if_pos (.inl rfl)]
    refine go_on ?_
    refine f_storeAll F rfl rfl rfl (fun w F => ?_); refine go_on ?_
    (try refine g_ret ?_); (repeat (first | refine e_then_ret ?_ | refine e_block_ret ?_)); refine retR2 (.inl rfl) rfl (res_tmp rfl) (res_aggF rfl (by assumption)) ?_
    exact F.fin ⟨rfl, rfl, rfl⟩
  · by_cases g1 : r.xid < xid
    · rw [if_pos (.inr g1)]
      refine go_on ?_
      refine f_storeAll F rfl rfl rfl (fun w F => ?_); refine go_on ?_
      (try refine g_ret ?_); (repeat (first | refine e_then_ret ?_ | refine e_block_ret ?_)); refine retR2 (.inl rfl) rfl (res_tmp rfl) (res_aggF rfl (by assumption)) ?_
      exact F.fin ⟨rfl, rfl, rfl⟩
    · rw [if_neg (by simp [g1])]
      by_cases g2 : r.xid = xid
      · rw [if_pos g2]
        refine go_on ?_
        refine f_draw [(2, Thing.cells y _)] F [] [(0, true), (1, true), (2, false)] (by kernel_rfl) (by kernel_rfl) (fun w F hS => ?_); refine go_look ?_
        refine rd_do rfl ?_; (try refine r_go rfl rfl ?_)
        refine f_storeAll F rfl rfl rfl (fun w F => ?_); refine go_on ?_
        (try refine r_nil ?_); refine e_afterF F (fun hS => ?_); refine go_look ?_
        refine rd_done ?_; refine go_on ?_
        (try refine g_ret ?_); (repeat (first | refine e_then_ret ?_ | refine e_block_ret ?_)); refine retR2 (.inl rfl) rfl (res_tmp rfl) (res_aggF rfl (by assumption)) ?_
        exact F.fin ⟨rfl, rfl, rfl⟩
      · rw [if_neg g2]
        refine go_on ?_
        refine f_storeAll F rfl rfl rfl (fun w F => ?_); refine go_on ?_
        (try refine g_ret ?_); (repeat (first | refine e_then_ret ?_ | refine e_block_ret ?_)); refine retR2 (.inl rfl) rfl (res_tmp rfl) (res_aggF rfl (by assumption)) ?_
        exact F.fin ⟨rfl, rfl, rfl⟩

theorem repSetRaw_c {p m client : Nat} {t : Tx} {v : Value} {b : List UInt8} (h : client < 4294967296 ∧ b.length ≤ 140737488355328) : Con Try.prog 11 [tptr p, .int .u32 client, v] [Tn p m t] [] [Fact.bytes v b] fun r T Φ =>
    r = errT (if client < 8 then (if b ≠ [] ∧ (repRead client b).2 ≠ 0 then 11 else t.putE (1 + client) b) else 1) ∧ T = [Tn p m (if client < 8 ∧ ¬ (b ≠ [] ∧ (repRead client b).2 ≠ 0) then t.put1 (1 + client) b else t)] ∧ Φ = [] := by
  obtain ⟨h1, h2⟩ := h
  refine con_of (fun O0 w0 F => ?_)
  refine tidy F (fun F => ?_)
  refine fn_of _ Try.func11 rfl (by kernel_rfl) Try.ntmps11 rfl ?_
  obtain ⟨a, c, rfl, _⟩ := (F.bytes (v := v)).form
  refine go_on ?_
  refine f_call F rfl rfl one_c ?_
  clear F; rintro r O w T Φ ⟨rfl, rfl, rfl⟩ F0
  refine tidy F0 (fun F => ?_); clear F0
  refine go_on ?_
  by_cases g : client < 8
  · rw [if_pos g]
    refine go_on ?_
    refine f_call F rfl rfl (repRead_c (client := client) (b := b)) ?_
    clear F; rintro r O w T Φ ⟨rfl, rfl, rfl⟩ F0
    refine tidy F0 (fun F => ?_); clear F0
    refine go_on ?_
    generalize repRead client b = gr
    (first | refine f_alloc1 F rfl (fun y w F => ?_) | refine f_allocN F rfl (fun y w F => ?_)); refine go_on ?_
    refine f_storeAll F rfl rfl rfl (fun w F => ?_); refine go_on ?_
    by_cases g2 : b = []
    · have g3 : b.length = 0 := by rw [g2]; rfl
      rw [if_neg (fun h => h.1 g2), if_pos ⟨g, fun h => h.1 g2⟩]
      refine go_on ?_
      refine f_call F rfl rfl (txnPut_c (xs := b)) ?_
      clear F; rintro r O w T Φ ⟨rfl, rfl, rfl⟩ F0
      refine tidy F0 (fun F => ?_); clear F0
      refine go_on ?_
      refine go_back ?_
      exact F.fin ⟨rfl, rfl, rfl⟩
    · have g3 : b.length ≠ 0 := fun h => g2 (List.length_eq_zero_iff.1 h)
      by_cases g4 : gr.2 = 0
      · rw [if_neg (fun h => h.2 g4), if_pos ⟨g, fun h => h.2 g4⟩, g4]
        refine go_on ?_
        refine f_call F rfl rfl (txnPut_c (xs := b)) ?_
        clear F; rintro r O w T Φ ⟨rfl, rfl, rfl⟩ F0
        refine tidy F0 (fun F => ?_); clear F0
        refine go_on ?_
        refine go_back ?_
        exact F.fin ⟨rfl, rfl, rfl⟩
      · rw [if_pos ⟨g2, g4⟩, if_neg (fun h => h.2 ⟨g2, g4⟩)]
        refine go_on ?_
        refine go_back ?_
        exact F.fin ⟨rfl, rfl, rfl⟩
  · rw [if_neg g, if_neg (fun h => g h.1)]
    refine go_on ?_
    refine go_back ?_
    exact F.fin ⟨rfl, rfl, rfl⟩
end Go.Proofs.Ytdhfikbehbpdjaa
