/- The journal: what stands in memory, and the small functions. -/
import Derived.Test.YtmohjmfcbhpldaaSeclaw
namespace Go.Proofs.Ytmohjmfcbhpldaa
open Gk Go
set_option linter.unusedVariables false
set_option maxHeartbeats 4000000
set_option maxRecDepth 4000
set_option linter.unusedSimpArgs false
attribute [local irreducible] Int.decLt Int.decLe Int.decEq Int.instDecidableEq Gk.Rnds Gk.E Gk.G Gk.R Gk.RD Gk.RX Gk.RO Gk.Y Gk.Ent Gk.Sat Gk.Round Gk.After Gk.Cell Gk.Sl Gk.SlA Gk.CB Gk.OK Gk.FnC Gk.Bytes Gk.BytesL Gk.StrL Gk.Buf Gk.MapI
structure Jr where
  log : Nat
  B : List (List UInt8)
  seq : Nat
  place : Nat
  used : Nat
  e : Nat
def Jr.ok (j : Jr) : Prop := 4 ≤ j.log ∧ j.log ≤ 200 ∧ j.B.length ≤ 400 ∧ j.seq < 18446744073709551616 ∧ j.place < j.log ∧ j.used ≤ j.log ∧ j.e ≤ 1000 ∧ ∀ b ∈ j.B, b.length ≤ 96
def jcells (q bq : Nat) (j : Jr) : List Value := [dptr q, .int .i64 j.log, .slice (some ⟨bq, 0, none⟩) j.B.length j.B.length, .int .u64 j.seq, .int .i64 j.place, .int .i64 j.used, .int .i64 j.e]
def Jv (p q bq : Nat) (j : Jr) (vs : List Value) : Thing := Thing.with (Thing.both (Thing.cells p (jcells q bq j)) (Thing.cells bq vs)) (Fact.bodies vs j.B)
def Jt (p q bq : Nat) (j : Jr) : Thing := Thing.if j.ok (Thing.ex [p, bq] (Jv p q bq j) (fun _ => rfl))
def Dk.rd (d : Dk) (i : Int) : List UInt8 := if d.upE i = 0 then d.get i else []
def Dk.fm (d : Dk) (i : Int) : Fm := (secGet (d.rd i)).1
def Dk.is (d : Dk) (i : Int) (kind : Nat) : Bool := decide ((secGet (d.rd i)).2 = 0 ∧ (d.fm i).kind = kind)
section
variable {w w0 : World} {M O0 O : List Nat} {L L1 L2 : List KT} {Φ Φ' : List Fact}
theorem openJ {p q bq k : Nat} {j : Jr} (F : Fr M O0 w0 O w L Φ) (h : Sel L (k, Jt p q bq j) L1 := by (repeat (first | exact Sel.here | apply Sel.there))) : ∃ vs, vs.length = j.B.length ∧ j.ok ∧ Fr M O0 w0 O w ((k, Thing.cells p (jcells q bq j)) :: (k, Thing.cells bq vs) :: L1) (Fact.bodies vs j.B :: Φ) := by
  obtain ⟨hj, F⟩ := F.unif (p := j.ok) (t := Thing.ex (α := List Value) [p, bq] (Jv p q bq j) (fun a => (rfl : (Jv p q bq j a).bs = [p, bq]))) h
  obtain ⟨vs, F⟩ := F.exI (t := Jv p q bq j) (bs := [p, bq]) (hh := fun a => (rfl : (Jv p q bq j a).bs = [p, bq])) Sel.here
  have F := F.getWith (t := Thing.both (Thing.cells p (jcells q bq j)) (Thing.cells bq vs)) (f := Fact.bodies vs j.B) Sel.here
  have hl : All2 (Bytes O w) vs j.B := F.fa (Fact.bodies vs j.B) (by simp)
  exact ⟨vs, hl.length, hj, F.open Sel.here⟩
theorem mkJ {p q bq k : Nat} {vs : List Value} (j : Jr) (F : Fr M O0 w0 O w L Φ) (hj : j.ok) (h1 : Sel L (k, Thing.cells p (jcells q bq j)) L1 := by (repeat (first | exact Sel.here | apply Sel.there))) (h2 : Sel L1 (k, Thing.cells bq vs) L2 := by (repeat (first | exact Sel.here | apply Sel.there))) (hf : Sel Φ (Fact.bodies vs j.B) Φ' := by (repeat (first | exact Sel.here | apply Sel.there))) : Fr M O0 w0 O w ((k, Jt p q bq j) :: L2) Φ := by
  have F := F.close2 h1 h2
  have F := F.mkWith (f := Fact.bodies vs j.B) Sel.here hf
  have F := F.mkex (t := Jv p q bq j) (bs := [p, bq]) (fun a => (rfl : (Jv p q bq j a).bs = [p, bq])) vs Sel.here
  exact F.mkif hj Sel.here
end
theorem rd_len {d : Dk} (h : d.ok) (i : Int) : (d.rd i).length ≤ 128 := by
  unfold Dk.rd
  split
  · exact Nat.le_of_eq (get_len h i)
  · simp
theorem jget_c {p q bq m kind : Nat} {v : Value} {j : Jr} {d : Dk} {i : Int} (h : d.waits.length ≤ 1000000) : Con Try.prog 25 [dptr p, .int .i64 i, .int .i64 kind] [] [Jt p q bq j, Dn q m v d] [] fun r T Φ => ∃ u, r = .tuple #[fmV (d.fm i) u, .bool (d.is i kind)] ∧ T = [] ∧ Φ = [Fact.bytes u (d.fm i).body] := by
  obtain ⟨f, e2, hfe⟩ : ∃ f e2, secGet (d.rd i) = (f, e2) := ⟨_, _, rfl⟩
  have hf1 : d.fm i = f := by unfold Dk.fm; rw [hfe]
  have hf2 : d.is i kind = decide (e2 = 0 ∧ f.kind = kind) := by unfold Dk.is; rw [hf1, hfe]
  rw [hf1, hf2]
  refine con_of (fun O0 w0 F => ?_)
  refine tidy F (fun F => ?_)
  refine fn_of _ Try.func25 rfl (by kernel_rfl) Try.ntmps25 rfl ?_
  obtain ⟨hj, F⟩ := F.unif (t := Thing.ex _ _ _)
  obtain ⟨vs, F⟩ := F.exI
  have F := (F.getWith (f := Fact.bodies vs j.B)).open
  have hdk : d.ok := (F.unif (t := Thing.both (Thing.cells q [.int .i64 d.n, .map (some m), v, .int .i64 d.left, .bool d.down]) (Thing.both (Thing.map m .i64 (mapV d.l)) (Thing.buf 129 v d.waits.length (wts d.waits))))).1
  have hrl := rd_len hdk i
  (refine go_on ?_; repeat (first | (refine f_store1 F rfl rfl rfl (fun w F => ?_); refine go_on ?_) | (refine f_storeAll F rfl rfl rfl (fun w F => ?_); refine go_on ?_) | (refine f_box1 F rfl rfl (fun q w F => ?_); refine go_on ?_) | (refine f_boxN F rfl rfl (fun q w F => ?_); refine go_on ?_) | (refine f_alloc1 F rfl (fun q w F => ?_); refine go_on ?_) | (refine f_allocN F rfl (fun q w F => ?_); refine go_on ?_) | (refine f_call F rfl rfl dread_c ?_; clear F; rintro r O w T Φ ⟨u, rfl, rfl, rfl⟩ F0; refine tidy F0 (fun F => ?_); clear F0; refine go_on ?_) | (refine f_call F rfl rfl secGet_c ?_; clear F; rintro r O w T Φ ⟨v, rfl, rfl, rfl⟩ F0; refine tidy F0 (fun F => ?_); clear F0; refine go_on ?_)))
  change Fr _ _ _ _ _ ((2, Thing.buf 1 u (d.rd i).length (bytesV (d.rd i))) :: _) _ at F
  obtain ⟨O, F⟩ := F.frzB
  refine f_call F rfl rfl (secGet_c (b := d.rd i)) ?_
  clear F; rintro r O w T Φ ⟨u2, rfl, rfl, rfl⟩ F0
  refine tidy F0 (fun F => ?_); clear F0
  refine go_on ?_
  obtain ⟨O, F⟩ := F.frzB
  rw [hfe] at F ⊢
  dsimp only at F ⊢
  obtain ⟨ua, uc, rfl, _⟩ := (F.bytes (v := u2) (xs := f.body)).form
  refine go_on ?_
  (first | refine f_alloc1 F rfl (fun z w F => ?_) | refine f_allocN F rfl (fun z w F => ?_)); refine go_on ?_
  refine f_storeAll F rfl rfl rfl (fun w F => ?_); refine go_on ?_
  by_cases g : e2 = 0
  · subst g
    rw [show (decide (0 = 0 ∧ f.kind = kind)) = decide ((f.kind : Int) = (kind : Int)) from by rw [decide_eq_decide]; omega]
    refine f_draw [(2, Thing.cells z _)] F [] [(0, true), (1, true), (2, true), (3, true), (4, true), (5, true), (6, true), (7, true), (8, true), (9, false), (10, true)] (by kernel_rfl) (by kernel_rfl) (fun w F hS => ?_); refine go_look ?_
    refine rd_do rfl ?_; (try refine r_go rfl rfl ?_)
    refine f_storeAll F rfl rfl rfl (fun w F => ?_)
    (try refine r_nil ?_); refine e_afterF F (fun hS => ?_); refine go_look ?_
    refine rd_done ?_; refine go_on ?_
    refine go_back ?_
    exact F.fin ⟨_, rfl, rfl, rfl⟩
  · rw [show (decide (e2 = 0 ∧ f.kind = kind)) = false from by simp [g]]
    refine f_draw [(2, Thing.cells z _)] F [] [(0, true), (1, true), (2, true), (3, true), (4, true), (5, true), (6, true), (7, true), (8, true), (9, false), (10, true)] (by kernel_rfl) (by kernel_rfl) (fun w F hS => ?_); refine go_look ?_
    refine rd_do rfl ?_; (try refine r_go rfl rfl ?_)
    refine f_storeAll F rfl rfl rfl (fun w F => ?_)
    (try refine r_nil ?_); refine e_afterF F (fun hS => ?_); refine go_look ?_
    refine rd_done ?_; refine go_on ?_
    refine go_back ?_
    exact F.fin ⟨_, rfl, rfl, rfl⟩

def Dk.wE (d : Dk) (i : Int) (b : List UInt8) : Nat := if d.upE i ≠ 0 then d.upE i else if b.length ≠ 128 then 1 else d.cntE
def Dk.wD (d : Dk) (i : Int) (b : List UInt8) : Dk := if d.upE i ≠ 0 ∨ b.length ≠ 128 then d else if d.left = 0 then d.cnt else { d.cnt with waits := d.waits ++ [(i, b)] }
theorem wE_int (d : Dk) (i : Int) (b : List UInt8) : (if d.upE i ≠ 0 then ((d.upE i : Nat) : Int) else if b.length ≠ 128 then 1 else ((d.cntE : Nat) : Int)) = ((d.wE i b : Nat) : Int) := by
  unfold Dk.wE
  split
  · rfl
  · split <;> rfl
theorem dwr_c {p m : Nat} {v : Value} {d : Dk} {i : Int} {u : Value} {b : List UInt8} (h : d.waits.length ≤ 1000000) : Con Try.prog 48 [dptr p, .int .i64 i, u] [Dn p m v d] [] [Fact.bytes u b] fun r T Φ => ∃ v', r = .int .i64 (d.wE i b) ∧ T = [Dn p m v' (d.wD i b)] ∧ Φ = [] := by
  have := dwrite_c (p := p) (m := m) (v := v) (d := d) (i := i) (u := u) (b := b) h
  simp only [wE_int] at this
  exact this
def Dk.fE (d : Dk) : Nat := if d.upE 0 ≠ 0 then d.upE 0 else d.cntE
def Dk.fD (d : Dk) : Dk := if d.upE 0 ≠ 0 then d else if d.left = 0 then d.cnt else { d.cnt with l := sure d.l d.waits, waits := [] }
theorem fE_int (d : Dk) : (if d.upE 0 ≠ 0 then ((d.upE 0 : Nat) : Int) else ((d.cntE : Nat) : Int)) = ((d.fE : Nat) : Int) := by
  unfold Dk.fE
  split <;> rfl
theorem dfl_c {p m : Nat} {v : Value} {d : Dk} (h : d.waits.length ≤ 1000000) : Con Try.prog 34 [dptr p] [Dn p m v d] [] [] fun r T Φ => ∃ v', r = .int .i64 d.fE ∧ T = [Dn p m v' d.fD] ∧ Φ = [] := by
  have := dflush_c (p := p) (m := m) (v := v) (d := d) h
  simp only [fE_int] at this
  exact this
def Dk.lE (d : Dk) (i : Int) (f : Fm) : Nat := if f.may then d.wE i f.bytes else 1
def Dk.lD (d : Dk) (i : Int) (f : Fm) : Dk := if f.may then d.wD i f.bytes else d
def fcells (f : Fm) (bv : Value) : List Value := [.int .i64 f.kind, .int .i64 f.index, .int .i64 f.count, .int .u64 f.seq, .int .u32 f.adr, bv]
theorem lay1_c {p q bq m a b c : Nat} {v bv : Value} {j : Jr} {d : Dk} {i : Int} {f : Fm} (h : d.waits.length ≤ 1000000 ∧ f.fit) : Con Try.prog 46 [dptr a, dptr b, dptr c] [Dn q m v d] [Thing.cells a (fcells f bv), Thing.cells b [dptr p], Thing.cells c [.int .i64 i], Thing.cells p (jcells q bq j)] [Fact.bytes bv f.body] fun r T Φ => ∃ v', r = .int .i64 (d.lE i f) ∧ T = [Dn q m v' (d.lD i f)] ∧ Φ = [] := by
  obtain ⟨h, hf⟩ := h
  refine con_of (fun O0 w0 F => ?_)
  refine tidy F (fun F => ?_)
  refine fn_of _ Try.func46 rfl (by kernel_rfl) Try.ntmps46 rfl ?_
  obtain ⟨ba, bc, rfl, _⟩ := (F.bytes (v := bv)).form
  refine go_on ?_
  refine f_call F rfl rfl (sput_c (f := f)) ?_ (hp := hf)
  clear F; rintro r O w T Φ ⟨u, rfl, rfl, rfl⟩ F0
  refine tidy F0 (fun F => ?_); clear F0
  obtain ⟨O, F⟩ := F.frzB
  by_cases g : f.may
  · rw [if_pos g]
    rw [show f.out = f.bytes from if_pos g] at F
    obtain ⟨ua, uc, rfl, _⟩ := (F.bytes (v := u) (xs := f.bytes)).form
    have e1 : d.lE i f = d.wE i f.bytes := if_pos g
    have e2 : d.lD i f = d.wD i f.bytes := if_pos g
    rw [e1, e2]
    refine go_on ?_
    refine f_draw [(0, Thing.cells b _), (0, Thing.cells p _), (0, Thing.cells c _)] F [] [(0, true), (1, true), (2, true), (3, true), (4, true), (5, true), (6, false), (7, true)] (by kernel_rfl) (by kernel_rfl) (fun w F hS => ?_); refine go_look ?_
    refine rd_do rfl ?_
    (try refine r_go rfl rfl ?_)
    refine f_call F rfl rfl (dwr_c (d := d) (i := i) (b := f.bytes)) ?_
    clear F; rintro r O w T Φ ⟨v2, rfl, rfl, rfl⟩ F0
    refine tidy F0 (fun F => ?_); clear F0
    refine r_nil ?_; refine e_afterF F (fun hS => ?_); refine go_look ?_
    refine rd_done ?_; refine go_on ?_
    refine go_back ?_
    exact F.fin ⟨_, rfl, rfl, rfl⟩
  · rw [if_neg g]
    have e1 : d.lE i f = 1 := if_neg g
    have e2 : d.lD i f = d := if_neg g
    rw [e1, e2]
    refine go_on ?_
    refine go_back ?_
    exact F.fin ⟨_, rfl, rfl, rfl⟩

/-- A step of the disk's, unless there was an error. -/
def Jr.err (j : Jr) (e : Nat) : Jr := if j.e = 0 then { j with e := e } else j
def Jr.lay (j : Jr) (d : Dk) (i : Int) (f : Fm) : Jr × Dk := if j.e = 0 then ({ j with e := d.lE i f }, d.lD i f) else (j, d)
def Jr.flush (j : Jr) (d : Dk) : Jr × Dk := if j.e = 0 then ({ j with e := d.fE }, d.fD) else (j, d)
theorem upE_le (d : Dk) (i : Int) : d.upE i ≤ 20 := by
  unfold Dk.upE
  split
  · omega
  · split <;> omega
theorem cntE_le (d : Dk) : d.cntE ≤ 20 := by unfold Dk.cntE; split <;> omega
theorem wE_le (d : Dk) (i : Int) (b : List UInt8) : d.wE i b ≤ 20 := by
  have := upE_le d i; have := cntE_le d
  unfold Dk.wE
  split
  · omega
  · split <;> omega
theorem lE_le (d : Dk) (i : Int) (f : Fm) : d.lE i f ≤ 20 := by
  have := wE_le d i f.bytes
  unfold Dk.lE; split <;> omega
theorem fE_le (d : Dk) : d.fE ≤ 20 := by
  have := upE_le d 0; have := cntE_le d
  unfold Dk.fE; split <;> omega
theorem Jr.ok_e {j : Jr} (h : j.ok) {e : Nat} (he : e ≤ 20) : ({ j with e := e } : Jr).ok := by
  obtain ⟨h1, h2, h3, h4, h5, h6, h7, h8⟩ := h
  exact ⟨h1, h2, h3, h4, h5, h6, by show e ≤ 1000; omega, h8⟩
theorem doLay_c {p q bq m a b c : Nat} {v bv : Value} {j : Jr} {d : Dk} {i : Int} {f : Fm} (h : d.waits.length ≤ 1000000 ∧ f.fit) : Con Try.prog 33 [dptr p, .func (.func 46) #[] #[dptr a, dptr b, dptr c]] [Jt p q bq j, Dn q m v d] [Thing.cells a (fcells f bv), Thing.cells b [dptr p], Thing.cells c [.int .i64 i]] [Fact.bytes bv f.body] fun r T Φ => ∃ v', T = [Jt p q bq (j.lay d i f).1, Dn q m v' (j.lay d i f).2] ∧ Φ = [] := by
  refine con_of (fun O0 w0 F => ?_)
  refine tidy F (fun F => ?_)
  refine fn_of _ Try.func33 rfl (by kernel_rfl) Try.ntmps33 rfl ?_
  obtain ⟨vs, hvl, hj, F⟩ := openJ F
  unfold jcells at F
  by_cases g : j.e = 0
  · have e1 : j.lay d i f = ({ j with e := d.lE i f }, d.lD i f) := if_pos g
    rw [e1]
    refine go_on ?_
    refine f_callv F rfl rfl rfl rfl (lay1_c (p := p) (q := q) (bq := bq) (m := m) (j := j) (d := d) (i := i) (f := f) (bv := bv)) ?_ (hp := h)
    clear F; rintro r O w T Φ ⟨v2, rfl, rfl, rfl⟩ F0
    refine tidy F0 (fun F => ?_); clear F0
    refine go_on ?_
    refine f_store1 F rfl rfl rfl (fun w F => ?_); refine go_on ?_
    have F := mkJ { j with e := d.lE i f } F (Jr.ok_e hj (lE_le d i f)) (vs := vs)
    refine go_back ?_
    exact F.fin ⟨_, rfl, rfl⟩
  · have e1 : j.lay d i f = (j, d) := if_neg g
    rw [e1]
    refine go_on ?_
    have F := mkJ j F hj (vs := vs)
    refine go_back ?_
    exact F.fin ⟨_, rfl, rfl⟩
theorem doFlush_c {p q bq m : Nat} {v : Value} {j : Jr} {d : Dk} (h : d.waits.length ≤ 1000000) : Con Try.prog 33 [dptr p, .func (.func 34) #[dptr q] #[]] [Jt p q bq j, Dn q m v d] [] [] fun r T Φ => ∃ v', T = [Jt p q bq (j.flush d).1, Dn q m v' (j.flush d).2] ∧ Φ = [] := by
  refine con_of (fun O0 w0 F => ?_)
  refine tidy F (fun F => ?_)
  refine fn_of _ Try.func33 rfl (by kernel_rfl) Try.ntmps33 rfl ?_
  obtain ⟨vs, hvl, hj, F⟩ := openJ F
  unfold jcells at F
  by_cases g : j.e = 0
  · have e1 : j.flush d = ({ j with e := d.fE }, d.fD) := if_pos g
    rw [e1]
    refine go_on ?_
    refine f_callv F rfl rfl rfl rfl (dfl_c (p := q) (m := m) (d := d)) ?_ (hp := h)
    clear F; rintro r O w T Φ ⟨v2, rfl, rfl, rfl⟩ F0
    refine tidy F0 (fun F => ?_); clear F0
    refine go_on ?_
    refine f_store1 F rfl rfl rfl (fun w F => ?_); refine go_on ?_
    have F := mkJ { j with e := d.fE } F (Jr.ok_e hj (fE_le d)) (vs := vs)
    refine go_back ?_
    exact F.fin ⟨_, rfl, rfl⟩
  · have e1 : j.flush d = (j, d) := if_neg g
    rw [e1]
    refine go_on ?_
    have F := mkJ j F hj (vs := vs)
    refine go_back ?_
    exact F.fin ⟨_, rfl, rfl⟩

theorem jlay_c {p qq bq m : Nat} {v bv : Value} {j : Jr} {d : Dk} {i : Int} {f : Fm} (h : d.waits.length ≤ 1000000 ∧ f.fit) : Con Try.prog 35 [dptr p, .int .i64 i, fmV f bv] [Jt p qq bq j, Dn qq m v d] [] [Fact.bytes bv f.body] fun r T Φ => ∃ v', T = [Jt p qq bq (j.lay d i f).1, Dn qq m v' (j.lay d i f).2] ∧ Φ = [] := by
  refine con_of (fun O0 w0 F => ?_)
  refine tidy F (fun F => ?_)
  refine fn_of _ Try.func35 rfl (by kernel_rfl) Try.ntmps35 rfl ?_
  obtain ⟨ba, bc, rfl, _⟩ := (F.bytes (v := bv)).form
  (refine go_on ?_; repeat (first | (refine f_store1 F rfl rfl rfl (fun w F => ?_); refine go_on ?_) | (refine f_storeAll F rfl rfl rfl (fun w F => ?_); refine go_on ?_) | (refine f_box1 F rfl rfl (fun q w F => ?_); refine go_on ?_) | (refine f_boxN F rfl rfl (fun q w F => ?_); refine go_on ?_) | (refine f_alloc1 F rfl (fun q w F => ?_); refine go_on ?_) | (refine f_allocN F rfl (fun q w F => ?_); refine go_on ?_)))
  refine f_call F rfl rfl (doLay_c (q := qq) (bq := bq) (m := m) (j := j) (d := d) (i := i) (f := f) (bv := .slice ba f.body.length bc)) ?_ (hp := h)
  clear F; rintro r O w T Φ ⟨v2, rfl, rfl⟩ F0
  refine tidy F0 (fun F => ?_); clear F0
  refine go_on ?_
  refine go_back ?_
  exact F.fin ⟨_, rfl, rfl⟩

def Jr.homeF (j : Jr) (i : Nat) : Fm := ⟨1, 0, 0, j.seq, i, j.B.getD i []⟩
def Jr.home (j : Jr) (d : Dk) (i : Nat) : Jr × Dk := j.lay d (1 + (j.log : Int) + (i : Int)) (j.homeF i)
theorem jhome_c {p q bq m i : Nat} {v : Value} {j : Jr} {d : Dk} (h : d.waits.length ≤ 1000000 ∧ i < j.B.length) : Con Try.prog 30 [dptr p, .int .i64 i] [Jt p q bq j, Dn q m v d] [] [] fun r T Φ => ∃ v', T = [Jt p q bq (j.home d i).1, Dn q m v' (j.home d i).2] ∧ Φ = [] := by
  obtain ⟨h, hi⟩ := h
  refine con_of (fun O0 w0 F => ?_)
  refine tidy F (fun F => ?_)
  refine fn_of _ Try.func30 rfl (by kernel_rfl) Try.ntmps30 rfl ?_
  obtain ⟨vs, hvl, hj, F⟩ := openJ F
  obtain ⟨bv, hbv, F⟩ := F.bodyAt (hi := hi)
  have hb : j.B[i] = j.B.getD i [] := by simp [hi]
  rw [hb] at F
  obtain ⟨ba, bc, rfl, _⟩ := (F.bytes (v := bv) (xs := j.B.getD i [])).form
  obtain ⟨h1, h2, h3, h4, h5, h6, h7, h8⟩ := id hj
  have hbl : (j.B.getD i []).length ≤ 96 := by rw [← hb]; exact h8 _ (List.getElem_mem hi)
  have hfit : (j.homeF i).fit := ⟨h4, by show i < 4294967296; omega, by show 1 ≤ 1000000; omega, by show 0 ≤ 1000000; omega, by show 0 ≤ 1000000; omega, by show (j.B.getD i []).length ≤ 1000000; omega⟩
  unfold jcells at F
  refine go_on ?_
  refine f_draw [(1, Thing.cells p _), (1, Thing.cells bq _)] F [22] [(0, true), (1, true), (2, true), (3, true), (4, true), (5, true), (6, true), (7, true), (8, true), (9, true), (10, true), (11, true), (12, true), (13, true), (14, true), (15, true), (16, true), (17, true), (18, true), (19, true), (20, true), (21, true), (22, false)] (by kernel_rfl) (by kernel_rfl) (fun w F hS => ?_); refine go_look ?_
  refine rd_open rfl ?_; (first | refine ro_n ?_ | refine ro_g rfl rfl ?_); refine rx_y rfl (fun _ hw => y_loadS rfl hw (Sel.there Sel.here) hbv) (by assumption) ?_; refine go_look ?_
  have F := mkJ j F hj (vs := vs)
  refine rd_do rfl ?_; (try refine r_go rfl rfl ?_)
  refine f_call F rfl rfl (jlay_c (qq := q) (bq := bq) (m := m) (j := j) (d := d) (f := j.homeF i) (i := 1 + (j.log : Int) + (i : Int)) (bv := .slice ba (j.B.getD i []).length bc)) ?_ (hp := ⟨h, hfit⟩)
  clear F; rintro r O w T Φ ⟨v2, rfl, rfl⟩ F0
  refine tidy F0 (fun F => ?_); clear F0
  (try refine r_nil ?_); refine e_after (fun h => by cases h) ?_; refine go_look ?_
  refine rd_done ?_; refine go_on ?_
  refine go_back ?_
  exact F.fin ⟨_, rfl, rfl⟩
end Go.Proofs.Ytmohjmfcbhpldaa
