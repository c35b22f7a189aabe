/- The operations that look at types or touch memory. Nothing here speaks of one program. -/
import Derived.Test.YtcfpnghkkkphhaaGreatGkMem
import Derived.Deep.AppendSrc
import Derived.Great.BuildSlice
namespace Gk
open Go
set_option linter.unusedVariables false

section
variable {P : Program} {n : Nat} {all : Array Oper} {os : List Oper} {ρ : Env} {D : Dr} {w : World} {Q : Exit → Act → World → Prop}
variable {d : Option Nat} {ty : TypeId} {pos : String} {af : Array Edge}

/-! ### numbers -/

theorem y_arith {op : BinOp} {T yT : TypeId} {x y : Operand} {k : IntKind} {a b : Int} {v : Value} (hx : evo ρ x = some (.int k a)) (hy : evo ρ y = some (.int k b))
    (hn : (op = .eql ∨ op = .neq) → False) (hr : (binOp op T (.int k a) (.int k b)).run P w = .ok v w) : Y P ρ w (.binOp op T x y yT) v := by
  intro c h2 d ty pos af
  have : (eqGuard op T x y (.int k a) (.int k b)).run P w = .ok () w := by cases op <;> simp [eqGuard]
  simp [execOp, eval_of h2 hx, eval_of h2 hy, this, hr]

theorem y_add {T yT : TypeId} {x y : Operand} {k : IntKind} {a b : Int} (hx : evo ρ x = some (.int k a)) (hy : evo ρ y = some (.int k b)) :
    Y P ρ w (.binOp .add T x y yT) (.int k (k.wrap (a + b))) := y_arith hx hy (by simp) (by simp [binOp, Op.intArith])
theorem y_sub {T yT : TypeId} {x y : Operand} {k : IntKind} {a b : Int} (hx : evo ρ x = some (.int k a)) (hy : evo ρ y = some (.int k b)) :
    Y P ρ w (.binOp .sub T x y yT) (.int k (k.wrap (a - b))) := y_arith hx hy (by simp) (by simp [binOp, Op.intArith])
theorem y_mul {T yT : TypeId} {x y : Operand} {k : IntKind} {a b : Int} (hx : evo ρ x = some (.int k a)) (hy : evo ρ y = some (.int k b)) :
    Y P ρ w (.binOp .mul T x y yT) (.int k (k.wrap (a * b))) := y_arith hx hy (by simp) (by simp [binOp, Op.intArith])

def In64 (a : Int) : Prop := -9223372036854775808 ≤ a ∧ a ≤ 9223372036854775807

theorem y_add64 {T yT : TypeId} {x y : Operand} {a b : Int} (hx : evo ρ x = some (.int .i64 a)) (hy : evo ρ y = some (.int .i64 b)) (h : -9223372036854775808 ≤ a + b ∧ a + b ≤ 9223372036854775807) :
    Y P ρ w (.binOp .add T x y yT) (.int .i64 (a + b)) := by have := y_add (P := P) (w := w) (T := T) (yT := yT) hx hy; rwa [IntWalk.i64_in _ h] at this
theorem y_sub64 {T yT : TypeId} {x y : Operand} {a b : Int} (hx : evo ρ x = some (.int .i64 a)) (hy : evo ρ y = some (.int .i64 b)) (h : -9223372036854775808 ≤ a - b ∧ a - b ≤ 9223372036854775807) :
    Y P ρ w (.binOp .sub T x y yT) (.int .i64 (a - b)) := by have := y_sub (P := P) (w := w) (T := T) (yT := yT) hx hy; rwa [IntWalk.i64_in _ h] at this
theorem y_mul64 {T yT : TypeId} {x y : Operand} {a b : Int} (hx : evo ρ x = some (.int .i64 a)) (hy : evo ρ y = some (.int .i64 b)) (h : -9223372036854775808 ≤ a * b ∧ a * b ≤ 9223372036854775807) :
    Y P ρ w (.binOp .mul T x y yT) (.int .i64 (a * b)) := by have := y_mul (P := P) (w := w) (T := T) (yT := yT) hx hy; rwa [IntWalk.i64_in _ h] at this
/-- Division and remainder of what isn't below 0 by what is above 0. -/
theorem y_quo64 {T yT : TypeId} {x y : Operand} {a b : Int} (hx : evo ρ x = some (.int .i64 a)) (hy : evo ρ y = some (.int .i64 b)) (h : 0 ≤ a ∧ a ≤ 9223372036854775807 ∧ 1 ≤ b) :
    Y P ρ w (.binOp .quo T x y yT) (.int .i64 (a / b)) := by
  refine y_arith hx hy (by simp) ?_
  have hb : b ≠ 0 := by omega
  simp only [binOp, Op.intDiv, hb, if_false, ne_eq, not_true_eq_false]
  rw [IntWalk.i64_quo a b h]; rfl
theorem y_rem64 {T yT : TypeId} {x y : Operand} {k : IntKind} {a b : Int} (hx : evo ρ x = some (.int k a)) (hy : evo ρ y = some (.int k b)) (h : 0 ≤ a ∧ 1 ≤ b) :
    Y P ρ w (.binOp .rem T x y yT) (.int k (a % b)) := by
  refine y_arith hx hy (by simp) ?_
  have hb : b ≠ 0 := by omega
  simp only [binOp, Op.intDiv, hb, if_false, ne_eq, not_true_eq_false]
  rw [IntWalk.rem_in a b h.1]; rfl

theorem y_conv_int {S T : TypeId} {k j : IntKind} [h1 : TInt P S j] [h : TInt P T k] {x : Operand} {a : Int} (hx : evo ρ x = some (.int j a)) :
    Y P ρ w (.convert S T x) (.int k (k.wrap a)) := by
  intro c h2 d ty pos af
  have : (convert S T (.int j a)).run P w = .ok (.int k (k.wrap a)) w := by
    unfold convert
    simp only [Sem.run_bind, run_underlying h.at_, run_underlying h1.at_, Result.andThen_ok]
    rfl
  simp [execOp, eval_of h2 hx, this]

theorem y_remN {T yT : TypeId} {x y : Operand} {k : IntKind} {a b : Nat} (hx : evo ρ x = some (.int k a)) (hy : evo ρ y = some (.int k b)) (h : 1 ≤ b) :
    Y P ρ w (.binOp .rem T x y yT) (.int k ((a % b : Nat) : Int)) := by
  have := y_rem64 (P := P) (w := w) (T := T) (yT := yT) hx hy ⟨by omega, by omega⟩
  simpa using this

theorem y_u8_i64 {S T : TypeId} [h1 : TInt P S .u8] [h : TInt P T .i64] {x : Operand} {c : UInt8} (hx : evo ρ x = some (.int .u8 c.toNat)) :
    Y P ρ w (.convert S T x) (.int .i64 c.toNat) := by
  have := y_conv_int (P := P) (w := w) (S := S) (T := T) hx
  have hc := UInt8.toNat_lt c
  rwa [IntWalk.i64_in _ (by omega)] at this

theorem y_int_u8 {S T : TypeId} {j : IntKind} [h1 : TInt P S j] [h : TInt P T .u8] {x : Operand} {a : Nat} (hx : evo ρ x = some (.int j a)) :
    Y P ρ w (.convert S T x) (.int .u8 (UInt8.ofNat a).toNat) := by
  have := y_conv_int (P := P) (w := w) (S := S) (T := T) hx
  rw [IntKind.wrap_u8] at this
  have e : ((a : Int) % 256) = ((UInt8.ofNat a).toNat : Int) := by simp
  first | rwa [e] at this | simpa using this


/-! #### bits of bytes -/

theorem xor_u8 (c d : UInt8) : (Op.intBits .xor .u8 (c.toNat : Int) (d.toNat : Int)).run P w = .ok (.int .u8 ((c ^^^ d).toNat : Int)) w := by
  have hb : IntKind.bits .u8 = 8 := rfl
  simp only [Op.intBits, Sem.run_pure]
  congr 2
  have h : (BitVec.ofInt (IntKind.bits .u8) (c.toNat : Int) ^^^ BitVec.ofInt (IntKind.bits .u8) (d.toNat : Int)).toNat = (c ^^^ d).toNat := by
    rw [BitVec.toNat_xor, UInt8.toNat_xor]
    simp [IntKind.bits]
  rw [h]
  have := UInt8.toNat_lt (c ^^^ d)
  exact IntWalk.u8_in _ (by omega)

theorem y_xor_u8 {T yT : TypeId} {x y : Operand} {c d : UInt8} (hx : evo ρ x = some (.int .u8 c.toNat)) (hy : evo ρ y = some (.int .u8 d.toNat)) :
    Y P ρ w (.binOp .xor T x y yT) (.int .u8 (c ^^^ d).toNat) := y_arith hx hy (by simp) (by simp [binOp, xor_u8])

/-! ### equality -/

theorem run_eqIn_pn {T e : TypeId} [h : TPointer P T e] {p : Option Addr} (k : Nat) : (Op.equalIn (k + 1) T (.pointer p) (.pointer none)).run P w = .ok p.isNone w := by
  simp only [Op.equalIn, Sem.run_bind, run_underlying h.at_, Result.andThen_ok]
  cases p <;> rfl
theorem run_eq_pn {T e : TypeId} [h : TPointer P T e] {p : Option Addr} : (Op.equal T (.pointer p) (.pointer none)).run P w = .ok p.isNone w := run_eqIn_pn 9999
theorem run_eqIn_sn {T e sz by_ : TypeId} [h : TSlice P T e sz by_] {p : Option Addr} {n c : Nat} (k : Nat) : (Op.equalIn (k + 1) T (.slice p n c) (.slice none 0 0)).run P w = .ok p.isNone w := by
  simp only [Op.equalIn, Sem.run_bind, run_underlying h.at_, Result.andThen_ok]
  cases p <;> rfl
theorem run_eqIn_mn {T e k : TypeId} [h : TMap P T k e] {p : Option Nat} (m : Nat) : (Op.equalIn (m + 1) T (.map p) (.map none)).run P w = .ok p.isNone w := by
  simp only [Op.equalIn, Sem.run_bind, run_underlying h.at_, Result.andThen_ok]
  cases p <;> rfl
theorem run_eqIn_bool {T : TypeId} [h : TBool P T] {a b : Bool} (m : Nat) : (Op.equalIn (m + 1) T (.bool a) (.bool b)).run P w = .ok (a == b) w := by
  simp only [Op.equalIn, Sem.run_bind, run_underlying h.at_, Result.andThen_ok]
  rfl

theorem y_ptr_nil {T yT e : TypeId} [TPointer P T e] {x y : Operand} {p : Option Addr} (hx : evo ρ x = some (.pointer p)) (hy : evo ρ y = some (.pointer none)) :
    Y P ρ w (.binOp .eql T x y yT) (.bool p.isNone) := by
  intro c h2 d ty pos af
  have : (binOp .eql T (.pointer p) (.pointer none)).run P w = .ok (.bool p.isNone) w := by simp [binOp, run_eq_pn]
  simp [execOp, eval_of h2 hx, eval_of h2 hy, eqGuard, this]

theorem y_ptr_ne_nil {T yT e : TypeId} [TPointer P T e] {x y : Operand} {p : Option Addr} (hx : evo ρ x = some (.pointer p)) (hy : evo ρ y = some (.pointer none)) :
    Y P ρ w (.binOp .neq T x y yT) (.bool (!p.isNone)) := by
  intro c h2 d ty pos af
  have : (binOp .neq T (.pointer p) (.pointer none)).run P w = .ok (.bool (!p.isNone)) w := by simp [binOp, run_eq_pn]
  simp [execOp, eval_of h2 hx, eval_of h2 hy, eqGuard, this]

theorem y_slice_nil {T yT e sz by_ : TypeId} [h : TSlice P T e sz by_] {x y : Operand} {p : Option Addr} {n c : Nat} (hx : evo ρ x = some (.slice p n c)) (hy : evo ρ y = some (.slice none 0 0)) :
    Y P ρ w (.binOp .eql T x y yT) (.bool p.isNone) := by
  intro c' h2 d ty pos af
  have : (binOp .eql T (.slice p n c) (.slice none 0 0)).run P w = .ok (.bool p.isNone) w := by
    simp only [binOp, Sem.run_bind]
    rw [show (Op.equal T (.slice p n c) (.slice none 0 0)).run P w = .ok p.isNone w from run_eqIn_sn 9999]; rfl
  simp [execOp, eval_of h2 hx, eval_of h2 hy, eqGuard, this]

theorem y_map_nil {T yT k e : TypeId} [h : TMap P T k e] {x y : Operand} {p : Option Nat} (hx : evo ρ x = some (.map p)) (hy : evo ρ y = some (.map none)) :
    Y P ρ w (.binOp .eql T x y yT) (.bool p.isNone) := by
  intro c' h2 d ty pos af
  have : (binOp .eql T (.map p) (.map none)).run P w = .ok (.bool p.isNone) w := by
    simp only [binOp, Sem.run_bind]
    rw [show (Op.equal T (.map p) (.map none)).run P w = .ok p.isNone w from run_eqIn_mn 9999]; rfl
  simp [execOp, eval_of h2 hx, eval_of h2 hy, eqGuard, this]

theorem y_bool_eq {T yT : TypeId} [h : TBool P T] {x y : Operand} {a b : Bool} (hx : evo ρ x = some (.bool a)) (hy : evo ρ y = some (.bool b)) :
    Y P ρ w (.binOp .eql T x y yT) (.bool (a == b)) := by
  intro c' h2 d ty pos af
  have : (binOp .eql T (.bool a) (.bool b)).run P w = .ok (.bool (a == b)) w := by
    simp only [binOp, Sem.run_bind]
    rw [show (Op.equal T (.bool a) (.bool b)).run P w = .ok (a == b) w from run_eqIn_bool 9999]; rfl
  simp [execOp, eval_of h2 hx, eval_of h2 hy, eqGuard, this]

theorem y_bool_ne {T yT : TypeId} [h : TBool P T] {x y : Operand} {a b : Bool} (hx : evo ρ x = some (.bool a)) (hy : evo ρ y = some (.bool b)) :
    Y P ρ w (.binOp .neq T x y yT) (.bool (!(a == b))) := by
  intro c' h2 d ty pos af
  have : (binOp .neq T (.bool a) (.bool b)).run P w = .ok (.bool (!(a == b))) w := by
    simp only [binOp, Sem.run_bind]
    rw [show (Op.equal T (.bool a) (.bool b)).run P w = .ok (a == b) w from run_eqIn_bool 9999]; rfl
  simp [execOp, eval_of h2 hx, eval_of h2 hy, eqGuard, this]

/-! ### fields, lengths, places -/

theorem y_fieldAddr {T i off sz : Nat} [TField P T i off sz] {x : Operand} {b o : Nat} (hx : evo ρ x = some (.pointer (some ⟨b, o, none⟩))) :
    Y P ρ w (.fieldAddr T x i) (.pointer (some ⟨b, o + off, none⟩)) := by
  intro a h2 d ty pos af
  have := run_fieldPlace (P := P) (w := w) (T := T) (i := i) (p := ⟨b, o, none⟩)
  rw [Addr.add_lit] at this
  simp [execOp, eval_of h2 hx, this]

/-- Of an address that is no number. -/
theorem y_fieldAddr' {T i off sz : Nat} [TField P T i off sz] {x : Operand} {p : Addr} (hx : evo ρ x = some (.pointer (some p))) :
    Y P ρ w (.fieldAddr T x i) (.pointer (some (p.add off))) := by
  intro a h2 d ty pos af
  simp [execOp, eval_of h2 hx, run_fieldPlace (P := P) (w := w) (T := T) (i := i)]

theorem y_load {T : Nat} [TOne P T] {x : Operand} {p : Addr} {v : Value} (hx : evo ρ x = some (.pointer (some p))) (hv : w.cell? p = some v) : Y P ρ w (.load T x) v := by
  intro a h2 d ty pos af
  simp [execOp, eval_of h2 hx, Instr.loadAt, Instr.sureAddr, run_load1 hv]

theorem y_loadAgg {T k : Nat} [TAgg P T k] {x : Operand} {p : Addr} {vs : List Value} (hx : evo ρ x = some (.pointer (some p))) (hk : vs.length = k)
    (hc : ∀ (j : Nat) (v : Value), vs[j]? = some v → w.cell? (p.add j) = some v) : Y P ρ w (.load T x) (.agg vs.toArray) := by
  intro a h2 d ty pos af
  simp [execOp, eval_of h2 hx, Instr.loadAt, Instr.sureAddr, run_loadAgg (T := T) hk hc]

theorem y_len {T e sz by_ : Nat} [h : TSlice P T e sz by_] {x : Operand} {p : Option Addr} {m c : Nat} (hx : evo ρ x = some (.slice p m c)) :
    Y P ρ w (.call ⟨.builtin .len, #[x], #[T]⟩) (.int .i64 m) := by
  intro a h2 d ty pos af
  simp [execOp, resolve, invoke, builtin, Builtin.len_, eval_of h2 hx, run_underlying h.at_, goInt]

theorem y_cap {T e sz by_ : Nat} [h : TSlice P T e sz by_] {x : Operand} {p : Option Addr} {m c : Nat} (hx : evo ρ x = some (.slice p m c)) :
    Y P ρ w (.call ⟨.builtin .cap, #[x], #[T]⟩) (.int .i64 c) := by
  intro a h2 d ty pos af
  simp [execOp, resolve, invoke, builtin, Builtin.cap_, eval_of h2 hx, run_underlying h.at_, goInt]

theorem y_lenStr {T : Nat} [h : TString P T] {x : Operand} {s : ByteArray} (hx : evo ρ x = some (.string s)) :
    Y P ρ w (.call ⟨.builtin .len, #[x], #[T]⟩) (.int .i64 s.size) := by
  intro a h2 d ty pos af
  simp [execOp, resolve, invoke, builtin, Builtin.len_, eval_of h2 hx, run_underlying h.at_, goInt]

theorem y_indexAddr {T e sz by_ : Nat} [h : TSlice P T e sz by_] {x y : Operand} {p : Addr} {m c : Nat} {k : IntKind} {i : Int} (hx : evo ρ x = some (.slice (some p) m c)) (hy : evo ρ y = some (.int k i))
    (hi : 0 ≤ i ∧ i < m) : Y P ρ w (.indexAddr T x y) (.pointer (some (p.add (i.toNat * sz)))) := by
  intro a h2 d ty pos af
  simp [execOp, eval_of h2 hx, eval_of h2 hy, Instr.indexAt, asIntOf, run_underlying h.at_, hi.1, hi.2, run_size h.size]

/-- An element of a row of one's own. -/
theorem y_indexOwn {T e by_ : Nat} [h : TSlice P T e 1 by_] {x y : Operand} {q m c : Nat} {k : IntKind} {i : Nat} (hx : evo ρ x = some (.slice (some ⟨q, 0, none⟩) m c)) (hy : evo ρ y = some (.int k i))
    (hi : i < m) : Y P ρ w (.indexAddr T x y) (.pointer (some ⟨q, i, none⟩)) := by
  have := y_indexAddr (P := P) (w := w) (T := T) hx hy ⟨by omega, by omega⟩
  rw [Addr.add_lit] at this
  simpa using this

theorem y_indexOwnN {T e sz by_ : Nat} [h : TSlice P T e sz by_] {x y : Operand} {q m c : Nat} {k : IntKind} {i : Nat} (hx : evo ρ x = some (.slice (some ⟨q, 0, none⟩) m c)) (hy : evo ρ y = some (.int k i))
    (hi : i < m) : Y P ρ w (.indexAddr T x y) (.pointer (some ⟨q, i * sz, none⟩)) := by
  have := y_indexAddr (P := P) (w := w) (T := T) hx hy ⟨by omega, by omega⟩
  rw [Addr.add_lit] at this
  simpa using this

theorem y_index_str {T : Nat} [h : TString P T] {x y : Operand} {s : ByteArray} {k : IntKind} {i : Int} {b : UInt8} (hx : evo ρ x = some (.string s)) (hy : evo ρ y = some (.int k i))
    (h0 : 0 ≤ i) (hi : s.data[i.toNat]? = some b) : Y P ρ w (.index T x y) (.int .u8 b.toNat) := by
  intro a h2 d ty pos af
  have hg : s[i.toNat]? = some b := by
    obtain ⟨hlt, he⟩ := Array.getElem?_eq_some_iff.1 hi
    have hlt' : i.toNat < s.size := hlt
    rw [getElem?_pos s i.toNat hlt']
    exact congrArg some he
  simp [execOp, eval_of h2 hx, eval_of h2 hy, Instr.index, asIntOf, run_underlying h.at_, h0, hg]

/-! #### slicing a slice -/

/-- A slice's part, as Go has it. -/
def cutV (a : Option Addr) (sz l h m : Nat) : Value := .slice (if m = l then a else a.map (·.add (l * sz))) (h - l) (m - l)

def bndI (ρ : Env) (o : Option Operand) (dflt : Nat) : Option Int :=
  match o with
  | none => some dflt
  | some x => match evo ρ x with
    | some (.int _ i) => some i
    | _ => none

theorem run_bound {x : Operand} {k : IntKind} {i : Int} {y : Nat} {code : BoundsCode} (h : 0 ≤ i ∧ i ≤ y) :
    (Instr.sliceBound (.int k i) y code).run P w = .ok i.toNat w := by
  simp [Instr.sliceBound, asIntOf, h.1, h.2]

theorem bndI_some {a : Act} (h2 : Sat ρ a) {x : Operand} {i : Int} {dflt : Nat} (h : bndI ρ (some x) dflt = some i) : ∃ k, a.eval x = .int k i := by
  unfold bndI at h
  simp only at h
  split at h
  · rename_i k j e; simp only [Option.some.injEq] at h; subst h; exact ⟨k, eval_of h2 e⟩
  · cases h

theorem y_slice {T e sz by_ : Nat} [h : TSlice P T e sz by_] {x : Operand} {lo hi mx : Option Operand} {p : Option Addr} {m c : Nat} {li hi' mi : Int} (hx : evo ρ x = some (.slice p m c))
    (h1 : bndI ρ lo 0 = some li) (h2 : bndI ρ hi m = some hi') (h3 : bndI ρ mx c = some mi) (hmx : mx.isSome = true → hi.isSome = true)
    (hb : 0 ≤ li ∧ li ≤ hi' ∧ hi' ≤ mi ∧ mi ≤ c) : Y P ρ w (.slice T x lo hi mx) (cutV p sz li.toNat hi'.toNat mi.toNat) := by
  intro a hs d ty pos af
  obtain ⟨b1, b2, b3, b4⟩ := hb
  have hc : (Instr.sliceBounds true m c (lo.map a.eval) (hi.map a.eval) (mx.map a.eval)).run P w = .ok (li.toNat, hi'.toNat, mi.toNat) w := by
    unfold Instr.sliceBounds
    cases mx with
    | none =>
      simp only [bndI, Option.some.injEq] at h3
      subst h3
      cases hi with
      | none =>
        simp only [bndI, Option.some.injEq] at h2
        subst h2
        cases lo with
        | none => simp only [bndI, Option.some.injEq] at h1; subst h1; simp
        | some l =>
          obtain ⟨k, ek⟩ := bndI_some hs h1
          simp only [Option.map_some, Option.map_none, Sem.run_bind, Sem.run_pure, Result.andThen_ok, ek]
          rw [run_bound (x := l) ⟨b1, by omega⟩]; simp
      | some hh =>
        obtain ⟨k, ek⟩ := bndI_some hs h2
        simp only [Option.map_some, Option.map_none, Sem.run_bind, Sem.run_pure, Result.andThen_ok, ek]
        rw [run_bound (x := hh) ⟨by omega, by omega⟩]
        cases lo with
        | none => simp only [bndI, Option.some.injEq] at h1; subst h1; simp
        | some l =>
          obtain ⟨k', ek'⟩ := bndI_some hs h1
          simp only [Option.map_some, Result.andThen_ok, ek', Sem.run_bind]
          rw [run_bound (x := l) ⟨b1, by omega⟩]; simp
    | some mm =>
      obtain ⟨k3, ek3⟩ := bndI_some hs h3
      cases hi with
      | none => have := hmx rfl; cases this
      | some hh =>
        obtain ⟨k, ek⟩ := bndI_some hs h2
        simp only [Option.map_some, Sem.run_bind, ek, ek3]
        rw [run_bound (x := mm) ⟨by omega, by omega⟩]
        simp only [Result.andThen_ok]
        rw [run_bound (x := hh) ⟨by omega, by omega⟩]
        cases lo with
        | none => simp only [bndI, Option.some.injEq] at h1; subst h1; simp
        | some l =>
          obtain ⟨k', ek'⟩ := bndI_some hs h1
          simp only [Option.map_some, Result.andThen_ok, ek', Sem.run_bind]
          rw [run_bound (x := l) ⟨b1, by omega⟩]; simp
  have : (Instr.sliceAt T (.slice p m c) (lo.map a.eval) (hi.map a.eval) (mx.map a.eval)).run P w = .ok (cutV p sz li.toNat hi'.toNat mi.toNat) w := by
    simp only [Instr.sliceAt, Sem.run_bind, run_underlying h.at_, Result.andThen_ok, Instr.slice, hc, run_size h.size, Sem.run_pure]
    rfl
  simp [execOp, eval_of hs hx, this]

/-- What a part of a slice reads. -/
theorem Sl.cut {O : List Nat} {a : Option Addr} {m c sz l h k : Nat} {cs : List Value} (hs : Sl O w (.slice a m c) m cs) (hk : k ≤ c) (hlh : l ≤ h) (hhk : h ≤ k) (hm : h ≤ m) (hlen : cs.length = m * sz) (hsz : 0 < sz) :
    Sl O w (cutV a sz l h k) (h - l) ((cs.drop (l * sz)).take ((h - l) * sz)) := by
  unfold cutV
  rcases hs with ⟨he, hn, hcs⟩ | ⟨x, cap, he, hle, hc⟩
  · injection he with e1 e2 e3
    subst e1 e2 e3
    have : k = 0 := by omega
    subst this
    have hl0 : l = 0 := by omega
    have hh0 : h = 0 := by omega
    subst hl0 hh0
    simp only [if_true, hcs]
    exact .inl ⟨by simp, by simp, by simp⟩
  · injection he with e1 e2 e3
    subst e1
    subst e3
    by_cases hkl : k = l
    · subst hkl
      have : h = k := by omega
      subst this
      refine .inr ⟨x, h - h, by simp, by omega, fun i u hi => ?_⟩
      simp at hi
    · refine .inr ⟨x.add (l * sz), k - l, by simp [hkl], by omega, fun i u hi => ?_⟩
      rw [Addr.add_add]
      apply hc
      rw [List.getElem?_take] at hi
      split at hi
      · rw [List.getElem?_drop] at hi; exact hi
      · cases hi

/-! ### texts -/

theorem bytesOf_run (vs : List UInt8) : ∀ (acc : ByteArray), (vs.map fun c => Value.int .u8 c.toNat).foldl (fun (s : ByteArray) v => match v with | .int .u8 n => s.push (UInt8.ofNat n.toNat) | _ => s) acc = ⟨acc.data ++ vs.toArray⟩ := by
  induction vs with
  | nil => intro acc; simp
  | cons v vs ih =>
    intro acc
    simp only [List.map_cons, List.foldl_cons, ih]
    have : UInt8.ofNat (Int.toNat (v.toNat : Int)) = v := by simp
    rw [this]
    congr 1
    apply Array.ext'
    simp [ByteArray.push]

end
end Gk
