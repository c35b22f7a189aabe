/- Arithmetic of numbers that aren't below nought. Nothing here speaks of one program. -/
import Derived.Test.YtcfpnghkkkphhaaGreatGkOps
namespace Gk
open Go
set_option linter.unusedVariables false

/-- The first number that a kind hasn't. -/
def lim : IntKind → Nat
  | .u8 => 256
  | .u16 => 65536
  | .u32 => 4294967296
  | .u64 => 18446744073709551616
  | .i8 => 128
  | .i16 => 32768
  | .i32 => 2147483648
  | .i64 => 9223372036854775808

/-- All bits. -/
def full : IntKind → Nat
  | .u8 | .i8 => 256
  | .u16 | .i16 => 65536
  | .u32 | .i32 => 4294967296
  | .u64 | .i64 => 18446744073709551616

theorem full_bits (k : IntKind) : full k = 2 ^ k.bits := by cases k <;> rfl

theorem wrap_lim {k : IntKind} {n : Nat} (h : n < lim k) : k.wrap (n : Int) = n := by
  cases k <;> simp only [lim] at h <;> simp [IntKind.wrap, IntKind.bits, IntKind.signed] <;> omega

theorem wrap_mod {k : IntKind} (hk : k.signed = false) (n : Nat) : k.wrap (n : Int) = ((n % lim k : Nat) : Int) := by
  cases k <;> first | (exact absurd hk (by decide)) | (simp [IntKind.wrap, IntKind.bits, IntKind.signed, lim])

theorem lim_full (k : IntKind) : lim k ≤ full k := by cases k <;> decide

section
variable {P : Program} {n : Nat} {all : Array Oper} {os : List Oper} {ρ : Env} {D : Dr} {w : World} {Q : Exit → Act → World → Prop}
variable {d : Option Nat} {ty : TypeId} {pos : String} {af : Array Edge}

theorem y_convN {S T : TypeId} {k j : IntKind} [h1 : TInt P S j] [h : TInt P T k] {x : Operand} {a : Nat} (hx : evo ρ x = some (.int j a)) (hl : a < lim k) : Y P ρ w (.convert S T x) (.int k a) := by
  have := y_conv_int (P := P) (w := w) (S := S) (T := T) hx
  rwa [wrap_lim hl] at this

theorem y_convM {S T : TypeId} {k j : IntKind} [h1 : TInt P S j] [h : TInt P T k] {x : Operand} {a : Nat} (hx : evo ρ x = some (.int j a)) (hk : k.signed = false) : Y P ρ w (.convert S T x) (.int k ((a % lim k : Nat) : Int)) := by
  have := y_conv_int (P := P) (w := w) (S := S) (T := T) hx
  rwa [wrap_mod hk] at this

theorem y_addN {T yT : TypeId} {x y : Operand} {k : IntKind} {a b : Nat} (hx : evo ρ x = some (.int k a)) (hy : evo ρ y = some (.int k b)) (h : a + b < lim k) :
    Y P ρ w (.binOp .add T x y yT) (.int k ((a + b : Nat) : Int)) := by
  have := y_add (P := P) (w := w) (T := T) (yT := yT) hx hy
  rwa [← Int.natCast_add, wrap_lim h] at this

theorem y_addM {T yT : TypeId} {x y : Operand} {k : IntKind} {a b : Nat} (hx : evo ρ x = some (.int k a)) (hy : evo ρ y = some (.int k b)) (hk : k.signed = false) :
    Y P ρ w (.binOp .add T x y yT) (.int k (((a + b) % lim k : Nat) : Int)) := by
  have := y_add (P := P) (w := w) (T := T) (yT := yT) hx hy
  rwa [← Int.natCast_add, wrap_mod hk] at this

theorem y_mulN {T yT : TypeId} {x y : Operand} {k : IntKind} {a b : Nat} (hx : evo ρ x = some (.int k a)) (hy : evo ρ y = some (.int k b)) (h : a * b < lim k) :
    Y P ρ w (.binOp .mul T x y yT) (.int k ((a * b : Nat) : Int)) := by
  have := y_mul (P := P) (w := w) (T := T) (yT := yT) hx hy
  rwa [← Int.natCast_mul, wrap_lim h] at this

theorem y_mulM {T yT : TypeId} {x y : Operand} {k : IntKind} {a b : Nat} (hx : evo ρ x = some (.int k a)) (hy : evo ρ y = some (.int k b)) (hk : k.signed = false) :
    Y P ρ w (.binOp .mul T x y yT) (.int k (((a * b) % lim k : Nat) : Int)) := by
  have := y_mul (P := P) (w := w) (T := T) (yT := yT) hx hy
  rwa [← Int.natCast_mul, wrap_mod hk] at this

theorem y_subN {T yT : TypeId} {x y : Operand} {k : IntKind} {a b : Nat} (hx : evo ρ x = some (.int k a)) (hy : evo ρ y = some (.int k b)) (h : b ≤ a) (hl : a < lim k) :
    Y P ρ w (.binOp .sub T x y yT) (.int k ((a - b : Nat) : Int)) := by
  have := y_sub (P := P) (w := w) (T := T) (yT := yT) hx hy
  rwa [← Int.ofNat_sub h, wrap_lim (by omega)] at this

theorem y_quoN {T yT : TypeId} {x y : Operand} {k : IntKind} {a b : Nat} (hx : evo ρ x = some (.int k a)) (hy : evo ρ y = some (.int k b)) (h : 1 ≤ b) (hl : a < lim k) :
    Y P ρ w (.binOp .quo T x y yT) (.int k ((a / b : Nat) : Int)) := by
  refine y_arith hx hy (by simp) ?_
  have hb : (b : Int) ≠ 0 := by omega
  simp only [binOp, Op.intDiv, hb, if_false, ne_eq, not_true_eq_false]
  rw [Int.tdiv_eq_ediv_of_nonneg (by omega), ← Int.natCast_ediv, wrap_lim (Nat.lt_of_le_of_lt (Nat.div_le_self _ _) hl)]; rfl

/-- Shifts. -/
theorem y_shift {op : BinOp} {T yT : TypeId} {x y : Operand} {k j : IntKind} {a b : Int} {v : Value} (hx : evo ρ x = some (.int k a)) (hy : evo ρ y = some (.int j b))
    (hn : op = .shl ∨ op = .shr) (hr : (binOp op T (.int k a) (.int j b)).run P w = .ok v w) : Y P ρ w (.binOp op T x y yT) v := by
  intro c h2 d ty pos af
  have : (eqGuard op T x y (.int k a) (.int j b)).run P w = .ok () w := by rcases hn with rfl | rfl <;> simp [eqGuard]
  simp [execOp, eval_of h2 hx, eval_of h2 hy, this, hr]

theorem y_shrN {T yT : TypeId} {x y : Operand} {k j : IntKind} {a c : Nat} (hx : evo ρ x = some (.int k a)) (hy : evo ρ y = some (.int j c)) (hc : c ≤ k.bits) :
    Y P ρ w (.binOp .shr T x y yT) (.int k ((a / 2 ^ c : Nat) : Int)) := by
  refine y_shift hx hy (.inr rfl) ?_
  have h0 : ¬ ((c : Int) < 0) := by omega
  simp only [binOp, Op.shift, h0, if_false, Int.toNat_natCast, Nat.min_eq_left hc]
  rw [Int.fdiv_eq_ediv_of_nonneg _ (Int.pow_nonneg (by omega))]
  simp

theorem y_shlN {T yT : TypeId} {x y : Operand} {k j : IntKind} {a c : Nat} (hx : evo ρ x = some (.int k a)) (hy : evo ρ y = some (.int j c)) (hc : c ≤ k.bits) (hl : a * 2 ^ c < lim k) :
    Y P ρ w (.binOp .shl T x y yT) (.int k ((a * 2 ^ c : Nat) : Int)) := by
  refine y_shift hx hy (.inl rfl) ?_
  have h0 : ¬ ((c : Int) < 0) := by omega
  simp only [binOp, Op.shift, h0, if_false, Int.toNat_natCast, Nat.min_eq_left hc]
  have : (a : Int) * 2 ^ c = ((a * 2 ^ c : Nat) : Int) := by simp
  rw [this, wrap_lim hl]; rfl

theorem y_shlM {T yT : TypeId} {x y : Operand} {k j : IntKind} {a c : Nat} (hx : evo ρ x = some (.int k a)) (hy : evo ρ y = some (.int j c)) (hc : c ≤ k.bits) (hk : k.signed = false) :
    Y P ρ w (.binOp .shl T x y yT) (.int k (((a * 2 ^ c) % lim k : Nat) : Int)) := by
  refine y_shift hx hy (.inl rfl) ?_
  have h0 : ¬ ((c : Int) < 0) := by omega
  simp only [binOp, Op.shift, h0, if_false, Int.toNat_natCast, Nat.min_eq_left hc]
  have : (a : Int) * 2 ^ c = ((a * 2 ^ c : Nat) : Int) := by simp
  rw [this, wrap_mod hk]; rfl

theorem ofInt_toNat {b : Nat} {a : Nat} (h : a < 2 ^ b) : (BitVec.ofInt b (a : Int)).toNat = a := by
  rw [BitVec.toNat_ofInt]
  have : ((a : Int) % ((2 ^ b : Nat) : Int)) = ((a % 2 ^ b : Nat) : Int) := (Int.natCast_emod _ _).symm
  rw [this, Int.toNat_natCast, Nat.mod_eq_of_lt h]

theorem y_orN {T yT : TypeId} {x y : Operand} {k : IntKind} {a b : Nat} (hx : evo ρ x = some (.int k a)) (hy : evo ρ y = some (.int k b)) (ha : a < full k) (hb : b < full k) (hl : a ||| b < lim k) :
    Y P ρ w (.binOp .or T x y yT) (.int k ((a ||| b : Nat) : Int)) := by
  refine y_arith hx hy (by simp) ?_
  rw [full_bits] at ha hb
  simp only [binOp, Op.intBits, BitVec.toNat_or, ofInt_toNat ha, ofInt_toNat hb, wrap_lim hl, ne_eq, not_true_eq_false, if_false]
  rfl

theorem y_andN {T yT : TypeId} {x y : Operand} {k : IntKind} {a b : Nat} (hx : evo ρ x = some (.int k a)) (hy : evo ρ y = some (.int k b)) (ha : a < full k) (hb : b < full k) (hl : a &&& b < lim k) :
    Y P ρ w (.binOp .and T x y yT) (.int k ((a &&& b : Nat) : Int)) := by
  refine y_arith hx hy (by simp) ?_
  rw [full_bits] at ha hb
  simp only [binOp, Op.intBits, BitVec.toNat_and, ofInt_toNat ha, ofInt_toNat hb, wrap_lim hl, ne_eq, not_true_eq_false, if_false]
  rfl

theorem y_xorN {T yT : TypeId} {x y : Operand} {k : IntKind} {a b : Nat} (hx : evo ρ x = some (.int k a)) (hy : evo ρ y = some (.int k b)) (ha : a < full k) (hb : b < full k) (hl : a ^^^ b < lim k) :
    Y P ρ w (.binOp .xor T x y yT) (.int k ((a ^^^ b : Nat) : Int)) := by
  refine y_arith hx hy (by simp) ?_
  rw [full_bits] at ha hb
  simp only [binOp, Op.intBits, BitVec.toNat_xor, ofInt_toNat ha, ofInt_toNat hb, wrap_lim hl, ne_eq, not_true_eq_false, if_false]
  rfl

end
end Gk
