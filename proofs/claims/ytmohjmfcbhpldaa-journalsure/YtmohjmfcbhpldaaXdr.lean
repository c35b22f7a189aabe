/- What the functions of xdr do: numbers and bytes are put, and read. -/
import Derived.Test.YtmohjmfcbhpldaaT
import Derived.Test.YtmohjmfcbhpldaaGkData
import Derived.Test.YtmohjmfcbhpldaaGkLit
import Derived.Test.YtmohjmfcbhpldaaGkNum
import Derived.Test.YtmohjmfcbhpldaaGkDraw
namespace Go.Proofs.Ytmohjmfcbhpldaa
open Gk Go
set_option linter.unusedVariables false
attribute [local irreducible] Gk.E Gk.G Gk.R Gk.RD Gk.Y Gk.Ent Gk.Sat Gk.Round Gk.After Gk.Cell Gk.Sl Gk.SlA Gk.CB Gk.OK Gk.FnC Gk.FBytes Gk.Bytes Gk.BytesL Gk.StrL Gk.Buf Gk.MapI

/-- The bytes of a number, the greatest first. -/
def be : Nat → Nat → List UInt8
  | 0, _ => []
  | n + 1, x => UInt8.ofNat (x / 2 ^ (8 * n)) :: be n x

@[simp] theorem be_length : ∀ (n x : Nat), (be n x).length = n
  | 0, _ => rfl
  | n + 1, x => by simp [be, be_length n x]

def fillN (n : Nat) : Nat := (4 - n % 4) % 4

/-- What is put for bytes. -/
def opaqueB (b : List UInt8) : List UInt8 := be 4 (b.length % 4294967296) ++ b ++ List.replicate (fillN b.length) 0

/-- A writer that has put these bytes. -/
structure WrAt (O : List Nat) (w : World) (p : Nat) (v : Value) (bs : List UInt8) : Prop where
  pO : p ∈ O
  cb : CB w p [v]
  bu : Buf (fun q => q ∈ blk v) w 1 v bs.length (bytesV bs)
  bo : ∀ q, q ∈ blk v → q ∈ O ∧ q ≠ p

section
variable {w : World} {O : List Nat} {p : Nat} {v : Value} {bs : List UInt8}

theorem WrAt.step {M O' : List Nat} {w' : World} (h : WrAt O w p v bs) (s : Step M O O' w w') (hp : p ∉ M) (hb : ∀ q, q ∈ blk v → q ∉ M) : WrAt O' w' p v bs :=
  ⟨s.keep _ h.pO, h.cb.step s hp, h.bu.step s hb, fun q hq => ⟨s.keep _ (h.bo q hq).1, (h.bo q hq).2⟩⟩

theorem WrAt.keep {O' : List Nat} {w' : World} (h : WrAt O w p v bs) (s : Step [] O O' w w') : WrAt O' w' p v bs := h.step s (by simp) (fun _ _ => by simp)

theorem WrAt.lt (h : WrAt O w p v bs) : p < w.heap.size ∧ ∀ q, q ∈ blk v → q < w.heap.size := ⟨h.cb.lt, h.bu.lt⟩

def PutK (O : List Nat) (p : Nat) (bl : List Nat) (w : World) (bs : List UInt8) (r : Value) (O' : List Nat) (w' : World) : Prop :=
  ∃ v', r = .tuple #[] ∧ WrAt O' w' p v' bs ∧ ∀ q, q ∈ blk v' → q ∈ bl ∨ w.heap.size ≤ q

theorem sclone_ok (hO : OK O w) {Oi : List Nat} {xs : List UInt8} (hb : Bytes Oi w v xs) (hl : xs.length ≤ 140737488355328) :
    FnC Try.prog 36 [v] O [] w fun r O' w' => O = O' ∧ Buf (fun q => w.heap.size ≤ q) w' 1 r xs.length (bytesV xs) := by
  obtain ⟨a, cap, rfl, _⟩ := hb.form
  refine fn_of _ Try.func36 rfl (by kernel_rfl) Try.ntmps36 rfl ?_
  cases a with
  | none =>
    have : xs = [] := hb.none_nil
    subst this
    (repeat (first | refine r_pure rfl rfl ?_ | refine g_seq ?_ | refine g_region ?_ | refine r_nil ?_ | refine e_then ?_ | refine r_go rfl rfl ?_ | refine r_pass rfl rfl rfl ?_ | refine r_passu rfl rfl rfl ?_ | refine r_y (y_fieldAddr rfl) rfl ?_ | refine r_y (y_fieldAddr' rfl) rfl ?_ | refine r_y (y_len rfl) rfl ?_ | refine r_y (y_lenStr rfl) rfl ?_ | refine r_y (y_ptr_nil rfl rfl) rfl ?_ | refine r_y (y_ptr_ne_nil rfl rfl) rfl ?_ | refine r_y (y_slice_nil rfl rfl) rfl ?_ | refine r_y (y_map_nil rfl rfl) rfl ?_ | refine r_y (y_add64 rfl rfl (by omega)) rfl ?_ | refine r_y (y_sub64 rfl rfl (by omega)) rfl ?_ | refine g_true rfl ?_ | refine g_false rfl ?_ | refine g_skip ?_ | refine g_block ?_ | refine e_block_normal ?_ | refine g_exit ?_ | refine e_block_exit ?_ | refine e_block_exit_ne rfl ?_ | refine e_then_exit ?_ | refine e_round_exit ?_))
    refine g_ret ?_; (repeat (first | refine e_then_ret ?_ | refine e_block_ret ?_ | refine e_round_ret ?_)); refine ret1 (.inl rfl) rfl rfl ?_
    exact ⟨_, _, rfl, Step.refl hO, rfl, Buf.nil⟩
  | some x =>
    (repeat (first | refine r_pure rfl rfl ?_ | refine g_seq ?_ | refine g_region ?_ | refine r_nil ?_ | refine e_then ?_ | refine r_go rfl rfl ?_ | refine r_pass rfl rfl rfl ?_ | refine r_passu rfl rfl rfl ?_ | refine r_y (y_fieldAddr rfl) rfl ?_ | refine r_y (y_fieldAddr' rfl) rfl ?_ | refine r_y (y_len rfl) rfl ?_ | refine r_y (y_lenStr rfl) rfl ?_ | refine r_y (y_ptr_nil rfl rfl) rfl ?_ | refine r_y (y_ptr_ne_nil rfl rfl) rfl ?_ | refine r_y (y_slice_nil rfl rfl) rfl ?_ | refine r_y (y_map_nil rfl rfl) rfl ?_ | refine r_y (y_add64 rfl rfl (by omega)) rfl ?_ | refine r_y (y_sub64 rfl rfl (by omega)) rfl ?_ | refine g_true rfl ?_ | refine g_false rfl ?_ | refine g_skip ?_ | refine g_block ?_ | refine e_block_normal ?_ | refine g_exit ?_ | refine e_block_exit ?_ | refine e_block_exit_ne rfl ?_ | refine e_then_exit ?_ | refine e_round_exit ?_))
    refine r_buildSlice (cs := []) hO rfl rfl rfl rfl (fun q w1 hq s1 z1 b1 => ?_)
    (repeat (first | refine r_pure rfl rfl ?_ | refine g_seq ?_ | refine g_region ?_ | refine r_nil ?_ | refine e_then ?_ | refine r_go rfl rfl ?_ | refine r_pass rfl rfl rfl ?_ | refine r_passu rfl rfl rfl ?_ | refine r_y (y_fieldAddr rfl) rfl ?_ | refine r_y (y_fieldAddr' rfl) rfl ?_ | refine r_y (y_len rfl) rfl ?_ | refine r_y (y_lenStr rfl) rfl ?_ | refine r_y (y_ptr_nil rfl rfl) rfl ?_ | refine r_y (y_ptr_ne_nil rfl rfl) rfl ?_ | refine r_y (y_slice_nil rfl rfl) rfl ?_ | refine r_y (y_map_nil rfl rfl) rfl ?_ | refine r_y (y_add64 rfl rfl (by omega)) rfl ?_ | refine r_y (y_sub64 rfl rfl (by omega)) rfl ?_ | refine g_true rfl ?_ | refine g_false rfl ?_ | refine g_skip ?_ | refine g_block ?_ | refine e_block_normal ?_ | refine g_exit ?_ | refine e_block_exit ?_ | refine e_block_exit_ne rfl ?_ | refine e_then_exit ?_ | refine e_round_exit ?_))
    have s1' := s1.take (q := q) (by omega) (by omega)
    have hb1 : Buf (fun k => k = q) w1 1 (.slice (some ⟨q, 0, none⟩) 0 0) 0 [] := CB.buf b1 rfl (by decide) rfl
    refine r_append (p := fun k => k = q) s1'.ok rfl rfl rfl hb1 (fun k hk => by simp [hk]) (src_bytes (hb.keep s1')) (by unfold maxLen; omega) (by omega) (fun r w2 O2 s2 b2 => ?_)
    (repeat (first | refine r_pure rfl rfl ?_ | refine g_seq ?_ | refine g_region ?_ | refine r_nil ?_ | refine e_then ?_ | refine r_go rfl rfl ?_ | refine r_pass rfl rfl rfl ?_ | refine r_passu rfl rfl rfl ?_ | refine r_y (y_fieldAddr rfl) rfl ?_ | refine r_y (y_fieldAddr' rfl) rfl ?_ | refine r_y (y_len rfl) rfl ?_ | refine r_y (y_lenStr rfl) rfl ?_ | refine r_y (y_ptr_nil rfl rfl) rfl ?_ | refine r_y (y_ptr_ne_nil rfl rfl) rfl ?_ | refine r_y (y_slice_nil rfl rfl) rfl ?_ | refine r_y (y_map_nil rfl rfl) rfl ?_ | refine r_y (y_add64 rfl rfl (by omega)) rfl ?_ | refine r_y (y_sub64 rfl rfl (by omega)) rfl ?_ | refine g_true rfl ?_ | refine g_false rfl ?_ | refine g_skip ?_ | refine g_block ?_ | refine e_block_normal ?_ | refine g_exit ?_ | refine e_block_exit ?_ | refine e_block_exit_ne rfl ?_ | refine e_then_exit ?_ | refine e_round_exit ?_))
    refine g_ret ?_; (repeat (first | refine e_then_ret ?_ | refine e_block_ret ?_ | refine e_round_ret ?_)); refine ret1 (.inl rfl) rfl rfl ?_
    have s02 := s1'.trans s2 (fun b hb => .inr (by simp [blk] at hb; omega))
    refine ⟨_, _, rfl, s02.less (fun _ h => h) s02.keep, rfl, ?_⟩
    simpa using b2.mono (fun k hk => by rcases hk.2 with h | h <;> omega)

/-! ### reading -/

/-- The number of bytes. -/
def numB (bs : List UInt8) : Nat := bs.foldl (fun x c => x * 256 + c.toNat) 0

theorem foldl_num (bs : List UInt8) : ∀ a, bs.foldl (fun x c => x * 256 + c.toNat) a = a * 256 ^ bs.length + numB bs := by
  induction bs with
  | nil => intro a; simp [numB]
  | cons b bs ih =>
    intro a
    simp only [numB, List.foldl_cons, List.length_cons]
    rw [ih, ih (0 * 256 + b.toNat)]
    have : 256 ^ (bs.length + 1) = 256 * 256 ^ bs.length := Nat.pow_succ'
    rw [this, Nat.add_mul, Nat.add_mul, ← Nat.mul_assoc]
    omega

theorem numB_snoc (bs : List UInt8) (c : UInt8) : numB (bs ++ [c]) = numB bs * 256 + c.toNat := by simp [numB, List.foldl_append]

theorem numB_lt (bs : List UInt8) : numB bs < 256 ^ bs.length := by
  have key : ∀ (n : Nat) (bs : List UInt8), bs.length = n → numB bs < 256 ^ n := by
    intro n
    induction n with
    | zero => intro bs h; have := List.length_eq_zero_iff.1 h; subst this; simp [numB]
    | succ n ih =>
      intro bs h
      rcases List.eq_nil_or_concat bs with rfl | ⟨l, c, rfl⟩
      · cases h
      · rw [List.concat_eq_append, numB_snoc]
        have h1 := ih l (by simpa using h)
        have h2 := UInt8.toNat_lt c
        have : 256 ^ (n + 1) = 256 ^ n * 256 := Nat.pow_succ 256 n
        omega
  exact key _ _ rfl

/-- A reader that has these bytes left, and this first error. -/
structure RdAt (O : List Nat) (w : World) (p : Nat) (bs : List UInt8) (e : Nat) : Prop where
  pO : p ∈ O
  mem : ∃ v, CB w p [v, .int .i64 e] ∧ Bytes O w v bs

theorem RdAt.step {M O' : List Nat} {w' : World} {e : Nat} (h : RdAt O w p bs e) (s : Step M O O' w w') (hp : p ∉ M) : RdAt O' w' p bs e := by
  obtain ⟨h1, u, h2, h3⟩ := h
  exact ⟨s.keep _ h1, u, h2.step s hp, h3.step s⟩

theorem RdAt.lt {e : Nat} (h : RdAt O w p bs e) : p < w.heap.size := by obtain ⟨h1, u, h2, h3⟩ := h; exact h2.lt

/-- What the end is told to be. -/
def endE (bs : List UInt8) (e : Nat) : Nat := if e = 0 then (if bs = [] then 0 else 12) else e

/-- What 'take' takes, and leaves. -/
def takeR (bs : List UInt8) (e n : Nat) : List UInt8 × List UInt8 × Nat :=
  if e = 0 then (if bs.length < n then ([], bs, 10) else (bs.take n, bs.drop n, 0)) else ([], bs, e)

/-- What a number of so many bytes is read as. -/
def rdN (bs : List UInt8) (e n : Nat) : Nat × List UInt8 × Nat := (numB (takeR bs e n).1, (takeR bs e n).2)

theorem or_low (a c : Nat) (h : c < 256) : a * 2 ^ 8 ||| c = a * 256 + c := by
  have := Nat.two_pow_add_eq_or_of_lt (i := 8) (b := c) (by simpa using h) a
  rw [Nat.mul_comm a (2 ^ 8), ← this]

theorem takeR_err (bs : List UInt8) (e n : Nat) (h : e ≠ 0) : takeR bs e n = ([], bs, e) := by unfold takeR; simp [h]

/-- What a bool is read as. -/
def rdBool (bs : List UInt8) (e : Nat) : Bool × List UInt8 × Nat :=
  let r := rdN bs e 4
  if 1 < r.1 then (false, r.2.1, if r.2.2 = 0 then 11 else r.2.2) else (decide (r.1 = 1), r.2)

/-! ### bytes that were put as such -/

theorem takeR_length (bs : List UInt8) (e n : Nat) : (takeR bs e n).1.length ≤ n := by
  unfold takeR; split
  · split <;> simp; omega
  · simp

theorem takeR_ok (bs : List UInt8) (e n : Nat) (h : (takeR bs e n).2.2 = 0) : e = 0 ∧ n ≤ bs.length ∧ takeR bs e n = (bs.take n, bs.drop n, 0) := by
  unfold takeR at h ⊢
  by_cases he : e = 0
  · simp only [he, if_true] at h ⊢
    by_cases hl : bs.length < n
    · simp [hl] at h
    · rw [if_neg hl]; exact ⟨trivial, by omega, rfl⟩
  · simp [he] at h

theorem rdN_lt (bs : List UInt8) (e n : Nat) : (rdN bs e n).1 < 256 ^ n :=
  Nat.lt_of_lt_of_le (numB_lt _) (Nat.pow_le_pow_right (by decide) (takeR_length bs e n))

/-- What bytes are read as. -/
def rdOpaque (bs : List UInt8) (e : Nat) (most : Int) : List UInt8 × List UInt8 × Nat :=
  let n := rdN bs e 4
  if n.2.2 ≠ 0 then ([], n.2)
  else if most < 0 ∨ most < n.1 then ([], n.2.1, 13)
  else
    let t := takeR n.2.1 0 (n.1 + fillN n.1)
    if t.2.2 ≠ 0 then ([], t.2)
    else if ∃ c, c ∈ t.1.drop n.1 ∧ c ≠ 0 then ([], t.2.1, 11)
    else (t.1.take n.1, t.2)

end

end Go.Proofs.Ytmohjmfcbhpldaa
