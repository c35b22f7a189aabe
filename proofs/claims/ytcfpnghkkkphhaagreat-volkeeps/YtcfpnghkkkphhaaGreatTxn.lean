/- What the functions of txn do: blocks that are about to change. -/
import Derived.Test.YtcfpnghkkkphhaaGreatT
import Derived.Test.YtcfpnghkkkphhaaGreatGkData
namespace Go.Proofs.YtcfpnghkkkphhaaGreat
open Gk Go
set_option linter.unusedVariables false
attribute [local irreducible] Gk.E Gk.G Gk.R Gk.RD Gk.Y Gk.Ent Gk.Sat Gk.Round Gk.After Gk.Cell Gk.Sl Gk.SlA Gk.CB Gk.OK Gk.FnC Gk.FBytes Gk.Bytes Gk.BytesL Gk.StrL Gk.Buf Gk.MapI

/-- Blocks as they were, and those that were put. -/
structure Tx where
  was : List (List UInt8)
  put : List (Int × List UInt8)

def Tx.now (t : Tx) (i : Nat) : List UInt8 := (lookI t.put i).getD (t.was.getD i [])

structure TxnAt (O : List Nat) (w : World) (p m : Nat) (t : Tx) : Prop where
  pO : p ∈ O
  mO : m ∈ O
  mem : ∃ lv es, CB w p [lv, .map (some m)] ∧ BytesL O w lv t.was ∧ MapI w m .i64 es ∧ All2 (Keyed (Bytes O w)) es t.put
  many : t.was.length ≤ 2000000
  big : ∀ b, b ∈ t.was → b.length ≤ 2000000
  bigp : ∀ i b, lookI t.put i = some b → b.length ≤ 2000000

theorem TxnAt.step {M O O' : List Nat} {w w' : World} {p m : Nat} {t : Tx} (h : TxnAt O w p m t) (s : Step M O O' w w') (hp : p ∉ M) (hm : m ∉ M) : TxnAt O' w' p m t := by
  obtain ⟨h1, h2, ⟨lv, es, a, b, c, d⟩, h3, h4, h5⟩ := h
  exact ⟨s.keep _ h1, s.keep _ h2, ⟨lv, es, a.step s hp, b.step s, c.step s hm, d.mono fun _ _ h => ⟨h.1, h.2.step s⟩⟩, h3, h4, h5⟩

theorem TxnAt.ne {O : List Nat} {w : World} {p m : Nat} {t : Tx} (h : TxnAt O w p m t) : p ≠ m := by
  obtain ⟨h1, h2, ⟨lv, es, a, b, c, d⟩, h3, h4, h5⟩ := h
  exact c.ne_cb a

theorem TxnAt.lt {O : List Nat} {w : World} {p m : Nat} {t : Tx} (h : TxnAt O w p m t) : p < w.heap.size ∧ m < w.heap.size := by
  obtain ⟨h1, h2, ⟨lv, es, a, b, c, d⟩, h3, h4, h5⟩ := h
  exact ⟨a.lt, c.lt⟩

theorem Tx.now_big {t : Tx} {i : Nat} (h4 : ∀ b, b ∈ t.was → b.length ≤ 2000000) (h5 : ∀ i b, lookI t.put i = some b → b.length ≤ 2000000) : (t.now i).length ≤ 2000000 := by
  unfold Tx.now
  cases h : lookI t.put i with
  | some b => exact h5 _ _ h
  | none =>
    simp only [Option.getD_none]
    rw [List.getD_eq_getElem?_getD]
    cases hg : t.was[i]? with
    | none => simp
    | some b => exact h4 b (List.mem_of_getElem? hg)

section
variable {w : World} {O : List Nat}

theorem clone_ok (hO : OK O w) {Oi : List Nat} {v : Value} {xs : List UInt8} (hb : Bytes Oi w v xs) (hl : xs.length ≤ 1000000000) :
    FnC Tryz.prog 24 [v] O [] w fun r O' w' => O = O' ∧ w.heap.size ≤ w'.heap.size ∧ Buf (fun q => w.heap.size ≤ q) w' 1 r xs.length (bytesV xs) := by
  obtain ⟨a, cap, rfl, _⟩ := hb.form
  refine fn_of _ Tryz.func24 rfl (by kernel_rfl) Tryz.ntmps24 rfl ?_
  (repeat (first | refine r_pure rfl rfl ?_ | refine g_seq ?_ | refine g_region ?_ | refine r_nil ?_ | refine e_then ?_ | refine r_go rfl rfl ?_ | refine r_pass rfl rfl rfl ?_ | refine r_passu rfl rfl rfl ?_ | refine r_y (y_fieldAddr rfl) rfl ?_ | refine r_y (y_fieldAddr' rfl) rfl ?_ | refine r_y (y_len rfl) rfl ?_ | refine r_y (y_lenStr rfl) rfl ?_ | refine r_y (y_ptr_nil rfl rfl) rfl ?_ | refine r_y (y_ptr_ne_nil rfl rfl) rfl ?_ | refine r_y (y_slice_nil rfl rfl) rfl ?_ | refine r_y (y_map_nil rfl rfl) rfl ?_ | refine r_y (y_add64 rfl rfl (by omega)) rfl ?_ | refine r_y (y_sub64 rfl rfl (by omega)) rfl ?_ | refine g_true rfl ?_ | refine g_false rfl ?_ | refine g_skip ?_ | refine g_block ?_ | refine e_block_normal ?_ | refine g_exit ?_ | refine e_block_exit ?_ | refine e_block_exit_ne rfl ?_ | refine e_then_exit ?_ | refine e_round_exit ?_))
  refine g_cond rfl (fun e => ?_) (fun e => ?_)
  · (repeat (first | refine r_pure rfl rfl ?_ | refine g_seq ?_ | refine g_region ?_ | refine r_nil ?_ | refine e_then ?_ | refine r_go rfl rfl ?_ | refine r_pass rfl rfl rfl ?_ | refine r_passu rfl rfl rfl ?_ | refine r_y (y_fieldAddr rfl) rfl ?_ | refine r_y (y_fieldAddr' rfl) rfl ?_ | refine r_y (y_len rfl) rfl ?_ | refine r_y (y_lenStr rfl) rfl ?_ | refine r_y (y_ptr_nil rfl rfl) rfl ?_ | refine r_y (y_ptr_ne_nil rfl rfl) rfl ?_ | refine r_y (y_slice_nil rfl rfl) rfl ?_ | refine r_y (y_map_nil rfl rfl) rfl ?_ | refine r_y (y_add64 rfl rfl (by omega)) rfl ?_ | refine r_y (y_sub64 rfl rfl (by omega)) rfl ?_ | refine g_true rfl ?_ | refine g_false rfl ?_ | refine g_skip ?_ | refine g_block ?_ | refine e_block_normal ?_ | refine g_exit ?_ | refine e_block_exit ?_ | refine e_block_exit_ne rfl ?_ | refine e_then_exit ?_ | refine e_round_exit ?_))
    refine g_ret ?_; (repeat (first | refine e_then_ret ?_ | refine e_block_ret ?_ | refine e_round_ret ?_)); refine ret1 (.inl rfl) rfl rfl ?_
    have ha : a = none := by simpa using e
    subst ha
    have hx := hb.none_nil
    subst hx
    exact ⟨_, O, rfl, Step.refl hO, rfl, Nat.le_refl _, Buf.nil⟩
  · (repeat (first | refine r_pure rfl rfl ?_ | refine g_seq ?_ | refine g_region ?_ | refine r_nil ?_ | refine e_then ?_ | refine r_go rfl rfl ?_ | refine r_pass rfl rfl rfl ?_ | refine r_passu rfl rfl rfl ?_ | refine r_y (y_fieldAddr rfl) rfl ?_ | refine r_y (y_fieldAddr' rfl) rfl ?_ | refine r_y (y_len rfl) rfl ?_ | refine r_y (y_lenStr rfl) rfl ?_ | refine r_y (y_ptr_nil rfl rfl) rfl ?_ | refine r_y (y_ptr_ne_nil rfl rfl) rfl ?_ | refine r_y (y_slice_nil rfl rfl) rfl ?_ | refine r_y (y_map_nil rfl rfl) rfl ?_ | refine r_y (y_add64 rfl rfl (by omega)) rfl ?_ | refine r_y (y_sub64 rfl rfl (by omega)) rfl ?_ | refine g_true rfl ?_ | refine g_false rfl ?_ | refine g_skip ?_ | refine g_block ?_ | refine e_block_normal ?_ | refine g_exit ?_ | refine e_block_exit ?_ | refine e_block_exit_ne rfl ?_ | refine e_then_exit ?_ | refine e_round_exit ?_))
    refine r_buildSlice (cs := []) hO rfl rfl rfl rfl (fun q w1 hq s1 z1 b1 => ?_)
    (repeat (first | refine r_pure rfl rfl ?_ | refine g_seq ?_ | refine g_region ?_ | refine r_nil ?_ | refine e_then ?_ | refine r_go rfl rfl ?_ | refine r_pass rfl rfl rfl ?_ | refine r_passu rfl rfl rfl ?_ | refine r_y (y_fieldAddr rfl) rfl ?_ | refine r_y (y_fieldAddr' rfl) rfl ?_ | refine r_y (y_len rfl) rfl ?_ | refine r_y (y_lenStr rfl) rfl ?_ | refine r_y (y_ptr_nil rfl rfl) rfl ?_ | refine r_y (y_ptr_ne_nil rfl rfl) rfl ?_ | refine r_y (y_slice_nil rfl rfl) rfl ?_ | refine r_y (y_map_nil rfl rfl) rfl ?_ | refine r_y (y_add64 rfl rfl (by omega)) rfl ?_ | refine r_y (y_sub64 rfl rfl (by omega)) rfl ?_ | refine g_true rfl ?_ | refine g_false rfl ?_ | refine g_skip ?_ | refine g_block ?_ | refine e_block_normal ?_ | refine g_exit ?_ | refine e_block_exit ?_ | refine e_block_exit_ne rfl ?_ | refine e_then_exit ?_ | refine e_round_exit ?_))
    refine r_append (p := fun x => x = q) (cs := []) (k := 0) (news := bytesV xs) (m := xs.length) (O := q :: O) (s1.take (by omega) (by omega)).ok rfl rfl rfl (b1.buf rfl (by decide) rfl) (by simp) (src_bytes (hb.keep s1)) (by unfold maxLen; omega) (by omega) (fun r w2 O2 s2 b2 => ?_)
    (repeat (first | refine r_pure rfl rfl ?_ | refine g_seq ?_ | refine g_region ?_ | refine r_nil ?_ | refine e_then ?_ | refine r_go rfl rfl ?_ | refine r_pass rfl rfl rfl ?_ | refine r_passu rfl rfl rfl ?_ | refine r_y (y_fieldAddr rfl) rfl ?_ | refine r_y (y_fieldAddr' rfl) rfl ?_ | refine r_y (y_len rfl) rfl ?_ | refine r_y (y_lenStr rfl) rfl ?_ | refine r_y (y_ptr_nil rfl rfl) rfl ?_ | refine r_y (y_ptr_ne_nil rfl rfl) rfl ?_ | refine r_y (y_slice_nil rfl rfl) rfl ?_ | refine r_y (y_map_nil rfl rfl) rfl ?_ | refine r_y (y_add64 rfl rfl (by omega)) rfl ?_ | refine r_y (y_sub64 rfl rfl (by omega)) rfl ?_ | refine g_true rfl ?_ | refine g_false rfl ?_ | refine g_skip ?_ | refine g_block ?_ | refine e_block_normal ?_ | refine g_exit ?_ | refine e_block_exit ?_ | refine e_block_exit_ne rfl ?_ | refine e_then_exit ?_ | refine e_round_exit ?_))
    refine g_ret ?_; (repeat (first | refine e_then_ret ?_ | refine e_block_ret ?_ | refine e_round_ret ?_)); refine ret1 (.inl rfl) rfl rfl ?_
    have s := (s1.take (q := q) (by omega) (by omega)).trans s2 (fun b hb => by simp [blk] at hb; omega)
    refine ⟨_, O, rfl, s.less (fun _ h => h) s.keep, rfl, s.size, ?_⟩
    simpa using b2.mono (fun x hx => by omega)

theorem equal_ok (hO : OK O w) {Oi Oj : List Nat} {u v : Value} {xs ys : List UInt8} (hu : Bytes Oi w u xs) (hv : Bytes Oj w v ys) :
    FnC Tryz.prog 50 [u, v] O [] w fun r O' w' => O = O' ∧ w = w' ∧ r = .bool (decide (xs = ys)) := by
  refine fn_of _ Tryz.func50 rfl (by kernel_rfl) Tryz.ntmps50 rfl ?_
  (repeat (first | refine r_pure rfl rfl ?_ | refine g_seq ?_ | refine g_region ?_ | refine r_nil ?_ | refine e_then ?_ | refine r_go rfl rfl ?_ | refine r_pass rfl rfl rfl ?_ | refine r_passu rfl rfl rfl ?_ | refine r_y (y_fieldAddr rfl) rfl ?_ | refine r_y (y_fieldAddr' rfl) rfl ?_ | refine r_y (y_len rfl) rfl ?_ | refine r_y (y_lenStr rfl) rfl ?_ | refine r_y (y_ptr_nil rfl rfl) rfl ?_ | refine r_y (y_ptr_ne_nil rfl rfl) rfl ?_ | refine r_y (y_slice_nil rfl rfl) rfl ?_ | refine r_y (y_map_nil rfl rfl) rfl ?_ | refine r_y (y_add64 rfl rfl (by omega)) rfl ?_ | refine r_y (y_sub64 rfl rfl (by omega)) rfl ?_ | refine g_true rfl ?_ | refine g_false rfl ?_ | refine g_skip ?_ | refine g_block ?_ | refine e_block_normal ?_ | refine g_exit ?_ | refine e_block_exit ?_ | refine e_block_exit_ne rfl ?_ | refine e_then_exit ?_ | refine e_round_exit ?_))
  refine r_y (y_bytes_str rfl hu) rfl ?_
  (repeat (first | refine r_pure rfl rfl ?_ | refine g_seq ?_ | refine g_region ?_ | refine r_nil ?_ | refine e_then ?_ | refine r_go rfl rfl ?_ | refine r_pass rfl rfl rfl ?_ | refine r_passu rfl rfl rfl ?_ | refine r_y (y_fieldAddr rfl) rfl ?_ | refine r_y (y_fieldAddr' rfl) rfl ?_ | refine r_y (y_len rfl) rfl ?_ | refine r_y (y_lenStr rfl) rfl ?_ | refine r_y (y_ptr_nil rfl rfl) rfl ?_ | refine r_y (y_ptr_ne_nil rfl rfl) rfl ?_ | refine r_y (y_slice_nil rfl rfl) rfl ?_ | refine r_y (y_map_nil rfl rfl) rfl ?_ | refine r_y (y_add64 rfl rfl (by omega)) rfl ?_ | refine r_y (y_sub64 rfl rfl (by omega)) rfl ?_ | refine g_true rfl ?_ | refine g_false rfl ?_ | refine g_skip ?_ | refine g_block ?_ | refine e_block_normal ?_ | refine g_exit ?_ | refine e_block_exit ?_ | refine e_block_exit_ne rfl ?_ | refine e_then_exit ?_ | refine e_round_exit ?_))
  refine r_y (y_bytes_str rfl hv) rfl ?_
  (repeat (first | refine r_pure rfl rfl ?_ | refine g_seq ?_ | refine g_region ?_ | refine r_nil ?_ | refine e_then ?_ | refine r_go rfl rfl ?_ | refine r_pass rfl rfl rfl ?_ | refine r_passu rfl rfl rfl ?_ | refine r_y (y_fieldAddr rfl) rfl ?_ | refine r_y (y_fieldAddr' rfl) rfl ?_ | refine r_y (y_len rfl) rfl ?_ | refine r_y (y_lenStr rfl) rfl ?_ | refine r_y (y_ptr_nil rfl rfl) rfl ?_ | refine r_y (y_ptr_ne_nil rfl rfl) rfl ?_ | refine r_y (y_slice_nil rfl rfl) rfl ?_ | refine r_y (y_map_nil rfl rfl) rfl ?_ | refine r_y (y_add64 rfl rfl (by omega)) rfl ?_ | refine r_y (y_sub64 rfl rfl (by omega)) rfl ?_ | refine g_true rfl ?_ | refine g_false rfl ?_ | refine g_skip ?_ | refine g_block ?_ | refine e_block_normal ?_ | refine g_exit ?_ | refine e_block_exit ?_ | refine e_block_exit_ne rfl ?_ | refine e_then_exit ?_ | refine e_round_exit ?_))
  refine g_ret ?_; (repeat (first | refine e_then_ret ?_ | refine e_block_ret ?_ | refine e_round_ret ?_)); refine ret1 (.inl rfl) rfl rfl ?_
  exact ⟨_, O, rfl, Step.refl hO, rfl, rfl, by rw [decide_eq_decide.2 (str_eq_iff xs ys)]⟩

variable {p m : Nat} {t : Tx}

theorem len_ok (hO : OK O w) (h : TxnAt O w p m t) : FnC Tryz.prog 32 [.pointer (some ⟨p, 0, none⟩)] O [] w fun r O' w' => O = O' ∧ w = w' ∧ r = .int .i64 t.was.length := by
  obtain ⟨h1, h2, ⟨lv, es, a, b, c, d⟩, h3, h4, h5⟩ := h
  obtain ⟨x, cap, rfl, _⟩ := b.form
  refine fn_of _ Tryz.func32 rfl (by kernel_rfl) Tryz.ntmps32 rfl ?_
  (repeat (first | refine r_pure rfl rfl ?_ | refine g_seq ?_ | refine g_region ?_ | refine r_nil ?_ | refine e_then ?_ | refine r_go rfl rfl ?_ | refine r_pass rfl rfl rfl ?_ | refine r_passu rfl rfl rfl ?_ | refine r_y (y_fieldAddr rfl) rfl ?_ | refine r_y (y_fieldAddr' rfl) rfl ?_ | refine r_y (y_len rfl) rfl ?_ | refine r_y (y_lenStr rfl) rfl ?_ | refine r_y (y_ptr_nil rfl rfl) rfl ?_ | refine r_y (y_ptr_ne_nil rfl rfl) rfl ?_ | refine r_y (y_slice_nil rfl rfl) rfl ?_ | refine r_y (y_map_nil rfl rfl) rfl ?_ | refine r_y (y_add64 rfl rfl (by omega)) rfl ?_ | refine r_y (y_sub64 rfl rfl (by omega)) rfl ?_ | refine g_true rfl ?_ | refine g_false rfl ?_ | refine g_skip ?_ | refine g_block ?_ | refine e_block_normal ?_ | refine g_exit ?_ | refine e_block_exit ?_ | refine e_block_exit_ne rfl ?_ | refine e_then_exit ?_ | refine e_round_exit ?_))
  refine r_y (y_load rfl (a.cell? rfl)) rfl ?_
  (repeat (first | refine r_pure rfl rfl ?_ | refine g_seq ?_ | refine g_region ?_ | refine r_nil ?_ | refine e_then ?_ | refine r_go rfl rfl ?_ | refine r_pass rfl rfl rfl ?_ | refine r_passu rfl rfl rfl ?_ | refine r_y (y_fieldAddr rfl) rfl ?_ | refine r_y (y_fieldAddr' rfl) rfl ?_ | refine r_y (y_len rfl) rfl ?_ | refine r_y (y_lenStr rfl) rfl ?_ | refine r_y (y_ptr_nil rfl rfl) rfl ?_ | refine r_y (y_ptr_ne_nil rfl rfl) rfl ?_ | refine r_y (y_slice_nil rfl rfl) rfl ?_ | refine r_y (y_map_nil rfl rfl) rfl ?_ | refine r_y (y_add64 rfl rfl (by omega)) rfl ?_ | refine r_y (y_sub64 rfl rfl (by omega)) rfl ?_ | refine g_true rfl ?_ | refine g_false rfl ?_ | refine g_skip ?_ | refine g_block ?_ | refine e_block_normal ?_ | refine g_exit ?_ | refine e_block_exit ?_ | refine e_block_exit_ne rfl ?_ | refine e_then_exit ?_ | refine e_round_exit ?_))
  refine g_ret ?_; (repeat (first | refine e_then_ret ?_ | refine e_block_ret ?_ | refine e_round_ret ?_)); refine ret1 (.inl rfl) rfl rfl ?_
  exact ⟨_, _, rfl, Step.refl hO, rfl, rfl, rfl⟩

theorem there_ok (hO : OK O w) (h : TxnAt O w p m t) (i : Int) :
    FnC Tryz.prog 42 [.pointer (some ⟨p, 0, none⟩), .int .i64 i] O [] w fun r O' w' => O = O' ∧ w = w' ∧ r = .bool (decide (0 ≤ i ∧ i < t.was.length)) := by
  obtain ⟨h1, h2, ⟨lv, es, a, b, c, d⟩, h3, h4, h5⟩ := h
  obtain ⟨x, cap, rfl, _⟩ := b.form
  refine fn_of _ Tryz.func42 rfl (by kernel_rfl) Tryz.ntmps42 rfl ?_
  (repeat (first | refine r_pure rfl rfl ?_ | refine g_seq ?_ | refine g_region ?_ | refine r_nil ?_ | refine e_then ?_ | refine r_go rfl rfl ?_ | refine r_pass rfl rfl rfl ?_ | refine r_passu rfl rfl rfl ?_ | refine r_y (y_fieldAddr rfl) rfl ?_ | refine r_y (y_fieldAddr' rfl) rfl ?_ | refine r_y (y_len rfl) rfl ?_ | refine r_y (y_lenStr rfl) rfl ?_ | refine r_y (y_ptr_nil rfl rfl) rfl ?_ | refine r_y (y_ptr_ne_nil rfl rfl) rfl ?_ | refine r_y (y_slice_nil rfl rfl) rfl ?_ | refine r_y (y_map_nil rfl rfl) rfl ?_ | refine r_y (y_add64 rfl rfl (by omega)) rfl ?_ | refine r_y (y_sub64 rfl rfl (by omega)) rfl ?_ | refine g_true rfl ?_ | refine g_false rfl ?_ | refine g_skip ?_ | refine g_block ?_ | refine e_block_normal ?_ | refine g_exit ?_ | refine e_block_exit ?_ | refine e_block_exit_ne rfl ?_ | refine e_then_exit ?_ | refine e_round_exit ?_))
  refine r_partd rfl rfl (fun h => ?_) (fun h => ?_)
  · (repeat (first | refine r_pure rfl rfl ?_ | refine g_seq ?_ | refine g_region ?_ | refine r_nil ?_ | refine e_then ?_ | refine r_go rfl rfl ?_ | refine r_pass rfl rfl rfl ?_ | refine r_passu rfl rfl rfl ?_ | refine r_y (y_fieldAddr rfl) rfl ?_ | refine r_y (y_fieldAddr' rfl) rfl ?_ | refine r_y (y_len rfl) rfl ?_ | refine r_y (y_lenStr rfl) rfl ?_ | refine r_y (y_ptr_nil rfl rfl) rfl ?_ | refine r_y (y_ptr_ne_nil rfl rfl) rfl ?_ | refine r_y (y_slice_nil rfl rfl) rfl ?_ | refine r_y (y_map_nil rfl rfl) rfl ?_ | refine r_y (y_add64 rfl rfl (by omega)) rfl ?_ | refine r_y (y_sub64 rfl rfl (by omega)) rfl ?_ | refine g_true rfl ?_ | refine g_false rfl ?_ | refine g_skip ?_ | refine g_block ?_ | refine e_block_normal ?_ | refine g_exit ?_ | refine e_block_exit ?_ | refine e_block_exit_ne rfl ?_ | refine e_then_exit ?_ | refine e_round_exit ?_))
    refine r_y (y_load rfl (a.cell? rfl)) rfl ?_
    (repeat (first | refine r_pure rfl rfl ?_ | refine g_seq ?_ | refine g_region ?_ | refine r_nil ?_ | refine e_then ?_ | refine r_go rfl rfl ?_ | refine r_pass rfl rfl rfl ?_ | refine r_passu rfl rfl rfl ?_ | refine r_y (y_fieldAddr rfl) rfl ?_ | refine r_y (y_fieldAddr' rfl) rfl ?_ | refine r_y (y_len rfl) rfl ?_ | refine r_y (y_lenStr rfl) rfl ?_ | refine r_y (y_ptr_nil rfl rfl) rfl ?_ | refine r_y (y_ptr_ne_nil rfl rfl) rfl ?_ | refine r_y (y_slice_nil rfl rfl) rfl ?_ | refine r_y (y_map_nil rfl rfl) rfl ?_ | refine r_y (y_add64 rfl rfl (by omega)) rfl ?_ | refine r_y (y_sub64 rfl rfl (by omega)) rfl ?_ | refine g_true rfl ?_ | refine g_false rfl ?_ | refine g_skip ?_ | refine g_block ?_ | refine e_block_normal ?_ | refine g_exit ?_ | refine e_block_exit ?_ | refine e_block_exit_ne rfl ?_ | refine e_then_exit ?_ | refine e_round_exit ?_))
    refine g_ret ?_; (repeat (first | refine e_then_ret ?_ | refine e_block_ret ?_ | refine e_round_ret ?_)); refine ret1 (.inl rfl) rfl rfl ?_
    exact ⟨_, _, rfl, Step.refl hO, rfl, rfl, by congr 1; simp [h]⟩
  · (repeat (first | refine r_pure rfl rfl ?_ | refine g_seq ?_ | refine g_region ?_ | refine r_nil ?_ | refine e_then ?_ | refine r_go rfl rfl ?_ | refine r_pass rfl rfl rfl ?_ | refine r_passu rfl rfl rfl ?_ | refine r_y (y_fieldAddr rfl) rfl ?_ | refine r_y (y_fieldAddr' rfl) rfl ?_ | refine r_y (y_len rfl) rfl ?_ | refine r_y (y_lenStr rfl) rfl ?_ | refine r_y (y_ptr_nil rfl rfl) rfl ?_ | refine r_y (y_ptr_ne_nil rfl rfl) rfl ?_ | refine r_y (y_slice_nil rfl rfl) rfl ?_ | refine r_y (y_map_nil rfl rfl) rfl ?_ | refine r_y (y_add64 rfl rfl (by omega)) rfl ?_ | refine r_y (y_sub64 rfl rfl (by omega)) rfl ?_ | refine g_true rfl ?_ | refine g_false rfl ?_ | refine g_skip ?_ | refine g_block ?_ | refine e_block_normal ?_ | refine g_exit ?_ | refine e_block_exit ?_ | refine e_block_exit_ne rfl ?_ | refine e_then_exit ?_ | refine e_round_exit ?_))
    refine g_ret ?_; (repeat (first | refine e_then_ret ?_ | refine e_block_ret ?_ | refine e_round_ret ?_)); refine ret1 (.inl rfl) rfl rfl ?_
    exact ⟨_, _, rfl, Step.refl hO, rfl, rfl, by congr 1; simp [h]⟩

theorem now_ok (hO : OK O w) (h : TxnAt O w p m t) {i : Nat} (hi : i < t.was.length) :
    FnC Tryz.prog 43 [.pointer (some ⟨p, 0, none⟩), .int .i64 i] O [] w fun r O' w' => O = O' ∧ w = w' ∧ Bytes O w r (t.now i) := by
  obtain ⟨h1, h2, ⟨lv, es, a, b, c, d⟩, h3, h4, h5⟩ := h
  obtain ⟨x, cap, rfl, _⟩ := b.form
  refine fn_of _ Tryz.func43 rfl (by kernel_rfl) Tryz.ntmps43 rfl ?_
  (repeat (first | refine r_pure rfl rfl ?_ | refine g_seq ?_ | refine g_region ?_ | refine r_nil ?_ | refine e_then ?_ | refine r_go rfl rfl ?_ | refine r_pass rfl rfl rfl ?_ | refine r_passu rfl rfl rfl ?_ | refine r_y (y_fieldAddr rfl) rfl ?_ | refine r_y (y_fieldAddr' rfl) rfl ?_ | refine r_y (y_len rfl) rfl ?_ | refine r_y (y_lenStr rfl) rfl ?_ | refine r_y (y_ptr_nil rfl rfl) rfl ?_ | refine r_y (y_ptr_ne_nil rfl rfl) rfl ?_ | refine r_y (y_slice_nil rfl rfl) rfl ?_ | refine r_y (y_map_nil rfl rfl) rfl ?_ | refine r_y (y_add64 rfl rfl (by omega)) rfl ?_ | refine r_y (y_sub64 rfl rfl (by omega)) rfl ?_ | refine g_true rfl ?_ | refine g_false rfl ?_ | refine g_skip ?_ | refine g_block ?_ | refine e_block_normal ?_ | refine g_exit ?_ | refine e_block_exit ?_ | refine e_block_exit_ne rfl ?_ | refine e_then_exit ?_ | refine e_round_exit ?_))
  refine r_y (y_load rfl (a.cell? rfl)) rfl ?_
  (repeat (first | refine r_pure rfl rfl ?_ | refine g_seq ?_ | refine g_region ?_ | refine r_nil ?_ | refine e_then ?_ | refine r_go rfl rfl ?_ | refine r_pass rfl rfl rfl ?_ | refine r_passu rfl rfl rfl ?_ | refine r_y (y_fieldAddr rfl) rfl ?_ | refine r_y (y_fieldAddr' rfl) rfl ?_ | refine r_y (y_len rfl) rfl ?_ | refine r_y (y_lenStr rfl) rfl ?_ | refine r_y (y_ptr_nil rfl rfl) rfl ?_ | refine r_y (y_ptr_ne_nil rfl rfl) rfl ?_ | refine r_y (y_slice_nil rfl rfl) rfl ?_ | refine r_y (y_map_nil rfl rfl) rfl ?_ | refine r_y (y_add64 rfl rfl (by omega)) rfl ?_ | refine r_y (y_sub64 rfl rfl (by omega)) rfl ?_ | refine g_true rfl ?_ | refine g_false rfl ?_ | refine g_skip ?_ | refine g_block ?_ | refine e_block_normal ?_ | refine g_exit ?_ | refine e_block_exit ?_ | refine e_block_exit_ne rfl ?_ | refine e_then_exit ?_ | refine e_round_exit ?_))
  refine r_y (y_lookup_ok rfl rfl c) rfl ?_
  (repeat (first | refine r_pure rfl rfl ?_ | refine g_seq ?_ | refine g_region ?_ | refine r_nil ?_ | refine e_then ?_ | refine r_go rfl rfl ?_ | refine r_pass rfl rfl rfl ?_ | refine r_passu rfl rfl rfl ?_ | refine r_y (y_fieldAddr rfl) rfl ?_ | refine r_y (y_fieldAddr' rfl) rfl ?_ | refine r_y (y_len rfl) rfl ?_ | refine r_y (y_lenStr rfl) rfl ?_ | refine r_y (y_ptr_nil rfl rfl) rfl ?_ | refine r_y (y_ptr_ne_nil rfl rfl) rfl ?_ | refine r_y (y_slice_nil rfl rfl) rfl ?_ | refine r_y (y_map_nil rfl rfl) rfl ?_ | refine r_y (y_add64 rfl rfl (by omega)) rfl ?_ | refine r_y (y_sub64 rfl rfl (by omega)) rfl ?_ | refine g_true rfl ?_ | refine g_false rfl ?_ | refine g_skip ?_ | refine g_block ?_ | refine e_block_normal ?_ | refine g_exit ?_ | refine e_block_exit ?_ | refine e_block_exit_ne rfl ?_ | refine e_then_exit ?_ | refine e_round_exit ?_))
  rcases d.look i with ⟨e1, e2⟩ | ⟨u, y, e1, e2, hr⟩
  · rw [e1]
    (repeat (first | refine r_pure rfl rfl ?_ | refine g_seq ?_ | refine g_region ?_ | refine r_nil ?_ | refine e_then ?_ | refine r_go rfl rfl ?_ | refine r_pass rfl rfl rfl ?_ | refine r_passu rfl rfl rfl ?_ | refine r_y (y_fieldAddr rfl) rfl ?_ | refine r_y (y_fieldAddr' rfl) rfl ?_ | refine r_y (y_len rfl) rfl ?_ | refine r_y (y_lenStr rfl) rfl ?_ | refine r_y (y_ptr_nil rfl rfl) rfl ?_ | refine r_y (y_ptr_ne_nil rfl rfl) rfl ?_ | refine r_y (y_slice_nil rfl rfl) rfl ?_ | refine r_y (y_map_nil rfl rfl) rfl ?_ | refine r_y (y_add64 rfl rfl (by omega)) rfl ?_ | refine r_y (y_sub64 rfl rfl (by omega)) rfl ?_ | refine g_true rfl ?_ | refine g_false rfl ?_ | refine g_skip ?_ | refine g_block ?_ | refine e_block_normal ?_ | refine g_exit ?_ | refine e_block_exit ?_ | refine e_block_exit_ne rfl ?_ | refine e_then_exit ?_ | refine e_round_exit ?_))
    refine r_y (y_load rfl (a.cell? rfl)) rfl ?_
    (repeat (first | refine r_pure rfl rfl ?_ | refine g_seq ?_ | refine g_region ?_ | refine r_nil ?_ | refine e_then ?_ | refine r_go rfl rfl ?_ | refine r_pass rfl rfl rfl ?_ | refine r_passu rfl rfl rfl ?_ | refine r_y (y_fieldAddr rfl) rfl ?_ | refine r_y (y_fieldAddr' rfl) rfl ?_ | refine r_y (y_len rfl) rfl ?_ | refine r_y (y_lenStr rfl) rfl ?_ | refine r_y (y_ptr_nil rfl rfl) rfl ?_ | refine r_y (y_ptr_ne_nil rfl rfl) rfl ?_ | refine r_y (y_slice_nil rfl rfl) rfl ?_ | refine r_y (y_map_nil rfl rfl) rfl ?_ | refine r_y (y_add64 rfl rfl (by omega)) rfl ?_ | refine r_y (y_sub64 rfl rfl (by omega)) rfl ?_ | refine g_true rfl ?_ | refine g_false rfl ?_ | refine g_skip ?_ | refine g_block ?_ | refine e_block_normal ?_ | refine g_exit ?_ | refine e_block_exit ?_ | refine e_block_exit_ne rfl ?_ | refine e_then_exit ?_ | refine e_round_exit ?_))
    obtain ⟨ad, u, rfl, hc, hr⟩ := b.at (List.getElem?_eq_getElem hi)
    refine r_y (y_indexAddr rfl rfl (by omega)) rfl ?_
    (repeat (first | refine r_pure rfl rfl ?_ | refine g_seq ?_ | refine g_region ?_ | refine r_nil ?_ | refine e_then ?_ | refine r_go rfl rfl ?_ | refine r_pass rfl rfl rfl ?_ | refine r_passu rfl rfl rfl ?_ | refine r_y (y_fieldAddr rfl) rfl ?_ | refine r_y (y_fieldAddr' rfl) rfl ?_ | refine r_y (y_len rfl) rfl ?_ | refine r_y (y_lenStr rfl) rfl ?_ | refine r_y (y_ptr_nil rfl rfl) rfl ?_ | refine r_y (y_ptr_ne_nil rfl rfl) rfl ?_ | refine r_y (y_slice_nil rfl rfl) rfl ?_ | refine r_y (y_map_nil rfl rfl) rfl ?_ | refine r_y (y_add64 rfl rfl (by omega)) rfl ?_ | refine r_y (y_sub64 rfl rfl (by omega)) rfl ?_ | refine g_true rfl ?_ | refine g_false rfl ?_ | refine g_skip ?_ | refine g_block ?_ | refine e_block_normal ?_ | refine g_exit ?_ | refine e_block_exit ?_ | refine e_block_exit_ne rfl ?_ | refine e_then_exit ?_ | refine e_round_exit ?_))
    refine r_y (y_load rfl (cell_at hc)) rfl ?_
    (repeat (first | refine r_pure rfl rfl ?_ | refine g_seq ?_ | refine g_region ?_ | refine r_nil ?_ | refine e_then ?_ | refine r_go rfl rfl ?_ | refine r_pass rfl rfl rfl ?_ | refine r_passu rfl rfl rfl ?_ | refine r_y (y_fieldAddr rfl) rfl ?_ | refine r_y (y_fieldAddr' rfl) rfl ?_ | refine r_y (y_len rfl) rfl ?_ | refine r_y (y_lenStr rfl) rfl ?_ | refine r_y (y_ptr_nil rfl rfl) rfl ?_ | refine r_y (y_ptr_ne_nil rfl rfl) rfl ?_ | refine r_y (y_slice_nil rfl rfl) rfl ?_ | refine r_y (y_map_nil rfl rfl) rfl ?_ | refine r_y (y_add64 rfl rfl (by omega)) rfl ?_ | refine r_y (y_sub64 rfl rfl (by omega)) rfl ?_ | refine g_true rfl ?_ | refine g_false rfl ?_ | refine g_skip ?_ | refine g_block ?_ | refine e_block_normal ?_ | refine g_exit ?_ | refine e_block_exit ?_ | refine e_block_exit_ne rfl ?_ | refine e_then_exit ?_ | refine e_round_exit ?_))
    refine g_ret ?_; (repeat (first | refine e_then_ret ?_ | refine e_block_ret ?_ | refine e_round_ret ?_)); refine ret1 (.inl rfl) rfl rfl ?_
    refine ⟨_, _, rfl, Step.refl hO, rfl, rfl, ?_⟩
    unfold Tx.now
    rw [e2, Option.getD_none, List.getD_eq_getElem?_getD, List.getElem?_eq_getElem hi]
    exact hr
  · rw [e1]
    (repeat (first | refine r_pure rfl rfl ?_ | refine g_seq ?_ | refine g_region ?_ | refine r_nil ?_ | refine e_then ?_ | refine r_go rfl rfl ?_ | refine r_pass rfl rfl rfl ?_ | refine r_passu rfl rfl rfl ?_ | refine r_y (y_fieldAddr rfl) rfl ?_ | refine r_y (y_fieldAddr' rfl) rfl ?_ | refine r_y (y_len rfl) rfl ?_ | refine r_y (y_lenStr rfl) rfl ?_ | refine r_y (y_ptr_nil rfl rfl) rfl ?_ | refine r_y (y_ptr_ne_nil rfl rfl) rfl ?_ | refine r_y (y_slice_nil rfl rfl) rfl ?_ | refine r_y (y_map_nil rfl rfl) rfl ?_ | refine r_y (y_add64 rfl rfl (by omega)) rfl ?_ | refine r_y (y_sub64 rfl rfl (by omega)) rfl ?_ | refine g_true rfl ?_ | refine g_false rfl ?_ | refine g_skip ?_ | refine g_block ?_ | refine e_block_normal ?_ | refine g_exit ?_ | refine e_block_exit ?_ | refine e_block_exit_ne rfl ?_ | refine e_then_exit ?_ | refine e_round_exit ?_))
    refine g_ret ?_; (repeat (first | refine e_then_ret ?_ | refine e_block_ret ?_ | refine e_round_ret ?_)); refine ret1 (.inl rfl) rfl rfl ?_
    refine ⟨_, _, rfl, Step.refl hO, rfl, rfl, ?_⟩
    unfold Tx.now
    rw [e2]
    exact hr

/-- What is told of a place. -/
def Tx.get (t : Tx) (i : Int) : List UInt8 := if 0 ≤ i ∧ i < t.was.length then t.now i.toNat else []

theorem get_ok (hO : OK O w) (h : TxnAt O w p m t) (i : Int) :
    FnC Tryz.prog 18 [.pointer (some ⟨p, 0, none⟩), .int .i64 i] O [] w fun r O' w' => O = O' ∧ Buf (fun q => w.heap.size ≤ q) w' 1 r (t.get i).length (bytesV (t.get i)) := by
  refine fn_of _ Tryz.func18 rfl (by kernel_rfl) Tryz.ntmps18 rfl ?_
  (repeat (first | refine r_pure rfl rfl ?_ | refine g_seq ?_ | refine g_region ?_ | refine r_nil ?_ | refine e_then ?_ | refine r_go rfl rfl ?_ | refine r_pass rfl rfl rfl ?_ | refine r_passu rfl rfl rfl ?_ | refine r_y (y_fieldAddr rfl) rfl ?_ | refine r_y (y_fieldAddr' rfl) rfl ?_ | refine r_y (y_len rfl) rfl ?_ | refine r_y (y_lenStr rfl) rfl ?_ | refine r_y (y_ptr_nil rfl rfl) rfl ?_ | refine r_y (y_ptr_ne_nil rfl rfl) rfl ?_ | refine r_y (y_slice_nil rfl rfl) rfl ?_ | refine r_y (y_map_nil rfl rfl) rfl ?_ | refine r_y (y_add64 rfl rfl (by omega)) rfl ?_ | refine r_y (y_sub64 rfl rfl (by omega)) rfl ?_ | refine g_true rfl ?_ | refine g_false rfl ?_ | refine g_skip ?_ | refine g_block ?_ | refine e_block_normal ?_ | refine g_exit ?_ | refine e_block_exit ?_ | refine e_block_exit_ne rfl ?_ | refine e_then_exit ?_ | refine e_round_exit ?_))
  refine r_call rfl rfl (there_ok hO h i) ?_
  rintro r O1 w1 s1 ⟨rfl, rfl, rfl⟩
  (repeat (first | refine r_pure rfl rfl ?_ | refine g_seq ?_ | refine g_region ?_ | refine r_nil ?_ | refine e_then ?_ | refine r_go rfl rfl ?_ | refine r_pass rfl rfl rfl ?_ | refine r_passu rfl rfl rfl ?_ | refine r_y (y_fieldAddr rfl) rfl ?_ | refine r_y (y_fieldAddr' rfl) rfl ?_ | refine r_y (y_len rfl) rfl ?_ | refine r_y (y_lenStr rfl) rfl ?_ | refine r_y (y_ptr_nil rfl rfl) rfl ?_ | refine r_y (y_ptr_ne_nil rfl rfl) rfl ?_ | refine r_y (y_slice_nil rfl rfl) rfl ?_ | refine r_y (y_map_nil rfl rfl) rfl ?_ | refine r_y (y_add64 rfl rfl (by omega)) rfl ?_ | refine r_y (y_sub64 rfl rfl (by omega)) rfl ?_ | refine g_true rfl ?_ | refine g_false rfl ?_ | refine g_skip ?_ | refine g_block ?_ | refine e_block_normal ?_ | refine g_exit ?_ | refine e_block_exit ?_ | refine e_block_exit_ne rfl ?_ | refine e_then_exit ?_ | refine e_round_exit ?_))
  refine g_ndec rfl (fun h1 => ?_) (fun h1 => ?_)
  · (repeat (first | refine r_pure rfl rfl ?_ | refine g_seq ?_ | refine g_region ?_ | refine r_nil ?_ | refine e_then ?_ | refine r_go rfl rfl ?_ | refine r_pass rfl rfl rfl ?_ | refine r_passu rfl rfl rfl ?_ | refine r_y (y_fieldAddr rfl) rfl ?_ | refine r_y (y_fieldAddr' rfl) rfl ?_ | refine r_y (y_len rfl) rfl ?_ | refine r_y (y_lenStr rfl) rfl ?_ | refine r_y (y_ptr_nil rfl rfl) rfl ?_ | refine r_y (y_ptr_ne_nil rfl rfl) rfl ?_ | refine r_y (y_slice_nil rfl rfl) rfl ?_ | refine r_y (y_map_nil rfl rfl) rfl ?_ | refine r_y (y_add64 rfl rfl (by omega)) rfl ?_ | refine r_y (y_sub64 rfl rfl (by omega)) rfl ?_ | refine g_true rfl ?_ | refine g_false rfl ?_ | refine g_skip ?_ | refine g_block ?_ | refine e_block_normal ?_ | refine g_exit ?_ | refine e_block_exit ?_ | refine e_block_exit_ne rfl ?_ | refine e_then_exit ?_ | refine e_round_exit ?_))
    refine g_ret ?_; (repeat (first | refine e_then_ret ?_ | refine e_block_ret ?_ | refine e_round_ret ?_)); refine ret1 (.inl rfl) rfl rfl ?_
    refine ⟨_, _, rfl, Step.refl hO, rfl, ?_⟩
    unfold Tx.get
    rw [if_neg h1]
    exact Buf.nil
  · (repeat (first | refine r_pure rfl rfl ?_ | refine g_seq ?_ | refine g_region ?_ | refine r_nil ?_ | refine e_then ?_ | refine r_go rfl rfl ?_ | refine r_pass rfl rfl rfl ?_ | refine r_passu rfl rfl rfl ?_ | refine r_y (y_fieldAddr rfl) rfl ?_ | refine r_y (y_fieldAddr' rfl) rfl ?_ | refine r_y (y_len rfl) rfl ?_ | refine r_y (y_lenStr rfl) rfl ?_ | refine r_y (y_ptr_nil rfl rfl) rfl ?_ | refine r_y (y_ptr_ne_nil rfl rfl) rfl ?_ | refine r_y (y_slice_nil rfl rfl) rfl ?_ | refine r_y (y_map_nil rfl rfl) rfl ?_ | refine r_y (y_add64 rfl rfl (by omega)) rfl ?_ | refine r_y (y_sub64 rfl rfl (by omega)) rfl ?_ | refine g_true rfl ?_ | refine g_false rfl ?_ | refine g_skip ?_ | refine g_block ?_ | refine e_block_normal ?_ | refine g_exit ?_ | refine e_block_exit ?_ | refine e_block_exit_ne rfl ?_ | refine e_then_exit ?_ | refine e_round_exit ?_))
    obtain ⟨k, rfl⟩ := Int.eq_ofNat_of_zero_le h1.1
    refine r_call rfl rfl (now_ok hO h (i := k) (by omega)) ?_
    rintro r O1 w1 s2 ⟨rfl, rfl, hb⟩
    (repeat (first | refine r_pure rfl rfl ?_ | refine g_seq ?_ | refine g_region ?_ | refine r_nil ?_ | refine e_then ?_ | refine r_go rfl rfl ?_ | refine r_pass rfl rfl rfl ?_ | refine r_passu rfl rfl rfl ?_ | refine r_y (y_fieldAddr rfl) rfl ?_ | refine r_y (y_fieldAddr' rfl) rfl ?_ | refine r_y (y_len rfl) rfl ?_ | refine r_y (y_lenStr rfl) rfl ?_ | refine r_y (y_ptr_nil rfl rfl) rfl ?_ | refine r_y (y_ptr_ne_nil rfl rfl) rfl ?_ | refine r_y (y_slice_nil rfl rfl) rfl ?_ | refine r_y (y_map_nil rfl rfl) rfl ?_ | refine r_y (y_add64 rfl rfl (by omega)) rfl ?_ | refine r_y (y_sub64 rfl rfl (by omega)) rfl ?_ | refine g_true rfl ?_ | refine g_false rfl ?_ | refine g_skip ?_ | refine g_block ?_ | refine e_block_normal ?_ | refine g_exit ?_ | refine e_block_exit ?_ | refine e_block_exit_ne rfl ?_ | refine e_then_exit ?_ | refine e_round_exit ?_))
    have hbig := Tx.now_big (i := k) h.big h.bigp
    refine r_call rfl rfl (clone_ok hO hb (by omega)) ?_
    rintro r O1 w1 s3 ⟨rfl, hz, hb⟩
    (repeat (first | refine r_pure rfl rfl ?_ | refine g_seq ?_ | refine g_region ?_ | refine r_nil ?_ | refine e_then ?_ | refine r_go rfl rfl ?_ | refine r_pass rfl rfl rfl ?_ | refine r_passu rfl rfl rfl ?_ | refine r_y (y_fieldAddr rfl) rfl ?_ | refine r_y (y_fieldAddr' rfl) rfl ?_ | refine r_y (y_len rfl) rfl ?_ | refine r_y (y_lenStr rfl) rfl ?_ | refine r_y (y_ptr_nil rfl rfl) rfl ?_ | refine r_y (y_ptr_ne_nil rfl rfl) rfl ?_ | refine r_y (y_slice_nil rfl rfl) rfl ?_ | refine r_y (y_map_nil rfl rfl) rfl ?_ | refine r_y (y_add64 rfl rfl (by omega)) rfl ?_ | refine r_y (y_sub64 rfl rfl (by omega)) rfl ?_ | refine g_true rfl ?_ | refine g_false rfl ?_ | refine g_skip ?_ | refine g_block ?_ | refine e_block_normal ?_ | refine g_exit ?_ | refine e_block_exit ?_ | refine e_block_exit_ne rfl ?_ | refine e_then_exit ?_ | refine e_round_exit ?_))
    refine g_ret ?_; (repeat (first | refine e_then_ret ?_ | refine e_block_ret ?_ | refine e_round_ret ?_)); refine ret1 (.inl rfl) rfl rfl ?_
    refine ⟨_, _, rfl, s3, rfl, ?_⟩
    unfold Tx.get
    rw [if_pos h1]
    exact hb

/-! ### Put -/

theorem put_none {i : Int} {v : Value} (hO : OK O w) : FnC Tryz.prog 19 [.pointer none, .int .i64 i, v] O [] w fun r O' w' => O = O' ∧ r = .int .i64 1 := by
  refine fn_of _ Tryz.func19 rfl (by kernel_rfl) Tryz.ntmps19 rfl ?_
  (repeat (first | refine r_pure rfl rfl ?_ | refine g_seq ?_ | refine g_region ?_ | refine r_nil ?_ | refine e_then ?_ | refine r_go rfl rfl ?_ | refine r_pass rfl rfl rfl ?_ | refine r_passu rfl rfl rfl ?_ | refine r_y (y_fieldAddr rfl) rfl ?_ | refine r_y (y_fieldAddr' rfl) rfl ?_ | refine r_y (y_len rfl) rfl ?_ | refine r_y (y_lenStr rfl) rfl ?_ | refine r_y (y_ptr_nil rfl rfl) rfl ?_ | refine r_y (y_ptr_ne_nil rfl rfl) rfl ?_ | refine r_y (y_slice_nil rfl rfl) rfl ?_ | refine r_y (y_map_nil rfl rfl) rfl ?_ | refine r_y (y_add64 rfl rfl (by omega)) rfl ?_ | refine r_y (y_sub64 rfl rfl (by omega)) rfl ?_ | refine g_true rfl ?_ | refine g_false rfl ?_ | refine g_skip ?_ | refine g_block ?_ | refine e_block_normal ?_ | refine g_exit ?_ | refine e_block_exit ?_ | refine e_block_exit_ne rfl ?_ | refine e_then_exit ?_ | refine e_round_exit ?_))
  refine g_ret ?_; (repeat (first | refine e_then_ret ?_ | refine e_block_ret ?_ | refine e_round_ret ?_)); refine ret1 (.inl rfl) rfl rfl ?_
  exact ⟨_, _, rfl, Step.refl hO, rfl, rfl⟩

theorem put_range (hO : OK O w) (h : TxnAt O w p m t) {i : Int} {v : Value} (hi : ¬ (0 ≤ i ∧ i < t.was.length)) :
    FnC Tryz.prog 19 [.pointer (some ⟨p, 0, none⟩), .int .i64 i, v] O [] w fun r O' w' => O = O' ∧ r = .int .i64 15 := by
  refine fn_of _ Tryz.func19 rfl (by kernel_rfl) Tryz.ntmps19 rfl ?_
  (repeat (first | refine r_pure rfl rfl ?_ | refine g_seq ?_ | refine g_region ?_ | refine r_nil ?_ | refine e_then ?_ | refine r_go rfl rfl ?_ | refine r_pass rfl rfl rfl ?_ | refine r_passu rfl rfl rfl ?_ | refine r_y (y_fieldAddr rfl) rfl ?_ | refine r_y (y_fieldAddr' rfl) rfl ?_ | refine r_y (y_len rfl) rfl ?_ | refine r_y (y_lenStr rfl) rfl ?_ | refine r_y (y_ptr_nil rfl rfl) rfl ?_ | refine r_y (y_ptr_ne_nil rfl rfl) rfl ?_ | refine r_y (y_slice_nil rfl rfl) rfl ?_ | refine r_y (y_map_nil rfl rfl) rfl ?_ | refine r_y (y_add64 rfl rfl (by omega)) rfl ?_ | refine r_y (y_sub64 rfl rfl (by omega)) rfl ?_ | refine g_true rfl ?_ | refine g_false rfl ?_ | refine g_skip ?_ | refine g_block ?_ | refine e_block_normal ?_ | refine g_exit ?_ | refine e_block_exit ?_ | refine e_block_exit_ne rfl ?_ | refine e_then_exit ?_ | refine e_round_exit ?_))
  refine r_call rfl rfl (there_ok hO h i) ?_
  rintro r O1 w1 s1 ⟨rfl, rfl, rfl⟩
  (repeat (first | refine r_pure rfl rfl ?_ | refine g_seq ?_ | refine g_region ?_ | refine r_nil ?_ | refine e_then ?_ | refine r_go rfl rfl ?_ | refine r_pass rfl rfl rfl ?_ | refine r_passu rfl rfl rfl ?_ | refine r_y (y_fieldAddr rfl) rfl ?_ | refine r_y (y_fieldAddr' rfl) rfl ?_ | refine r_y (y_len rfl) rfl ?_ | refine r_y (y_lenStr rfl) rfl ?_ | refine r_y (y_ptr_nil rfl rfl) rfl ?_ | refine r_y (y_ptr_ne_nil rfl rfl) rfl ?_ | refine r_y (y_slice_nil rfl rfl) rfl ?_ | refine r_y (y_map_nil rfl rfl) rfl ?_ | refine r_y (y_add64 rfl rfl (by omega)) rfl ?_ | refine r_y (y_sub64 rfl rfl (by omega)) rfl ?_ | refine g_true rfl ?_ | refine g_false rfl ?_ | refine g_skip ?_ | refine g_block ?_ | refine e_block_normal ?_ | refine g_exit ?_ | refine e_block_exit ?_ | refine e_block_exit_ne rfl ?_ | refine e_then_exit ?_ | refine e_round_exit ?_))
  refine g_ndec rfl (fun h1 => ?_) (fun h1 => absurd h1 hi)
  (repeat (first | refine r_pure rfl rfl ?_ | refine g_seq ?_ | refine g_region ?_ | refine r_nil ?_ | refine e_then ?_ | refine r_go rfl rfl ?_ | refine r_pass rfl rfl rfl ?_ | refine r_passu rfl rfl rfl ?_ | refine r_y (y_fieldAddr rfl) rfl ?_ | refine r_y (y_fieldAddr' rfl) rfl ?_ | refine r_y (y_len rfl) rfl ?_ | refine r_y (y_lenStr rfl) rfl ?_ | refine r_y (y_ptr_nil rfl rfl) rfl ?_ | refine r_y (y_ptr_ne_nil rfl rfl) rfl ?_ | refine r_y (y_slice_nil rfl rfl) rfl ?_ | refine r_y (y_map_nil rfl rfl) rfl ?_ | refine r_y (y_add64 rfl rfl (by omega)) rfl ?_ | refine r_y (y_sub64 rfl rfl (by omega)) rfl ?_ | refine g_true rfl ?_ | refine g_false rfl ?_ | refine g_skip ?_ | refine g_block ?_ | refine e_block_normal ?_ | refine g_exit ?_ | refine e_block_exit ?_ | refine e_block_exit_ne rfl ?_ | refine e_then_exit ?_ | refine e_round_exit ?_))
  refine g_ret ?_; (repeat (first | refine e_then_ret ?_ | refine e_block_ret ?_ | refine e_round_ret ?_)); refine ret1 (.inl rfl) rfl rfl ?_
  exact ⟨_, _, rfl, s1, rfl, rfl⟩

theorem put_big (hO : OK O w) (h : TxnAt O w p m t) {Oi : List Nat} {i : Int} {v : Value} {xs : List UInt8} (hi : 0 ≤ i ∧ i < t.was.length) (hv : Bytes Oi w v xs) (hl : 96 < xs.length) :
    FnC Tryz.prog 19 [.pointer (some ⟨p, 0, none⟩), .int .i64 i, v] O [] w fun r O' w' => O = O' ∧ r = .int .i64 13 := by
  obtain ⟨a, cap, rfl, _⟩ := hv.form
  refine fn_of _ Tryz.func19 rfl (by kernel_rfl) Tryz.ntmps19 rfl ?_
  (repeat (first | refine r_pure rfl rfl ?_ | refine g_seq ?_ | refine g_region ?_ | refine r_nil ?_ | refine e_then ?_ | refine r_go rfl rfl ?_ | refine r_pass rfl rfl rfl ?_ | refine r_passu rfl rfl rfl ?_ | refine r_y (y_fieldAddr rfl) rfl ?_ | refine r_y (y_fieldAddr' rfl) rfl ?_ | refine r_y (y_len rfl) rfl ?_ | refine r_y (y_lenStr rfl) rfl ?_ | refine r_y (y_ptr_nil rfl rfl) rfl ?_ | refine r_y (y_ptr_ne_nil rfl rfl) rfl ?_ | refine r_y (y_slice_nil rfl rfl) rfl ?_ | refine r_y (y_map_nil rfl rfl) rfl ?_ | refine r_y (y_add64 rfl rfl (by omega)) rfl ?_ | refine r_y (y_sub64 rfl rfl (by omega)) rfl ?_ | refine g_true rfl ?_ | refine g_false rfl ?_ | refine g_skip ?_ | refine g_block ?_ | refine e_block_normal ?_ | refine g_exit ?_ | refine e_block_exit ?_ | refine e_block_exit_ne rfl ?_ | refine e_then_exit ?_ | refine e_round_exit ?_))
  refine r_call rfl rfl (there_ok hO h i) ?_
  rintro r O1 w1 s1 ⟨rfl, rfl, rfl⟩
  (repeat (first | refine r_pure rfl rfl ?_ | refine g_seq ?_ | refine g_region ?_ | refine r_nil ?_ | refine e_then ?_ | refine r_go rfl rfl ?_ | refine r_pass rfl rfl rfl ?_ | refine r_passu rfl rfl rfl ?_ | refine r_y (y_fieldAddr rfl) rfl ?_ | refine r_y (y_fieldAddr' rfl) rfl ?_ | refine r_y (y_len rfl) rfl ?_ | refine r_y (y_lenStr rfl) rfl ?_ | refine r_y (y_ptr_nil rfl rfl) rfl ?_ | refine r_y (y_ptr_ne_nil rfl rfl) rfl ?_ | refine r_y (y_slice_nil rfl rfl) rfl ?_ | refine r_y (y_map_nil rfl rfl) rfl ?_ | refine r_y (y_add64 rfl rfl (by omega)) rfl ?_ | refine r_y (y_sub64 rfl rfl (by omega)) rfl ?_ | refine g_true rfl ?_ | refine g_false rfl ?_ | refine g_skip ?_ | refine g_block ?_ | refine e_block_normal ?_ | refine g_exit ?_ | refine e_block_exit ?_ | refine e_block_exit_ne rfl ?_ | refine e_then_exit ?_ | refine e_round_exit ?_))
  refine g_ndec rfl (fun h1 => absurd hi h1) (fun h1 => ?_)
  (repeat (first | refine r_pure rfl rfl ?_ | refine g_seq ?_ | refine g_region ?_ | refine r_nil ?_ | refine e_then ?_ | refine r_go rfl rfl ?_ | refine r_pass rfl rfl rfl ?_ | refine r_passu rfl rfl rfl ?_ | refine r_y (y_fieldAddr rfl) rfl ?_ | refine r_y (y_fieldAddr' rfl) rfl ?_ | refine r_y (y_len rfl) rfl ?_ | refine r_y (y_lenStr rfl) rfl ?_ | refine r_y (y_ptr_nil rfl rfl) rfl ?_ | refine r_y (y_ptr_ne_nil rfl rfl) rfl ?_ | refine r_y (y_slice_nil rfl rfl) rfl ?_ | refine r_y (y_map_nil rfl rfl) rfl ?_ | refine r_y (y_add64 rfl rfl (by omega)) rfl ?_ | refine r_y (y_sub64 rfl rfl (by omega)) rfl ?_ | refine g_true rfl ?_ | refine g_false rfl ?_ | refine g_skip ?_ | refine g_block ?_ | refine e_block_normal ?_ | refine g_exit ?_ | refine e_block_exit ?_ | refine e_block_exit_ne rfl ?_ | refine e_then_exit ?_ | refine e_round_exit ?_))
  refine g_dec rfl (fun h2 => ?_) (fun h2 => absurd h2 (by omega))
  (repeat (first | refine r_pure rfl rfl ?_ | refine g_seq ?_ | refine g_region ?_ | refine r_nil ?_ | refine e_then ?_ | refine r_go rfl rfl ?_ | refine r_pass rfl rfl rfl ?_ | refine r_passu rfl rfl rfl ?_ | refine r_y (y_fieldAddr rfl) rfl ?_ | refine r_y (y_fieldAddr' rfl) rfl ?_ | refine r_y (y_len rfl) rfl ?_ | refine r_y (y_lenStr rfl) rfl ?_ | refine r_y (y_ptr_nil rfl rfl) rfl ?_ | refine r_y (y_ptr_ne_nil rfl rfl) rfl ?_ | refine r_y (y_slice_nil rfl rfl) rfl ?_ | refine r_y (y_map_nil rfl rfl) rfl ?_ | refine r_y (y_add64 rfl rfl (by omega)) rfl ?_ | refine r_y (y_sub64 rfl rfl (by omega)) rfl ?_ | refine g_true rfl ?_ | refine g_false rfl ?_ | refine g_skip ?_ | refine g_block ?_ | refine e_block_normal ?_ | refine g_exit ?_ | refine e_block_exit ?_ | refine e_block_exit_ne rfl ?_ | refine e_then_exit ?_ | refine e_round_exit ?_))
  refine g_ret ?_; (repeat (first | refine e_then_ret ?_ | refine e_block_ret ?_ | refine e_round_ret ?_)); refine ret1 (.inl rfl) rfl rfl ?_
  exact ⟨_, _, rfl, s1, rfl, rfl⟩

def Tx.set (t : Tx) (i : Int) (xs : List UInt8) : Tx := ⟨t.was, updI t.put i xs⟩

theorem put_yes (hO : OK O w) (h : TxnAt O w p m t) {Oi : List Nat} {i : Int} {v : Value} {xs : List UInt8} (hi : 0 ≤ i ∧ i < t.was.length) (hv : Bytes Oi w v xs) (hl : xs.length ≤ 96) :
    FnC Tryz.prog 19 [.pointer (some ⟨p, 0, none⟩), .int .i64 i, v] O [m] w fun r O' w' => O = O' ∧ r = .int .i64 0 ∧ TxnAt O w' p m (t.set i xs) := by
  obtain ⟨a, cap, rfl, _⟩ := hv.form
  refine fn_of _ Tryz.func19 rfl (by kernel_rfl) Tryz.ntmps19 rfl ?_
  (repeat (first | refine r_pure rfl rfl ?_ | refine g_seq ?_ | refine g_region ?_ | refine r_nil ?_ | refine e_then ?_ | refine r_go rfl rfl ?_ | refine r_pass rfl rfl rfl ?_ | refine r_passu rfl rfl rfl ?_ | refine r_y (y_fieldAddr rfl) rfl ?_ | refine r_y (y_fieldAddr' rfl) rfl ?_ | refine r_y (y_len rfl) rfl ?_ | refine r_y (y_lenStr rfl) rfl ?_ | refine r_y (y_ptr_nil rfl rfl) rfl ?_ | refine r_y (y_ptr_ne_nil rfl rfl) rfl ?_ | refine r_y (y_slice_nil rfl rfl) rfl ?_ | refine r_y (y_map_nil rfl rfl) rfl ?_ | refine r_y (y_add64 rfl rfl (by omega)) rfl ?_ | refine r_y (y_sub64 rfl rfl (by omega)) rfl ?_ | refine g_true rfl ?_ | refine g_false rfl ?_ | refine g_skip ?_ | refine g_block ?_ | refine e_block_normal ?_ | refine g_exit ?_ | refine e_block_exit ?_ | refine e_block_exit_ne rfl ?_ | refine e_then_exit ?_ | refine e_round_exit ?_))
  refine r_call rfl rfl (there_ok hO h i) ?_
  rintro r O1 w1 s1 ⟨rfl, rfl, rfl⟩
  (repeat (first | refine r_pure rfl rfl ?_ | refine g_seq ?_ | refine g_region ?_ | refine r_nil ?_ | refine e_then ?_ | refine r_go rfl rfl ?_ | refine r_pass rfl rfl rfl ?_ | refine r_passu rfl rfl rfl ?_ | refine r_y (y_fieldAddr rfl) rfl ?_ | refine r_y (y_fieldAddr' rfl) rfl ?_ | refine r_y (y_len rfl) rfl ?_ | refine r_y (y_lenStr rfl) rfl ?_ | refine r_y (y_ptr_nil rfl rfl) rfl ?_ | refine r_y (y_ptr_ne_nil rfl rfl) rfl ?_ | refine r_y (y_slice_nil rfl rfl) rfl ?_ | refine r_y (y_map_nil rfl rfl) rfl ?_ | refine r_y (y_add64 rfl rfl (by omega)) rfl ?_ | refine r_y (y_sub64 rfl rfl (by omega)) rfl ?_ | refine g_true rfl ?_ | refine g_false rfl ?_ | refine g_skip ?_ | refine g_block ?_ | refine e_block_normal ?_ | refine g_exit ?_ | refine e_block_exit ?_ | refine e_block_exit_ne rfl ?_ | refine e_then_exit ?_ | refine e_round_exit ?_))
  refine g_ndec rfl (fun h1 => absurd hi h1) (fun h1 => ?_)
  (repeat (first | refine r_pure rfl rfl ?_ | refine g_seq ?_ | refine g_region ?_ | refine r_nil ?_ | refine e_then ?_ | refine r_go rfl rfl ?_ | refine r_pass rfl rfl rfl ?_ | refine r_passu rfl rfl rfl ?_ | refine r_y (y_fieldAddr rfl) rfl ?_ | refine r_y (y_fieldAddr' rfl) rfl ?_ | refine r_y (y_len rfl) rfl ?_ | refine r_y (y_lenStr rfl) rfl ?_ | refine r_y (y_ptr_nil rfl rfl) rfl ?_ | refine r_y (y_ptr_ne_nil rfl rfl) rfl ?_ | refine r_y (y_slice_nil rfl rfl) rfl ?_ | refine r_y (y_map_nil rfl rfl) rfl ?_ | refine r_y (y_add64 rfl rfl (by omega)) rfl ?_ | refine r_y (y_sub64 rfl rfl (by omega)) rfl ?_ | refine g_true rfl ?_ | refine g_false rfl ?_ | refine g_skip ?_ | refine g_block ?_ | refine e_block_normal ?_ | refine g_exit ?_ | refine e_block_exit ?_ | refine e_block_exit_ne rfl ?_ | refine e_then_exit ?_ | refine e_round_exit ?_))
  refine g_dec rfl (fun h2 => absurd h2 (by omega)) (fun h2 => ?_)
  (repeat (first | refine r_pure rfl rfl ?_ | refine g_seq ?_ | refine g_region ?_ | refine r_nil ?_ | refine e_then ?_ | refine r_go rfl rfl ?_ | refine r_pass rfl rfl rfl ?_ | refine r_passu rfl rfl rfl ?_ | refine r_y (y_fieldAddr rfl) rfl ?_ | refine r_y (y_fieldAddr' rfl) rfl ?_ | refine r_y (y_len rfl) rfl ?_ | refine r_y (y_lenStr rfl) rfl ?_ | refine r_y (y_ptr_nil rfl rfl) rfl ?_ | refine r_y (y_ptr_ne_nil rfl rfl) rfl ?_ | refine r_y (y_slice_nil rfl rfl) rfl ?_ | refine r_y (y_map_nil rfl rfl) rfl ?_ | refine r_y (y_add64 rfl rfl (by omega)) rfl ?_ | refine r_y (y_sub64 rfl rfl (by omega)) rfl ?_ | refine g_true rfl ?_ | refine g_false rfl ?_ | refine g_skip ?_ | refine g_block ?_ | refine e_block_normal ?_ | refine g_exit ?_ | refine e_block_exit ?_ | refine e_block_exit_ne rfl ?_ | refine e_then_exit ?_ | refine e_round_exit ?_))
  have hne := h.ne
  obtain ⟨h1, h2, ⟨lv, es, ha, hb, hc, hd⟩, h3, h4, h5⟩ := h
  refine g_draw (fun w' => w'.cell? ⟨p, 1, none⟩ = some (.map (some m))) [7] [(0, true), (1, true), (2, true), (3, true), (4, true), (5, true), (6, false), (7, false)] (by kernel_rfl) (by kernel_rfl) ?_
  have s0 : Step [] O O w w.drew := step_drew hO
  have hS : w.drew.cell? ⟨p, 0 + 1, none⟩ = some (.map (some m)) := s0.cell? (ha.cell? rfl) (by simp)
  (repeat (first | refine rd_y rfl rfl (fun _ _ => y_pure rfl) hS ?_ | refine rd_y rfl rfl (fun _ _ => y_fieldAddr rfl) hS ?_ | refine rd_y rfl rfl (fun _ _ => y_fieldAddr' rfl) hS ?_ | refine rd_y rfl rfl (fun _ _ => y_len rfl) hS ?_ | refine rd_y rfl rfl (fun _ _ => y_lenStr rfl) hS ?_ | refine rd_y rfl rfl (fun _ _ => y_ptr_nil rfl rfl) hS ?_ | refine rd_y rfl rfl (fun _ _ => y_ptr_ne_nil rfl rfl) hS ?_ | refine rd_y rfl rfl (fun _ _ => y_slice_nil rfl rfl) hS ?_ | refine rd_y rfl rfl (fun _ _ => y_map_nil rfl rfl) hS ?_ | refine rd_y rfl rfl (fun _ _ => y_add64 rfl rfl (by omega)) hS ?_ | refine rd_y rfl rfl (fun _ _ => y_sub64 rfl rfl (by omega)) hS ?_ | refine rd_pass rfl rfl rfl rfl hS ?_ | refine rd_passu rfl rfl rfl rfl hS ?_ | refine rd_go rfl rfl rfl rfl (fun _ _ => y_pure rfl) hS ?_ | refine rd_go rfl rfl rfl rfl (fun _ _ => y_fieldAddr rfl) hS ?_ | refine rd_go rfl rfl rfl rfl (fun _ _ => y_fieldAddr' rfl) hS ?_ | refine rd_go rfl rfl rfl rfl (fun _ _ => y_len rfl) hS ?_ | refine rd_go rfl rfl rfl rfl (fun _ _ => y_lenStr rfl) hS ?_ | refine rd_go rfl rfl rfl rfl (fun _ _ => y_ptr_nil rfl rfl) hS ?_ | refine rd_go rfl rfl rfl rfl (fun _ _ => y_ptr_ne_nil rfl rfl) hS ?_ | refine rd_go rfl rfl rfl rfl (fun _ _ => y_slice_nil rfl rfl) hS ?_ | refine rd_go rfl rfl rfl rfl (fun _ _ => y_map_nil rfl rfl) hS ?_ | refine rd_go rfl rfl rfl rfl (fun _ _ => y_add64 rfl rfl (by omega)) hS ?_ | refine rd_go rfl rfl rfl rfl (fun _ _ => y_sub64 rfl rfl (by omega)) hS ?_))
  refine rd_y rfl rfl (fun _ h => y_load rfl h) hS ?_
  (repeat (first | refine rd_y rfl rfl (fun _ _ => y_pure rfl) hS ?_ | refine rd_y rfl rfl (fun _ _ => y_fieldAddr rfl) hS ?_ | refine rd_y rfl rfl (fun _ _ => y_fieldAddr' rfl) hS ?_ | refine rd_y rfl rfl (fun _ _ => y_len rfl) hS ?_ | refine rd_y rfl rfl (fun _ _ => y_lenStr rfl) hS ?_ | refine rd_y rfl rfl (fun _ _ => y_ptr_nil rfl rfl) hS ?_ | refine rd_y rfl rfl (fun _ _ => y_ptr_ne_nil rfl rfl) hS ?_ | refine rd_y rfl rfl (fun _ _ => y_slice_nil rfl rfl) hS ?_ | refine rd_y rfl rfl (fun _ _ => y_map_nil rfl rfl) hS ?_ | refine rd_y rfl rfl (fun _ _ => y_add64 rfl rfl (by omega)) hS ?_ | refine rd_y rfl rfl (fun _ _ => y_sub64 rfl rfl (by omega)) hS ?_ | refine rd_pass rfl rfl rfl rfl hS ?_ | refine rd_passu rfl rfl rfl rfl hS ?_ | refine rd_go rfl rfl rfl rfl (fun _ _ => y_pure rfl) hS ?_ | refine rd_go rfl rfl rfl rfl (fun _ _ => y_fieldAddr rfl) hS ?_ | refine rd_go rfl rfl rfl rfl (fun _ _ => y_fieldAddr' rfl) hS ?_ | refine rd_go rfl rfl rfl rfl (fun _ _ => y_len rfl) hS ?_ | refine rd_go rfl rfl rfl rfl (fun _ _ => y_lenStr rfl) hS ?_ | refine rd_go rfl rfl rfl rfl (fun _ _ => y_ptr_nil rfl rfl) hS ?_ | refine rd_go rfl rfl rfl rfl (fun _ _ => y_ptr_ne_nil rfl rfl) hS ?_ | refine rd_go rfl rfl rfl rfl (fun _ _ => y_slice_nil rfl rfl) hS ?_ | refine rd_go rfl rfl rfl rfl (fun _ _ => y_map_nil rfl rfl) hS ?_ | refine rd_go rfl rfl rfl rfl (fun _ _ => y_add64 rfl rfl (by omega)) hS ?_ | refine rd_go rfl rfl rfl rfl (fun _ _ => y_sub64 rfl rfl (by omega)) hS ?_))
  refine rd_do rfl ?_
  refine r_call rfl rfl (clone_ok s0.ok (hv.keep s0) (by omega)) ?_
  rintro r O1 w1 s1 ⟨rfl, hz, hr⟩
  refine r_nil ?_
  have s01 := s0.trans0 s1
  refine e_after (fun _ => s1.cell? hS (by simp)) ?_
  refine rd_do rfl ?_
  refine r_mapUpdate s1.ok rfl rfl rfl rfl (hc.step s01 (by simp)) h2 (fun w2 s2 hc2 => ?_)
  refine r_nil ?_
  refine e_after (fun h => by cases h) ?_
  refine rd_done ?_
  (repeat (first | refine r_pure rfl rfl ?_ | refine g_seq ?_ | refine g_region ?_ | refine r_nil ?_ | refine e_then ?_ | refine r_go rfl rfl ?_ | refine r_pass rfl rfl rfl ?_ | refine r_passu rfl rfl rfl ?_ | refine r_y (y_fieldAddr rfl) rfl ?_ | refine r_y (y_fieldAddr' rfl) rfl ?_ | refine r_y (y_len rfl) rfl ?_ | refine r_y (y_lenStr rfl) rfl ?_ | refine r_y (y_ptr_nil rfl rfl) rfl ?_ | refine r_y (y_ptr_ne_nil rfl rfl) rfl ?_ | refine r_y (y_slice_nil rfl rfl) rfl ?_ | refine r_y (y_map_nil rfl rfl) rfl ?_ | refine r_y (y_add64 rfl rfl (by omega)) rfl ?_ | refine r_y (y_sub64 rfl rfl (by omega)) rfl ?_ | refine g_true rfl ?_ | refine g_false rfl ?_ | refine g_skip ?_ | refine g_block ?_ | refine e_block_normal ?_ | refine g_exit ?_ | refine e_block_exit ?_ | refine e_block_exit_ne rfl ?_ | refine e_then_exit ?_ | refine e_round_exit ?_))
  refine g_ret ?_; (repeat (first | refine e_then_ret ?_ | refine e_block_ret ?_ | refine e_round_ret ?_)); refine ret1 (.inl rfl) rfl rfl ?_
  have s02 := (s01.more (M' := [m]) (fun _ h => by cases h) (fun b hb => by simp at hb; subst hb; exact h2)).trans s2 (fun b hb => .inl hb)
  refine ⟨_, _, rfl, s02, rfl, rfl, h1, h2, ⟨lv, _, ha.step s02 (by simp [hne]), hb.step s02, hc2, ?_⟩, h3, h4, ?_⟩
  · refine All2.upd (hd.mono fun _ _ h => ⟨h.1, h.2.step s02⟩) _ _ _ ?_
    exact Bytes.step (Sl.bytes (hr.sl (fun q hq => fresh_nin hO hq))) s2
  · intro j b hb
    simp only [Tx.set, lookI_upd] at hb
    split at hb
    · simp only [Option.some.injEq] at hb; subst hb; omega
    · exact h5 _ _ hb

/-! ### New -/

theorem new_ok (hO : OK O w) {Oi : List Nat} {v : Value} {l : List (List UInt8)} (hv : BytesL Oi w v l) (hl : l.length ≤ 2000000) (hb : ∀ b, b ∈ l → b.length ≤ 2000000) :
    FnC Tryz.prog 10 [v] O [] w fun r O' w' => ∃ p m, r = .pointer (some ⟨p, 0, none⟩) ∧ O' = m :: p :: O ∧ w.heap.size ≤ p ∧ w.heap.size ≤ m ∧ w.heap.size ≤ w'.heap.size ∧ TxnAt O' w' p m ⟨l, []⟩ := by
  obtain ⟨a, cap, rfl, _⟩ := hv.form
  refine fn_of _ Tryz.func10 rfl (by kernel_rfl) Tryz.ntmps10 rfl ?_
  (repeat (first | refine r_pure rfl rfl ?_ | refine g_seq ?_ | refine g_region ?_ | refine r_nil ?_ | refine e_then ?_ | refine r_go rfl rfl ?_ | refine r_pass rfl rfl rfl ?_ | refine r_passu rfl rfl rfl ?_ | refine r_y (y_fieldAddr rfl) rfl ?_ | refine r_y (y_fieldAddr' rfl) rfl ?_ | refine r_y (y_len rfl) rfl ?_ | refine r_y (y_lenStr rfl) rfl ?_ | refine r_y (y_ptr_nil rfl rfl) rfl ?_ | refine r_y (y_ptr_ne_nil rfl rfl) rfl ?_ | refine r_y (y_slice_nil rfl rfl) rfl ?_ | refine r_y (y_map_nil rfl rfl) rfl ?_ | refine r_y (y_add64 rfl rfl (by omega)) rfl ?_ | refine r_y (y_sub64 rfl rfl (by omega)) rfl ?_ | refine g_true rfl ?_ | refine g_false rfl ?_ | refine g_skip ?_ | refine g_block ?_ | refine e_block_normal ?_ | refine g_exit ?_ | refine e_block_exit ?_ | refine e_block_exit_ne rfl ?_ | refine e_then_exit ?_ | refine e_round_exit ?_))
  refine r_makeMap .i64 hO rfl (fun m w1 hm s1 z1 hm1 => ?_)
  refine r_y (y_build (cs := [_, _]) rfl rfl) rfl ?_
  have s1' := s1.take (q := m) (by omega) (by omega)
  refine r_boxN s1'.ok rfl rfl (fun p w2 hp s2 z2 hc2 => ?_)
  have s2' := s2.take (q := p) (by omega) (by omega)
  have s12 := s1'.trans0 s2'
  (repeat (first | refine r_pure rfl rfl ?_ | refine g_seq ?_ | refine g_region ?_ | refine r_nil ?_ | refine e_then ?_ | refine r_go rfl rfl ?_ | refine r_pass rfl rfl rfl ?_ | refine r_passu rfl rfl rfl ?_ | refine r_y (y_fieldAddr rfl) rfl ?_ | refine r_y (y_fieldAddr' rfl) rfl ?_ | refine r_y (y_len rfl) rfl ?_ | refine r_y (y_lenStr rfl) rfl ?_ | refine r_y (y_ptr_nil rfl rfl) rfl ?_ | refine r_y (y_ptr_ne_nil rfl rfl) rfl ?_ | refine r_y (y_slice_nil rfl rfl) rfl ?_ | refine r_y (y_map_nil rfl rfl) rfl ?_ | refine r_y (y_add64 rfl rfl (by omega)) rfl ?_ | refine r_y (y_sub64 rfl rfl (by omega)) rfl ?_ | refine g_true rfl ?_ | refine g_false rfl ?_ | refine g_skip ?_ | refine g_block ?_ | refine e_block_normal ?_ | refine g_exit ?_ | refine e_block_exit ?_ | refine e_block_exit_ne rfl ?_ | refine e_then_exit ?_ | refine e_round_exit ?_))
  refine g_loop (X := Nat) (fun k => [(3, .pointer (some ⟨p, 0, none⟩)), (9, .slice a l.length cap), (10, .int .i64 l.length), (11, .int .i64 k)])
    (fun k wr => ∃ lv O1 vs, Step [] O O1 w wr ∧ p ∈ O1 ∧ m ∈ O1 ∧ CB wr p [lv, .map (some m)] ∧ MapI wr m .i64 [] ∧ Buf (fun q => q ∈ O1 ∧ w.heap.size ≤ q ∧ q ≠ p ∧ q ≠ m) wr 1 lv k vs ∧ All2 (Bytes O1 wr) vs (l.take k) ∧ k ≤ l.length)
    (fun k => l.length - k) 0 (sub_cons rfl rfl (sub_cons rfl rfl (sub_cons rfl rfl (sub_cons rfl rfl (sub_nil))))) ⟨.slice none 0 0, _, [], s12, by simp, by simp, hc2, hm1.step s2 (by simp), Buf.nil, trivial, by omega⟩ ?_
  rintro k wr ⟨lv, O1, vs, sr, hp1, hm1', hcb, hmp, hbuf, hall, hk⟩
  (repeat (first | refine r_pure rfl rfl ?_ | refine g_seq ?_ | refine g_region ?_ | refine r_nil ?_ | refine e_then ?_ | refine r_go rfl rfl ?_ | refine r_pass rfl rfl rfl ?_ | refine r_passu rfl rfl rfl ?_ | refine r_y (y_fieldAddr rfl) rfl ?_ | refine r_y (y_fieldAddr' rfl) rfl ?_ | refine r_y (y_len rfl) rfl ?_ | refine r_y (y_lenStr rfl) rfl ?_ | refine r_y (y_ptr_nil rfl rfl) rfl ?_ | refine r_y (y_ptr_ne_nil rfl rfl) rfl ?_ | refine r_y (y_slice_nil rfl rfl) rfl ?_ | refine r_y (y_map_nil rfl rfl) rfl ?_ | refine r_y (y_add64 rfl rfl (by omega)) rfl ?_ | refine r_y (y_sub64 rfl rfl (by omega)) rfl ?_ | refine g_true rfl ?_ | refine g_false rfl ?_ | refine g_skip ?_ | refine g_block ?_ | refine e_block_normal ?_ | refine g_exit ?_ | refine e_block_exit ?_ | refine e_block_exit_ne rfl ?_ | refine e_then_exit ?_ | refine e_round_exit ?_))
  refine g_dec rfl (fun h => ?_) (fun h => ?_)
  · have hk' : k < l.length := by omega
    obtain ⟨x, u, rfl, hcu, hbu⟩ := (hv.keep sr).at (List.getElem?_eq_getElem hk')
    (repeat (first | refine r_pure rfl rfl ?_ | refine g_seq ?_ | refine g_region ?_ | refine r_nil ?_ | refine e_then ?_ | refine r_go rfl rfl ?_ | refine r_pass rfl rfl rfl ?_ | refine r_passu rfl rfl rfl ?_ | refine r_y (y_fieldAddr rfl) rfl ?_ | refine r_y (y_fieldAddr' rfl) rfl ?_ | refine r_y (y_len rfl) rfl ?_ | refine r_y (y_lenStr rfl) rfl ?_ | refine r_y (y_ptr_nil rfl rfl) rfl ?_ | refine r_y (y_ptr_ne_nil rfl rfl) rfl ?_ | refine r_y (y_slice_nil rfl rfl) rfl ?_ | refine r_y (y_map_nil rfl rfl) rfl ?_ | refine r_y (y_add64 rfl rfl (by omega)) rfl ?_ | refine r_y (y_sub64 rfl rfl (by omega)) rfl ?_ | refine g_true rfl ?_ | refine g_false rfl ?_ | refine g_skip ?_ | refine g_block ?_ | refine e_block_normal ?_ | refine g_exit ?_ | refine e_block_exit ?_ | refine e_block_exit_ne rfl ?_ | refine e_then_exit ?_ | refine e_round_exit ?_))
    refine r_y (y_indexAddr rfl rfl (by omega)) rfl ?_
    refine r_y (y_load rfl (cell_at hcu)) rfl ?_
    (repeat (first | refine r_pure rfl rfl ?_ | refine g_seq ?_ | refine g_region ?_ | refine r_nil ?_ | refine e_then ?_ | refine r_go rfl rfl ?_ | refine r_pass rfl rfl rfl ?_ | refine r_passu rfl rfl rfl ?_ | refine r_y (y_fieldAddr rfl) rfl ?_ | refine r_y (y_fieldAddr' rfl) rfl ?_ | refine r_y (y_len rfl) rfl ?_ | refine r_y (y_lenStr rfl) rfl ?_ | refine r_y (y_ptr_nil rfl rfl) rfl ?_ | refine r_y (y_ptr_ne_nil rfl rfl) rfl ?_ | refine r_y (y_slice_nil rfl rfl) rfl ?_ | refine r_y (y_map_nil rfl rfl) rfl ?_ | refine r_y (y_add64 rfl rfl (by omega)) rfl ?_ | refine r_y (y_sub64 rfl rfl (by omega)) rfl ?_ | refine g_true rfl ?_ | refine g_false rfl ?_ | refine g_skip ?_ | refine g_block ?_ | refine e_block_normal ?_ | refine g_exit ?_ | refine e_block_exit ?_ | refine e_block_exit_ne rfl ?_ | refine e_then_exit ?_ | refine e_round_exit ?_))
    refine g_draw (fun w' => w'.cell? ⟨p, 0, none⟩ = some lv) [11] [(0, true), (1, true), (2, true), (3, true), (4, true), (5, true), (6, false), (7, false), (8, false), (9, true), (10, true), (11, false)] (by kernel_rfl) (by kernel_rfl) ?_
    have s0 : Step [] O1 O1 wr wr.drew := step_drew sr.ok
    have hS : wr.drew.cell? ⟨p, 0 + 0, none⟩ = some lv := s0.cell? (hcb.cell? rfl) (by simp)
    (repeat (first | refine rd_y rfl rfl (fun _ _ => y_pure rfl) hS ?_ | refine rd_y rfl rfl (fun _ _ => y_fieldAddr rfl) hS ?_ | refine rd_y rfl rfl (fun _ _ => y_fieldAddr' rfl) hS ?_ | refine rd_y rfl rfl (fun _ _ => y_len rfl) hS ?_ | refine rd_y rfl rfl (fun _ _ => y_lenStr rfl) hS ?_ | refine rd_y rfl rfl (fun _ _ => y_ptr_nil rfl rfl) hS ?_ | refine rd_y rfl rfl (fun _ _ => y_ptr_ne_nil rfl rfl) hS ?_ | refine rd_y rfl rfl (fun _ _ => y_slice_nil rfl rfl) hS ?_ | refine rd_y rfl rfl (fun _ _ => y_map_nil rfl rfl) hS ?_ | refine rd_y rfl rfl (fun _ _ => y_add64 rfl rfl (by omega)) hS ?_ | refine rd_y rfl rfl (fun _ _ => y_sub64 rfl rfl (by omega)) hS ?_ | refine rd_pass rfl rfl rfl rfl hS ?_ | refine rd_passu rfl rfl rfl rfl hS ?_ | refine rd_go rfl rfl rfl rfl (fun _ _ => y_pure rfl) hS ?_ | refine rd_go rfl rfl rfl rfl (fun _ _ => y_fieldAddr rfl) hS ?_ | refine rd_go rfl rfl rfl rfl (fun _ _ => y_fieldAddr' rfl) hS ?_ | refine rd_go rfl rfl rfl rfl (fun _ _ => y_len rfl) hS ?_ | refine rd_go rfl rfl rfl rfl (fun _ _ => y_lenStr rfl) hS ?_ | refine rd_go rfl rfl rfl rfl (fun _ _ => y_ptr_nil rfl rfl) hS ?_ | refine rd_go rfl rfl rfl rfl (fun _ _ => y_ptr_ne_nil rfl rfl) hS ?_ | refine rd_go rfl rfl rfl rfl (fun _ _ => y_slice_nil rfl rfl) hS ?_ | refine rd_go rfl rfl rfl rfl (fun _ _ => y_map_nil rfl rfl) hS ?_ | refine rd_go rfl rfl rfl rfl (fun _ _ => y_add64 rfl rfl (by omega)) hS ?_ | refine rd_go rfl rfl rfl rfl (fun _ _ => y_sub64 rfl rfl (by omega)) hS ?_))
    refine rd_y rfl rfl (fun _ h => y_load rfl h) hS ?_
    (repeat (first | refine rd_y rfl rfl (fun _ _ => y_pure rfl) hS ?_ | refine rd_y rfl rfl (fun _ _ => y_fieldAddr rfl) hS ?_ | refine rd_y rfl rfl (fun _ _ => y_fieldAddr' rfl) hS ?_ | refine rd_y rfl rfl (fun _ _ => y_len rfl) hS ?_ | refine rd_y rfl rfl (fun _ _ => y_lenStr rfl) hS ?_ | refine rd_y rfl rfl (fun _ _ => y_ptr_nil rfl rfl) hS ?_ | refine rd_y rfl rfl (fun _ _ => y_ptr_ne_nil rfl rfl) hS ?_ | refine rd_y rfl rfl (fun _ _ => y_slice_nil rfl rfl) hS ?_ | refine rd_y rfl rfl (fun _ _ => y_map_nil rfl rfl) hS ?_ | refine rd_y rfl rfl (fun _ _ => y_add64 rfl rfl (by omega)) hS ?_ | refine rd_y rfl rfl (fun _ _ => y_sub64 rfl rfl (by omega)) hS ?_ | refine rd_pass rfl rfl rfl rfl hS ?_ | refine rd_passu rfl rfl rfl rfl hS ?_ | refine rd_go rfl rfl rfl rfl (fun _ _ => y_pure rfl) hS ?_ | refine rd_go rfl rfl rfl rfl (fun _ _ => y_fieldAddr rfl) hS ?_ | refine rd_go rfl rfl rfl rfl (fun _ _ => y_fieldAddr' rfl) hS ?_ | refine rd_go rfl rfl rfl rfl (fun _ _ => y_len rfl) hS ?_ | refine rd_go rfl rfl rfl rfl (fun _ _ => y_lenStr rfl) hS ?_ | refine rd_go rfl rfl rfl rfl (fun _ _ => y_ptr_nil rfl rfl) hS ?_ | refine rd_go rfl rfl rfl rfl (fun _ _ => y_ptr_ne_nil rfl rfl) hS ?_ | refine rd_go rfl rfl rfl rfl (fun _ _ => y_slice_nil rfl rfl) hS ?_ | refine rd_go rfl rfl rfl rfl (fun _ _ => y_map_nil rfl rfl) hS ?_ | refine rd_go rfl rfl rfl rfl (fun _ _ => y_add64 rfl rfl (by omega)) hS ?_ | refine rd_go rfl rfl rfl rfl (fun _ _ => y_sub64 rfl rfl (by omega)) hS ?_))
    refine rd_do rfl ?_
    have hbig := hb _ (List.getElem_mem hk')
    refine r_call rfl rfl (clone_ok s0.ok (hbu.keep s0) (by omega)) ?_
    rintro r O2 w3 s3 ⟨rfl, hz, hr⟩
    refine r_nil ?_
    refine e_after (fun _ => s3.cell? hS (by simp)) ?_
    have hS3 := s3.cell? hS (by simp)
    have hr' : Bytes O1 w3 r l[k] := Sl.bytes (hr.sl (fun q hq => fresh_nin s0.ok hq))
    obtain ⟨ra, rc, rfl, _⟩ := hr'.form
    refine rd_do rfl ?_
    refine r_buildSlice (cs := [_]) s3.ok rfl rfl rfl rfl (fun q1 w4 hq s4 z4 hb4 => ?_)
    refine r_nil ?_
    have hS4 := s4.cell? hS3 (by simp)
    refine e_after (fun _ => hS4) ?_
    refine rd_do rfl ?_
    have s04 := (s0.trans0 s3).trans0 s4
    refine r_append (p := fun q => q ∈ O1 ∧ w.heap.size ≤ q ∧ q ≠ p ∧ q ≠ m) s4.ok rfl rfl rfl (hbuf.step s04 (by simp)) (fun q hq => hq.1)
      (src_cb (rest := []) (m := 1) (by simpa using hb4) rfl (by simp [Value.oneCell'])) (by unfold maxLen; omega) (by omega) (fun lv' w5 O5 s5 hbuf5 => ?_)
    refine r_nil ?_
    have hpn : p ∉ blk lv := fun hq => (hbuf.blk p hq).2.2.1 rfl
    have hS := s5.cell? hS4 hpn
    refine e_after (fun _ => hS) ?_
    (repeat (first | refine rd_y rfl rfl (fun _ _ => y_pure rfl) hS ?_ | refine rd_y rfl rfl (fun _ _ => y_fieldAddr rfl) hS ?_ | refine rd_y rfl rfl (fun _ _ => y_fieldAddr' rfl) hS ?_ | refine rd_y rfl rfl (fun _ _ => y_len rfl) hS ?_ | refine rd_y rfl rfl (fun _ _ => y_lenStr rfl) hS ?_ | refine rd_y rfl rfl (fun _ _ => y_ptr_nil rfl rfl) hS ?_ | refine rd_y rfl rfl (fun _ _ => y_ptr_ne_nil rfl rfl) hS ?_ | refine rd_y rfl rfl (fun _ _ => y_slice_nil rfl rfl) hS ?_ | refine rd_y rfl rfl (fun _ _ => y_map_nil rfl rfl) hS ?_ | refine rd_y rfl rfl (fun _ _ => y_add64 rfl rfl (by omega)) hS ?_ | refine rd_y rfl rfl (fun _ _ => y_sub64 rfl rfl (by omega)) hS ?_ | refine rd_pass rfl rfl rfl rfl hS ?_ | refine rd_passu rfl rfl rfl rfl hS ?_ | refine rd_go rfl rfl rfl rfl (fun _ _ => y_pure rfl) hS ?_ | refine rd_go rfl rfl rfl rfl (fun _ _ => y_fieldAddr rfl) hS ?_ | refine rd_go rfl rfl rfl rfl (fun _ _ => y_fieldAddr' rfl) hS ?_ | refine rd_go rfl rfl rfl rfl (fun _ _ => y_len rfl) hS ?_ | refine rd_go rfl rfl rfl rfl (fun _ _ => y_lenStr rfl) hS ?_ | refine rd_go rfl rfl rfl rfl (fun _ _ => y_ptr_nil rfl rfl) hS ?_ | refine rd_go rfl rfl rfl rfl (fun _ _ => y_ptr_ne_nil rfl rfl) hS ?_ | refine rd_go rfl rfl rfl rfl (fun _ _ => y_slice_nil rfl rfl) hS ?_ | refine rd_go rfl rfl rfl rfl (fun _ _ => y_map_nil rfl rfl) hS ?_ | refine rd_go rfl rfl rfl rfl (fun _ _ => y_add64 rfl rfl (by omega)) hS ?_ | refine rd_go rfl rfl rfl rfl (fun _ _ => y_sub64 rfl rfl (by omega)) hS ?_))
    refine rd_do rfl ?_
    have s06 := (sr.trans0 s04).trans s5 (fun b hb => .inr (hbuf.blk b hb).2.1)
    have hcb5 := (hcb.step s04 (by simp)).step s5 hpn
    refine r_store1 s5.ok rfl rfl rfl (by obtain ⟨_, _, e, _⟩ := hbuf5.form; rw [e]; rfl) hcb5 (by simp) (s5.keep _ hp1) (fun w6 s6 hcb6 => ?_)
    refine r_nil ?_
    refine e_after (fun h => by cases h) ?_
    refine rd_done ?_
    (repeat (first | refine r_pure rfl rfl ?_ | refine g_seq ?_ | refine g_region ?_ | refine r_nil ?_ | refine e_then ?_ | refine r_go rfl rfl ?_ | refine r_pass rfl rfl rfl ?_ | refine r_passu rfl rfl rfl ?_ | refine r_y (y_fieldAddr rfl) rfl ?_ | refine r_y (y_fieldAddr' rfl) rfl ?_ | refine r_y (y_len rfl) rfl ?_ | refine r_y (y_lenStr rfl) rfl ?_ | refine r_y (y_ptr_nil rfl rfl) rfl ?_ | refine r_y (y_ptr_ne_nil rfl rfl) rfl ?_ | refine r_y (y_slice_nil rfl rfl) rfl ?_ | refine r_y (y_map_nil rfl rfl) rfl ?_ | refine r_y (y_add64 rfl rfl (by omega)) rfl ?_ | refine r_y (y_sub64 rfl rfl (by omega)) rfl ?_ | refine g_true rfl ?_ | refine g_false rfl ?_ | refine g_skip ?_ | refine g_block ?_ | refine e_block_normal ?_ | refine g_exit ?_ | refine e_block_exit ?_ | refine e_block_exit_ne rfl ?_ | refine e_then_exit ?_ | refine e_round_exit ?_))
    have s07 := s06.trans s6 (fun b hb => by simp at hb; omega)
    have hmn : m ∉ blk lv := fun hq => (hbuf.blk m hq).2.2.2 rfl
    have hpl := hcb.lt
    have hml := hmp.lt
    refine e_round (k + 1) (sub_cons rfl rfl (sub_cons rfl rfl (sub_cons rfl rfl (sub_cons rfl rfl (sub_nil))))) ⟨lv', O5, vs ++ [.slice ra l[k].length rc], s07, s5.keep _ hp1, s5.keep _ hm1', hcb6, ?_, ?_, ?_, by omega⟩ (by omega)
    · exact ((hmp.step s04 (by simp)).step s5 hmn).step s6 (by simp; exact (hmp.ne_cb hcb).symm)
    · refine (hbuf5.mono (fun q hq => ⟨hq.1, ?_⟩)).step s6 (fun q hq => by simp; exact hq.2.2.1)
      have h1 := sr.size
      have h2 := s04.size
      rcases hq.2 with h | h
      · exact h.2
      · exact ⟨by omega, by omega, by omega⟩
    · rw [List.take_succ_eq_append_getElem hk']
      refine All2.snoc ?_ ?_
      · exact hall.mono fun _ _ h => ((h.step s04).step s5).step s6
      · exact ((hr'.step s4).step s5).step s6
  · (repeat (first | refine r_pure rfl rfl ?_ | refine g_seq ?_ | refine g_region ?_ | refine r_nil ?_ | refine e_then ?_ | refine r_go rfl rfl ?_ | refine r_pass rfl rfl rfl ?_ | refine r_passu rfl rfl rfl ?_ | refine r_y (y_fieldAddr rfl) rfl ?_ | refine r_y (y_fieldAddr' rfl) rfl ?_ | refine r_y (y_len rfl) rfl ?_ | refine r_y (y_lenStr rfl) rfl ?_ | refine r_y (y_ptr_nil rfl rfl) rfl ?_ | refine r_y (y_ptr_ne_nil rfl rfl) rfl ?_ | refine r_y (y_slice_nil rfl rfl) rfl ?_ | refine r_y (y_map_nil rfl rfl) rfl ?_ | refine r_y (y_add64 rfl rfl (by omega)) rfl ?_ | refine r_y (y_sub64 rfl rfl (by omega)) rfl ?_ | refine g_true rfl ?_ | refine g_false rfl ?_ | refine g_skip ?_ | refine g_block ?_ | refine e_block_normal ?_ | refine g_exit ?_ | refine e_block_exit ?_ | refine e_block_exit_ne rfl ?_ | refine e_then_exit ?_ | refine e_round_exit ?_))
    refine g_ret ?_; (repeat (first | refine e_then_ret ?_ | refine e_block_ret ?_ | refine e_round_ret ?_)); refine ret1 (.inl rfl) rfl rfl ?_
    have hkl : k = l.length := by omega
    subst hkl
    have hsub : ∀ b, b ∈ m :: p :: O → b ∈ O1 := by
      intro b hb
      simp only [List.mem_cons] at hb
      rcases hb with rfl | rfl | hb
      · exact hm1'
      · exact hp1
      · exact sr.keep _ hb
    refine ⟨_, _, rfl, sr.less (fun b hb => by simp [hb]) hsub, p, m, rfl, rfl, by omega, by omega, sr.size, by simp, by simp, ⟨lv, [], hcb, ?_, hmp, trivial⟩, hl, hb, fun i b h => by cases h⟩
    refine BytesL.mk (vs := vs) ?_ ?_
    · refine hbuf.sl (fun q hq hq' => ?_)
      simp only [List.mem_cons] at hq'
      rcases hq' with rfl | rfl | hq'
      · exact hq.2.2.2 rfl
      · exact hq.2.2.1 rfl
      · exact fresh_nin hO hq.2.1 hq'
    · rw [List.take_length] at hall
      exact hall.mono fun _ _ h => h.sub hsub

/-! ### Fork and Take -/

theorem mapsClone_ok (hO : OK O w) {m : Nat} {es : KV} (h : MapI w m .i64 es) :
    FnC Tryz.prog 61 [.map (some m)] O [] w fun r O' w' => ∃ q, r = .map (some q) ∧ O' = q :: O ∧ w.heap.size ≤ q ∧ w.heap.size ≤ w'.heap.size ∧ MapI w' q .i64 es := by
  refine fn_of _ Tryz.func61 rfl (by kernel_rfl) Tryz.ntmps61 rfl ?_
  (repeat (first | refine r_pure rfl rfl ?_ | refine g_seq ?_ | refine g_region ?_ | refine r_nil ?_ | refine e_then ?_ | refine r_go rfl rfl ?_ | refine r_pass rfl rfl rfl ?_ | refine r_passu rfl rfl rfl ?_ | refine r_y (y_fieldAddr rfl) rfl ?_ | refine r_y (y_fieldAddr' rfl) rfl ?_ | refine r_y (y_len rfl) rfl ?_ | refine r_y (y_lenStr rfl) rfl ?_ | refine r_y (y_ptr_nil rfl rfl) rfl ?_ | refine r_y (y_ptr_ne_nil rfl rfl) rfl ?_ | refine r_y (y_slice_nil rfl rfl) rfl ?_ | refine r_y (y_map_nil rfl rfl) rfl ?_ | refine r_y (y_add64 rfl rfl (by omega)) rfl ?_ | refine r_y (y_sub64 rfl rfl (by omega)) rfl ?_ | refine g_true rfl ?_ | refine g_false rfl ?_ | refine g_skip ?_ | refine g_block ?_ | refine e_block_normal ?_ | refine g_exit ?_ | refine e_block_exit ?_ | refine e_block_exit_ne rfl ?_ | refine e_then_exit ?_ | refine e_round_exit ?_))
  refine r_y (y_makeInterface rfl (by kernel_rfl)) rfl ?_
  (repeat (first | refine r_pure rfl rfl ?_ | refine g_seq ?_ | refine g_region ?_ | refine r_nil ?_ | refine e_then ?_ | refine r_go rfl rfl ?_ | refine r_pass rfl rfl rfl ?_ | refine r_passu rfl rfl rfl ?_ | refine r_y (y_fieldAddr rfl) rfl ?_ | refine r_y (y_fieldAddr' rfl) rfl ?_ | refine r_y (y_len rfl) rfl ?_ | refine r_y (y_lenStr rfl) rfl ?_ | refine r_y (y_ptr_nil rfl rfl) rfl ?_ | refine r_y (y_ptr_ne_nil rfl rfl) rfl ?_ | refine r_y (y_slice_nil rfl rfl) rfl ?_ | refine r_y (y_map_nil rfl rfl) rfl ?_ | refine r_y (y_add64 rfl rfl (by omega)) rfl ?_ | refine r_y (y_sub64 rfl rfl (by omega)) rfl ?_ | refine g_true rfl ?_ | refine g_false rfl ?_ | refine g_skip ?_ | refine g_block ?_ | refine e_block_normal ?_ | refine g_exit ?_ | refine e_block_exit ?_ | refine e_block_exit_ne rfl ?_ | refine e_then_exit ?_ | refine e_round_exit ?_))
  refine r_mapsClone (K := .i64) ⟨_, Tryz.func73, by kernel_rfl, by kernel_rfl, by kernel_rfl, rfl⟩ hO rfl rfl h (fun q w1 hq s1 z1 h1 => ?_)
  refine r_y (y_typeAssert rfl (by kernel_rfl)) rfl ?_
  (repeat (first | refine r_pure rfl rfl ?_ | refine g_seq ?_ | refine g_region ?_ | refine r_nil ?_ | refine e_then ?_ | refine r_go rfl rfl ?_ | refine r_pass rfl rfl rfl ?_ | refine r_passu rfl rfl rfl ?_ | refine r_y (y_fieldAddr rfl) rfl ?_ | refine r_y (y_fieldAddr' rfl) rfl ?_ | refine r_y (y_len rfl) rfl ?_ | refine r_y (y_lenStr rfl) rfl ?_ | refine r_y (y_ptr_nil rfl rfl) rfl ?_ | refine r_y (y_ptr_ne_nil rfl rfl) rfl ?_ | refine r_y (y_slice_nil rfl rfl) rfl ?_ | refine r_y (y_map_nil rfl rfl) rfl ?_ | refine r_y (y_add64 rfl rfl (by omega)) rfl ?_ | refine r_y (y_sub64 rfl rfl (by omega)) rfl ?_ | refine g_true rfl ?_ | refine g_false rfl ?_ | refine g_skip ?_ | refine g_block ?_ | refine e_block_normal ?_ | refine g_exit ?_ | refine e_block_exit ?_ | refine e_block_exit_ne rfl ?_ | refine e_then_exit ?_ | refine e_round_exit ?_))
  refine g_ret ?_; (repeat (first | refine e_then_ret ?_ | refine e_block_ret ?_ | refine e_round_ret ?_)); refine ret1 (.inl rfl) rfl rfl ?_
  exact ⟨_, _, rfl, s1.take (q := q) (by omega) (by omega), q, rfl, rfl, by omega, s1.size, h1⟩

theorem fork_none (hO : OK O w) : FnC Tryz.prog 38 [.pointer none] O [] w fun r O' w' => O = O' ∧ w = w' ∧ r = .pointer none := by
  refine fn_of _ Tryz.func38 rfl (by kernel_rfl) Tryz.ntmps38 rfl ?_
  (repeat (first | refine r_pure rfl rfl ?_ | refine g_seq ?_ | refine g_region ?_ | refine r_nil ?_ | refine e_then ?_ | refine r_go rfl rfl ?_ | refine r_pass rfl rfl rfl ?_ | refine r_passu rfl rfl rfl ?_ | refine r_y (y_fieldAddr rfl) rfl ?_ | refine r_y (y_fieldAddr' rfl) rfl ?_ | refine r_y (y_len rfl) rfl ?_ | refine r_y (y_lenStr rfl) rfl ?_ | refine r_y (y_ptr_nil rfl rfl) rfl ?_ | refine r_y (y_ptr_ne_nil rfl rfl) rfl ?_ | refine r_y (y_slice_nil rfl rfl) rfl ?_ | refine r_y (y_map_nil rfl rfl) rfl ?_ | refine r_y (y_add64 rfl rfl (by omega)) rfl ?_ | refine r_y (y_sub64 rfl rfl (by omega)) rfl ?_ | refine g_true rfl ?_ | refine g_false rfl ?_ | refine g_skip ?_ | refine g_block ?_ | refine e_block_normal ?_ | refine g_exit ?_ | refine e_block_exit ?_ | refine e_block_exit_ne rfl ?_ | refine e_then_exit ?_ | refine e_round_exit ?_))
  refine g_ret ?_; (repeat (first | refine e_then_ret ?_ | refine e_block_ret ?_ | refine e_round_ret ?_)); refine ret1 (.inl rfl) rfl rfl ?_
  exact ⟨_, _, rfl, Step.refl hO, rfl, rfl, rfl⟩

theorem fork_ok (hO : OK O w) (h : TxnAt O w p m t) :
    FnC Tryz.prog 38 [.pointer (some ⟨p, 0, none⟩)] O [] w fun r O' w' => ∃ p' m', r = .pointer (some ⟨p', 0, none⟩) ∧ O' = p' :: m' :: O ∧ w.heap.size ≤ p' ∧ w.heap.size ≤ m' ∧ TxnAt O' w' p' m' t ∧ TxnAt O' w' p m t := by
  have h' := h
  obtain ⟨h1, h2, ⟨lv, es, ha, hb, hc, hd⟩, h3, h4, h5⟩ := h
  refine fn_of _ Tryz.func38 rfl (by kernel_rfl) Tryz.ntmps38 rfl ?_
  (repeat (first | refine r_pure rfl rfl ?_ | refine g_seq ?_ | refine g_region ?_ | refine r_nil ?_ | refine e_then ?_ | refine r_go rfl rfl ?_ | refine r_pass rfl rfl rfl ?_ | refine r_passu rfl rfl rfl ?_ | refine r_y (y_fieldAddr rfl) rfl ?_ | refine r_y (y_fieldAddr' rfl) rfl ?_ | refine r_y (y_len rfl) rfl ?_ | refine r_y (y_lenStr rfl) rfl ?_ | refine r_y (y_ptr_nil rfl rfl) rfl ?_ | refine r_y (y_ptr_ne_nil rfl rfl) rfl ?_ | refine r_y (y_slice_nil rfl rfl) rfl ?_ | refine r_y (y_map_nil rfl rfl) rfl ?_ | refine r_y (y_add64 rfl rfl (by omega)) rfl ?_ | refine r_y (y_sub64 rfl rfl (by omega)) rfl ?_ | refine g_true rfl ?_ | refine g_false rfl ?_ | refine g_skip ?_ | refine g_block ?_ | refine e_block_normal ?_ | refine g_exit ?_ | refine e_block_exit ?_ | refine e_block_exit_ne rfl ?_ | refine e_then_exit ?_ | refine e_round_exit ?_))
  refine g_draw (fun w' => w'.cell? ⟨p, 0, none⟩ = some lv ∧ w'.cell? ⟨p, 1, none⟩ = some (.map (some m))) [] [(0, true), (1, true), (2, true), (3, true), (4, true), (5, true), (6, true), (7, true), (8, false), (9, true), (10, false), (11, true)] (by kernel_rfl) (by kernel_rfl) ?_
  have s0 : Step [] O O w w.drew := step_drew hO
  have hS : w.drew.cell? ⟨p, 0, none⟩ = some lv ∧ w.drew.cell? ⟨p, 1, none⟩ = some (.map (some m)) := ⟨s0.cell? (ha.cell? rfl) (by simp), s0.cell? (ha.cell? rfl) (by simp)⟩
  (repeat (first | refine rd_y rfl rfl (fun _ _ => y_pure rfl) hS ?_ | refine rd_y rfl rfl (fun _ _ => y_fieldAddr rfl) hS ?_ | refine rd_y rfl rfl (fun _ _ => y_fieldAddr' rfl) hS ?_ | refine rd_y rfl rfl (fun _ _ => y_len rfl) hS ?_ | refine rd_y rfl rfl (fun _ _ => y_lenStr rfl) hS ?_ | refine rd_y rfl rfl (fun _ _ => y_ptr_nil rfl rfl) hS ?_ | refine rd_y rfl rfl (fun _ _ => y_ptr_ne_nil rfl rfl) hS ?_ | refine rd_y rfl rfl (fun _ _ => y_slice_nil rfl rfl) hS ?_ | refine rd_y rfl rfl (fun _ _ => y_map_nil rfl rfl) hS ?_ | refine rd_y rfl rfl (fun _ _ => y_add64 rfl rfl (by omega)) hS ?_ | refine rd_y rfl rfl (fun _ _ => y_sub64 rfl rfl (by omega)) hS ?_ | refine rd_pass rfl rfl rfl rfl hS ?_ | refine rd_passu rfl rfl rfl rfl hS ?_ | refine rd_go rfl rfl rfl rfl (fun _ _ => y_pure rfl) hS ?_ | refine rd_go rfl rfl rfl rfl (fun _ _ => y_fieldAddr rfl) hS ?_ | refine rd_go rfl rfl rfl rfl (fun _ _ => y_fieldAddr' rfl) hS ?_ | refine rd_go rfl rfl rfl rfl (fun _ _ => y_len rfl) hS ?_ | refine rd_go rfl rfl rfl rfl (fun _ _ => y_lenStr rfl) hS ?_ | refine rd_go rfl rfl rfl rfl (fun _ _ => y_ptr_nil rfl rfl) hS ?_ | refine rd_go rfl rfl rfl rfl (fun _ _ => y_ptr_ne_nil rfl rfl) hS ?_ | refine rd_go rfl rfl rfl rfl (fun _ _ => y_slice_nil rfl rfl) hS ?_ | refine rd_go rfl rfl rfl rfl (fun _ _ => y_map_nil rfl rfl) hS ?_ | refine rd_go rfl rfl rfl rfl (fun _ _ => y_add64 rfl rfl (by omega)) hS ?_ | refine rd_go rfl rfl rfl rfl (fun _ _ => y_sub64 rfl rfl (by omega)) hS ?_))
  refine rd_y rfl rfl (fun _ h => y_load rfl h.1) hS ?_
  (repeat (first | refine rd_y rfl rfl (fun _ _ => y_pure rfl) hS ?_ | refine rd_y rfl rfl (fun _ _ => y_fieldAddr rfl) hS ?_ | refine rd_y rfl rfl (fun _ _ => y_fieldAddr' rfl) hS ?_ | refine rd_y rfl rfl (fun _ _ => y_len rfl) hS ?_ | refine rd_y rfl rfl (fun _ _ => y_lenStr rfl) hS ?_ | refine rd_y rfl rfl (fun _ _ => y_ptr_nil rfl rfl) hS ?_ | refine rd_y rfl rfl (fun _ _ => y_ptr_ne_nil rfl rfl) hS ?_ | refine rd_y rfl rfl (fun _ _ => y_slice_nil rfl rfl) hS ?_ | refine rd_y rfl rfl (fun _ _ => y_map_nil rfl rfl) hS ?_ | refine rd_y rfl rfl (fun _ _ => y_add64 rfl rfl (by omega)) hS ?_ | refine rd_y rfl rfl (fun _ _ => y_sub64 rfl rfl (by omega)) hS ?_ | refine rd_pass rfl rfl rfl rfl hS ?_ | refine rd_passu rfl rfl rfl rfl hS ?_ | refine rd_go rfl rfl rfl rfl (fun _ _ => y_pure rfl) hS ?_ | refine rd_go rfl rfl rfl rfl (fun _ _ => y_fieldAddr rfl) hS ?_ | refine rd_go rfl rfl rfl rfl (fun _ _ => y_fieldAddr' rfl) hS ?_ | refine rd_go rfl rfl rfl rfl (fun _ _ => y_len rfl) hS ?_ | refine rd_go rfl rfl rfl rfl (fun _ _ => y_lenStr rfl) hS ?_ | refine rd_go rfl rfl rfl rfl (fun _ _ => y_ptr_nil rfl rfl) hS ?_ | refine rd_go rfl rfl rfl rfl (fun _ _ => y_ptr_ne_nil rfl rfl) hS ?_ | refine rd_go rfl rfl rfl rfl (fun _ _ => y_slice_nil rfl rfl) hS ?_ | refine rd_go rfl rfl rfl rfl (fun _ _ => y_map_nil rfl rfl) hS ?_ | refine rd_go rfl rfl rfl rfl (fun _ _ => y_add64 rfl rfl (by omega)) hS ?_ | refine rd_go rfl rfl rfl rfl (fun _ _ => y_sub64 rfl rfl (by omega)) hS ?_))
  refine rd_y rfl rfl (fun _ h => y_load rfl h.2) hS ?_
  refine rd_do rfl ?_
  refine r_call rfl rfl (mapsClone_ok s0.ok (hc.step s0 (by simp))) ?_
  rintro r O1 w1 s1 ⟨m', rfl, rfl, hm', hz1, hc1⟩
  refine r_nil ?_
  have hS1 := And.intro (s1.cell? hS.1 (by simp)) (s1.cell? hS.2 (by simp))
  refine e_after (fun _ => hS1) ?_
  have hS := hS1
  obtain ⟨la, lc, rfl, _⟩ := hb.form
  refine rd_y rfl rfl (fun _ _ => y_build (cs := [_, _]) rfl rfl) hS ?_
  refine rd_do rfl ?_
  refine r_boxN s1.ok rfl rfl (fun p' w2 hp' s2 z2 hcb2 => ?_)
  refine r_nil ?_
  have hS := And.intro (s2.cell? hS1.1 (by simp)) (s2.cell? hS1.2 (by simp))
  refine e_after (fun _ => hS) ?_
  (repeat (first | refine rd_y rfl rfl (fun _ _ => y_pure rfl) hS ?_ | refine rd_y rfl rfl (fun _ _ => y_fieldAddr rfl) hS ?_ | refine rd_y rfl rfl (fun _ _ => y_fieldAddr' rfl) hS ?_ | refine rd_y rfl rfl (fun _ _ => y_len rfl) hS ?_ | refine rd_y rfl rfl (fun _ _ => y_lenStr rfl) hS ?_ | refine rd_y rfl rfl (fun _ _ => y_ptr_nil rfl rfl) hS ?_ | refine rd_y rfl rfl (fun _ _ => y_ptr_ne_nil rfl rfl) hS ?_ | refine rd_y rfl rfl (fun _ _ => y_slice_nil rfl rfl) hS ?_ | refine rd_y rfl rfl (fun _ _ => y_map_nil rfl rfl) hS ?_ | refine rd_y rfl rfl (fun _ _ => y_add64 rfl rfl (by omega)) hS ?_ | refine rd_y rfl rfl (fun _ _ => y_sub64 rfl rfl (by omega)) hS ?_ | refine rd_pass rfl rfl rfl rfl hS ?_ | refine rd_passu rfl rfl rfl rfl hS ?_ | refine rd_go rfl rfl rfl rfl (fun _ _ => y_pure rfl) hS ?_ | refine rd_go rfl rfl rfl rfl (fun _ _ => y_fieldAddr rfl) hS ?_ | refine rd_go rfl rfl rfl rfl (fun _ _ => y_fieldAddr' rfl) hS ?_ | refine rd_go rfl rfl rfl rfl (fun _ _ => y_len rfl) hS ?_ | refine rd_go rfl rfl rfl rfl (fun _ _ => y_lenStr rfl) hS ?_ | refine rd_go rfl rfl rfl rfl (fun _ _ => y_ptr_nil rfl rfl) hS ?_ | refine rd_go rfl rfl rfl rfl (fun _ _ => y_ptr_ne_nil rfl rfl) hS ?_ | refine rd_go rfl rfl rfl rfl (fun _ _ => y_slice_nil rfl rfl) hS ?_ | refine rd_go rfl rfl rfl rfl (fun _ _ => y_map_nil rfl rfl) hS ?_ | refine rd_go rfl rfl rfl rfl (fun _ _ => y_add64 rfl rfl (by omega)) hS ?_ | refine rd_go rfl rfl rfl rfl (fun _ _ => y_sub64 rfl rfl (by omega)) hS ?_))
  refine rd_done ?_
  (repeat (first | refine r_pure rfl rfl ?_ | refine g_seq ?_ | refine g_region ?_ | refine r_nil ?_ | refine e_then ?_ | refine r_go rfl rfl ?_ | refine r_pass rfl rfl rfl ?_ | refine r_passu rfl rfl rfl ?_ | refine r_y (y_fieldAddr rfl) rfl ?_ | refine r_y (y_fieldAddr' rfl) rfl ?_ | refine r_y (y_len rfl) rfl ?_ | refine r_y (y_lenStr rfl) rfl ?_ | refine r_y (y_ptr_nil rfl rfl) rfl ?_ | refine r_y (y_ptr_ne_nil rfl rfl) rfl ?_ | refine r_y (y_slice_nil rfl rfl) rfl ?_ | refine r_y (y_map_nil rfl rfl) rfl ?_ | refine r_y (y_add64 rfl rfl (by omega)) rfl ?_ | refine r_y (y_sub64 rfl rfl (by omega)) rfl ?_ | refine g_true rfl ?_ | refine g_false rfl ?_ | refine g_skip ?_ | refine g_block ?_ | refine e_block_normal ?_ | refine g_exit ?_ | refine e_block_exit ?_ | refine e_block_exit_ne rfl ?_ | refine e_then_exit ?_ | refine e_round_exit ?_))
  refine g_ret ?_; (repeat (first | refine e_then_ret ?_ | refine e_block_ret ?_ | refine e_round_ret ?_)); refine ret1 (.inl rfl) rfl rfl ?_
  have s := (s0.trans0 s1).trans0 (s2.take (q := p') (by omega) (by omega))
  refine ⟨_, _, rfl, s, p', m', rfl, rfl, ?_, hm', ⟨by simp, by simp, ⟨_, es, hcb2, hb.step s, hc1.step s2 (by simp), hd.mono fun _ _ h => ⟨h.1, h.2.step s⟩⟩, h3, h4, h5⟩, h'.step s (by simp) (by simp)⟩
  have := s1.size; have := s0.size; omega

theorem take_none1 (hO : OK O w) {v : Option Addr} : FnC Tryz.prog 41 [.pointer none, .pointer v] O [] w fun r O' w' => O = O' := by
  refine fn_of _ Tryz.func41 rfl (by kernel_rfl) Tryz.ntmps41 rfl ?_
  (repeat (first | refine r_pure rfl rfl ?_ | refine g_seq ?_ | refine g_region ?_ | refine r_nil ?_ | refine e_then ?_ | refine r_go rfl rfl ?_ | refine r_pass rfl rfl rfl ?_ | refine r_passu rfl rfl rfl ?_ | refine r_y (y_fieldAddr rfl) rfl ?_ | refine r_y (y_fieldAddr' rfl) rfl ?_ | refine r_y (y_len rfl) rfl ?_ | refine r_y (y_lenStr rfl) rfl ?_ | refine r_y (y_ptr_nil rfl rfl) rfl ?_ | refine r_y (y_ptr_ne_nil rfl rfl) rfl ?_ | refine r_y (y_slice_nil rfl rfl) rfl ?_ | refine r_y (y_map_nil rfl rfl) rfl ?_ | refine r_y (y_add64 rfl rfl (by omega)) rfl ?_ | refine r_y (y_sub64 rfl rfl (by omega)) rfl ?_ | refine g_true rfl ?_ | refine g_false rfl ?_ | refine g_skip ?_ | refine g_block ?_ | refine e_block_normal ?_ | refine g_exit ?_ | refine e_block_exit ?_ | refine e_block_exit_ne rfl ?_ | refine e_then_exit ?_ | refine e_round_exit ?_))
  refine g_draw (fun _ => True) [] [(0, true), (1, true), (2, true), (3, true), (4, true), (5, true), (6, true), (7, true), (8, true), (9, true), (10, true), (11, true), (12, true), (13, true), (14, true), (15, true), (16, true), (17, true), (18, true)] (by kernel_rfl) (by kernel_rfl) ?_
  have hS : True := trivial
  (repeat (first | refine rd_y rfl rfl (fun _ _ => y_pure rfl) hS ?_ | refine rd_y rfl rfl (fun _ _ => y_fieldAddr rfl) hS ?_ | refine rd_y rfl rfl (fun _ _ => y_fieldAddr' rfl) hS ?_ | refine rd_y rfl rfl (fun _ _ => y_len rfl) hS ?_ | refine rd_y rfl rfl (fun _ _ => y_lenStr rfl) hS ?_ | refine rd_y rfl rfl (fun _ _ => y_ptr_nil rfl rfl) hS ?_ | refine rd_y rfl rfl (fun _ _ => y_ptr_ne_nil rfl rfl) hS ?_ | refine rd_y rfl rfl (fun _ _ => y_slice_nil rfl rfl) hS ?_ | refine rd_y rfl rfl (fun _ _ => y_map_nil rfl rfl) hS ?_ | refine rd_y rfl rfl (fun _ _ => y_add64 rfl rfl (by omega)) hS ?_ | refine rd_y rfl rfl (fun _ _ => y_sub64 rfl rfl (by omega)) hS ?_ | refine rd_pass rfl rfl rfl rfl hS ?_ | refine rd_passu rfl rfl rfl rfl hS ?_ | refine rd_go rfl rfl rfl rfl (fun _ _ => y_pure rfl) hS ?_ | refine rd_go rfl rfl rfl rfl (fun _ _ => y_fieldAddr rfl) hS ?_ | refine rd_go rfl rfl rfl rfl (fun _ _ => y_fieldAddr' rfl) hS ?_ | refine rd_go rfl rfl rfl rfl (fun _ _ => y_len rfl) hS ?_ | refine rd_go rfl rfl rfl rfl (fun _ _ => y_lenStr rfl) hS ?_ | refine rd_go rfl rfl rfl rfl (fun _ _ => y_ptr_nil rfl rfl) hS ?_ | refine rd_go rfl rfl rfl rfl (fun _ _ => y_ptr_ne_nil rfl rfl) hS ?_ | refine rd_go rfl rfl rfl rfl (fun _ _ => y_slice_nil rfl rfl) hS ?_ | refine rd_go rfl rfl rfl rfl (fun _ _ => y_map_nil rfl rfl) hS ?_ | refine rd_go rfl rfl rfl rfl (fun _ _ => y_add64 rfl rfl (by omega)) hS ?_ | refine rd_go rfl rfl rfl rfl (fun _ _ => y_sub64 rfl rfl (by omega)) hS ?_))
  refine rd_done ?_
  (repeat (first | refine r_pure rfl rfl ?_ | refine g_seq ?_ | refine g_region ?_ | refine r_nil ?_ | refine e_then ?_ | refine r_go rfl rfl ?_ | refine r_pass rfl rfl rfl ?_ | refine r_passu rfl rfl rfl ?_ | refine r_y (y_fieldAddr rfl) rfl ?_ | refine r_y (y_fieldAddr' rfl) rfl ?_ | refine r_y (y_len rfl) rfl ?_ | refine r_y (y_lenStr rfl) rfl ?_ | refine r_y (y_ptr_nil rfl rfl) rfl ?_ | refine r_y (y_ptr_ne_nil rfl rfl) rfl ?_ | refine r_y (y_slice_nil rfl rfl) rfl ?_ | refine r_y (y_map_nil rfl rfl) rfl ?_ | refine r_y (y_add64 rfl rfl (by omega)) rfl ?_ | refine r_y (y_sub64 rfl rfl (by omega)) rfl ?_ | refine g_true rfl ?_ | refine g_false rfl ?_ | refine g_skip ?_ | refine g_block ?_ | refine e_block_normal ?_ | refine g_exit ?_ | refine e_block_exit ?_ | refine e_block_exit_ne rfl ?_ | refine e_then_exit ?_ | refine e_round_exit ?_))
  refine ret0 (.inr rfl) rfl ?_
  exact ⟨_, _, rfl, step_drew hO, rfl⟩

theorem take_none2 (hO : OK O w) {v : Addr} : FnC Tryz.prog 41 [.pointer (some v), .pointer none] O [] w fun r O' w' => O = O' := by
  refine fn_of _ Tryz.func41 rfl (by kernel_rfl) Tryz.ntmps41 rfl ?_
  (repeat (first | refine r_pure rfl rfl ?_ | refine g_seq ?_ | refine g_region ?_ | refine r_nil ?_ | refine e_then ?_ | refine r_go rfl rfl ?_ | refine r_pass rfl rfl rfl ?_ | refine r_passu rfl rfl rfl ?_ | refine r_y (y_fieldAddr rfl) rfl ?_ | refine r_y (y_fieldAddr' rfl) rfl ?_ | refine r_y (y_len rfl) rfl ?_ | refine r_y (y_lenStr rfl) rfl ?_ | refine r_y (y_ptr_nil rfl rfl) rfl ?_ | refine r_y (y_ptr_ne_nil rfl rfl) rfl ?_ | refine r_y (y_slice_nil rfl rfl) rfl ?_ | refine r_y (y_map_nil rfl rfl) rfl ?_ | refine r_y (y_add64 rfl rfl (by omega)) rfl ?_ | refine r_y (y_sub64 rfl rfl (by omega)) rfl ?_ | refine g_true rfl ?_ | refine g_false rfl ?_ | refine g_skip ?_ | refine g_block ?_ | refine e_block_normal ?_ | refine g_exit ?_ | refine e_block_exit ?_ | refine e_block_exit_ne rfl ?_ | refine e_then_exit ?_ | refine e_round_exit ?_))
  refine g_draw (fun _ => True) [] [(0, true), (1, true), (2, true), (3, true), (4, true), (5, true), (6, true), (7, true), (8, true), (9, true), (10, true), (11, true), (12, true), (13, true), (14, true), (15, true), (16, true), (17, true), (18, true)] (by kernel_rfl) (by kernel_rfl) ?_
  have hS : True := trivial
  (repeat (first | refine rd_y rfl rfl (fun _ _ => y_pure rfl) hS ?_ | refine rd_y rfl rfl (fun _ _ => y_fieldAddr rfl) hS ?_ | refine rd_y rfl rfl (fun _ _ => y_fieldAddr' rfl) hS ?_ | refine rd_y rfl rfl (fun _ _ => y_len rfl) hS ?_ | refine rd_y rfl rfl (fun _ _ => y_lenStr rfl) hS ?_ | refine rd_y rfl rfl (fun _ _ => y_ptr_nil rfl rfl) hS ?_ | refine rd_y rfl rfl (fun _ _ => y_ptr_ne_nil rfl rfl) hS ?_ | refine rd_y rfl rfl (fun _ _ => y_slice_nil rfl rfl) hS ?_ | refine rd_y rfl rfl (fun _ _ => y_map_nil rfl rfl) hS ?_ | refine rd_y rfl rfl (fun _ _ => y_add64 rfl rfl (by omega)) hS ?_ | refine rd_y rfl rfl (fun _ _ => y_sub64 rfl rfl (by omega)) hS ?_ | refine rd_pass rfl rfl rfl rfl hS ?_ | refine rd_passu rfl rfl rfl rfl hS ?_ | refine rd_go rfl rfl rfl rfl (fun _ _ => y_pure rfl) hS ?_ | refine rd_go rfl rfl rfl rfl (fun _ _ => y_fieldAddr rfl) hS ?_ | refine rd_go rfl rfl rfl rfl (fun _ _ => y_fieldAddr' rfl) hS ?_ | refine rd_go rfl rfl rfl rfl (fun _ _ => y_len rfl) hS ?_ | refine rd_go rfl rfl rfl rfl (fun _ _ => y_lenStr rfl) hS ?_ | refine rd_go rfl rfl rfl rfl (fun _ _ => y_ptr_nil rfl rfl) hS ?_ | refine rd_go rfl rfl rfl rfl (fun _ _ => y_ptr_ne_nil rfl rfl) hS ?_ | refine rd_go rfl rfl rfl rfl (fun _ _ => y_slice_nil rfl rfl) hS ?_ | refine rd_go rfl rfl rfl rfl (fun _ _ => y_map_nil rfl rfl) hS ?_ | refine rd_go rfl rfl rfl rfl (fun _ _ => y_add64 rfl rfl (by omega)) hS ?_ | refine rd_go rfl rfl rfl rfl (fun _ _ => y_sub64 rfl rfl (by omega)) hS ?_))
  refine rd_done ?_
  (repeat (first | refine r_pure rfl rfl ?_ | refine g_seq ?_ | refine g_region ?_ | refine r_nil ?_ | refine e_then ?_ | refine r_go rfl rfl ?_ | refine r_pass rfl rfl rfl ?_ | refine r_passu rfl rfl rfl ?_ | refine r_y (y_fieldAddr rfl) rfl ?_ | refine r_y (y_fieldAddr' rfl) rfl ?_ | refine r_y (y_len rfl) rfl ?_ | refine r_y (y_lenStr rfl) rfl ?_ | refine r_y (y_ptr_nil rfl rfl) rfl ?_ | refine r_y (y_ptr_ne_nil rfl rfl) rfl ?_ | refine r_y (y_slice_nil rfl rfl) rfl ?_ | refine r_y (y_map_nil rfl rfl) rfl ?_ | refine r_y (y_add64 rfl rfl (by omega)) rfl ?_ | refine r_y (y_sub64 rfl rfl (by omega)) rfl ?_ | refine g_true rfl ?_ | refine g_false rfl ?_ | refine g_skip ?_ | refine g_block ?_ | refine e_block_normal ?_ | refine g_exit ?_ | refine e_block_exit ?_ | refine e_block_exit_ne rfl ?_ | refine e_then_exit ?_ | refine e_round_exit ?_))
  refine ret0 (.inr rfl) rfl ?_
  exact ⟨_, _, rfl, step_drew hO, rfl⟩

/-- Of as many blocks. -/
theorem txTake_ok (hO : OK O w) (h : TxnAt O w p m t) {q n : Nat} {u : Tx} (k : TxnAt O w q n u) (hl : t.was.length = u.was.length) :
    FnC Tryz.prog 41 [.pointer (some ⟨p, 0, none⟩), .pointer (some ⟨q, 0, none⟩)] O [p] w fun r O' w' => ∃ m', O' = m' :: O ∧ w.heap.size ≤ m' ∧ TxnAt O' w' p m' ⟨t.was, u.put⟩ := by
  obtain ⟨h1, h2, ⟨lv, es, ha, hb, hc, hd⟩, h3, h4, h5⟩ := h
  obtain ⟨k1, k2, ⟨lu, fs, ka, kb, kc, kd⟩, k3, k4, k5⟩ := k
  obtain ⟨la, lc, rfl, _⟩ := hb.form
  obtain ⟨ua, uc, rfl, _⟩ := kb.form
  refine fn_of _ Tryz.func41 rfl (by kernel_rfl) Tryz.ntmps41 rfl ?_
  (repeat (first | refine r_pure rfl rfl ?_ | refine g_seq ?_ | refine g_region ?_ | refine r_nil ?_ | refine e_then ?_ | refine r_go rfl rfl ?_ | refine r_pass rfl rfl rfl ?_ | refine r_passu rfl rfl rfl ?_ | refine r_y (y_fieldAddr rfl) rfl ?_ | refine r_y (y_fieldAddr' rfl) rfl ?_ | refine r_y (y_len rfl) rfl ?_ | refine r_y (y_lenStr rfl) rfl ?_ | refine r_y (y_ptr_nil rfl rfl) rfl ?_ | refine r_y (y_ptr_ne_nil rfl rfl) rfl ?_ | refine r_y (y_slice_nil rfl rfl) rfl ?_ | refine r_y (y_map_nil rfl rfl) rfl ?_ | refine r_y (y_add64 rfl rfl (by omega)) rfl ?_ | refine r_y (y_sub64 rfl rfl (by omega)) rfl ?_ | refine g_true rfl ?_ | refine g_false rfl ?_ | refine g_skip ?_ | refine g_block ?_ | refine e_block_normal ?_ | refine g_exit ?_ | refine e_block_exit ?_ | refine e_block_exit_ne rfl ?_ | refine e_then_exit ?_ | refine e_round_exit ?_))
  refine g_draw (fun w' => w'.cell? ⟨p, 0, none⟩ = some (.slice la t.was.length lc) ∧ w'.cell? ⟨q, 0, none⟩ = some (.slice ua u.was.length uc)) [] [(0, true), (1, true), (2, true), (3, true), (4, true), (5, true), (6, true), (7, true), (8, true), (9, true), (10, true), (11, true), (12, true), (13, true), (14, true), (15, true), (16, true), (17, true), (18, true)] (by kernel_rfl) (by kernel_rfl) ?_
  have s0 : Step [] O O w w.drew := step_drew hO
  have hS : w.drew.cell? ⟨p, 0, none⟩ = some (.slice la t.was.length lc) ∧ w.drew.cell? ⟨q, 0, none⟩ = some (.slice ua u.was.length uc) := ⟨s0.cell? (ha.cell? rfl) (by simp), s0.cell? (ka.cell? rfl) (by simp)⟩
  (repeat (first | refine rd_y rfl rfl (fun _ _ => y_pure rfl) hS ?_ | refine rd_y rfl rfl (fun _ _ => y_fieldAddr rfl) hS ?_ | refine rd_y rfl rfl (fun _ _ => y_fieldAddr' rfl) hS ?_ | refine rd_y rfl rfl (fun _ _ => y_len rfl) hS ?_ | refine rd_y rfl rfl (fun _ _ => y_lenStr rfl) hS ?_ | refine rd_y rfl rfl (fun _ _ => y_ptr_nil rfl rfl) hS ?_ | refine rd_y rfl rfl (fun _ _ => y_ptr_ne_nil rfl rfl) hS ?_ | refine rd_y rfl rfl (fun _ _ => y_slice_nil rfl rfl) hS ?_ | refine rd_y rfl rfl (fun _ _ => y_map_nil rfl rfl) hS ?_ | refine rd_y rfl rfl (fun _ _ => y_add64 rfl rfl (by omega)) hS ?_ | refine rd_y rfl rfl (fun _ _ => y_sub64 rfl rfl (by omega)) hS ?_ | refine rd_pass rfl rfl rfl rfl hS ?_ | refine rd_passu rfl rfl rfl rfl hS ?_ | refine rd_go rfl rfl rfl rfl (fun _ _ => y_pure rfl) hS ?_ | refine rd_go rfl rfl rfl rfl (fun _ _ => y_fieldAddr rfl) hS ?_ | refine rd_go rfl rfl rfl rfl (fun _ _ => y_fieldAddr' rfl) hS ?_ | refine rd_go rfl rfl rfl rfl (fun _ _ => y_len rfl) hS ?_ | refine rd_go rfl rfl rfl rfl (fun _ _ => y_lenStr rfl) hS ?_ | refine rd_go rfl rfl rfl rfl (fun _ _ => y_ptr_nil rfl rfl) hS ?_ | refine rd_go rfl rfl rfl rfl (fun _ _ => y_ptr_ne_nil rfl rfl) hS ?_ | refine rd_go rfl rfl rfl rfl (fun _ _ => y_slice_nil rfl rfl) hS ?_ | refine rd_go rfl rfl rfl rfl (fun _ _ => y_map_nil rfl rfl) hS ?_ | refine rd_go rfl rfl rfl rfl (fun _ _ => y_add64 rfl rfl (by omega)) hS ?_ | refine rd_go rfl rfl rfl rfl (fun _ _ => y_sub64 rfl rfl (by omega)) hS ?_))
  refine rd_go rfl rfl rfl rfl (fun _ h => y_load rfl h.1) hS ?_
  (repeat (first | refine rd_y rfl rfl (fun _ _ => y_pure rfl) hS ?_ | refine rd_y rfl rfl (fun _ _ => y_fieldAddr rfl) hS ?_ | refine rd_y rfl rfl (fun _ _ => y_fieldAddr' rfl) hS ?_ | refine rd_y rfl rfl (fun _ _ => y_len rfl) hS ?_ | refine rd_y rfl rfl (fun _ _ => y_lenStr rfl) hS ?_ | refine rd_y rfl rfl (fun _ _ => y_ptr_nil rfl rfl) hS ?_ | refine rd_y rfl rfl (fun _ _ => y_ptr_ne_nil rfl rfl) hS ?_ | refine rd_y rfl rfl (fun _ _ => y_slice_nil rfl rfl) hS ?_ | refine rd_y rfl rfl (fun _ _ => y_map_nil rfl rfl) hS ?_ | refine rd_y rfl rfl (fun _ _ => y_add64 rfl rfl (by omega)) hS ?_ | refine rd_y rfl rfl (fun _ _ => y_sub64 rfl rfl (by omega)) hS ?_ | refine rd_pass rfl rfl rfl rfl hS ?_ | refine rd_passu rfl rfl rfl rfl hS ?_ | refine rd_go rfl rfl rfl rfl (fun _ _ => y_pure rfl) hS ?_ | refine rd_go rfl rfl rfl rfl (fun _ _ => y_fieldAddr rfl) hS ?_ | refine rd_go rfl rfl rfl rfl (fun _ _ => y_fieldAddr' rfl) hS ?_ | refine rd_go rfl rfl rfl rfl (fun _ _ => y_len rfl) hS ?_ | refine rd_go rfl rfl rfl rfl (fun _ _ => y_lenStr rfl) hS ?_ | refine rd_go rfl rfl rfl rfl (fun _ _ => y_ptr_nil rfl rfl) hS ?_ | refine rd_go rfl rfl rfl rfl (fun _ _ => y_ptr_ne_nil rfl rfl) hS ?_ | refine rd_go rfl rfl rfl rfl (fun _ _ => y_slice_nil rfl rfl) hS ?_ | refine rd_go rfl rfl rfl rfl (fun _ _ => y_map_nil rfl rfl) hS ?_ | refine rd_go rfl rfl rfl rfl (fun _ _ => y_add64 rfl rfl (by omega)) hS ?_ | refine rd_go rfl rfl rfl rfl (fun _ _ => y_sub64 rfl rfl (by omega)) hS ?_))
  refine rd_go rfl rfl rfl rfl (fun _ h => y_load rfl h.2) hS ?_
  (repeat (first | refine rd_y rfl rfl (fun _ _ => y_pure rfl) hS ?_ | refine rd_y rfl rfl (fun _ _ => y_fieldAddr rfl) hS ?_ | refine rd_y rfl rfl (fun _ _ => y_fieldAddr' rfl) hS ?_ | refine rd_y rfl rfl (fun _ _ => y_len rfl) hS ?_ | refine rd_y rfl rfl (fun _ _ => y_lenStr rfl) hS ?_ | refine rd_y rfl rfl (fun _ _ => y_ptr_nil rfl rfl) hS ?_ | refine rd_y rfl rfl (fun _ _ => y_ptr_ne_nil rfl rfl) hS ?_ | refine rd_y rfl rfl (fun _ _ => y_slice_nil rfl rfl) hS ?_ | refine rd_y rfl rfl (fun _ _ => y_map_nil rfl rfl) hS ?_ | refine rd_y rfl rfl (fun _ _ => y_add64 rfl rfl (by omega)) hS ?_ | refine rd_y rfl rfl (fun _ _ => y_sub64 rfl rfl (by omega)) hS ?_ | refine rd_pass rfl rfl rfl rfl hS ?_ | refine rd_passu rfl rfl rfl rfl hS ?_ | refine rd_go rfl rfl rfl rfl (fun _ _ => y_pure rfl) hS ?_ | refine rd_go rfl rfl rfl rfl (fun _ _ => y_fieldAddr rfl) hS ?_ | refine rd_go rfl rfl rfl rfl (fun _ _ => y_fieldAddr' rfl) hS ?_ | refine rd_go rfl rfl rfl rfl (fun _ _ => y_len rfl) hS ?_ | refine rd_go rfl rfl rfl rfl (fun _ _ => y_lenStr rfl) hS ?_ | refine rd_go rfl rfl rfl rfl (fun _ _ => y_ptr_nil rfl rfl) hS ?_ | refine rd_go rfl rfl rfl rfl (fun _ _ => y_ptr_ne_nil rfl rfl) hS ?_ | refine rd_go rfl rfl rfl rfl (fun _ _ => y_slice_nil rfl rfl) hS ?_ | refine rd_go rfl rfl rfl rfl (fun _ _ => y_map_nil rfl rfl) hS ?_ | refine rd_go rfl rfl rfl rfl (fun _ _ => y_add64 rfl rfl (by omega)) hS ?_ | refine rd_go rfl rfl rfl rfl (fun _ _ => y_sub64 rfl rfl (by omega)) hS ?_))
  refine rd_done ?_
  (repeat (first | refine r_pure rfl rfl ?_ | refine g_seq ?_ | refine g_region ?_ | refine r_nil ?_ | refine e_then ?_ | refine r_go rfl rfl ?_ | refine r_pass rfl rfl rfl ?_ | refine r_passu rfl rfl rfl ?_ | refine r_y (y_fieldAddr rfl) rfl ?_ | refine r_y (y_fieldAddr' rfl) rfl ?_ | refine r_y (y_len rfl) rfl ?_ | refine r_y (y_lenStr rfl) rfl ?_ | refine r_y (y_ptr_nil rfl rfl) rfl ?_ | refine r_y (y_ptr_ne_nil rfl rfl) rfl ?_ | refine r_y (y_slice_nil rfl rfl) rfl ?_ | refine r_y (y_map_nil rfl rfl) rfl ?_ | refine r_y (y_add64 rfl rfl (by omega)) rfl ?_ | refine r_y (y_sub64 rfl rfl (by omega)) rfl ?_ | refine g_true rfl ?_ | refine g_false rfl ?_ | refine g_skip ?_ | refine g_block ?_ | refine e_block_normal ?_ | refine g_exit ?_ | refine e_block_exit ?_ | refine e_block_exit_ne rfl ?_ | refine e_then_exit ?_ | refine e_round_exit ?_))
  refine g_dec rfl (fun _ => ?_) (fun hh => absurd (by rw [hl]) hh)
  (repeat (first | refine r_pure rfl rfl ?_ | refine g_seq ?_ | refine g_region ?_ | refine r_nil ?_ | refine e_then ?_ | refine r_go rfl rfl ?_ | refine r_pass rfl rfl rfl ?_ | refine r_passu rfl rfl rfl ?_ | refine r_y (y_fieldAddr rfl) rfl ?_ | refine r_y (y_fieldAddr' rfl) rfl ?_ | refine r_y (y_len rfl) rfl ?_ | refine r_y (y_lenStr rfl) rfl ?_ | refine r_y (y_ptr_nil rfl rfl) rfl ?_ | refine r_y (y_ptr_ne_nil rfl rfl) rfl ?_ | refine r_y (y_slice_nil rfl rfl) rfl ?_ | refine r_y (y_map_nil rfl rfl) rfl ?_ | refine r_y (y_add64 rfl rfl (by omega)) rfl ?_ | refine r_y (y_sub64 rfl rfl (by omega)) rfl ?_ | refine g_true rfl ?_ | refine g_false rfl ?_ | refine g_skip ?_ | refine g_block ?_ | refine e_block_normal ?_ | refine g_exit ?_ | refine e_block_exit ?_ | refine e_block_exit_ne rfl ?_ | refine e_then_exit ?_ | refine e_round_exit ?_))
  refine r_y (y_load rfl ((ka.step s0 (by simp)).cell? rfl)) rfl ?_
  refine r_call rfl rfl (mapsClone_ok s0.ok (kc.step s0 (by simp))) ?_
  rintro r O1 w1 s1 ⟨m', rfl, rfl, hm', hz1, hc1⟩
  (repeat (first | refine r_pure rfl rfl ?_ | refine g_seq ?_ | refine g_region ?_ | refine r_nil ?_ | refine e_then ?_ | refine r_go rfl rfl ?_ | refine r_pass rfl rfl rfl ?_ | refine r_passu rfl rfl rfl ?_ | refine r_y (y_fieldAddr rfl) rfl ?_ | refine r_y (y_fieldAddr' rfl) rfl ?_ | refine r_y (y_len rfl) rfl ?_ | refine r_y (y_lenStr rfl) rfl ?_ | refine r_y (y_ptr_nil rfl rfl) rfl ?_ | refine r_y (y_ptr_ne_nil rfl rfl) rfl ?_ | refine r_y (y_slice_nil rfl rfl) rfl ?_ | refine r_y (y_map_nil rfl rfl) rfl ?_ | refine r_y (y_add64 rfl rfl (by omega)) rfl ?_ | refine r_y (y_sub64 rfl rfl (by omega)) rfl ?_ | refine g_true rfl ?_ | refine g_false rfl ?_ | refine g_skip ?_ | refine g_block ?_ | refine e_block_normal ?_ | refine g_exit ?_ | refine e_block_exit ?_ | refine e_block_exit_ne rfl ?_ | refine e_then_exit ?_ | refine e_round_exit ?_))
  have s01 := s0.trans0 s1
  refine r_store1 s1.ok rfl rfl rfl rfl (ha.step s01 (by simp)) (by simp) (s1.keep _ h1) (fun w2 s2 hb2 => ?_)
  (repeat (first | refine r_pure rfl rfl ?_ | refine g_seq ?_ | refine g_region ?_ | refine r_nil ?_ | refine e_then ?_ | refine r_go rfl rfl ?_ | refine r_pass rfl rfl rfl ?_ | refine r_passu rfl rfl rfl ?_ | refine r_y (y_fieldAddr rfl) rfl ?_ | refine r_y (y_fieldAddr' rfl) rfl ?_ | refine r_y (y_len rfl) rfl ?_ | refine r_y (y_lenStr rfl) rfl ?_ | refine r_y (y_ptr_nil rfl rfl) rfl ?_ | refine r_y (y_ptr_ne_nil rfl rfl) rfl ?_ | refine r_y (y_slice_nil rfl rfl) rfl ?_ | refine r_y (y_map_nil rfl rfl) rfl ?_ | refine r_y (y_add64 rfl rfl (by omega)) rfl ?_ | refine r_y (y_sub64 rfl rfl (by omega)) rfl ?_ | refine g_true rfl ?_ | refine g_false rfl ?_ | refine g_skip ?_ | refine g_block ?_ | refine e_block_normal ?_ | refine g_exit ?_ | refine e_block_exit ?_ | refine e_block_exit_ne rfl ?_ | refine e_then_exit ?_ | refine e_round_exit ?_))
  refine ret0 (.inr rfl) rfl ?_
  have s := (s01.more (M' := [p]) (fun _ h => by cases h) (fun b hb => by simp at hb; subst hb; exact h1)).trans s2 (fun b hb => .inl hb)
  have hpm : p ≠ m' := hc1.ne_cb (ha.step s01 (by simp))
  exact ⟨_, _, rfl, s, m', rfl, hm', s.keep _ h1, by simp, ⟨_, fs, hb2, hb.step s, hc1.step s2 (by simp; exact Ne.symm hpm), kd.mono fun _ _ h => ⟨h.1, h.2.step s⟩⟩, h3, h4, k5⟩

/-! ### Changes -/

/-- A block that is another one. -/
abbrev TWr := Nat × List UInt8

def WrIs (B : Nat) (O : List Nat) (w : World) : List Value → TWr → Prop := fun row y => ∃ v, row = [.int .i64 y.1, v] ∧ FBytes B O w v y.2

theorem wr_at {B : Nat} {O : List Nat} {w : World} {a : Option Addr} {n cap : Nat} {ys : List TWr} (h : SlR 2 (WrIs B O w) O w (.slice a n cap) ys) {i : Nat} {y : TWr} (hi : ys[i]? = some y) :
    ∃ x v, a = some x ∧ Cell O w (x.add (i * 2 + 0)) (.int .i64 y.1) ∧ Cell O w (x.add (i * 2 + 1)) v ∧ FBytes B O w v y.2 := by
  obtain ⟨x, row, rfl, hc, ⟨v, rfl, hb⟩, _⟩ := h.at (by decide) hi
  exact ⟨x, v, rfl, hc 0 _ rfl, hc 1 _ rfl, hb⟩

def WrL (B : Nat) (O : List Nat) (w : World) (v : Value) (ys : List TWr) : Prop := SlR 2 (WrIs B O w) O w v ys

theorem WrIs.step {B : Nat} {M O O' : List Nat} {w w' : World} {row : List Value} {y : TWr} (h : WrIs B O w row y) (s : Step M O O' w w') : WrIs B O' w' row y := by
  obtain ⟨v, h1, h2⟩ := h; exact ⟨v, h1, h2.step s⟩
theorem WrIs.sub {B : Nat} {O O' : List Nat} {w : World} {row : List Value} {y : TWr} (h : WrIs B O w row y) (hs : ∀ b, b ∈ O' → b ∈ O) : WrIs B O' w row y := by
  obtain ⟨v, h1, h2⟩ := h; exact ⟨v, h1, h2.sub hs⟩
theorem WrL.step {B : Nat} {M O O' : List Nat} {w w' : World} {v : Value} {ys : List TWr} (h : WrL B O w v ys) (s : Step M O O' w w') : WrL B O' w' v ys := SlR.step h s fun _ _ h => h.step s

/-- What is told of the first 'k' places. -/
def Tx.chg (t : Tx) : Nat → List TWr
  | 0 => []
  | k + 1 => t.chg k ++ if t.now k = t.was.getD k [] then [] else [(k, t.now k)]

theorem Tx.chg_length (t : Tx) : ∀ k, (t.chg k).length ≤ k
  | 0 => Nat.le_refl _
  | k + 1 => by
    have := Tx.chg_length t k
    unfold Tx.chg
    split <;> simp <;> omega

def Tx.changes (t : Tx) : List TWr := t.chg t.was.length

theorem len_none (hO : OK O w) : FnC Tryz.prog 32 [.pointer none] O [] w fun r O' w' => O = O' ∧ w = w' ∧ r = .int .i64 0 := by
  refine fn_of _ Tryz.func32 rfl (by kernel_rfl) Tryz.ntmps32 rfl ?_
  (repeat (first | refine r_pure rfl rfl ?_ | refine g_seq ?_ | refine g_region ?_ | refine r_nil ?_ | refine e_then ?_ | refine r_go rfl rfl ?_ | refine r_pass rfl rfl rfl ?_ | refine r_passu rfl rfl rfl ?_ | refine r_y (y_fieldAddr rfl) rfl ?_ | refine r_y (y_fieldAddr' rfl) rfl ?_ | refine r_y (y_len rfl) rfl ?_ | refine r_y (y_lenStr rfl) rfl ?_ | refine r_y (y_ptr_nil rfl rfl) rfl ?_ | refine r_y (y_ptr_ne_nil rfl rfl) rfl ?_ | refine r_y (y_slice_nil rfl rfl) rfl ?_ | refine r_y (y_map_nil rfl rfl) rfl ?_ | refine r_y (y_add64 rfl rfl (by omega)) rfl ?_ | refine r_y (y_sub64 rfl rfl (by omega)) rfl ?_ | refine g_true rfl ?_ | refine g_false rfl ?_ | refine g_skip ?_ | refine g_block ?_ | refine e_block_normal ?_ | refine g_exit ?_ | refine e_block_exit ?_ | refine e_block_exit_ne rfl ?_ | refine e_then_exit ?_ | refine e_round_exit ?_))
  refine g_ret ?_; (repeat (first | refine e_then_ret ?_ | refine e_block_ret ?_ | refine e_round_ret ?_)); refine ret1 (.inl rfl) rfl rfl ?_
  exact ⟨_, _, rfl, Step.refl hO, rfl, rfl, rfl⟩

theorem there_none (hO : OK O w) {i : Int} : FnC Tryz.prog 42 [.pointer none, .int .i64 i] O [] w fun r O' w' => O = O' ∧ w = w' ∧ r = .bool false := by
  refine fn_of _ Tryz.func42 rfl (by kernel_rfl) Tryz.ntmps42 rfl ?_
  (repeat (first | refine r_pure rfl rfl ?_ | refine g_seq ?_ | refine g_region ?_ | refine r_nil ?_ | refine e_then ?_ | refine r_go rfl rfl ?_ | refine r_pass rfl rfl rfl ?_ | refine r_passu rfl rfl rfl ?_ | refine r_y (y_fieldAddr rfl) rfl ?_ | refine r_y (y_fieldAddr' rfl) rfl ?_ | refine r_y (y_len rfl) rfl ?_ | refine r_y (y_lenStr rfl) rfl ?_ | refine r_y (y_ptr_nil rfl rfl) rfl ?_ | refine r_y (y_ptr_ne_nil rfl rfl) rfl ?_ | refine r_y (y_slice_nil rfl rfl) rfl ?_ | refine r_y (y_map_nil rfl rfl) rfl ?_ | refine r_y (y_add64 rfl rfl (by omega)) rfl ?_ | refine r_y (y_sub64 rfl rfl (by omega)) rfl ?_ | refine g_true rfl ?_ | refine g_false rfl ?_ | refine g_skip ?_ | refine g_block ?_ | refine e_block_normal ?_ | refine g_exit ?_ | refine e_block_exit ?_ | refine e_block_exit_ne rfl ?_ | refine e_then_exit ?_ | refine e_round_exit ?_))
  refine g_ret ?_; (repeat (first | refine e_then_ret ?_ | refine e_block_ret ?_ | refine e_round_ret ?_)); refine ret1 (.inl rfl) rfl rfl ?_
  exact ⟨_, _, rfl, Step.refl hO, rfl, rfl, rfl⟩

theorem get_none (hO : OK O w) {i : Int} : FnC Tryz.prog 18 [.pointer none, .int .i64 i] O [] w fun r O' w' => O = O' ∧ w = w' ∧ r = .slice none 0 0 := by
  refine fn_of _ Tryz.func18 rfl (by kernel_rfl) Tryz.ntmps18 rfl ?_
  (repeat (first | refine r_pure rfl rfl ?_ | refine g_seq ?_ | refine g_region ?_ | refine r_nil ?_ | refine e_then ?_ | refine r_go rfl rfl ?_ | refine r_pass rfl rfl rfl ?_ | refine r_passu rfl rfl rfl ?_ | refine r_y (y_fieldAddr rfl) rfl ?_ | refine r_y (y_fieldAddr' rfl) rfl ?_ | refine r_y (y_len rfl) rfl ?_ | refine r_y (y_lenStr rfl) rfl ?_ | refine r_y (y_ptr_nil rfl rfl) rfl ?_ | refine r_y (y_ptr_ne_nil rfl rfl) rfl ?_ | refine r_y (y_slice_nil rfl rfl) rfl ?_ | refine r_y (y_map_nil rfl rfl) rfl ?_ | refine r_y (y_add64 rfl rfl (by omega)) rfl ?_ | refine r_y (y_sub64 rfl rfl (by omega)) rfl ?_ | refine g_true rfl ?_ | refine g_false rfl ?_ | refine g_skip ?_ | refine g_block ?_ | refine e_block_normal ?_ | refine g_exit ?_ | refine e_block_exit ?_ | refine e_block_exit_ne rfl ?_ | refine e_then_exit ?_ | refine e_round_exit ?_))
  refine r_call rfl rfl (there_none hO) ?_
  rintro r O1 w1 s1 ⟨rfl, rfl, rfl⟩
  (repeat (first | refine r_pure rfl rfl ?_ | refine g_seq ?_ | refine g_region ?_ | refine r_nil ?_ | refine e_then ?_ | refine r_go rfl rfl ?_ | refine r_pass rfl rfl rfl ?_ | refine r_passu rfl rfl rfl ?_ | refine r_y (y_fieldAddr rfl) rfl ?_ | refine r_y (y_fieldAddr' rfl) rfl ?_ | refine r_y (y_len rfl) rfl ?_ | refine r_y (y_lenStr rfl) rfl ?_ | refine r_y (y_ptr_nil rfl rfl) rfl ?_ | refine r_y (y_ptr_ne_nil rfl rfl) rfl ?_ | refine r_y (y_slice_nil rfl rfl) rfl ?_ | refine r_y (y_map_nil rfl rfl) rfl ?_ | refine r_y (y_add64 rfl rfl (by omega)) rfl ?_ | refine r_y (y_sub64 rfl rfl (by omega)) rfl ?_ | refine g_true rfl ?_ | refine g_false rfl ?_ | refine g_skip ?_ | refine g_block ?_ | refine e_block_normal ?_ | refine g_exit ?_ | refine e_block_exit ?_ | refine e_block_exit_ne rfl ?_ | refine e_then_exit ?_ | refine e_round_exit ?_))
  refine g_ret ?_; (repeat (first | refine e_then_ret ?_ | refine e_block_ret ?_ | refine e_round_ret ?_)); refine ret1 (.inl rfl) rfl rfl ?_
  exact ⟨_, _, rfl, Step.refl hO, rfl, rfl, rfl⟩

theorem changes_none (hO : OK O w) : FnC Tryz.prog 23 [.pointer none] O [] w fun r O' w' => O = O' ∧ r = .slice none 0 0 := by
  refine fn_of _ Tryz.func23 rfl (by kernel_rfl) Tryz.ntmps23 rfl ?_
  (repeat (first | refine r_pure rfl rfl ?_ | refine g_seq ?_ | refine g_region ?_ | refine r_nil ?_ | refine e_then ?_ | refine r_go rfl rfl ?_ | refine r_pass rfl rfl rfl ?_ | refine r_passu rfl rfl rfl ?_ | refine r_y (y_fieldAddr rfl) rfl ?_ | refine r_y (y_fieldAddr' rfl) rfl ?_ | refine r_y (y_len rfl) rfl ?_ | refine r_y (y_lenStr rfl) rfl ?_ | refine r_y (y_ptr_nil rfl rfl) rfl ?_ | refine r_y (y_ptr_ne_nil rfl rfl) rfl ?_ | refine r_y (y_slice_nil rfl rfl) rfl ?_ | refine r_y (y_map_nil rfl rfl) rfl ?_ | refine r_y (y_add64 rfl rfl (by omega)) rfl ?_ | refine r_y (y_sub64 rfl rfl (by omega)) rfl ?_ | refine g_true rfl ?_ | refine g_false rfl ?_ | refine g_skip ?_ | refine g_block ?_ | refine e_block_normal ?_ | refine g_exit ?_ | refine e_block_exit ?_ | refine e_block_exit_ne rfl ?_ | refine e_then_exit ?_ | refine e_round_exit ?_))
  refine r_call rfl rfl (len_none hO) ?_
  rintro r O1 w1 s1 ⟨rfl, rfl, rfl⟩
  (repeat (first | refine r_pure rfl rfl ?_ | refine g_seq ?_ | refine g_region ?_ | refine r_nil ?_ | refine e_then ?_ | refine r_go rfl rfl ?_ | refine r_pass rfl rfl rfl ?_ | refine r_passu rfl rfl rfl ?_ | refine r_y (y_fieldAddr rfl) rfl ?_ | refine r_y (y_fieldAddr' rfl) rfl ?_ | refine r_y (y_len rfl) rfl ?_ | refine r_y (y_lenStr rfl) rfl ?_ | refine r_y (y_ptr_nil rfl rfl) rfl ?_ | refine r_y (y_ptr_ne_nil rfl rfl) rfl ?_ | refine r_y (y_slice_nil rfl rfl) rfl ?_ | refine r_y (y_map_nil rfl rfl) rfl ?_ | refine r_y (y_add64 rfl rfl (by omega)) rfl ?_ | refine r_y (y_sub64 rfl rfl (by omega)) rfl ?_ | refine g_true rfl ?_ | refine g_false rfl ?_ | refine g_skip ?_ | refine g_block ?_ | refine e_block_normal ?_ | refine g_exit ?_ | refine e_block_exit ?_ | refine e_block_exit_ne rfl ?_ | refine e_then_exit ?_ | refine e_round_exit ?_))
  refine g_loop (X := Unit) (fun _ => [(3, .slice none 0 0), (7, .int .i64 0), (8, .int .i64 0)]) (fun _ wr => w = wr) (fun _ => 0) () (sub_cons rfl rfl (sub_cons rfl rfl (sub_cons rfl rfl (sub_nil)))) rfl ?_
  rintro _ wr rfl
  (repeat (first | refine r_pure rfl rfl ?_ | refine g_seq ?_ | refine g_region ?_ | refine r_nil ?_ | refine e_then ?_ | refine r_go rfl rfl ?_ | refine r_pass rfl rfl rfl ?_ | refine r_passu rfl rfl rfl ?_ | refine r_y (y_fieldAddr rfl) rfl ?_ | refine r_y (y_fieldAddr' rfl) rfl ?_ | refine r_y (y_len rfl) rfl ?_ | refine r_y (y_lenStr rfl) rfl ?_ | refine r_y (y_ptr_nil rfl rfl) rfl ?_ | refine r_y (y_ptr_ne_nil rfl rfl) rfl ?_ | refine r_y (y_slice_nil rfl rfl) rfl ?_ | refine r_y (y_map_nil rfl rfl) rfl ?_ | refine r_y (y_add64 rfl rfl (by omega)) rfl ?_ | refine r_y (y_sub64 rfl rfl (by omega)) rfl ?_ | refine g_true rfl ?_ | refine g_false rfl ?_ | refine g_skip ?_ | refine g_block ?_ | refine e_block_normal ?_ | refine g_exit ?_ | refine e_block_exit ?_ | refine e_block_exit_ne rfl ?_ | refine e_then_exit ?_ | refine e_round_exit ?_))
  refine g_ret ?_; (repeat (first | refine e_then_ret ?_ | refine e_block_ret ?_ | refine e_round_ret ?_)); refine ret1 (.inl rfl) rfl rfl ?_
  exact ⟨_, _, rfl, Step.refl hO, rfl, rfl⟩

theorem changes_ok (hO : OK O w) (h : TxnAt O w p m t) :
    FnC Tryz.prog 23 [.pointer (some ⟨p, 0, none⟩)] O [] w fun r O' w' => O = O' ∧ w.heap.size ≤ w'.heap.size ∧ WrL w.heap.size O w' r t.changes := by
  have hmany := h.many
  refine fn_of _ Tryz.func23 rfl (by kernel_rfl) Tryz.ntmps23 rfl ?_
  (repeat (first | refine r_pure rfl rfl ?_ | refine g_seq ?_ | refine g_region ?_ | refine r_nil ?_ | refine e_then ?_ | refine r_go rfl rfl ?_ | refine r_pass rfl rfl rfl ?_ | refine r_passu rfl rfl rfl ?_ | refine r_y (y_fieldAddr rfl) rfl ?_ | refine r_y (y_fieldAddr' rfl) rfl ?_ | refine r_y (y_len rfl) rfl ?_ | refine r_y (y_lenStr rfl) rfl ?_ | refine r_y (y_ptr_nil rfl rfl) rfl ?_ | refine r_y (y_ptr_ne_nil rfl rfl) rfl ?_ | refine r_y (y_slice_nil rfl rfl) rfl ?_ | refine r_y (y_map_nil rfl rfl) rfl ?_ | refine r_y (y_add64 rfl rfl (by omega)) rfl ?_ | refine r_y (y_sub64 rfl rfl (by omega)) rfl ?_ | refine g_true rfl ?_ | refine g_false rfl ?_ | refine g_skip ?_ | refine g_block ?_ | refine e_block_normal ?_ | refine g_exit ?_ | refine e_block_exit ?_ | refine e_block_exit_ne rfl ?_ | refine e_then_exit ?_ | refine e_round_exit ?_))
  refine r_call rfl rfl (len_ok hO h) ?_
  rintro r O1 w1 s1 ⟨rfl, rfl, rfl⟩
  (repeat (first | refine r_pure rfl rfl ?_ | refine g_seq ?_ | refine g_region ?_ | refine r_nil ?_ | refine e_then ?_ | refine r_go rfl rfl ?_ | refine r_pass rfl rfl rfl ?_ | refine r_passu rfl rfl rfl ?_ | refine r_y (y_fieldAddr rfl) rfl ?_ | refine r_y (y_fieldAddr' rfl) rfl ?_ | refine r_y (y_len rfl) rfl ?_ | refine r_y (y_lenStr rfl) rfl ?_ | refine r_y (y_ptr_nil rfl rfl) rfl ?_ | refine r_y (y_ptr_ne_nil rfl rfl) rfl ?_ | refine r_y (y_slice_nil rfl rfl) rfl ?_ | refine r_y (y_map_nil rfl rfl) rfl ?_ | refine r_y (y_add64 rfl rfl (by omega)) rfl ?_ | refine r_y (y_sub64 rfl rfl (by omega)) rfl ?_ | refine g_true rfl ?_ | refine g_false rfl ?_ | refine g_skip ?_ | refine g_block ?_ | refine e_block_normal ?_ | refine g_exit ?_ | refine e_block_exit ?_ | refine e_block_exit_ne rfl ?_ | refine e_then_exit ?_ | refine e_round_exit ?_))
  refine g_loop (X := Nat × Value) (fun x => [(0, .pointer (some ⟨p, 0, none⟩)), (3, x.2), (7, .int .i64 t.was.length), (8, .int .i64 x.1)])
    (fun x wr => ∃ O1 rows, Step [] O O1 w wr ∧ Buf (fun q => q ∈ O1 ∧ w.heap.size ≤ q) wr 2 x.2 (t.chg x.1).length rows.flatten ∧ All2 (WrIs w.heap.size O1 wr) rows (t.chg x.1) ∧ (∀ row, row ∈ rows → row.length = 2) ∧ x.1 ≤ t.was.length)
    (fun x => t.was.length - x.1) (0, .slice none 0 0) (sub_cons rfl rfl (sub_cons rfl rfl (sub_cons rfl rfl (sub_cons rfl rfl (sub_nil))))) ⟨O, [], Step.refl hO, Buf.nil, trivial, (fun _ h => by cases h), by simp⟩ ?_
  rintro ⟨k, v⟩ wr ⟨O1, rows, sr, hbuf, hall, hrows, hk⟩
  dsimp only at hbuf hall hk ⊢
  have hT := h.step sr (by simp) (by simp)
  (repeat (first | refine r_pure rfl rfl ?_ | refine g_seq ?_ | refine g_region ?_ | refine r_nil ?_ | refine e_then ?_ | refine r_go rfl rfl ?_ | refine r_pass rfl rfl rfl ?_ | refine r_passu rfl rfl rfl ?_ | refine r_y (y_fieldAddr rfl) rfl ?_ | refine r_y (y_fieldAddr' rfl) rfl ?_ | refine r_y (y_len rfl) rfl ?_ | refine r_y (y_lenStr rfl) rfl ?_ | refine r_y (y_ptr_nil rfl rfl) rfl ?_ | refine r_y (y_ptr_ne_nil rfl rfl) rfl ?_ | refine r_y (y_slice_nil rfl rfl) rfl ?_ | refine r_y (y_map_nil rfl rfl) rfl ?_ | refine r_y (y_add64 rfl rfl (by omega)) rfl ?_ | refine r_y (y_sub64 rfl rfl (by omega)) rfl ?_ | refine g_true rfl ?_ | refine g_false rfl ?_ | refine g_skip ?_ | refine g_block ?_ | refine e_block_normal ?_ | refine g_exit ?_ | refine e_block_exit ?_ | refine e_block_exit_ne rfl ?_ | refine e_then_exit ?_ | refine e_round_exit ?_))
  refine g_dec rfl (fun hlt => ?_) (fun hlt => ?_)
  · have hk' : k < t.was.length := by omega
    (repeat (first | refine r_pure rfl rfl ?_ | refine g_seq ?_ | refine g_region ?_ | refine r_nil ?_ | refine e_then ?_ | refine r_go rfl rfl ?_ | refine r_pass rfl rfl rfl ?_ | refine r_passu rfl rfl rfl ?_ | refine r_y (y_fieldAddr rfl) rfl ?_ | refine r_y (y_fieldAddr' rfl) rfl ?_ | refine r_y (y_len rfl) rfl ?_ | refine r_y (y_lenStr rfl) rfl ?_ | refine r_y (y_ptr_nil rfl rfl) rfl ?_ | refine r_y (y_ptr_ne_nil rfl rfl) rfl ?_ | refine r_y (y_slice_nil rfl rfl) rfl ?_ | refine r_y (y_map_nil rfl rfl) rfl ?_ | refine r_y (y_add64 rfl rfl (by omega)) rfl ?_ | refine r_y (y_sub64 rfl rfl (by omega)) rfl ?_ | refine g_true rfl ?_ | refine g_false rfl ?_ | refine g_skip ?_ | refine g_block ?_ | refine e_block_normal ?_ | refine g_exit ?_ | refine e_block_exit ?_ | refine e_block_exit_ne rfl ?_ | refine e_then_exit ?_ | refine e_round_exit ?_))
    refine r_call rfl rfl (now_ok sr.ok hT hk') ?_
    rintro rn O2 w2 s2 ⟨rfl, rfl, hnow⟩
    (repeat (first | refine r_pure rfl rfl ?_ | refine g_seq ?_ | refine g_region ?_ | refine r_nil ?_ | refine e_then ?_ | refine r_go rfl rfl ?_ | refine r_pass rfl rfl rfl ?_ | refine r_passu rfl rfl rfl ?_ | refine r_y (y_fieldAddr rfl) rfl ?_ | refine r_y (y_fieldAddr' rfl) rfl ?_ | refine r_y (y_len rfl) rfl ?_ | refine r_y (y_lenStr rfl) rfl ?_ | refine r_y (y_ptr_nil rfl rfl) rfl ?_ | refine r_y (y_ptr_ne_nil rfl rfl) rfl ?_ | refine r_y (y_slice_nil rfl rfl) rfl ?_ | refine r_y (y_map_nil rfl rfl) rfl ?_ | refine r_y (y_add64 rfl rfl (by omega)) rfl ?_ | refine r_y (y_sub64 rfl rfl (by omega)) rfl ?_ | refine g_true rfl ?_ | refine g_false rfl ?_ | refine g_skip ?_ | refine g_block ?_ | refine e_block_normal ?_ | refine g_exit ?_ | refine e_block_exit ?_ | refine e_block_exit_ne rfl ?_ | refine e_then_exit ?_ | refine e_round_exit ?_))
    obtain ⟨lv, es, ha, hb, hc, hd⟩ := hT.mem
    obtain ⟨la, lc, rfl, _⟩ := hb.form
    obtain ⟨x, u, rfl, hcu, hbu⟩ := hb.at (List.getElem?_eq_getElem hk')
    refine r_y (y_load rfl (ha.cell? rfl)) rfl ?_
    (repeat (first | refine r_pure rfl rfl ?_ | refine g_seq ?_ | refine g_region ?_ | refine r_nil ?_ | refine e_then ?_ | refine r_go rfl rfl ?_ | refine r_pass rfl rfl rfl ?_ | refine r_passu rfl rfl rfl ?_ | refine r_y (y_fieldAddr rfl) rfl ?_ | refine r_y (y_fieldAddr' rfl) rfl ?_ | refine r_y (y_len rfl) rfl ?_ | refine r_y (y_lenStr rfl) rfl ?_ | refine r_y (y_ptr_nil rfl rfl) rfl ?_ | refine r_y (y_ptr_ne_nil rfl rfl) rfl ?_ | refine r_y (y_slice_nil rfl rfl) rfl ?_ | refine r_y (y_map_nil rfl rfl) rfl ?_ | refine r_y (y_add64 rfl rfl (by omega)) rfl ?_ | refine r_y (y_sub64 rfl rfl (by omega)) rfl ?_ | refine g_true rfl ?_ | refine g_false rfl ?_ | refine g_skip ?_ | refine g_block ?_ | refine e_block_normal ?_ | refine g_exit ?_ | refine e_block_exit ?_ | refine e_block_exit_ne rfl ?_ | refine e_then_exit ?_ | refine e_round_exit ?_))
    refine r_y (y_indexAddr rfl rfl (by omega)) rfl ?_
    refine r_y (y_load rfl (cell_at hcu)) rfl ?_
    refine r_call rfl rfl (equal_ok sr.ok hnow hbu) ?_
    rintro r O2 w2 s2 ⟨rfl, rfl, rfl⟩
    (repeat (first | refine r_pure rfl rfl ?_ | refine g_seq ?_ | refine g_region ?_ | refine r_nil ?_ | refine e_then ?_ | refine r_go rfl rfl ?_ | refine r_pass rfl rfl rfl ?_ | refine r_passu rfl rfl rfl ?_ | refine r_y (y_fieldAddr rfl) rfl ?_ | refine r_y (y_fieldAddr' rfl) rfl ?_ | refine r_y (y_len rfl) rfl ?_ | refine r_y (y_lenStr rfl) rfl ?_ | refine r_y (y_ptr_nil rfl rfl) rfl ?_ | refine r_y (y_ptr_ne_nil rfl rfl) rfl ?_ | refine r_y (y_slice_nil rfl rfl) rfl ?_ | refine r_y (y_map_nil rfl rfl) rfl ?_ | refine r_y (y_add64 rfl rfl (by omega)) rfl ?_ | refine r_y (y_sub64 rfl rfl (by omega)) rfl ?_ | refine g_true rfl ?_ | refine g_false rfl ?_ | refine g_skip ?_ | refine g_block ?_ | refine e_block_normal ?_ | refine g_exit ?_ | refine e_block_exit ?_ | refine e_block_exit_ne rfl ?_ | refine e_then_exit ?_ | refine e_round_exit ?_))
    have hchg : t.chg (k + 1) = t.chg k ++ if t.now k = t.was.getD k [] then [] else [(k, t.now k)] := rfl
    have hg : t.was.getD k [] = t.was[k] := by rw [List.getD_eq_getElem?_getD, List.getElem?_eq_getElem hk']; rfl
    rw [hg] at hchg
    refine g_ndec rfl (fun he => ?_) (fun he => ?_)
    · rw [if_neg he] at hchg
      (repeat (first | refine r_pure rfl rfl ?_ | refine g_seq ?_ | refine g_region ?_ | refine r_nil ?_ | refine e_then ?_ | refine r_go rfl rfl ?_ | refine r_pass rfl rfl rfl ?_ | refine r_passu rfl rfl rfl ?_ | refine r_y (y_fieldAddr rfl) rfl ?_ | refine r_y (y_fieldAddr' rfl) rfl ?_ | refine r_y (y_len rfl) rfl ?_ | refine r_y (y_lenStr rfl) rfl ?_ | refine r_y (y_ptr_nil rfl rfl) rfl ?_ | refine r_y (y_ptr_ne_nil rfl rfl) rfl ?_ | refine r_y (y_slice_nil rfl rfl) rfl ?_ | refine r_y (y_map_nil rfl rfl) rfl ?_ | refine r_y (y_add64 rfl rfl (by omega)) rfl ?_ | refine r_y (y_sub64 rfl rfl (by omega)) rfl ?_ | refine g_true rfl ?_ | refine g_false rfl ?_ | refine g_skip ?_ | refine g_block ?_ | refine e_block_normal ?_ | refine g_exit ?_ | refine e_block_exit ?_ | refine e_block_exit_ne rfl ?_ | refine e_then_exit ?_ | refine e_round_exit ?_))
      have hbig := Tx.now_big (i := k) h.big h.bigp
      refine r_call rfl rfl (clone_ok sr.ok hnow (by omega)) ?_
      rintro rc O3 w3 s3 ⟨rfl, hz3, hbc⟩
      have hrc : FBytes w.heap.size O1 w3 rc (t.now k) := hbc.fbytes sr.ok sr.size
      obtain ⟨ra, rcap, rfl, _⟩ := hrc.bytes.form
      refine r_y (y_build (cs := [_, _]) rfl rfl) rfl ?_
      refine r_buildSlice (cs := [_, _]) s3.ok rfl rfl rfl rfl (fun q1 w4 hq s4 z4 hb4 => ?_)
      have hlen := Tx.chg_length t k
      refine r_append (p := fun q => q ∈ O1 ∧ w.heap.size ≤ q) s4.ok rfl rfl rfl ((hbuf.step s3 (by simp)).step s4 (by simp)) (fun q hq => hq.1)
        (src_cb (rest := []) (m := 1) (by simpa using hb4) rfl (by simp [Value.oneCell'])) (by unfold maxLen; omega) (by omega) (fun v' w5 O5 s5 hbuf5 => ?_)
      (repeat (first | refine r_pure rfl rfl ?_ | refine g_seq ?_ | refine g_region ?_ | refine r_nil ?_ | refine e_then ?_ | refine r_go rfl rfl ?_ | refine r_pass rfl rfl rfl ?_ | refine r_passu rfl rfl rfl ?_ | refine r_y (y_fieldAddr rfl) rfl ?_ | refine r_y (y_fieldAddr' rfl) rfl ?_ | refine r_y (y_len rfl) rfl ?_ | refine r_y (y_lenStr rfl) rfl ?_ | refine r_y (y_ptr_nil rfl rfl) rfl ?_ | refine r_y (y_ptr_ne_nil rfl rfl) rfl ?_ | refine r_y (y_slice_nil rfl rfl) rfl ?_ | refine r_y (y_map_nil rfl rfl) rfl ?_ | refine r_y (y_add64 rfl rfl (by omega)) rfl ?_ | refine r_y (y_sub64 rfl rfl (by omega)) rfl ?_ | refine g_true rfl ?_ | refine g_false rfl ?_ | refine g_skip ?_ | refine g_block ?_ | refine e_block_normal ?_ | refine g_exit ?_ | refine e_block_exit ?_ | refine e_block_exit_ne rfl ?_ | refine e_then_exit ?_ | refine e_round_exit ?_))
      have s04 := (sr.trans0 s3).trans0 s4
      have s05 := s04.trans s5 (fun b hb => .inr (hbuf.blk b hb).2)
      refine e_round (k + 1, v') (sub_cons rfl rfl (sub_cons rfl rfl (sub_cons rfl rfl (sub_cons rfl rfl (sub_nil))))) ⟨O5, rows ++ [[.int .i64 k, .slice ra (t.now k).length rcap]], s05, ?_, ?_, ?_, by omega⟩ (by simp only; omega)
      · rw [hchg, flat_snoc, List.length_append]
        refine hbuf5.mono (fun q hq => ⟨hq.1, ?_⟩)
        have := s04.size
        rcases hq.2 with h | h
        · exact h.2
        · omega
      · rw [hchg]
        refine All2.snoc (hall.mono fun _ _ h => ((h.step s3).step s4).step s5) ⟨_, rfl, ?_⟩
        exact (hrc.step s4).step s5
      · intro row hr
        rcases List.mem_append.1 hr with hr | hr
        · exact hrows row hr
        · simp at hr; subst hr; rfl
    · rw [if_pos he, List.append_nil] at hchg
      (repeat (first | refine r_pure rfl rfl ?_ | refine g_seq ?_ | refine g_region ?_ | refine r_nil ?_ | refine e_then ?_ | refine r_go rfl rfl ?_ | refine r_pass rfl rfl rfl ?_ | refine r_passu rfl rfl rfl ?_ | refine r_y (y_fieldAddr rfl) rfl ?_ | refine r_y (y_fieldAddr' rfl) rfl ?_ | refine r_y (y_len rfl) rfl ?_ | refine r_y (y_lenStr rfl) rfl ?_ | refine r_y (y_ptr_nil rfl rfl) rfl ?_ | refine r_y (y_ptr_ne_nil rfl rfl) rfl ?_ | refine r_y (y_slice_nil rfl rfl) rfl ?_ | refine r_y (y_map_nil rfl rfl) rfl ?_ | refine r_y (y_add64 rfl rfl (by omega)) rfl ?_ | refine r_y (y_sub64 rfl rfl (by omega)) rfl ?_ | refine g_true rfl ?_ | refine g_false rfl ?_ | refine g_skip ?_ | refine g_block ?_ | refine e_block_normal ?_ | refine g_exit ?_ | refine e_block_exit ?_ | refine e_block_exit_ne rfl ?_ | refine e_then_exit ?_ | refine e_round_exit ?_))
      exact e_round (k + 1, v) (sub_cons rfl rfl (sub_cons rfl rfl (sub_cons rfl rfl (sub_cons rfl rfl (sub_nil))))) ⟨O1, rows, sr, by rw [hchg]; exact hbuf, by rw [hchg]; exact hall, hrows, by omega⟩ (by simp only; omega)
  · (repeat (first | refine r_pure rfl rfl ?_ | refine g_seq ?_ | refine g_region ?_ | refine r_nil ?_ | refine e_then ?_ | refine r_go rfl rfl ?_ | refine r_pass rfl rfl rfl ?_ | refine r_passu rfl rfl rfl ?_ | refine r_y (y_fieldAddr rfl) rfl ?_ | refine r_y (y_fieldAddr' rfl) rfl ?_ | refine r_y (y_len rfl) rfl ?_ | refine r_y (y_lenStr rfl) rfl ?_ | refine r_y (y_ptr_nil rfl rfl) rfl ?_ | refine r_y (y_ptr_ne_nil rfl rfl) rfl ?_ | refine r_y (y_slice_nil rfl rfl) rfl ?_ | refine r_y (y_map_nil rfl rfl) rfl ?_ | refine r_y (y_add64 rfl rfl (by omega)) rfl ?_ | refine r_y (y_sub64 rfl rfl (by omega)) rfl ?_ | refine g_true rfl ?_ | refine g_false rfl ?_ | refine g_skip ?_ | refine g_block ?_ | refine e_block_normal ?_ | refine g_exit ?_ | refine e_block_exit ?_ | refine e_block_exit_ne rfl ?_ | refine e_then_exit ?_ | refine e_round_exit ?_))
    refine g_ret ?_; (repeat (first | refine e_then_ret ?_ | refine e_block_ret ?_ | refine e_round_ret ?_)); refine ret1 (.inl rfl) rfl rfl ?_
    have hkl : k = t.was.length := by omega
    subst hkl
    refine ⟨_, _, rfl, sr.less (fun _ h => h) sr.keep, rfl, sr.size, ?_⟩
    refine SlR.mk (hbuf.sl (fun q hq => fresh_nin hO hq.2)) (hall.mono fun _ _ h => h.sub sr.keep) hrows

end
end Go.Proofs.YtcfpnghkkkphhaaGreat
