/- What the functions of xdr do: numbers and bytes are put, and read. -/
import Derived.Test.YtcfpnghkkkphhaaGreatT
import Derived.Test.YtcfpnghkkkphhaaGreatGkData
import Derived.Test.YtcfpnghkkkphhaaGreatGkLit
import Derived.Test.YtcfpnghkkkphhaaGreatGkNum
import Derived.Test.YtcfpnghkkkphhaaGreatGkDraw
namespace Go.Proofs.YtcfpnghkkkphhaaGreat
open Gk Go
set_option linter.unusedVariables false
attribute [local irreducible] Gk.E Gk.G Gk.R Gk.RD Gk.Y Gk.Ent Gk.Sat Gk.Round Gk.After Gk.Cell Gk.Sl Gk.SlA Gk.CB Gk.OK Gk.FnC Gk.FBytes Gk.Bytes Gk.BytesL Gk.StrL Gk.Buf Gk.MapI

/-- The bytes of a number, the greatest first. -/
def be : Nat → Nat → List UInt8
  | 0, _ => []
  | n + 1, x => UInt8.ofNat (x / 2 ^ (8 * n)) :: be n x

@[simp] theorem be_length : ∀ (n x : Nat), (be n x).length = n
  | 0, _ => rfl
  | n + 1, x => by simp [be, be_length n x]

def fillN (n : Nat) : Nat := (4 - n % 4) % 4

/-- What is put for bytes. -/
def opaqueB (b : List UInt8) : List UInt8 := be 4 (b.length % 4294967296) ++ b ++ List.replicate (fillN b.length) 0

/-- A writer that has put these bytes. -/
structure WrAt (O : List Nat) (w : World) (p : Nat) (v : Value) (bs : List UInt8) : Prop where
  pO : p ∈ O
  cb : CB w p [v]
  bu : Buf (fun q => q ∈ blk v) w 1 v bs.length (bytesV bs)
  bo : ∀ q, q ∈ blk v → q ∈ O ∧ q ≠ p

section
variable {w : World} {O : List Nat} {p : Nat} {v : Value} {bs : List UInt8}

theorem WrAt.step {M O' : List Nat} {w' : World} (h : WrAt O w p v bs) (s : Step M O O' w w') (hp : p ∉ M) (hb : ∀ q, q ∈ blk v → q ∉ M) : WrAt O' w' p v bs :=
  ⟨s.keep _ h.pO, h.cb.step s hp, h.bu.step s hb, fun q hq => ⟨s.keep _ (h.bo q hq).1, (h.bo q hq).2⟩⟩

theorem WrAt.keep {O' : List Nat} {w' : World} (h : WrAt O w p v bs) (s : Step [] O O' w w') : WrAt O' w' p v bs := h.step s (by simp) (fun _ _ => by simp)

theorem WrAt.lt (h : WrAt O w p v bs) : p < w.heap.size ∧ ∀ q, q ∈ blk v → q < w.heap.size := ⟨h.cb.lt, h.bu.lt⟩

theorem newWriter_ok (hO : OK O w) : FnC Tryz.prog 26 [] O [] w fun r O' w' => ∃ p, r = .pointer (some ⟨p, 0, none⟩) ∧ O' = p :: O ∧ w.heap.size ≤ p ∧ WrAt O' w' p (.slice none 0 0) [] := by
  refine fn_of _ Tryz.func26 rfl (by kernel_rfl) Tryz.ntmps26 rfl ?_
  (repeat (first | refine r_pure rfl rfl ?_ | refine g_seq ?_ | refine g_region ?_ | refine r_nil ?_ | refine e_then ?_ | refine r_go rfl rfl ?_ | refine r_pass rfl rfl rfl ?_ | refine r_passu rfl rfl rfl ?_ | refine r_y (y_fieldAddr rfl) rfl ?_ | refine r_y (y_fieldAddr' rfl) rfl ?_ | refine r_y (y_len rfl) rfl ?_ | refine r_y (y_lenStr rfl) rfl ?_ | refine r_y (y_ptr_nil rfl rfl) rfl ?_ | refine r_y (y_ptr_ne_nil rfl rfl) rfl ?_ | refine r_y (y_slice_nil rfl rfl) rfl ?_ | refine r_y (y_map_nil rfl rfl) rfl ?_ | refine r_y (y_add64 rfl rfl (by omega)) rfl ?_ | refine r_y (y_sub64 rfl rfl (by omega)) rfl ?_ | refine g_true rfl ?_ | refine g_false rfl ?_ | refine g_skip ?_ | refine g_block ?_ | refine e_block_normal ?_ | refine g_exit ?_ | refine e_block_exit ?_ | refine e_block_exit_ne rfl ?_ | refine e_then_exit ?_ | refine e_round_exit ?_))
  refine r_y (y_build (cs := [_]) rfl rfl) rfl ?_
  refine r_boxN hO rfl rfl (fun p w1 hp s1 z1 hc1 => ?_)
  (repeat (first | refine r_pure rfl rfl ?_ | refine g_seq ?_ | refine g_region ?_ | refine r_nil ?_ | refine e_then ?_ | refine r_go rfl rfl ?_ | refine r_pass rfl rfl rfl ?_ | refine r_passu rfl rfl rfl ?_ | refine r_y (y_fieldAddr rfl) rfl ?_ | refine r_y (y_fieldAddr' rfl) rfl ?_ | refine r_y (y_len rfl) rfl ?_ | refine r_y (y_lenStr rfl) rfl ?_ | refine r_y (y_ptr_nil rfl rfl) rfl ?_ | refine r_y (y_ptr_ne_nil rfl rfl) rfl ?_ | refine r_y (y_slice_nil rfl rfl) rfl ?_ | refine r_y (y_map_nil rfl rfl) rfl ?_ | refine r_y (y_add64 rfl rfl (by omega)) rfl ?_ | refine r_y (y_sub64 rfl rfl (by omega)) rfl ?_ | refine g_true rfl ?_ | refine g_false rfl ?_ | refine g_skip ?_ | refine g_block ?_ | refine e_block_normal ?_ | refine g_exit ?_ | refine e_block_exit ?_ | refine e_block_exit_ne rfl ?_ | refine e_then_exit ?_ | refine e_round_exit ?_))
  refine g_ret ?_; (repeat (first | refine e_then_ret ?_ | refine e_block_ret ?_ | refine e_round_ret ?_)); refine ret1 (.inl rfl) rfl rfl ?_
  have s1' := s1.take (q := p) (by omega) (by omega)
  exact ⟨_, _, rfl, s1', p, rfl, rfl, by omega, by simp, hc1, Buf.nil, fun q hq => by simp [blk] at hq⟩

theorem put32_ok (hO : OK O w) (h : WrAt O w p v bs) {x : Nat} (hx : x < 4294967296) (hl : bs.length ≤ 70368744177664) :
    FnC Tryz.prog 90 [.pointer (some ⟨p, 0, none⟩), .int .u32 x, .int .i64 (4 : Nat)] O (p :: blk v) w fun r O' w' => ∃ v', r = .tuple #[] ∧ WrAt O' w' p v' (bs ++ be 4 x) ∧ ∀ q, q ∈ blk v' → q ∈ blk v ∨ w.heap.size ≤ q := by
  refine fn_of _ Tryz.func90 rfl (by kernel_rfl) Tryz.ntmps90 rfl ?_
  (repeat (first | refine r_pure rfl rfl ?_ | refine g_seq ?_ | refine g_region ?_ | refine r_nil ?_ | refine e_then ?_ | refine r_go rfl rfl ?_ | refine r_pass rfl rfl rfl ?_ | refine r_passu rfl rfl rfl ?_ | refine r_y (y_fieldAddr rfl) rfl ?_ | refine r_y (y_fieldAddr' rfl) rfl ?_ | refine r_y (y_len rfl) rfl ?_ | refine r_y (y_lenStr rfl) rfl ?_ | refine r_y (y_ptr_nil rfl rfl) rfl ?_ | refine r_y (y_ptr_ne_nil rfl rfl) rfl ?_ | refine r_y (y_slice_nil rfl rfl) rfl ?_ | refine r_y (y_map_nil rfl rfl) rfl ?_ | refine r_y (y_add64 rfl rfl (by omega)) rfl ?_ | refine r_y (y_sub64 rfl rfl (by omega)) rfl ?_ | refine g_true rfl ?_ | refine g_false rfl ?_ | refine g_skip ?_ | refine g_block ?_ | refine e_block_normal ?_ | refine g_exit ?_ | refine e_block_exit ?_ | refine e_block_exit_ne rfl ?_ | refine e_then_exit ?_ | refine e_round_exit ?_))
  have hM : ∀ b, b ∈ p :: blk v → b ∈ O := fun b hb => by
    rcases List.mem_cons.1 hb with rfl | hb
    · exact h.pO
    · exact (h.bo b hb).1
  refine g_loop (X := Nat × Value × List UInt8) (fun y => [(0, .pointer (some ⟨p, 0, none⟩)), (1, .int .u32 x), (2, .int .i64 y.1)])
    (fun y wr => ∃ O1, Step (p :: blk v) O O1 w wr ∧ WrAt O1 wr p y.2.1 y.2.2 ∧ y.2.2 ++ be y.1 x = bs ++ be 4 x ∧ (∀ q, q ∈ blk y.2.1 → q ∈ blk v ∨ w.heap.size ≤ q) ∧ y.1 ≤ 4) (fun y => y.1) (4, v, bs) (sub_cons rfl rfl (sub_cons rfl rfl (sub_cons rfl rfl (sub_nil))))
    ⟨O, (Step.refl hO).more (by simp) hM, h, rfl, fun _ h => .inl h, by simp⟩ ?_
  rintro ⟨k, u, cur⟩ wr ⟨O1, sr, hW, hcur, hbl, hk⟩
  dsimp only at hW hcur hbl hk ⊢
  (repeat (first | refine r_pure rfl rfl ?_ | refine g_seq ?_ | refine g_region ?_ | refine r_nil ?_ | refine e_then ?_ | refine r_go rfl rfl ?_ | refine r_pass rfl rfl rfl ?_ | refine r_passu rfl rfl rfl ?_ | refine r_y (y_fieldAddr rfl) rfl ?_ | refine r_y (y_fieldAddr' rfl) rfl ?_ | refine r_y (y_len rfl) rfl ?_ | refine r_y (y_lenStr rfl) rfl ?_ | refine r_y (y_ptr_nil rfl rfl) rfl ?_ | refine r_y (y_ptr_ne_nil rfl rfl) rfl ?_ | refine r_y (y_slice_nil rfl rfl) rfl ?_ | refine r_y (y_map_nil rfl rfl) rfl ?_ | refine r_y (y_add64 rfl rfl (by omega)) rfl ?_ | refine r_y (y_sub64 rfl rfl (by omega)) rfl ?_ | refine g_true rfl ?_ | refine g_false rfl ?_ | refine g_skip ?_ | refine g_block ?_ | refine e_block_normal ?_ | refine g_exit ?_ | refine e_block_exit ?_ | refine e_block_exit_ne rfl ?_ | refine e_then_exit ?_ | refine e_round_exit ?_))
  refine g_dec rfl (fun h0 => ?_) (fun h0 => ?_)
  · have hk0 : 0 < k := by simpa using h0
    obtain ⟨j, rfl⟩ : ∃ j, k = j + 1 := ⟨k - 1, by omega⟩
    have hcl : cur.length + (j + 1) = bs.length + 4 := by
      have := congrArg List.length hcur
      simpa [be_length] using this
    (repeat (first | refine r_pure rfl rfl ?_ | refine g_seq ?_ | refine g_region ?_ | refine r_nil ?_ | refine e_then ?_ | refine r_go rfl rfl ?_ | refine r_pass rfl rfl rfl ?_ | refine r_passu rfl rfl rfl ?_ | refine r_y (y_fieldAddr rfl) rfl ?_ | refine r_y (y_fieldAddr' rfl) rfl ?_ | refine r_y (y_len rfl) rfl ?_ | refine r_y (y_lenStr rfl) rfl ?_ | refine r_y (y_ptr_nil rfl rfl) rfl ?_ | refine r_y (y_ptr_ne_nil rfl rfl) rfl ?_ | refine r_y (y_slice_nil rfl rfl) rfl ?_ | refine r_y (y_map_nil rfl rfl) rfl ?_ | refine r_y (y_add64 rfl rfl (by omega)) rfl ?_ | refine r_y (y_sub64 rfl rfl (by omega)) rfl ?_ | refine g_true rfl ?_ | refine g_false rfl ?_ | refine g_skip ?_ | refine g_block ?_ | refine e_block_normal ?_ | refine g_exit ?_ | refine e_block_exit ?_ | refine e_block_exit_ne rfl ?_ | refine e_then_exit ?_ | refine e_round_exit ?_))
    rw [show (((j + 1 : Nat) : Int) - 1) = (j : Int) from by omega]
    refine g_draw (fun w' => w'.cell? ⟨p, 0, none⟩ = some u) [14] [(0, true), (1, true), (2, true), (3, true), (4, true), (5, true), (6, true), (7, true), (8, true), (9, true), (10, false), (11, false), (12, true), (13, true), (14, false)] (by kernel_rfl) (by kernel_rfl) ?_
    have s0 := step_drew sr.ok
    have hS : wr.drew.cell? ⟨p, 0 + 0, none⟩ = some u := s0.cell? (hW.cb.cell? rfl) (by simp)
    (repeat (first | refine rd_y rfl rfl (fun _ _ => y_pure rfl) hS ?_ | refine rd_y rfl rfl (fun _ _ => y_fieldAddr rfl) hS ?_ | refine rd_y rfl rfl (fun _ _ => y_fieldAddr' rfl) hS ?_ | refine rd_y rfl rfl (fun _ _ => y_len rfl) hS ?_ | refine rd_y rfl rfl (fun _ _ => y_lenStr rfl) hS ?_ | refine rd_y rfl rfl (fun _ _ => y_ptr_nil rfl rfl) hS ?_ | refine rd_y rfl rfl (fun _ _ => y_ptr_ne_nil rfl rfl) hS ?_ | refine rd_y rfl rfl (fun _ _ => y_slice_nil rfl rfl) hS ?_ | refine rd_y rfl rfl (fun _ _ => y_map_nil rfl rfl) hS ?_ | refine rd_y rfl rfl (fun _ _ => y_add64 rfl rfl (by omega)) hS ?_ | refine rd_y rfl rfl (fun _ _ => y_sub64 rfl rfl (by omega)) hS ?_ | refine rd_pass rfl rfl rfl rfl hS ?_ | refine rd_passu rfl rfl rfl rfl hS ?_ | refine rd_go rfl rfl rfl rfl (fun _ _ => y_pure rfl) hS ?_ | refine rd_go rfl rfl rfl rfl (fun _ _ => y_fieldAddr rfl) hS ?_ | refine rd_go rfl rfl rfl rfl (fun _ _ => y_fieldAddr' rfl) hS ?_ | refine rd_go rfl rfl rfl rfl (fun _ _ => y_len rfl) hS ?_ | refine rd_go rfl rfl rfl rfl (fun _ _ => y_lenStr rfl) hS ?_ | refine rd_go rfl rfl rfl rfl (fun _ _ => y_ptr_nil rfl rfl) hS ?_ | refine rd_go rfl rfl rfl rfl (fun _ _ => y_ptr_ne_nil rfl rfl) hS ?_ | refine rd_go rfl rfl rfl rfl (fun _ _ => y_slice_nil rfl rfl) hS ?_ | refine rd_go rfl rfl rfl rfl (fun _ _ => y_map_nil rfl rfl) hS ?_ | refine rd_go rfl rfl rfl rfl (fun _ _ => y_add64 rfl rfl (by omega)) hS ?_ | refine rd_go rfl rfl rfl rfl (fun _ _ => y_sub64 rfl rfl (by omega)) hS ?_))
    (first | refine rd_y rfl rfl (fun _ hw => y_load rfl hw) hS ?_ | refine rd_go rfl rfl rfl rfl (fun _ hw => y_load rfl hw) hS ?_)
    (repeat (first | refine rd_y rfl rfl (fun _ _ => y_pure rfl) hS ?_ | refine rd_y rfl rfl (fun _ _ => y_fieldAddr rfl) hS ?_ | refine rd_y rfl rfl (fun _ _ => y_fieldAddr' rfl) hS ?_ | refine rd_y rfl rfl (fun _ _ => y_len rfl) hS ?_ | refine rd_y rfl rfl (fun _ _ => y_lenStr rfl) hS ?_ | refine rd_y rfl rfl (fun _ _ => y_ptr_nil rfl rfl) hS ?_ | refine rd_y rfl rfl (fun _ _ => y_ptr_ne_nil rfl rfl) hS ?_ | refine rd_y rfl rfl (fun _ _ => y_slice_nil rfl rfl) hS ?_ | refine rd_y rfl rfl (fun _ _ => y_map_nil rfl rfl) hS ?_ | refine rd_y rfl rfl (fun _ _ => y_add64 rfl rfl (by omega)) hS ?_ | refine rd_y rfl rfl (fun _ _ => y_sub64 rfl rfl (by omega)) hS ?_ | refine rd_pass rfl rfl rfl rfl hS ?_ | refine rd_passu rfl rfl rfl rfl hS ?_ | refine rd_go rfl rfl rfl rfl (fun _ _ => y_pure rfl) hS ?_ | refine rd_go rfl rfl rfl rfl (fun _ _ => y_fieldAddr rfl) hS ?_ | refine rd_go rfl rfl rfl rfl (fun _ _ => y_fieldAddr' rfl) hS ?_ | refine rd_go rfl rfl rfl rfl (fun _ _ => y_len rfl) hS ?_ | refine rd_go rfl rfl rfl rfl (fun _ _ => y_lenStr rfl) hS ?_ | refine rd_go rfl rfl rfl rfl (fun _ _ => y_ptr_nil rfl rfl) hS ?_ | refine rd_go rfl rfl rfl rfl (fun _ _ => y_ptr_ne_nil rfl rfl) hS ?_ | refine rd_go rfl rfl rfl rfl (fun _ _ => y_slice_nil rfl rfl) hS ?_ | refine rd_go rfl rfl rfl rfl (fun _ _ => y_map_nil rfl rfl) hS ?_ | refine rd_go rfl rfl rfl rfl (fun _ _ => y_add64 rfl rfl (by omega)) hS ?_ | refine rd_go rfl rfl rfl rfl (fun _ _ => y_sub64 rfl rfl (by omega)) hS ?_))
    (first | refine rd_y rfl rfl (fun _ hw => y_mulN (k := .i64) (a := 8) (b := j) rfl rfl (by simp only [lim]; omega)) hS ?_ | refine rd_go rfl rfl rfl rfl (fun _ hw => y_mulN (k := .i64) (a := 8) (b := j) rfl rfl (by simp only [lim]; omega)) hS ?_)
    (first | refine rd_y rfl rfl (fun _ hw => y_shrN (k := .u32) rfl rfl (by simp only [IntKind.bits]; omega)) hS ?_ | refine rd_go rfl rfl rfl rfl (fun _ hw => y_shrN (k := .u32) rfl rfl (by simp only [IntKind.bits]; omega)) hS ?_)
    (first | refine rd_y rfl rfl (fun _ hw => y_int_u8 rfl) hS ?_ | refine rd_go rfl rfl rfl rfl (fun _ hw => y_int_u8 rfl) hS ?_)
    refine rd_do rfl ?_
    refine r_buildSlice (cs := [_]) s0.ok rfl rfl rfl rfl (fun q1 w1 hq s1 z1 b1 => ?_)
    refine r_nil ?_
    have hS1 := s1.cell? hS (by simp)
    refine e_after (fun _ => hS1) ?_
    refine rd_do rfl ?_
    have s01 := s0.trans0 s1
    have hW1 := hW.keep s01
    refine r_append (p := fun q => q ∈ blk u) s1.ok rfl rfl rfl hW1.bu (fun q hq => (hW1.bo q hq).1)
      (src_cb (rest := []) (m := 1) (news := bytesV [UInt8.ofNat (x / 2 ^ (8 * j))]) (by rw [List.append_nil]; exact b1) rfl one_bytes) (by unfold maxLen; omega) (by omega) (fun u' w2 O2 s2 b2 => ?_)
    refine r_nil ?_
    have hpn : p ∉ blk u := fun hq => (hW.bo p hq).2 rfl
    have hS2 := s2.cell? hS1 hpn
    refine e_after (fun _ => hS2) ?_
    have hS := hS2
    (repeat (first | refine rd_y rfl rfl (fun _ _ => y_pure rfl) hS ?_ | refine rd_y rfl rfl (fun _ _ => y_fieldAddr rfl) hS ?_ | refine rd_y rfl rfl (fun _ _ => y_fieldAddr' rfl) hS ?_ | refine rd_y rfl rfl (fun _ _ => y_len rfl) hS ?_ | refine rd_y rfl rfl (fun _ _ => y_lenStr rfl) hS ?_ | refine rd_y rfl rfl (fun _ _ => y_ptr_nil rfl rfl) hS ?_ | refine rd_y rfl rfl (fun _ _ => y_ptr_ne_nil rfl rfl) hS ?_ | refine rd_y rfl rfl (fun _ _ => y_slice_nil rfl rfl) hS ?_ | refine rd_y rfl rfl (fun _ _ => y_map_nil rfl rfl) hS ?_ | refine rd_y rfl rfl (fun _ _ => y_add64 rfl rfl (by omega)) hS ?_ | refine rd_y rfl rfl (fun _ _ => y_sub64 rfl rfl (by omega)) hS ?_ | refine rd_pass rfl rfl rfl rfl hS ?_ | refine rd_passu rfl rfl rfl rfl hS ?_ | refine rd_go rfl rfl rfl rfl (fun _ _ => y_pure rfl) hS ?_ | refine rd_go rfl rfl rfl rfl (fun _ _ => y_fieldAddr rfl) hS ?_ | refine rd_go rfl rfl rfl rfl (fun _ _ => y_fieldAddr' rfl) hS ?_ | refine rd_go rfl rfl rfl rfl (fun _ _ => y_len rfl) hS ?_ | refine rd_go rfl rfl rfl rfl (fun _ _ => y_lenStr rfl) hS ?_ | refine rd_go rfl rfl rfl rfl (fun _ _ => y_ptr_nil rfl rfl) hS ?_ | refine rd_go rfl rfl rfl rfl (fun _ _ => y_ptr_ne_nil rfl rfl) hS ?_ | refine rd_go rfl rfl rfl rfl (fun _ _ => y_slice_nil rfl rfl) hS ?_ | refine rd_go rfl rfl rfl rfl (fun _ _ => y_map_nil rfl rfl) hS ?_ | refine rd_go rfl rfl rfl rfl (fun _ _ => y_add64 rfl rfl (by omega)) hS ?_ | refine rd_go rfl rfl rfl rfl (fun _ _ => y_sub64 rfl rfl (by omega)) hS ?_))
    refine rd_do rfl ?_
    have hc2 := (hW1.cb.step s2 hpn)
    refine r_store1 s2.ok rfl rfl rfl (by obtain ⟨_, _, e, _⟩ := b2.form; rw [e]; rfl) hc2 (by simp) (s2.keep _ (s01.keep _ hW.pO)) (fun w3 s3 hc3 => ?_)
    refine r_nil ?_
    refine e_after (fun h => by cases h) ?_
    refine rd_done ?_
    (repeat (first | refine r_pure rfl rfl ?_ | refine g_seq ?_ | refine g_region ?_ | refine r_nil ?_ | refine e_then ?_ | refine r_go rfl rfl ?_ | refine r_pass rfl rfl rfl ?_ | refine r_passu rfl rfl rfl ?_ | refine r_y (y_fieldAddr rfl) rfl ?_ | refine r_y (y_fieldAddr' rfl) rfl ?_ | refine r_y (y_len rfl) rfl ?_ | refine r_y (y_lenStr rfl) rfl ?_ | refine r_y (y_ptr_nil rfl rfl) rfl ?_ | refine r_y (y_ptr_ne_nil rfl rfl) rfl ?_ | refine r_y (y_slice_nil rfl rfl) rfl ?_ | refine r_y (y_map_nil rfl rfl) rfl ?_ | refine r_y (y_add64 rfl rfl (by omega)) rfl ?_ | refine r_y (y_sub64 rfl rfl (by omega)) rfl ?_ | refine g_true rfl ?_ | refine g_false rfl ?_ | refine g_skip ?_ | refine g_block ?_ | refine e_block_normal ?_ | refine g_exit ?_ | refine e_block_exit ?_ | refine e_block_exit_ne rfl ?_ | refine e_then_exit ?_ | refine e_round_exit ?_))
    have hlt := hW.lt
    have hz := s01.size
    have hzr := sr.size
    have hbu : ∀ q, q ∈ blk u' → q ∈ blk u ∨ wr.heap.size ≤ q := fun q hq => (b2.blk q hq).2.imp id (by omega)
    have hnp : ∀ q, q ∈ blk u' → q ≠ p := fun q hq => by
      rcases hbu q hq with h | h
      · exact (hW.bo q h).2
      · omega
    have s02 := (sr.trans0 s01).trans s2 (fun b hb => (hbl b hb).imp (fun h => by simp [h]) id)
    have s03 := s02.trans s3 (fun b hb => .inl (by simp at hb; simp [hb]))
    refine e_round (j, u', cur ++ [UInt8.ofNat (x / 2 ^ (8 * j))]) (sub_cons rfl rfl (sub_cons rfl rfl (sub_cons rfl rfl (sub_nil)))) ⟨O2, s03, ⟨s3.keep _ (s2.keep _ (s01.keep _ hW.pO)), by simpa using hc3, ?_, fun q hq => ⟨s3.keep _ (b2.blk q hq).1, hnp q hq⟩⟩, ?_, ?_, by simp only; omega⟩ (by simp only; omega)
    · have := b2.self.step s3 (fun q hq => by simp; exact hnp q hq.2)
      simpa [bytesV] using this.mono (fun q hq => hq.2)
    · rw [← hcur]; simp [be]
    · intro q hq
      rcases hbu q hq with h | h
      · exact hbl q h
      · exact .inr (by omega)
  · have hk0 : k = 0 := by simpa using h0
    subst hk0
    (repeat (first | refine r_pure rfl rfl ?_ | refine g_seq ?_ | refine g_region ?_ | refine r_nil ?_ | refine e_then ?_ | refine r_go rfl rfl ?_ | refine r_pass rfl rfl rfl ?_ | refine r_passu rfl rfl rfl ?_ | refine r_y (y_fieldAddr rfl) rfl ?_ | refine r_y (y_fieldAddr' rfl) rfl ?_ | refine r_y (y_len rfl) rfl ?_ | refine r_y (y_lenStr rfl) rfl ?_ | refine r_y (y_ptr_nil rfl rfl) rfl ?_ | refine r_y (y_ptr_ne_nil rfl rfl) rfl ?_ | refine r_y (y_slice_nil rfl rfl) rfl ?_ | refine r_y (y_map_nil rfl rfl) rfl ?_ | refine r_y (y_add64 rfl rfl (by omega)) rfl ?_ | refine r_y (y_sub64 rfl rfl (by omega)) rfl ?_ | refine g_true rfl ?_ | refine g_false rfl ?_ | refine g_skip ?_ | refine g_block ?_ | refine e_block_normal ?_ | refine g_exit ?_ | refine e_block_exit ?_ | refine e_block_exit_ne rfl ?_ | refine e_then_exit ?_ | refine e_round_exit ?_))
    refine ret0 (.inr rfl) rfl ?_
    refine ⟨_, _, rfl, sr, u, rfl, ?_, hbl⟩
    have : cur = bs ++ be 4 x := by simpa [be] using hcur
    rw [← this]; exact hW
theorem put64_ok (hO : OK O w) (h : WrAt O w p v bs) {x : Nat} (hx : x < 18446744073709551616) (hl : bs.length ≤ 70368744177664) :
    FnC Tryz.prog 51 [.pointer (some ⟨p, 0, none⟩), .int .u64 x, .int .i64 (8 : Nat)] O (p :: blk v) w fun r O' w' => ∃ v', r = .tuple #[] ∧ WrAt O' w' p v' (bs ++ be 8 x) ∧ ∀ q, q ∈ blk v' → q ∈ blk v ∨ w.heap.size ≤ q := by
  refine fn_of _ Tryz.func51 rfl (by kernel_rfl) Tryz.ntmps51 rfl ?_
  (repeat (first | refine r_pure rfl rfl ?_ | refine g_seq ?_ | refine g_region ?_ | refine r_nil ?_ | refine e_then ?_ | refine r_go rfl rfl ?_ | refine r_pass rfl rfl rfl ?_ | refine r_passu rfl rfl rfl ?_ | refine r_y (y_fieldAddr rfl) rfl ?_ | refine r_y (y_fieldAddr' rfl) rfl ?_ | refine r_y (y_len rfl) rfl ?_ | refine r_y (y_lenStr rfl) rfl ?_ | refine r_y (y_ptr_nil rfl rfl) rfl ?_ | refine r_y (y_ptr_ne_nil rfl rfl) rfl ?_ | refine r_y (y_slice_nil rfl rfl) rfl ?_ | refine r_y (y_map_nil rfl rfl) rfl ?_ | refine r_y (y_add64 rfl rfl (by omega)) rfl ?_ | refine r_y (y_sub64 rfl rfl (by omega)) rfl ?_ | refine g_true rfl ?_ | refine g_false rfl ?_ | refine g_skip ?_ | refine g_block ?_ | refine e_block_normal ?_ | refine g_exit ?_ | refine e_block_exit ?_ | refine e_block_exit_ne rfl ?_ | refine e_then_exit ?_ | refine e_round_exit ?_))
  have hM : ∀ b, b ∈ p :: blk v → b ∈ O := fun b hb => by
    rcases List.mem_cons.1 hb with rfl | hb
    · exact h.pO
    · exact (h.bo b hb).1
  refine g_loop (X := Nat × Value × List UInt8) (fun y => [(0, .pointer (some ⟨p, 0, none⟩)), (1, .int .u64 x), (2, .int .i64 y.1)])
    (fun y wr => ∃ O1, Step (p :: blk v) O O1 w wr ∧ WrAt O1 wr p y.2.1 y.2.2 ∧ y.2.2 ++ be y.1 x = bs ++ be 8 x ∧ (∀ q, q ∈ blk y.2.1 → q ∈ blk v ∨ w.heap.size ≤ q) ∧ y.1 ≤ 8) (fun y => y.1) (8, v, bs) (sub_cons rfl rfl (sub_cons rfl rfl (sub_cons rfl rfl (sub_nil))))
    ⟨O, (Step.refl hO).more (by simp) hM, h, rfl, fun _ h => .inl h, by simp⟩ ?_
  rintro ⟨k, u, cur⟩ wr ⟨O1, sr, hW, hcur, hbl, hk⟩
  dsimp only at hW hcur hbl hk ⊢
  (repeat (first | refine r_pure rfl rfl ?_ | refine g_seq ?_ | refine g_region ?_ | refine r_nil ?_ | refine e_then ?_ | refine r_go rfl rfl ?_ | refine r_pass rfl rfl rfl ?_ | refine r_passu rfl rfl rfl ?_ | refine r_y (y_fieldAddr rfl) rfl ?_ | refine r_y (y_fieldAddr' rfl) rfl ?_ | refine r_y (y_len rfl) rfl ?_ | refine r_y (y_lenStr rfl) rfl ?_ | refine r_y (y_ptr_nil rfl rfl) rfl ?_ | refine r_y (y_ptr_ne_nil rfl rfl) rfl ?_ | refine r_y (y_slice_nil rfl rfl) rfl ?_ | refine r_y (y_map_nil rfl rfl) rfl ?_ | refine r_y (y_add64 rfl rfl (by omega)) rfl ?_ | refine r_y (y_sub64 rfl rfl (by omega)) rfl ?_ | refine g_true rfl ?_ | refine g_false rfl ?_ | refine g_skip ?_ | refine g_block ?_ | refine e_block_normal ?_ | refine g_exit ?_ | refine e_block_exit ?_ | refine e_block_exit_ne rfl ?_ | refine e_then_exit ?_ | refine e_round_exit ?_))
  refine g_dec rfl (fun h0 => ?_) (fun h0 => ?_)
  · have hk0 : 0 < k := by simpa using h0
    obtain ⟨j, rfl⟩ : ∃ j, k = j + 1 := ⟨k - 1, by omega⟩
    have hcl : cur.length + (j + 1) = bs.length + 8 := by
      have := congrArg List.length hcur
      simpa [be_length] using this
    (repeat (first | refine r_pure rfl rfl ?_ | refine g_seq ?_ | refine g_region ?_ | refine r_nil ?_ | refine e_then ?_ | refine r_go rfl rfl ?_ | refine r_pass rfl rfl rfl ?_ | refine r_passu rfl rfl rfl ?_ | refine r_y (y_fieldAddr rfl) rfl ?_ | refine r_y (y_fieldAddr' rfl) rfl ?_ | refine r_y (y_len rfl) rfl ?_ | refine r_y (y_lenStr rfl) rfl ?_ | refine r_y (y_ptr_nil rfl rfl) rfl ?_ | refine r_y (y_ptr_ne_nil rfl rfl) rfl ?_ | refine r_y (y_slice_nil rfl rfl) rfl ?_ | refine r_y (y_map_nil rfl rfl) rfl ?_ | refine r_y (y_add64 rfl rfl (by omega)) rfl ?_ | refine r_y (y_sub64 rfl rfl (by omega)) rfl ?_ | refine g_true rfl ?_ | refine g_false rfl ?_ | refine g_skip ?_ | refine g_block ?_ | refine e_block_normal ?_ | refine g_exit ?_ | refine e_block_exit ?_ | refine e_block_exit_ne rfl ?_ | refine e_then_exit ?_ | refine e_round_exit ?_))
    rw [show (((j + 1 : Nat) : Int) - 1) = (j : Int) from by omega]
    refine g_draw (fun w' => w'.cell? ⟨p, 0, none⟩ = some u) [14] [(0, true), (1, true), (2, true), (3, true), (4, true), (5, true), (6, true), (7, true), (8, true), (9, true), (10, false), (11, false), (12, true), (13, true), (14, false)] (by kernel_rfl) (by kernel_rfl) ?_
    have s0 := step_drew sr.ok
    have hS : wr.drew.cell? ⟨p, 0 + 0, none⟩ = some u := s0.cell? (hW.cb.cell? rfl) (by simp)
    (repeat (first | refine rd_y rfl rfl (fun _ _ => y_pure rfl) hS ?_ | refine rd_y rfl rfl (fun _ _ => y_fieldAddr rfl) hS ?_ | refine rd_y rfl rfl (fun _ _ => y_fieldAddr' rfl) hS ?_ | refine rd_y rfl rfl (fun _ _ => y_len rfl) hS ?_ | refine rd_y rfl rfl (fun _ _ => y_lenStr rfl) hS ?_ | refine rd_y rfl rfl (fun _ _ => y_ptr_nil rfl rfl) hS ?_ | refine rd_y rfl rfl (fun _ _ => y_ptr_ne_nil rfl rfl) hS ?_ | refine rd_y rfl rfl (fun _ _ => y_slice_nil rfl rfl) hS ?_ | refine rd_y rfl rfl (fun _ _ => y_map_nil rfl rfl) hS ?_ | refine rd_y rfl rfl (fun _ _ => y_add64 rfl rfl (by omega)) hS ?_ | refine rd_y rfl rfl (fun _ _ => y_sub64 rfl rfl (by omega)) hS ?_ | refine rd_pass rfl rfl rfl rfl hS ?_ | refine rd_passu rfl rfl rfl rfl hS ?_ | refine rd_go rfl rfl rfl rfl (fun _ _ => y_pure rfl) hS ?_ | refine rd_go rfl rfl rfl rfl (fun _ _ => y_fieldAddr rfl) hS ?_ | refine rd_go rfl rfl rfl rfl (fun _ _ => y_fieldAddr' rfl) hS ?_ | refine rd_go rfl rfl rfl rfl (fun _ _ => y_len rfl) hS ?_ | refine rd_go rfl rfl rfl rfl (fun _ _ => y_lenStr rfl) hS ?_ | refine rd_go rfl rfl rfl rfl (fun _ _ => y_ptr_nil rfl rfl) hS ?_ | refine rd_go rfl rfl rfl rfl (fun _ _ => y_ptr_ne_nil rfl rfl) hS ?_ | refine rd_go rfl rfl rfl rfl (fun _ _ => y_slice_nil rfl rfl) hS ?_ | refine rd_go rfl rfl rfl rfl (fun _ _ => y_map_nil rfl rfl) hS ?_ | refine rd_go rfl rfl rfl rfl (fun _ _ => y_add64 rfl rfl (by omega)) hS ?_ | refine rd_go rfl rfl rfl rfl (fun _ _ => y_sub64 rfl rfl (by omega)) hS ?_))
    (first | refine rd_y rfl rfl (fun _ hw => y_load rfl hw) hS ?_ | refine rd_go rfl rfl rfl rfl (fun _ hw => y_load rfl hw) hS ?_)
    (repeat (first | refine rd_y rfl rfl (fun _ _ => y_pure rfl) hS ?_ | refine rd_y rfl rfl (fun _ _ => y_fieldAddr rfl) hS ?_ | refine rd_y rfl rfl (fun _ _ => y_fieldAddr' rfl) hS ?_ | refine rd_y rfl rfl (fun _ _ => y_len rfl) hS ?_ | refine rd_y rfl rfl (fun _ _ => y_lenStr rfl) hS ?_ | refine rd_y rfl rfl (fun _ _ => y_ptr_nil rfl rfl) hS ?_ | refine rd_y rfl rfl (fun _ _ => y_ptr_ne_nil rfl rfl) hS ?_ | refine rd_y rfl rfl (fun _ _ => y_slice_nil rfl rfl) hS ?_ | refine rd_y rfl rfl (fun _ _ => y_map_nil rfl rfl) hS ?_ | refine rd_y rfl rfl (fun _ _ => y_add64 rfl rfl (by omega)) hS ?_ | refine rd_y rfl rfl (fun _ _ => y_sub64 rfl rfl (by omega)) hS ?_ | refine rd_pass rfl rfl rfl rfl hS ?_ | refine rd_passu rfl rfl rfl rfl hS ?_ | refine rd_go rfl rfl rfl rfl (fun _ _ => y_pure rfl) hS ?_ | refine rd_go rfl rfl rfl rfl (fun _ _ => y_fieldAddr rfl) hS ?_ | refine rd_go rfl rfl rfl rfl (fun _ _ => y_fieldAddr' rfl) hS ?_ | refine rd_go rfl rfl rfl rfl (fun _ _ => y_len rfl) hS ?_ | refine rd_go rfl rfl rfl rfl (fun _ _ => y_lenStr rfl) hS ?_ | refine rd_go rfl rfl rfl rfl (fun _ _ => y_ptr_nil rfl rfl) hS ?_ | refine rd_go rfl rfl rfl rfl (fun _ _ => y_ptr_ne_nil rfl rfl) hS ?_ | refine rd_go rfl rfl rfl rfl (fun _ _ => y_slice_nil rfl rfl) hS ?_ | refine rd_go rfl rfl rfl rfl (fun _ _ => y_map_nil rfl rfl) hS ?_ | refine rd_go rfl rfl rfl rfl (fun _ _ => y_add64 rfl rfl (by omega)) hS ?_ | refine rd_go rfl rfl rfl rfl (fun _ _ => y_sub64 rfl rfl (by omega)) hS ?_))
    (first | refine rd_y rfl rfl (fun _ hw => y_mulN (k := .i64) (a := 8) (b := j) rfl rfl (by simp only [lim]; omega)) hS ?_ | refine rd_go rfl rfl rfl rfl (fun _ hw => y_mulN (k := .i64) (a := 8) (b := j) rfl rfl (by simp only [lim]; omega)) hS ?_)
    (first | refine rd_y rfl rfl (fun _ hw => y_shrN (k := .u64) rfl rfl (by simp only [IntKind.bits]; omega)) hS ?_ | refine rd_go rfl rfl rfl rfl (fun _ hw => y_shrN (k := .u64) rfl rfl (by simp only [IntKind.bits]; omega)) hS ?_)
    (first | refine rd_y rfl rfl (fun _ hw => y_int_u8 rfl) hS ?_ | refine rd_go rfl rfl rfl rfl (fun _ hw => y_int_u8 rfl) hS ?_)
    refine rd_do rfl ?_
    refine r_buildSlice (cs := [_]) s0.ok rfl rfl rfl rfl (fun q1 w1 hq s1 z1 b1 => ?_)
    refine r_nil ?_
    have hS1 := s1.cell? hS (by simp)
    refine e_after (fun _ => hS1) ?_
    refine rd_do rfl ?_
    have s01 := s0.trans0 s1
    have hW1 := hW.keep s01
    refine r_append (p := fun q => q ∈ blk u) s1.ok rfl rfl rfl hW1.bu (fun q hq => (hW1.bo q hq).1)
      (src_cb (rest := []) (m := 1) (news := bytesV [UInt8.ofNat (x / 2 ^ (8 * j))]) (by rw [List.append_nil]; exact b1) rfl one_bytes) (by unfold maxLen; omega) (by omega) (fun u' w2 O2 s2 b2 => ?_)
    refine r_nil ?_
    have hpn : p ∉ blk u := fun hq => (hW.bo p hq).2 rfl
    have hS2 := s2.cell? hS1 hpn
    refine e_after (fun _ => hS2) ?_
    have hS := hS2
    (repeat (first | refine rd_y rfl rfl (fun _ _ => y_pure rfl) hS ?_ | refine rd_y rfl rfl (fun _ _ => y_fieldAddr rfl) hS ?_ | refine rd_y rfl rfl (fun _ _ => y_fieldAddr' rfl) hS ?_ | refine rd_y rfl rfl (fun _ _ => y_len rfl) hS ?_ | refine rd_y rfl rfl (fun _ _ => y_lenStr rfl) hS ?_ | refine rd_y rfl rfl (fun _ _ => y_ptr_nil rfl rfl) hS ?_ | refine rd_y rfl rfl (fun _ _ => y_ptr_ne_nil rfl rfl) hS ?_ | refine rd_y rfl rfl (fun _ _ => y_slice_nil rfl rfl) hS ?_ | refine rd_y rfl rfl (fun _ _ => y_map_nil rfl rfl) hS ?_ | refine rd_y rfl rfl (fun _ _ => y_add64 rfl rfl (by omega)) hS ?_ | refine rd_y rfl rfl (fun _ _ => y_sub64 rfl rfl (by omega)) hS ?_ | refine rd_pass rfl rfl rfl rfl hS ?_ | refine rd_passu rfl rfl rfl rfl hS ?_ | refine rd_go rfl rfl rfl rfl (fun _ _ => y_pure rfl) hS ?_ | refine rd_go rfl rfl rfl rfl (fun _ _ => y_fieldAddr rfl) hS ?_ | refine rd_go rfl rfl rfl rfl (fun _ _ => y_fieldAddr' rfl) hS ?_ | refine rd_go rfl rfl rfl rfl (fun _ _ => y_len rfl) hS ?_ | refine rd_go rfl rfl rfl rfl (fun _ _ => y_lenStr rfl) hS ?_ | refine rd_go rfl rfl rfl rfl (fun _ _ => y_ptr_nil rfl rfl) hS ?_ | refine rd_go rfl rfl rfl rfl (fun _ _ => y_ptr_ne_nil rfl rfl) hS ?_ | refine rd_go rfl rfl rfl rfl (fun _ _ => y_slice_nil rfl rfl) hS ?_ | refine rd_go rfl rfl rfl rfl (fun _ _ => y_map_nil rfl rfl) hS ?_ | refine rd_go rfl rfl rfl rfl (fun _ _ => y_add64 rfl rfl (by omega)) hS ?_ | refine rd_go rfl rfl rfl rfl (fun _ _ => y_sub64 rfl rfl (by omega)) hS ?_))
    refine rd_do rfl ?_
    have hc2 := (hW1.cb.step s2 hpn)
    refine r_store1 s2.ok rfl rfl rfl (by obtain ⟨_, _, e, _⟩ := b2.form; rw [e]; rfl) hc2 (by simp) (s2.keep _ (s01.keep _ hW.pO)) (fun w3 s3 hc3 => ?_)
    refine r_nil ?_
    refine e_after (fun h => by cases h) ?_
    refine rd_done ?_
    (repeat (first | refine r_pure rfl rfl ?_ | refine g_seq ?_ | refine g_region ?_ | refine r_nil ?_ | refine e_then ?_ | refine r_go rfl rfl ?_ | refine r_pass rfl rfl rfl ?_ | refine r_passu rfl rfl rfl ?_ | refine r_y (y_fieldAddr rfl) rfl ?_ | refine r_y (y_fieldAddr' rfl) rfl ?_ | refine r_y (y_len rfl) rfl ?_ | refine r_y (y_lenStr rfl) rfl ?_ | refine r_y (y_ptr_nil rfl rfl) rfl ?_ | refine r_y (y_ptr_ne_nil rfl rfl) rfl ?_ | refine r_y (y_slice_nil rfl rfl) rfl ?_ | refine r_y (y_map_nil rfl rfl) rfl ?_ | refine r_y (y_add64 rfl rfl (by omega)) rfl ?_ | refine r_y (y_sub64 rfl rfl (by omega)) rfl ?_ | refine g_true rfl ?_ | refine g_false rfl ?_ | refine g_skip ?_ | refine g_block ?_ | refine e_block_normal ?_ | refine g_exit ?_ | refine e_block_exit ?_ | refine e_block_exit_ne rfl ?_ | refine e_then_exit ?_ | refine e_round_exit ?_))
    have hlt := hW.lt
    have hz := s01.size
    have hzr := sr.size
    have hbu : ∀ q, q ∈ blk u' → q ∈ blk u ∨ wr.heap.size ≤ q := fun q hq => (b2.blk q hq).2.imp id (by omega)
    have hnp : ∀ q, q ∈ blk u' → q ≠ p := fun q hq => by
      rcases hbu q hq with h | h
      · exact (hW.bo q h).2
      · omega
    have s02 := (sr.trans0 s01).trans s2 (fun b hb => (hbl b hb).imp (fun h => by simp [h]) id)
    have s03 := s02.trans s3 (fun b hb => .inl (by simp at hb; simp [hb]))
    refine e_round (j, u', cur ++ [UInt8.ofNat (x / 2 ^ (8 * j))]) (sub_cons rfl rfl (sub_cons rfl rfl (sub_cons rfl rfl (sub_nil)))) ⟨O2, s03, ⟨s3.keep _ (s2.keep _ (s01.keep _ hW.pO)), by simpa using hc3, ?_, fun q hq => ⟨s3.keep _ (b2.blk q hq).1, hnp q hq⟩⟩, ?_, ?_, by simp only; omega⟩ (by simp only; omega)
    · have := b2.self.step s3 (fun q hq => by simp; exact hnp q hq.2)
      simpa [bytesV] using this.mono (fun q hq => hq.2)
    · rw [← hcur]; simp [be]
    · intro q hq
      rcases hbu q hq with h | h
      · exact hbl q h
      · exact .inr (by omega)
  · have hk0 : k = 0 := by simpa using h0
    subst hk0
    (repeat (first | refine r_pure rfl rfl ?_ | refine g_seq ?_ | refine g_region ?_ | refine r_nil ?_ | refine e_then ?_ | refine r_go rfl rfl ?_ | refine r_pass rfl rfl rfl ?_ | refine r_passu rfl rfl rfl ?_ | refine r_y (y_fieldAddr rfl) rfl ?_ | refine r_y (y_fieldAddr' rfl) rfl ?_ | refine r_y (y_len rfl) rfl ?_ | refine r_y (y_lenStr rfl) rfl ?_ | refine r_y (y_ptr_nil rfl rfl) rfl ?_ | refine r_y (y_ptr_ne_nil rfl rfl) rfl ?_ | refine r_y (y_slice_nil rfl rfl) rfl ?_ | refine r_y (y_map_nil rfl rfl) rfl ?_ | refine r_y (y_add64 rfl rfl (by omega)) rfl ?_ | refine r_y (y_sub64 rfl rfl (by omega)) rfl ?_ | refine g_true rfl ?_ | refine g_false rfl ?_ | refine g_skip ?_ | refine g_block ?_ | refine e_block_normal ?_ | refine g_exit ?_ | refine e_block_exit ?_ | refine e_block_exit_ne rfl ?_ | refine e_then_exit ?_ | refine e_round_exit ?_))
    refine ret0 (.inr rfl) rfl ?_
    refine ⟨_, _, rfl, sr, u, rfl, ?_, hbl⟩
    have : cur = bs ++ be 8 x := by simpa [be] using hcur
    rw [← this]; exact hW

def PutK (O : List Nat) (p : Nat) (bl : List Nat) (w : World) (bs : List UInt8) (r : Value) (O' : List Nat) (w' : World) : Prop :=
  ∃ v', r = .tuple #[] ∧ WrAt O' w' p v' bs ∧ ∀ q, q ∈ blk v' → q ∈ bl ∨ w.heap.size ≤ q

theorem u32_ok (hO : OK O w) (h : WrAt O w p v bs) {x : Nat} (hx : x < 4294967296) (hl : bs.length ≤ 70368744177664) :
    FnC Tryz.prog 84 [.pointer (some ⟨p, 0, none⟩), .int .u32 x] O (p :: blk v) w (PutK O p (blk v) w (bs ++ be 4 x)) := by
  refine fn_of _ Tryz.func84 rfl (by kernel_rfl) Tryz.ntmps84 rfl ?_
  (repeat (first | refine r_pure rfl rfl ?_ | refine g_seq ?_ | refine g_region ?_ | refine r_nil ?_ | refine e_then ?_ | refine r_go rfl rfl ?_ | refine r_pass rfl rfl rfl ?_ | refine r_passu rfl rfl rfl ?_ | refine r_y (y_fieldAddr rfl) rfl ?_ | refine r_y (y_fieldAddr' rfl) rfl ?_ | refine r_y (y_len rfl) rfl ?_ | refine r_y (y_lenStr rfl) rfl ?_ | refine r_y (y_ptr_nil rfl rfl) rfl ?_ | refine r_y (y_ptr_ne_nil rfl rfl) rfl ?_ | refine r_y (y_slice_nil rfl rfl) rfl ?_ | refine r_y (y_map_nil rfl rfl) rfl ?_ | refine r_y (y_add64 rfl rfl (by omega)) rfl ?_ | refine r_y (y_sub64 rfl rfl (by omega)) rfl ?_ | refine g_true rfl ?_ | refine g_false rfl ?_ | refine g_skip ?_ | refine g_block ?_ | refine e_block_normal ?_ | refine g_exit ?_ | refine e_block_exit ?_ | refine e_block_exit_ne rfl ?_ | refine e_then_exit ?_ | refine e_round_exit ?_))
  refine r_call rfl rfl (put32_ok hO h hx hl) ?_
  rintro r O1 w1 s1 ⟨v', rfl, h1, h2⟩
  (repeat (first | refine r_pure rfl rfl ?_ | refine g_seq ?_ | refine g_region ?_ | refine r_nil ?_ | refine e_then ?_ | refine r_go rfl rfl ?_ | refine r_pass rfl rfl rfl ?_ | refine r_passu rfl rfl rfl ?_ | refine r_y (y_fieldAddr rfl) rfl ?_ | refine r_y (y_fieldAddr' rfl) rfl ?_ | refine r_y (y_len rfl) rfl ?_ | refine r_y (y_lenStr rfl) rfl ?_ | refine r_y (y_ptr_nil rfl rfl) rfl ?_ | refine r_y (y_ptr_ne_nil rfl rfl) rfl ?_ | refine r_y (y_slice_nil rfl rfl) rfl ?_ | refine r_y (y_map_nil rfl rfl) rfl ?_ | refine r_y (y_add64 rfl rfl (by omega)) rfl ?_ | refine r_y (y_sub64 rfl rfl (by omega)) rfl ?_ | refine g_true rfl ?_ | refine g_false rfl ?_ | refine g_skip ?_ | refine g_block ?_ | refine e_block_normal ?_ | refine g_exit ?_ | refine e_block_exit ?_ | refine e_block_exit_ne rfl ?_ | refine e_then_exit ?_ | refine e_round_exit ?_))
  refine ret0 (.inr rfl) rfl ?_
  exact ⟨_, _, rfl, s1, v', rfl, h1, h2⟩

theorem put32_none (hO : OK O w) {x : Int} {i : Int} :
    FnC Tryz.prog 90 [.pointer none, .int .u32 x, .int .i64 i] O [] w fun r O' w' => r = .tuple #[] ∧ O = O' ∧ w = w' := by
  refine fn_of _ Tryz.func90 rfl (by kernel_rfl) Tryz.ntmps90 rfl ?_
  (repeat (first | refine r_pure rfl rfl ?_ | refine g_seq ?_ | refine g_region ?_ | refine r_nil ?_ | refine e_then ?_ | refine r_go rfl rfl ?_ | refine r_pass rfl rfl rfl ?_ | refine r_passu rfl rfl rfl ?_ | refine r_y (y_fieldAddr rfl) rfl ?_ | refine r_y (y_fieldAddr' rfl) rfl ?_ | refine r_y (y_len rfl) rfl ?_ | refine r_y (y_lenStr rfl) rfl ?_ | refine r_y (y_ptr_nil rfl rfl) rfl ?_ | refine r_y (y_ptr_ne_nil rfl rfl) rfl ?_ | refine r_y (y_slice_nil rfl rfl) rfl ?_ | refine r_y (y_map_nil rfl rfl) rfl ?_ | refine r_y (y_add64 rfl rfl (by omega)) rfl ?_ | refine r_y (y_sub64 rfl rfl (by omega)) rfl ?_ | refine g_true rfl ?_ | refine g_false rfl ?_ | refine g_skip ?_ | refine g_block ?_ | refine e_block_normal ?_ | refine g_exit ?_ | refine e_block_exit ?_ | refine e_block_exit_ne rfl ?_ | refine e_then_exit ?_ | refine e_round_exit ?_))
  refine g_ret ?_; (repeat (first | refine e_then_ret ?_ | refine e_block_ret ?_ | refine e_round_ret ?_)); refine ret0 (.inl rfl) rfl ?_
  exact ⟨_, _, rfl, Step.refl hO, rfl, rfl, rfl⟩

theorem u32_none (hO : OK O w) {x : Int} :
    FnC Tryz.prog 84 [.pointer none, .int .u32 x] O [] w fun r O' w' => r = .tuple #[] ∧ O = O' ∧ w = w' := by
  refine fn_of _ Tryz.func84 rfl (by kernel_rfl) Tryz.ntmps84 rfl ?_
  (repeat (first | refine r_pure rfl rfl ?_ | refine g_seq ?_ | refine g_region ?_ | refine r_nil ?_ | refine e_then ?_ | refine r_go rfl rfl ?_ | refine r_pass rfl rfl rfl ?_ | refine r_passu rfl rfl rfl ?_ | refine r_y (y_fieldAddr rfl) rfl ?_ | refine r_y (y_fieldAddr' rfl) rfl ?_ | refine r_y (y_len rfl) rfl ?_ | refine r_y (y_lenStr rfl) rfl ?_ | refine r_y (y_ptr_nil rfl rfl) rfl ?_ | refine r_y (y_ptr_ne_nil rfl rfl) rfl ?_ | refine r_y (y_slice_nil rfl rfl) rfl ?_ | refine r_y (y_map_nil rfl rfl) rfl ?_ | refine r_y (y_add64 rfl rfl (by omega)) rfl ?_ | refine r_y (y_sub64 rfl rfl (by omega)) rfl ?_ | refine g_true rfl ?_ | refine g_false rfl ?_ | refine g_skip ?_ | refine g_block ?_ | refine e_block_normal ?_ | refine g_exit ?_ | refine e_block_exit ?_ | refine e_block_exit_ne rfl ?_ | refine e_then_exit ?_ | refine e_round_exit ?_))
  refine r_call rfl rfl (put32_none hO) ?_
  rintro r O1 w1 s1 ⟨rfl, rfl, rfl⟩
  (repeat (first | refine r_pure rfl rfl ?_ | refine g_seq ?_ | refine g_region ?_ | refine r_nil ?_ | refine e_then ?_ | refine r_go rfl rfl ?_ | refine r_pass rfl rfl rfl ?_ | refine r_passu rfl rfl rfl ?_ | refine r_y (y_fieldAddr rfl) rfl ?_ | refine r_y (y_fieldAddr' rfl) rfl ?_ | refine r_y (y_len rfl) rfl ?_ | refine r_y (y_lenStr rfl) rfl ?_ | refine r_y (y_ptr_nil rfl rfl) rfl ?_ | refine r_y (y_ptr_ne_nil rfl rfl) rfl ?_ | refine r_y (y_slice_nil rfl rfl) rfl ?_ | refine r_y (y_map_nil rfl rfl) rfl ?_ | refine r_y (y_add64 rfl rfl (by omega)) rfl ?_ | refine r_y (y_sub64 rfl rfl (by omega)) rfl ?_ | refine g_true rfl ?_ | refine g_false rfl ?_ | refine g_skip ?_ | refine g_block ?_ | refine e_block_normal ?_ | refine g_exit ?_ | refine e_block_exit ?_ | refine e_block_exit_ne rfl ?_ | refine e_then_exit ?_ | refine e_round_exit ?_))
  refine ret0 (.inr rfl) rfl ?_
  exact ⟨_, _, rfl, s1, rfl, rfl, rfl⟩
theorem u64_ok (hO : OK O w) (h : WrAt O w p v bs) {x : Nat} (hx : x < 18446744073709551616) (hl : bs.length ≤ 70368744177664) :
    FnC Tryz.prog 27 [.pointer (some ⟨p, 0, none⟩), .int .u64 x] O (p :: blk v) w (PutK O p (blk v) w (bs ++ be 8 x)) := by
  refine fn_of _ Tryz.func27 rfl (by kernel_rfl) Tryz.ntmps27 rfl ?_
  (repeat (first | refine r_pure rfl rfl ?_ | refine g_seq ?_ | refine g_region ?_ | refine r_nil ?_ | refine e_then ?_ | refine r_go rfl rfl ?_ | refine r_pass rfl rfl rfl ?_ | refine r_passu rfl rfl rfl ?_ | refine r_y (y_fieldAddr rfl) rfl ?_ | refine r_y (y_fieldAddr' rfl) rfl ?_ | refine r_y (y_len rfl) rfl ?_ | refine r_y (y_lenStr rfl) rfl ?_ | refine r_y (y_ptr_nil rfl rfl) rfl ?_ | refine r_y (y_ptr_ne_nil rfl rfl) rfl ?_ | refine r_y (y_slice_nil rfl rfl) rfl ?_ | refine r_y (y_map_nil rfl rfl) rfl ?_ | refine r_y (y_add64 rfl rfl (by omega)) rfl ?_ | refine r_y (y_sub64 rfl rfl (by omega)) rfl ?_ | refine g_true rfl ?_ | refine g_false rfl ?_ | refine g_skip ?_ | refine g_block ?_ | refine e_block_normal ?_ | refine g_exit ?_ | refine e_block_exit ?_ | refine e_block_exit_ne rfl ?_ | refine e_then_exit ?_ | refine e_round_exit ?_))
  refine r_call rfl rfl (put64_ok hO h hx hl) ?_
  rintro r O1 w1 s1 ⟨v', rfl, h1, h2⟩
  (repeat (first | refine r_pure rfl rfl ?_ | refine g_seq ?_ | refine g_region ?_ | refine r_nil ?_ | refine e_then ?_ | refine r_go rfl rfl ?_ | refine r_pass rfl rfl rfl ?_ | refine r_passu rfl rfl rfl ?_ | refine r_y (y_fieldAddr rfl) rfl ?_ | refine r_y (y_fieldAddr' rfl) rfl ?_ | refine r_y (y_len rfl) rfl ?_ | refine r_y (y_lenStr rfl) rfl ?_ | refine r_y (y_ptr_nil rfl rfl) rfl ?_ | refine r_y (y_ptr_ne_nil rfl rfl) rfl ?_ | refine r_y (y_slice_nil rfl rfl) rfl ?_ | refine r_y (y_map_nil rfl rfl) rfl ?_ | refine r_y (y_add64 rfl rfl (by omega)) rfl ?_ | refine r_y (y_sub64 rfl rfl (by omega)) rfl ?_ | refine g_true rfl ?_ | refine g_false rfl ?_ | refine g_skip ?_ | refine g_block ?_ | refine e_block_normal ?_ | refine g_exit ?_ | refine e_block_exit ?_ | refine e_block_exit_ne rfl ?_ | refine e_then_exit ?_ | refine e_round_exit ?_))
  refine ret0 (.inr rfl) rfl ?_
  exact ⟨_, _, rfl, s1, v', rfl, h1, h2⟩

theorem put64_none (hO : OK O w) {x : Int} {i : Int} :
    FnC Tryz.prog 51 [.pointer none, .int .u64 x, .int .i64 i] O [] w fun r O' w' => r = .tuple #[] ∧ O = O' ∧ w = w' := by
  refine fn_of _ Tryz.func51 rfl (by kernel_rfl) Tryz.ntmps51 rfl ?_
  (repeat (first | refine r_pure rfl rfl ?_ | refine g_seq ?_ | refine g_region ?_ | refine r_nil ?_ | refine e_then ?_ | refine r_go rfl rfl ?_ | refine r_pass rfl rfl rfl ?_ | refine r_passu rfl rfl rfl ?_ | refine r_y (y_fieldAddr rfl) rfl ?_ | refine r_y (y_fieldAddr' rfl) rfl ?_ | refine r_y (y_len rfl) rfl ?_ | refine r_y (y_lenStr rfl) rfl ?_ | refine r_y (y_ptr_nil rfl rfl) rfl ?_ | refine r_y (y_ptr_ne_nil rfl rfl) rfl ?_ | refine r_y (y_slice_nil rfl rfl) rfl ?_ | refine r_y (y_map_nil rfl rfl) rfl ?_ | refine r_y (y_add64 rfl rfl (by omega)) rfl ?_ | refine r_y (y_sub64 rfl rfl (by omega)) rfl ?_ | refine g_true rfl ?_ | refine g_false rfl ?_ | refine g_skip ?_ | refine g_block ?_ | refine e_block_normal ?_ | refine g_exit ?_ | refine e_block_exit ?_ | refine e_block_exit_ne rfl ?_ | refine e_then_exit ?_ | refine e_round_exit ?_))
  refine g_ret ?_; (repeat (first | refine e_then_ret ?_ | refine e_block_ret ?_ | refine e_round_ret ?_)); refine ret0 (.inl rfl) rfl ?_
  exact ⟨_, _, rfl, Step.refl hO, rfl, rfl, rfl⟩

theorem u64_none (hO : OK O w) {x : Int} :
    FnC Tryz.prog 27 [.pointer none, .int .u64 x] O [] w fun r O' w' => r = .tuple #[] ∧ O = O' ∧ w = w' := by
  refine fn_of _ Tryz.func27 rfl (by kernel_rfl) Tryz.ntmps27 rfl ?_
  (repeat (first | refine r_pure rfl rfl ?_ | refine g_seq ?_ | refine g_region ?_ | refine r_nil ?_ | refine e_then ?_ | refine r_go rfl rfl ?_ | refine r_pass rfl rfl rfl ?_ | refine r_passu rfl rfl rfl ?_ | refine r_y (y_fieldAddr rfl) rfl ?_ | refine r_y (y_fieldAddr' rfl) rfl ?_ | refine r_y (y_len rfl) rfl ?_ | refine r_y (y_lenStr rfl) rfl ?_ | refine r_y (y_ptr_nil rfl rfl) rfl ?_ | refine r_y (y_ptr_ne_nil rfl rfl) rfl ?_ | refine r_y (y_slice_nil rfl rfl) rfl ?_ | refine r_y (y_map_nil rfl rfl) rfl ?_ | refine r_y (y_add64 rfl rfl (by omega)) rfl ?_ | refine r_y (y_sub64 rfl rfl (by omega)) rfl ?_ | refine g_true rfl ?_ | refine g_false rfl ?_ | refine g_skip ?_ | refine g_block ?_ | refine e_block_normal ?_ | refine g_exit ?_ | refine e_block_exit ?_ | refine e_block_exit_ne rfl ?_ | refine e_then_exit ?_ | refine e_round_exit ?_))
  refine r_call rfl rfl (put64_none hO) ?_
  rintro r O1 w1 s1 ⟨rfl, rfl, rfl⟩
  (repeat (first | refine r_pure rfl rfl ?_ | refine g_seq ?_ | refine g_region ?_ | refine r_nil ?_ | refine e_then ?_ | refine r_go rfl rfl ?_ | refine r_pass rfl rfl rfl ?_ | refine r_passu rfl rfl rfl ?_ | refine r_y (y_fieldAddr rfl) rfl ?_ | refine r_y (y_fieldAddr' rfl) rfl ?_ | refine r_y (y_len rfl) rfl ?_ | refine r_y (y_lenStr rfl) rfl ?_ | refine r_y (y_ptr_nil rfl rfl) rfl ?_ | refine r_y (y_ptr_ne_nil rfl rfl) rfl ?_ | refine r_y (y_slice_nil rfl rfl) rfl ?_ | refine r_y (y_map_nil rfl rfl) rfl ?_ | refine r_y (y_add64 rfl rfl (by omega)) rfl ?_ | refine r_y (y_sub64 rfl rfl (by omega)) rfl ?_ | refine g_true rfl ?_ | refine g_false rfl ?_ | refine g_skip ?_ | refine g_block ?_ | refine e_block_normal ?_ | refine g_exit ?_ | refine e_block_exit ?_ | refine e_block_exit_ne rfl ?_ | refine e_then_exit ?_ | refine e_round_exit ?_))
  refine ret0 (.inr rfl) rfl ?_
  exact ⟨_, _, rfl, s1, rfl, rfl, rfl⟩
theorem fill_ok (hO : OK O w) {n : Nat} (hn : n < 9223372036854775808) :
    FnC Tryz.prog 85 [.int .i64 n] O [] w fun r O' w' => r = .int .i64 (fillN n) ∧ O = O' ∧ w = w' := by
  refine fn_of _ Tryz.func85 rfl (by kernel_rfl) Tryz.ntmps85 rfl ?_
  (repeat (first | refine r_pure rfl rfl ?_ | refine g_seq ?_ | refine g_region ?_ | refine r_nil ?_ | refine e_then ?_ | refine r_go rfl rfl ?_ | refine r_pass rfl rfl rfl ?_ | refine r_passu rfl rfl rfl ?_ | refine r_y (y_fieldAddr rfl) rfl ?_ | refine r_y (y_fieldAddr' rfl) rfl ?_ | refine r_y (y_len rfl) rfl ?_ | refine r_y (y_lenStr rfl) rfl ?_ | refine r_y (y_ptr_nil rfl rfl) rfl ?_ | refine r_y (y_ptr_ne_nil rfl rfl) rfl ?_ | refine r_y (y_slice_nil rfl rfl) rfl ?_ | refine r_y (y_map_nil rfl rfl) rfl ?_ | refine r_y (y_add64 rfl rfl (by omega)) rfl ?_ | refine r_y (y_sub64 rfl rfl (by omega)) rfl ?_ | refine g_true rfl ?_ | refine g_false rfl ?_ | refine g_skip ?_ | refine g_block ?_ | refine e_block_normal ?_ | refine g_exit ?_ | refine e_block_exit ?_ | refine e_block_exit_ne rfl ?_ | refine e_then_exit ?_ | refine e_round_exit ?_))
  refine r_y (y_remN (b := 4) rfl rfl (by omega)) rfl ?_
  refine r_y (y_subN (k := .i64) (a := 4) rfl rfl (by omega) (by decide)) rfl ?_
  refine r_y (y_remN (b := 4) rfl rfl (by omega)) rfl ?_
  (repeat (first | refine r_pure rfl rfl ?_ | refine g_seq ?_ | refine g_region ?_ | refine r_nil ?_ | refine e_then ?_ | refine r_go rfl rfl ?_ | refine r_pass rfl rfl rfl ?_ | refine r_passu rfl rfl rfl ?_ | refine r_y (y_fieldAddr rfl) rfl ?_ | refine r_y (y_fieldAddr' rfl) rfl ?_ | refine r_y (y_len rfl) rfl ?_ | refine r_y (y_lenStr rfl) rfl ?_ | refine r_y (y_ptr_nil rfl rfl) rfl ?_ | refine r_y (y_ptr_ne_nil rfl rfl) rfl ?_ | refine r_y (y_slice_nil rfl rfl) rfl ?_ | refine r_y (y_map_nil rfl rfl) rfl ?_ | refine r_y (y_add64 rfl rfl (by omega)) rfl ?_ | refine r_y (y_sub64 rfl rfl (by omega)) rfl ?_ | refine g_true rfl ?_ | refine g_false rfl ?_ | refine g_skip ?_ | refine g_block ?_ | refine e_block_normal ?_ | refine g_exit ?_ | refine e_block_exit ?_ | refine e_block_exit_ne rfl ?_ | refine e_then_exit ?_ | refine e_round_exit ?_))
  refine g_ret ?_; (repeat (first | refine e_then_ret ?_ | refine e_block_ret ?_ | refine e_round_ret ?_)); refine ret1 (.inl rfl) rfl rfl ?_
  exact ⟨_, _, rfl, Step.refl hO, rfl, rfl, rfl⟩

theorem sclone_ok (hO : OK O w) {Oi : List Nat} {xs : List UInt8} (hb : Bytes Oi w v xs) (hl : xs.length ≤ 140737488355328) :
    FnC Tryz.prog 52 [v] O [] w fun r O' w' => O = O' ∧ Buf (fun q => w.heap.size ≤ q) w' 1 r xs.length (bytesV xs) := by
  obtain ⟨a, cap, rfl, _⟩ := hb.form
  refine fn_of _ Tryz.func52 rfl (by kernel_rfl) Tryz.ntmps52 rfl ?_
  cases a with
  | none =>
    have : xs = [] := hb.none_nil
    subst this
    (repeat (first | refine r_pure rfl rfl ?_ | refine g_seq ?_ | refine g_region ?_ | refine r_nil ?_ | refine e_then ?_ | refine r_go rfl rfl ?_ | refine r_pass rfl rfl rfl ?_ | refine r_passu rfl rfl rfl ?_ | refine r_y (y_fieldAddr rfl) rfl ?_ | refine r_y (y_fieldAddr' rfl) rfl ?_ | refine r_y (y_len rfl) rfl ?_ | refine r_y (y_lenStr rfl) rfl ?_ | refine r_y (y_ptr_nil rfl rfl) rfl ?_ | refine r_y (y_ptr_ne_nil rfl rfl) rfl ?_ | refine r_y (y_slice_nil rfl rfl) rfl ?_ | refine r_y (y_map_nil rfl rfl) rfl ?_ | refine r_y (y_add64 rfl rfl (by omega)) rfl ?_ | refine r_y (y_sub64 rfl rfl (by omega)) rfl ?_ | refine g_true rfl ?_ | refine g_false rfl ?_ | refine g_skip ?_ | refine g_block ?_ | refine e_block_normal ?_ | refine g_exit ?_ | refine e_block_exit ?_ | refine e_block_exit_ne rfl ?_ | refine e_then_exit ?_ | refine e_round_exit ?_))
    refine g_ret ?_; (repeat (first | refine e_then_ret ?_ | refine e_block_ret ?_ | refine e_round_ret ?_)); refine ret1 (.inl rfl) rfl rfl ?_
    exact ⟨_, _, rfl, Step.refl hO, rfl, Buf.nil⟩
  | some x =>
    (repeat (first | refine r_pure rfl rfl ?_ | refine g_seq ?_ | refine g_region ?_ | refine r_nil ?_ | refine e_then ?_ | refine r_go rfl rfl ?_ | refine r_pass rfl rfl rfl ?_ | refine r_passu rfl rfl rfl ?_ | refine r_y (y_fieldAddr rfl) rfl ?_ | refine r_y (y_fieldAddr' rfl) rfl ?_ | refine r_y (y_len rfl) rfl ?_ | refine r_y (y_lenStr rfl) rfl ?_ | refine r_y (y_ptr_nil rfl rfl) rfl ?_ | refine r_y (y_ptr_ne_nil rfl rfl) rfl ?_ | refine r_y (y_slice_nil rfl rfl) rfl ?_ | refine r_y (y_map_nil rfl rfl) rfl ?_ | refine r_y (y_add64 rfl rfl (by omega)) rfl ?_ | refine r_y (y_sub64 rfl rfl (by omega)) rfl ?_ | refine g_true rfl ?_ | refine g_false rfl ?_ | refine g_skip ?_ | refine g_block ?_ | refine e_block_normal ?_ | refine g_exit ?_ | refine e_block_exit ?_ | refine e_block_exit_ne rfl ?_ | refine e_then_exit ?_ | refine e_round_exit ?_))
    refine r_buildSlice (cs := []) hO rfl rfl rfl rfl (fun q w1 hq s1 z1 b1 => ?_)
    (repeat (first | refine r_pure rfl rfl ?_ | refine g_seq ?_ | refine g_region ?_ | refine r_nil ?_ | refine e_then ?_ | refine r_go rfl rfl ?_ | refine r_pass rfl rfl rfl ?_ | refine r_passu rfl rfl rfl ?_ | refine r_y (y_fieldAddr rfl) rfl ?_ | refine r_y (y_fieldAddr' rfl) rfl ?_ | refine r_y (y_len rfl) rfl ?_ | refine r_y (y_lenStr rfl) rfl ?_ | refine r_y (y_ptr_nil rfl rfl) rfl ?_ | refine r_y (y_ptr_ne_nil rfl rfl) rfl ?_ | refine r_y (y_slice_nil rfl rfl) rfl ?_ | refine r_y (y_map_nil rfl rfl) rfl ?_ | refine r_y (y_add64 rfl rfl (by omega)) rfl ?_ | refine r_y (y_sub64 rfl rfl (by omega)) rfl ?_ | refine g_true rfl ?_ | refine g_false rfl ?_ | refine g_skip ?_ | refine g_block ?_ | refine e_block_normal ?_ | refine g_exit ?_ | refine e_block_exit ?_ | refine e_block_exit_ne rfl ?_ | refine e_then_exit ?_ | refine e_round_exit ?_))
    have s1' := s1.take (q := q) (by omega) (by omega)
    have hb1 : Buf (fun k => k = q) w1 1 (.slice (some ⟨q, 0, none⟩) 0 0) 0 [] := CB.buf b1 rfl (by decide) rfl
    refine r_append (p := fun k => k = q) s1'.ok rfl rfl rfl hb1 (fun k hk => by simp [hk]) (src_bytes (hb.keep s1')) (by unfold maxLen; omega) (by omega) (fun r w2 O2 s2 b2 => ?_)
    (repeat (first | refine r_pure rfl rfl ?_ | refine g_seq ?_ | refine g_region ?_ | refine r_nil ?_ | refine e_then ?_ | refine r_go rfl rfl ?_ | refine r_pass rfl rfl rfl ?_ | refine r_passu rfl rfl rfl ?_ | refine r_y (y_fieldAddr rfl) rfl ?_ | refine r_y (y_fieldAddr' rfl) rfl ?_ | refine r_y (y_len rfl) rfl ?_ | refine r_y (y_lenStr rfl) rfl ?_ | refine r_y (y_ptr_nil rfl rfl) rfl ?_ | refine r_y (y_ptr_ne_nil rfl rfl) rfl ?_ | refine r_y (y_slice_nil rfl rfl) rfl ?_ | refine r_y (y_map_nil rfl rfl) rfl ?_ | refine r_y (y_add64 rfl rfl (by omega)) rfl ?_ | refine r_y (y_sub64 rfl rfl (by omega)) rfl ?_ | refine g_true rfl ?_ | refine g_false rfl ?_ | refine g_skip ?_ | refine g_block ?_ | refine e_block_normal ?_ | refine g_exit ?_ | refine e_block_exit ?_ | refine e_block_exit_ne rfl ?_ | refine e_then_exit ?_ | refine e_round_exit ?_))
    refine g_ret ?_; (repeat (first | refine e_then_ret ?_ | refine e_block_ret ?_ | refine e_round_ret ?_)); refine ret1 (.inl rfl) rfl rfl ?_
    have s02 := s1'.trans s2 (fun b hb => .inr (by simp [blk] at hb; omega))
    refine ⟨_, _, rfl, s02.less (fun _ h => h) s02.keep, rfl, ?_⟩
    simpa using b2.mono (fun k hk => by rcases hk.2 with h | h <;> omega)

theorem out_ok (hO : OK O w) (h : WrAt O w p v bs) (hl : bs.length ≤ 140737488355328) :
    FnC Tryz.prog 28 [.pointer (some ⟨p, 0, none⟩)] O [] w fun r O' w' => O = O' ∧ Buf (fun q => w.heap.size ≤ q) w' 1 r bs.length (bytesV bs) := by
  refine fn_of _ Tryz.func28 rfl (by kernel_rfl) Tryz.ntmps28 rfl ?_
  (repeat (first | refine r_pure rfl rfl ?_ | refine g_seq ?_ | refine g_region ?_ | refine r_nil ?_ | refine e_then ?_ | refine r_go rfl rfl ?_ | refine r_pass rfl rfl rfl ?_ | refine r_passu rfl rfl rfl ?_ | refine r_y (y_fieldAddr rfl) rfl ?_ | refine r_y (y_fieldAddr' rfl) rfl ?_ | refine r_y (y_len rfl) rfl ?_ | refine r_y (y_lenStr rfl) rfl ?_ | refine r_y (y_ptr_nil rfl rfl) rfl ?_ | refine r_y (y_ptr_ne_nil rfl rfl) rfl ?_ | refine r_y (y_slice_nil rfl rfl) rfl ?_ | refine r_y (y_map_nil rfl rfl) rfl ?_ | refine r_y (y_add64 rfl rfl (by omega)) rfl ?_ | refine r_y (y_sub64 rfl rfl (by omega)) rfl ?_ | refine g_true rfl ?_ | refine g_false rfl ?_ | refine g_skip ?_ | refine g_block ?_ | refine e_block_normal ?_ | refine g_exit ?_ | refine e_block_exit ?_ | refine e_block_exit_ne rfl ?_ | refine e_then_exit ?_ | refine e_round_exit ?_))
  refine r_y (y_load rfl (h.cb.cell? rfl)) rfl ?_
  refine r_call rfl rfl (sclone_ok (Oi := []) hO (Sl.bytes (h.bu.sl (O := []) (by simp))) hl) ?_
  rintro r O1 w1 s1 ⟨rfl, h1⟩
  (repeat (first | refine r_pure rfl rfl ?_ | refine g_seq ?_ | refine g_region ?_ | refine r_nil ?_ | refine e_then ?_ | refine r_go rfl rfl ?_ | refine r_pass rfl rfl rfl ?_ | refine r_passu rfl rfl rfl ?_ | refine r_y (y_fieldAddr rfl) rfl ?_ | refine r_y (y_fieldAddr' rfl) rfl ?_ | refine r_y (y_len rfl) rfl ?_ | refine r_y (y_lenStr rfl) rfl ?_ | refine r_y (y_ptr_nil rfl rfl) rfl ?_ | refine r_y (y_ptr_ne_nil rfl rfl) rfl ?_ | refine r_y (y_slice_nil rfl rfl) rfl ?_ | refine r_y (y_map_nil rfl rfl) rfl ?_ | refine r_y (y_add64 rfl rfl (by omega)) rfl ?_ | refine r_y (y_sub64 rfl rfl (by omega)) rfl ?_ | refine g_true rfl ?_ | refine g_false rfl ?_ | refine g_skip ?_ | refine g_block ?_ | refine e_block_normal ?_ | refine g_exit ?_ | refine e_block_exit ?_ | refine e_block_exit_ne rfl ?_ | refine e_then_exit ?_ | refine e_round_exit ?_))
  refine g_ret ?_; (repeat (first | refine e_then_ret ?_ | refine e_block_ret ?_ | refine e_round_ret ?_)); refine ret1 (.inl rfl) rfl rfl ?_
  exact ⟨_, _, rfl, s1, rfl, h1⟩

theorem out_none (hO : OK O w) :
    FnC Tryz.prog 28 [.pointer none] O [] w fun r O' w' => r = .slice none 0 0 ∧ O = O' ∧ w = w' := by
  refine fn_of _ Tryz.func28 rfl (by kernel_rfl) Tryz.ntmps28 rfl ?_
  (repeat (first | refine r_pure rfl rfl ?_ | refine g_seq ?_ | refine g_region ?_ | refine r_nil ?_ | refine e_then ?_ | refine r_go rfl rfl ?_ | refine r_pass rfl rfl rfl ?_ | refine r_passu rfl rfl rfl ?_ | refine r_y (y_fieldAddr rfl) rfl ?_ | refine r_y (y_fieldAddr' rfl) rfl ?_ | refine r_y (y_len rfl) rfl ?_ | refine r_y (y_lenStr rfl) rfl ?_ | refine r_y (y_ptr_nil rfl rfl) rfl ?_ | refine r_y (y_ptr_ne_nil rfl rfl) rfl ?_ | refine r_y (y_slice_nil rfl rfl) rfl ?_ | refine r_y (y_map_nil rfl rfl) rfl ?_ | refine r_y (y_add64 rfl rfl (by omega)) rfl ?_ | refine r_y (y_sub64 rfl rfl (by omega)) rfl ?_ | refine g_true rfl ?_ | refine g_false rfl ?_ | refine g_skip ?_ | refine g_block ?_ | refine e_block_normal ?_ | refine g_exit ?_ | refine e_block_exit ?_ | refine e_block_exit_ne rfl ?_ | refine e_then_exit ?_ | refine e_round_exit ?_))
  refine g_ret ?_; (repeat (first | refine e_then_ret ?_ | refine e_block_ret ?_ | refine e_round_ret ?_)); refine ret1 (.inl rfl) rfl rfl ?_
  exact ⟨_, _, rfl, Step.refl hO, rfl, rfl, rfl⟩

/-! ### reading -/

/-- The number of bytes. -/
def numB (bs : List UInt8) : Nat := bs.foldl (fun x c => x * 256 + c.toNat) 0

theorem foldl_num (bs : List UInt8) : ∀ a, bs.foldl (fun x c => x * 256 + c.toNat) a = a * 256 ^ bs.length + numB bs := by
  induction bs with
  | nil => intro a; simp [numB]
  | cons b bs ih =>
    intro a
    simp only [numB, List.foldl_cons, List.length_cons]
    rw [ih, ih (0 * 256 + b.toNat)]
    have : 256 ^ (bs.length + 1) = 256 * 256 ^ bs.length := Nat.pow_succ'
    rw [this, Nat.add_mul, Nat.add_mul, ← Nat.mul_assoc]
    omega

theorem numB_snoc (bs : List UInt8) (c : UInt8) : numB (bs ++ [c]) = numB bs * 256 + c.toNat := by simp [numB, List.foldl_append]

theorem numB_lt (bs : List UInt8) : numB bs < 256 ^ bs.length := by
  have key : ∀ (n : Nat) (bs : List UInt8), bs.length = n → numB bs < 256 ^ n := by
    intro n
    induction n with
    | zero => intro bs h; have := List.length_eq_zero_iff.1 h; subst this; simp [numB]
    | succ n ih =>
      intro bs h
      rcases List.eq_nil_or_concat bs with rfl | ⟨l, c, rfl⟩
      · cases h
      · rw [List.concat_eq_append, numB_snoc]
        have h1 := ih l (by simpa using h)
        have h2 := UInt8.toNat_lt c
        have : 256 ^ (n + 1) = 256 ^ n * 256 := Nat.pow_succ 256 n
        omega
  exact key _ _ rfl

/-- A reader that has these bytes left, and this first error. -/
structure RdAt (O : List Nat) (w : World) (p : Nat) (bs : List UInt8) (e : Nat) : Prop where
  pO : p ∈ O
  mem : ∃ v, CB w p [v, .int .i64 e] ∧ Bytes O w v bs

theorem RdAt.step {M O' : List Nat} {w' : World} {e : Nat} (h : RdAt O w p bs e) (s : Step M O O' w w') (hp : p ∉ M) : RdAt O' w' p bs e := by
  obtain ⟨h1, u, h2, h3⟩ := h
  exact ⟨s.keep _ h1, u, h2.step s hp, h3.step s⟩

theorem RdAt.lt {e : Nat} (h : RdAt O w p bs e) : p < w.heap.size := by obtain ⟨h1, u, h2, h3⟩ := h; exact h2.lt

theorem newReader_ok (hO : OK O w) {Oi : List Nat} (hb : Bytes Oi w v bs) (hl : bs.length ≤ 140737488355328) :
    FnC Tryz.prog 29 [v] O [] w fun r O' w' => ∃ p, r = .pointer (some ⟨p, 0, none⟩) ∧ O' = p :: O ∧ w.heap.size ≤ p ∧ RdAt O' w' p bs 0 := by
  refine fn_of _ Tryz.func29 rfl (by kernel_rfl) Tryz.ntmps29 rfl ?_
  (repeat (first | refine r_pure rfl rfl ?_ | refine g_seq ?_ | refine g_region ?_ | refine r_nil ?_ | refine e_then ?_ | refine r_go rfl rfl ?_ | refine r_pass rfl rfl rfl ?_ | refine r_passu rfl rfl rfl ?_ | refine r_y (y_fieldAddr rfl) rfl ?_ | refine r_y (y_fieldAddr' rfl) rfl ?_ | refine r_y (y_len rfl) rfl ?_ | refine r_y (y_lenStr rfl) rfl ?_ | refine r_y (y_ptr_nil rfl rfl) rfl ?_ | refine r_y (y_ptr_ne_nil rfl rfl) rfl ?_ | refine r_y (y_slice_nil rfl rfl) rfl ?_ | refine r_y (y_map_nil rfl rfl) rfl ?_ | refine r_y (y_add64 rfl rfl (by omega)) rfl ?_ | refine r_y (y_sub64 rfl rfl (by omega)) rfl ?_ | refine g_true rfl ?_ | refine g_false rfl ?_ | refine g_skip ?_ | refine g_block ?_ | refine e_block_normal ?_ | refine g_exit ?_ | refine e_block_exit ?_ | refine e_block_exit_ne rfl ?_ | refine e_then_exit ?_ | refine e_round_exit ?_))
  refine r_call rfl rfl (sclone_ok hO hb hl) ?_
  rintro r O1 w1 s1 ⟨rfl, h1⟩
  obtain ⟨a, cap, rfl, _⟩ := h1.form
  refine r_y (y_build (cs := [_, _]) rfl rfl) rfl ?_
  refine r_boxN s1.ok rfl rfl (fun p w2 hp s2 z2 hc2 => ?_)
  (repeat (first | refine r_pure rfl rfl ?_ | refine g_seq ?_ | refine g_region ?_ | refine r_nil ?_ | refine e_then ?_ | refine r_go rfl rfl ?_ | refine r_pass rfl rfl rfl ?_ | refine r_passu rfl rfl rfl ?_ | refine r_y (y_fieldAddr rfl) rfl ?_ | refine r_y (y_fieldAddr' rfl) rfl ?_ | refine r_y (y_len rfl) rfl ?_ | refine r_y (y_lenStr rfl) rfl ?_ | refine r_y (y_ptr_nil rfl rfl) rfl ?_ | refine r_y (y_ptr_ne_nil rfl rfl) rfl ?_ | refine r_y (y_slice_nil rfl rfl) rfl ?_ | refine r_y (y_map_nil rfl rfl) rfl ?_ | refine r_y (y_add64 rfl rfl (by omega)) rfl ?_ | refine r_y (y_sub64 rfl rfl (by omega)) rfl ?_ | refine g_true rfl ?_ | refine g_false rfl ?_ | refine g_skip ?_ | refine g_block ?_ | refine e_block_normal ?_ | refine g_exit ?_ | refine e_block_exit ?_ | refine e_block_exit_ne rfl ?_ | refine e_then_exit ?_ | refine e_round_exit ?_))
  refine g_ret ?_; (repeat (first | refine e_then_ret ?_ | refine e_block_ret ?_ | refine e_round_ret ?_)); refine ret1 (.inl rfl) rfl rfl ?_
  have s2' := s2.take (q := p) (by omega) (by omega)
  have hz := s1.size
  refine ⟨_, _, rfl, s1.trans0 s2', p, rfl, rfl, by omega, by simp, _, hc2, ?_⟩
  refine Sl.bytes ((h1.self.step s2 (by simp)).sl (fun q hq => ?_))
  have := h1.lt q hq.2
  simp only [List.mem_cons, not_or]
  exact ⟨by omega, fresh_nin hO hq.1⟩

theorem err_ok (hO : OK O w) {e : Nat} (h : RdAt O w p bs e) : FnC Tryz.prog 54 [.pointer (some ⟨p, 0, none⟩)] O [] w fun r O' w' => r = .int .i64 e ∧ O = O' ∧ w = w' := by
  obtain ⟨h1, u, h2, h3⟩ := h
  refine fn_of _ Tryz.func54 rfl (by kernel_rfl) Tryz.ntmps54 rfl ?_
  (repeat (first | refine r_pure rfl rfl ?_ | refine g_seq ?_ | refine g_region ?_ | refine r_nil ?_ | refine e_then ?_ | refine r_go rfl rfl ?_ | refine r_pass rfl rfl rfl ?_ | refine r_passu rfl rfl rfl ?_ | refine r_y (y_fieldAddr rfl) rfl ?_ | refine r_y (y_fieldAddr' rfl) rfl ?_ | refine r_y (y_len rfl) rfl ?_ | refine r_y (y_lenStr rfl) rfl ?_ | refine r_y (y_ptr_nil rfl rfl) rfl ?_ | refine r_y (y_ptr_ne_nil rfl rfl) rfl ?_ | refine r_y (y_slice_nil rfl rfl) rfl ?_ | refine r_y (y_map_nil rfl rfl) rfl ?_ | refine r_y (y_add64 rfl rfl (by omega)) rfl ?_ | refine r_y (y_sub64 rfl rfl (by omega)) rfl ?_ | refine g_true rfl ?_ | refine g_false rfl ?_ | refine g_skip ?_ | refine g_block ?_ | refine e_block_normal ?_ | refine g_exit ?_ | refine e_block_exit ?_ | refine e_block_exit_ne rfl ?_ | refine e_then_exit ?_ | refine e_round_exit ?_))
  refine r_y (y_load rfl (h2.cell? rfl)) rfl ?_
  (repeat (first | refine r_pure rfl rfl ?_ | refine g_seq ?_ | refine g_region ?_ | refine r_nil ?_ | refine e_then ?_ | refine r_go rfl rfl ?_ | refine r_pass rfl rfl rfl ?_ | refine r_passu rfl rfl rfl ?_ | refine r_y (y_fieldAddr rfl) rfl ?_ | refine r_y (y_fieldAddr' rfl) rfl ?_ | refine r_y (y_len rfl) rfl ?_ | refine r_y (y_lenStr rfl) rfl ?_ | refine r_y (y_ptr_nil rfl rfl) rfl ?_ | refine r_y (y_ptr_ne_nil rfl rfl) rfl ?_ | refine r_y (y_slice_nil rfl rfl) rfl ?_ | refine r_y (y_map_nil rfl rfl) rfl ?_ | refine r_y (y_add64 rfl rfl (by omega)) rfl ?_ | refine r_y (y_sub64 rfl rfl (by omega)) rfl ?_ | refine g_true rfl ?_ | refine g_false rfl ?_ | refine g_skip ?_ | refine g_block ?_ | refine e_block_normal ?_ | refine g_exit ?_ | refine e_block_exit ?_ | refine e_block_exit_ne rfl ?_ | refine e_then_exit ?_ | refine e_round_exit ?_))
  refine g_ret ?_; (repeat (first | refine e_then_ret ?_ | refine e_block_ret ?_ | refine e_round_ret ?_)); refine ret1 (.inl rfl) rfl rfl ?_
  exact ⟨_, _, rfl, Step.refl hO, rfl, rfl, rfl⟩

theorem err_none (hO : OK O w) : FnC Tryz.prog 54 [.pointer none] O [] w fun r O' w' => r = .int .i64 1 ∧ O = O' ∧ w = w' := by
  refine fn_of _ Tryz.func54 rfl (by kernel_rfl) Tryz.ntmps54 rfl ?_
  (repeat (first | refine r_pure rfl rfl ?_ | refine g_seq ?_ | refine g_region ?_ | refine r_nil ?_ | refine e_then ?_ | refine r_go rfl rfl ?_ | refine r_pass rfl rfl rfl ?_ | refine r_passu rfl rfl rfl ?_ | refine r_y (y_fieldAddr rfl) rfl ?_ | refine r_y (y_fieldAddr' rfl) rfl ?_ | refine r_y (y_len rfl) rfl ?_ | refine r_y (y_lenStr rfl) rfl ?_ | refine r_y (y_ptr_nil rfl rfl) rfl ?_ | refine r_y (y_ptr_ne_nil rfl rfl) rfl ?_ | refine r_y (y_slice_nil rfl rfl) rfl ?_ | refine r_y (y_map_nil rfl rfl) rfl ?_ | refine r_y (y_add64 rfl rfl (by omega)) rfl ?_ | refine r_y (y_sub64 rfl rfl (by omega)) rfl ?_ | refine g_true rfl ?_ | refine g_false rfl ?_ | refine g_skip ?_ | refine g_block ?_ | refine e_block_normal ?_ | refine g_exit ?_ | refine e_block_exit ?_ | refine e_block_exit_ne rfl ?_ | refine e_then_exit ?_ | refine e_round_exit ?_))
  refine g_ret ?_; (repeat (first | refine e_then_ret ?_ | refine e_block_ret ?_ | refine e_round_ret ?_)); refine ret1 (.inl rfl) rfl rfl ?_
  exact ⟨_, _, rfl, Step.refl hO, rfl, rfl, rfl⟩

theorem left_ok (hO : OK O w) {e : Nat} (h : RdAt O w p bs e) : FnC Tryz.prog 79 [.pointer (some ⟨p, 0, none⟩)] O [] w fun r O' w' => r = .int .i64 bs.length ∧ O = O' ∧ w = w' := by
  obtain ⟨h1, u, h2, h3⟩ := h
  obtain ⟨a, cap, rfl, _⟩ := h3.form
  refine fn_of _ Tryz.func79 rfl (by kernel_rfl) Tryz.ntmps79 rfl ?_
  (repeat (first | refine r_pure rfl rfl ?_ | refine g_seq ?_ | refine g_region ?_ | refine r_nil ?_ | refine e_then ?_ | refine r_go rfl rfl ?_ | refine r_pass rfl rfl rfl ?_ | refine r_passu rfl rfl rfl ?_ | refine r_y (y_fieldAddr rfl) rfl ?_ | refine r_y (y_fieldAddr' rfl) rfl ?_ | refine r_y (y_len rfl) rfl ?_ | refine r_y (y_lenStr rfl) rfl ?_ | refine r_y (y_ptr_nil rfl rfl) rfl ?_ | refine r_y (y_ptr_ne_nil rfl rfl) rfl ?_ | refine r_y (y_slice_nil rfl rfl) rfl ?_ | refine r_y (y_map_nil rfl rfl) rfl ?_ | refine r_y (y_add64 rfl rfl (by omega)) rfl ?_ | refine r_y (y_sub64 rfl rfl (by omega)) rfl ?_ | refine g_true rfl ?_ | refine g_false rfl ?_ | refine g_skip ?_ | refine g_block ?_ | refine e_block_normal ?_ | refine g_exit ?_ | refine e_block_exit ?_ | refine e_block_exit_ne rfl ?_ | refine e_then_exit ?_ | refine e_round_exit ?_))
  refine r_y (y_load rfl (h2.cell? rfl)) rfl ?_
  (repeat (first | refine r_pure rfl rfl ?_ | refine g_seq ?_ | refine g_region ?_ | refine r_nil ?_ | refine e_then ?_ | refine r_go rfl rfl ?_ | refine r_pass rfl rfl rfl ?_ | refine r_passu rfl rfl rfl ?_ | refine r_y (y_fieldAddr rfl) rfl ?_ | refine r_y (y_fieldAddr' rfl) rfl ?_ | refine r_y (y_len rfl) rfl ?_ | refine r_y (y_lenStr rfl) rfl ?_ | refine r_y (y_ptr_nil rfl rfl) rfl ?_ | refine r_y (y_ptr_ne_nil rfl rfl) rfl ?_ | refine r_y (y_slice_nil rfl rfl) rfl ?_ | refine r_y (y_map_nil rfl rfl) rfl ?_ | refine r_y (y_add64 rfl rfl (by omega)) rfl ?_ | refine r_y (y_sub64 rfl rfl (by omega)) rfl ?_ | refine g_true rfl ?_ | refine g_false rfl ?_ | refine g_skip ?_ | refine g_block ?_ | refine e_block_normal ?_ | refine g_exit ?_ | refine e_block_exit ?_ | refine e_block_exit_ne rfl ?_ | refine e_then_exit ?_ | refine e_round_exit ?_))
  refine g_ret ?_; (repeat (first | refine e_then_ret ?_ | refine e_block_ret ?_ | refine e_round_ret ?_)); refine ret1 (.inl rfl) rfl rfl ?_
  exact ⟨_, _, rfl, Step.refl hO, rfl, rfl, rfl⟩

theorem left_none (hO : OK O w) : FnC Tryz.prog 79 [.pointer none] O [] w fun r O' w' => r = .int .i64 0 ∧ O = O' ∧ w = w' := by
  refine fn_of _ Tryz.func79 rfl (by kernel_rfl) Tryz.ntmps79 rfl ?_
  (repeat (first | refine r_pure rfl rfl ?_ | refine g_seq ?_ | refine g_region ?_ | refine r_nil ?_ | refine e_then ?_ | refine r_go rfl rfl ?_ | refine r_pass rfl rfl rfl ?_ | refine r_passu rfl rfl rfl ?_ | refine r_y (y_fieldAddr rfl) rfl ?_ | refine r_y (y_fieldAddr' rfl) rfl ?_ | refine r_y (y_len rfl) rfl ?_ | refine r_y (y_lenStr rfl) rfl ?_ | refine r_y (y_ptr_nil rfl rfl) rfl ?_ | refine r_y (y_ptr_ne_nil rfl rfl) rfl ?_ | refine r_y (y_slice_nil rfl rfl) rfl ?_ | refine r_y (y_map_nil rfl rfl) rfl ?_ | refine r_y (y_add64 rfl rfl (by omega)) rfl ?_ | refine r_y (y_sub64 rfl rfl (by omega)) rfl ?_ | refine g_true rfl ?_ | refine g_false rfl ?_ | refine g_skip ?_ | refine g_block ?_ | refine e_block_normal ?_ | refine g_exit ?_ | refine e_block_exit ?_ | refine e_block_exit_ne rfl ?_ | refine e_then_exit ?_ | refine e_round_exit ?_))
  refine g_ret ?_; (repeat (first | refine e_then_ret ?_ | refine e_block_ret ?_ | refine e_round_ret ?_)); refine ret1 (.inl rfl) rfl rfl ?_
  exact ⟨_, _, rfl, Step.refl hO, rfl, rfl, rfl⟩

/-- What the end is told to be. -/
def endE (bs : List UInt8) (e : Nat) : Nat := if e = 0 then (if bs = [] then 0 else 12) else e

theorem end_ok (hO : OK O w) {e : Nat} (h : RdAt O w p bs e) : FnC Tryz.prog 31 [.pointer (some ⟨p, 0, none⟩)] O [] w fun r O' w' => r = .int .i64 (endE bs e) ∧ O = O' ∧ w = w' := by
  have h' := h
  obtain ⟨h1, u, h2, h3⟩ := h
  obtain ⟨a, cap, rfl, _⟩ := h3.form
  refine fn_of _ Tryz.func31 rfl (by kernel_rfl) Tryz.ntmps31 rfl ?_
  (repeat (first | refine r_pure rfl rfl ?_ | refine g_seq ?_ | refine g_region ?_ | refine r_nil ?_ | refine e_then ?_ | refine r_go rfl rfl ?_ | refine r_pass rfl rfl rfl ?_ | refine r_passu rfl rfl rfl ?_ | refine r_y (y_fieldAddr rfl) rfl ?_ | refine r_y (y_fieldAddr' rfl) rfl ?_ | refine r_y (y_len rfl) rfl ?_ | refine r_y (y_lenStr rfl) rfl ?_ | refine r_y (y_ptr_nil rfl rfl) rfl ?_ | refine r_y (y_ptr_ne_nil rfl rfl) rfl ?_ | refine r_y (y_slice_nil rfl rfl) rfl ?_ | refine r_y (y_map_nil rfl rfl) rfl ?_ | refine r_y (y_add64 rfl rfl (by omega)) rfl ?_ | refine r_y (y_sub64 rfl rfl (by omega)) rfl ?_ | refine g_true rfl ?_ | refine g_false rfl ?_ | refine g_skip ?_ | refine g_block ?_ | refine e_block_normal ?_ | refine g_exit ?_ | refine e_block_exit ?_ | refine e_block_exit_ne rfl ?_ | refine e_then_exit ?_ | refine e_round_exit ?_))
  refine r_call rfl rfl (err_ok hO h') ?_
  rintro r O1 w1 s1 ⟨rfl, rfl, rfl⟩
  (repeat (first | refine r_pure rfl rfl ?_ | refine g_seq ?_ | refine g_region ?_ | refine r_nil ?_ | refine e_then ?_ | refine r_go rfl rfl ?_ | refine r_pass rfl rfl rfl ?_ | refine r_passu rfl rfl rfl ?_ | refine r_y (y_fieldAddr rfl) rfl ?_ | refine r_y (y_fieldAddr' rfl) rfl ?_ | refine r_y (y_len rfl) rfl ?_ | refine r_y (y_lenStr rfl) rfl ?_ | refine r_y (y_ptr_nil rfl rfl) rfl ?_ | refine r_y (y_ptr_ne_nil rfl rfl) rfl ?_ | refine r_y (y_slice_nil rfl rfl) rfl ?_ | refine r_y (y_map_nil rfl rfl) rfl ?_ | refine r_y (y_add64 rfl rfl (by omega)) rfl ?_ | refine r_y (y_sub64 rfl rfl (by omega)) rfl ?_ | refine g_true rfl ?_ | refine g_false rfl ?_ | refine g_skip ?_ | refine g_block ?_ | refine e_block_normal ?_ | refine g_exit ?_ | refine e_block_exit ?_ | refine e_block_exit_ne rfl ?_ | refine e_then_exit ?_ | refine e_round_exit ?_))
  refine g_ndec rfl (fun g => ?_) (fun g => ?_)
  · (repeat (first | refine r_pure rfl rfl ?_ | refine g_seq ?_ | refine g_region ?_ | refine r_nil ?_ | refine e_then ?_ | refine r_go rfl rfl ?_ | refine r_pass rfl rfl rfl ?_ | refine r_passu rfl rfl rfl ?_ | refine r_y (y_fieldAddr rfl) rfl ?_ | refine r_y (y_fieldAddr' rfl) rfl ?_ | refine r_y (y_len rfl) rfl ?_ | refine r_y (y_lenStr rfl) rfl ?_ | refine r_y (y_ptr_nil rfl rfl) rfl ?_ | refine r_y (y_ptr_ne_nil rfl rfl) rfl ?_ | refine r_y (y_slice_nil rfl rfl) rfl ?_ | refine r_y (y_map_nil rfl rfl) rfl ?_ | refine r_y (y_add64 rfl rfl (by omega)) rfl ?_ | refine r_y (y_sub64 rfl rfl (by omega)) rfl ?_ | refine g_true rfl ?_ | refine g_false rfl ?_ | refine g_skip ?_ | refine g_block ?_ | refine e_block_normal ?_ | refine g_exit ?_ | refine e_block_exit ?_ | refine e_block_exit_ne rfl ?_ | refine e_then_exit ?_ | refine e_round_exit ?_))
    refine g_ret ?_; (repeat (first | refine e_then_ret ?_ | refine e_block_ret ?_ | refine e_round_ret ?_)); refine ret1 (.inl rfl) rfl rfl ?_
    refine ⟨_, _, rfl, Step.refl hO, ?_, rfl, rfl⟩
    simp [endE, show ¬ e = 0 from by simpa using g]
  · (repeat (first | refine r_pure rfl rfl ?_ | refine g_seq ?_ | refine g_region ?_ | refine r_nil ?_ | refine e_then ?_ | refine r_go rfl rfl ?_ | refine r_pass rfl rfl rfl ?_ | refine r_passu rfl rfl rfl ?_ | refine r_y (y_fieldAddr rfl) rfl ?_ | refine r_y (y_fieldAddr' rfl) rfl ?_ | refine r_y (y_len rfl) rfl ?_ | refine r_y (y_lenStr rfl) rfl ?_ | refine r_y (y_ptr_nil rfl rfl) rfl ?_ | refine r_y (y_ptr_ne_nil rfl rfl) rfl ?_ | refine r_y (y_slice_nil rfl rfl) rfl ?_ | refine r_y (y_map_nil rfl rfl) rfl ?_ | refine r_y (y_add64 rfl rfl (by omega)) rfl ?_ | refine r_y (y_sub64 rfl rfl (by omega)) rfl ?_ | refine g_true rfl ?_ | refine g_false rfl ?_ | refine g_skip ?_ | refine g_block ?_ | refine e_block_normal ?_ | refine g_exit ?_ | refine e_block_exit ?_ | refine e_block_exit_ne rfl ?_ | refine e_then_exit ?_ | refine e_round_exit ?_))
    refine r_y (y_load rfl (h2.cell? rfl)) rfl ?_
    (repeat (first | refine r_pure rfl rfl ?_ | refine g_seq ?_ | refine g_region ?_ | refine r_nil ?_ | refine e_then ?_ | refine r_go rfl rfl ?_ | refine r_pass rfl rfl rfl ?_ | refine r_passu rfl rfl rfl ?_ | refine r_y (y_fieldAddr rfl) rfl ?_ | refine r_y (y_fieldAddr' rfl) rfl ?_ | refine r_y (y_len rfl) rfl ?_ | refine r_y (y_lenStr rfl) rfl ?_ | refine r_y (y_ptr_nil rfl rfl) rfl ?_ | refine r_y (y_ptr_ne_nil rfl rfl) rfl ?_ | refine r_y (y_slice_nil rfl rfl) rfl ?_ | refine r_y (y_map_nil rfl rfl) rfl ?_ | refine r_y (y_add64 rfl rfl (by omega)) rfl ?_ | refine r_y (y_sub64 rfl rfl (by omega)) rfl ?_ | refine g_true rfl ?_ | refine g_false rfl ?_ | refine g_skip ?_ | refine g_block ?_ | refine e_block_normal ?_ | refine g_exit ?_ | refine e_block_exit ?_ | refine e_block_exit_ne rfl ?_ | refine e_then_exit ?_ | refine e_round_exit ?_))
    have g' : e = 0 := by simpa using g
    subst g'
    refine g_dec rfl (fun g => ?_) (fun g => ?_)
    · (repeat (first | refine r_pure rfl rfl ?_ | refine g_seq ?_ | refine g_region ?_ | refine r_nil ?_ | refine e_then ?_ | refine r_go rfl rfl ?_ | refine r_pass rfl rfl rfl ?_ | refine r_passu rfl rfl rfl ?_ | refine r_y (y_fieldAddr rfl) rfl ?_ | refine r_y (y_fieldAddr' rfl) rfl ?_ | refine r_y (y_len rfl) rfl ?_ | refine r_y (y_lenStr rfl) rfl ?_ | refine r_y (y_ptr_nil rfl rfl) rfl ?_ | refine r_y (y_ptr_ne_nil rfl rfl) rfl ?_ | refine r_y (y_slice_nil rfl rfl) rfl ?_ | refine r_y (y_map_nil rfl rfl) rfl ?_ | refine r_y (y_add64 rfl rfl (by omega)) rfl ?_ | refine r_y (y_sub64 rfl rfl (by omega)) rfl ?_ | refine g_true rfl ?_ | refine g_false rfl ?_ | refine g_skip ?_ | refine g_block ?_ | refine e_block_normal ?_ | refine g_exit ?_ | refine e_block_exit ?_ | refine e_block_exit_ne rfl ?_ | refine e_then_exit ?_ | refine e_round_exit ?_))
      refine g_ret ?_; (repeat (first | refine e_then_ret ?_ | refine e_block_ret ?_ | refine e_round_ret ?_)); refine ret1 (.inl rfl) rfl rfl ?_
      refine ⟨_, _, rfl, Step.refl hO, ?_, rfl, rfl⟩
      have : bs ≠ [] := by rintro rfl; simp at g
      simp [endE, this]
    · (repeat (first | refine r_pure rfl rfl ?_ | refine g_seq ?_ | refine g_region ?_ | refine r_nil ?_ | refine e_then ?_ | refine r_go rfl rfl ?_ | refine r_pass rfl rfl rfl ?_ | refine r_passu rfl rfl rfl ?_ | refine r_y (y_fieldAddr rfl) rfl ?_ | refine r_y (y_fieldAddr' rfl) rfl ?_ | refine r_y (y_len rfl) rfl ?_ | refine r_y (y_lenStr rfl) rfl ?_ | refine r_y (y_ptr_nil rfl rfl) rfl ?_ | refine r_y (y_ptr_ne_nil rfl rfl) rfl ?_ | refine r_y (y_slice_nil rfl rfl) rfl ?_ | refine r_y (y_map_nil rfl rfl) rfl ?_ | refine r_y (y_add64 rfl rfl (by omega)) rfl ?_ | refine r_y (y_sub64 rfl rfl (by omega)) rfl ?_ | refine g_true rfl ?_ | refine g_false rfl ?_ | refine g_skip ?_ | refine g_block ?_ | refine e_block_normal ?_ | refine g_exit ?_ | refine e_block_exit ?_ | refine e_block_exit_ne rfl ?_ | refine e_then_exit ?_ | refine e_round_exit ?_))
      refine g_ret ?_; (repeat (first | refine e_then_ret ?_ | refine e_block_ret ?_ | refine e_round_ret ?_)); refine ret1 (.inl rfl) rfl rfl ?_
      refine ⟨_, _, rfl, Step.refl hO, ?_, rfl, rfl⟩
      have : bs = [] := List.length_eq_zero_iff.1 (by simpa using g)
      simp [endE, this]

theorem end_none (hO : OK O w) : FnC Tryz.prog 31 [.pointer none] O [] w fun r O' w' => r = .int .i64 1 ∧ O = O' ∧ w = w' := by
  refine fn_of _ Tryz.func31 rfl (by kernel_rfl) Tryz.ntmps31 rfl ?_
  (repeat (first | refine r_pure rfl rfl ?_ | refine g_seq ?_ | refine g_region ?_ | refine r_nil ?_ | refine e_then ?_ | refine r_go rfl rfl ?_ | refine r_pass rfl rfl rfl ?_ | refine r_passu rfl rfl rfl ?_ | refine r_y (y_fieldAddr rfl) rfl ?_ | refine r_y (y_fieldAddr' rfl) rfl ?_ | refine r_y (y_len rfl) rfl ?_ | refine r_y (y_lenStr rfl) rfl ?_ | refine r_y (y_ptr_nil rfl rfl) rfl ?_ | refine r_y (y_ptr_ne_nil rfl rfl) rfl ?_ | refine r_y (y_slice_nil rfl rfl) rfl ?_ | refine r_y (y_map_nil rfl rfl) rfl ?_ | refine r_y (y_add64 rfl rfl (by omega)) rfl ?_ | refine r_y (y_sub64 rfl rfl (by omega)) rfl ?_ | refine g_true rfl ?_ | refine g_false rfl ?_ | refine g_skip ?_ | refine g_block ?_ | refine e_block_normal ?_ | refine g_exit ?_ | refine e_block_exit ?_ | refine e_block_exit_ne rfl ?_ | refine e_then_exit ?_ | refine e_round_exit ?_))
  refine r_call rfl rfl (err_none hO) ?_
  rintro r O1 w1 s1 ⟨rfl, rfl, rfl⟩
  (repeat (first | refine r_pure rfl rfl ?_ | refine g_seq ?_ | refine g_region ?_ | refine r_nil ?_ | refine e_then ?_ | refine r_go rfl rfl ?_ | refine r_pass rfl rfl rfl ?_ | refine r_passu rfl rfl rfl ?_ | refine r_y (y_fieldAddr rfl) rfl ?_ | refine r_y (y_fieldAddr' rfl) rfl ?_ | refine r_y (y_len rfl) rfl ?_ | refine r_y (y_lenStr rfl) rfl ?_ | refine r_y (y_ptr_nil rfl rfl) rfl ?_ | refine r_y (y_ptr_ne_nil rfl rfl) rfl ?_ | refine r_y (y_slice_nil rfl rfl) rfl ?_ | refine r_y (y_map_nil rfl rfl) rfl ?_ | refine r_y (y_add64 rfl rfl (by omega)) rfl ?_ | refine r_y (y_sub64 rfl rfl (by omega)) rfl ?_ | refine g_true rfl ?_ | refine g_false rfl ?_ | refine g_skip ?_ | refine g_block ?_ | refine e_block_normal ?_ | refine g_exit ?_ | refine e_block_exit ?_ | refine e_block_exit_ne rfl ?_ | refine e_then_exit ?_ | refine e_round_exit ?_))
  refine g_ret ?_; (repeat (first | refine e_then_ret ?_ | refine e_block_ret ?_ | refine e_round_ret ?_)); refine ret1 (.inl rfl) rfl rfl ?_
  exact ⟨_, _, rfl, Step.refl hO, rfl, rfl, rfl⟩

theorem fail_ok (hO : OK O w) {e : Nat} (h : RdAt O w p bs e) {f : Nat} : FnC Tryz.prog 82 [.pointer (some ⟨p, 0, none⟩), .int .i64 f] O [p] w fun r O' w' => r = .tuple #[] ∧ O = O' ∧ RdAt O w' p bs (if e = 0 then f else e) := by
  obtain ⟨h1, u, h2, h3⟩ := h
  have hM : ∀ b, b ∈ [p] → b ∈ O := by simpa using h1
  refine fn_of _ Tryz.func82 rfl (by kernel_rfl) Tryz.ntmps82 rfl ?_
  (repeat (first | refine r_pure rfl rfl ?_ | refine g_seq ?_ | refine g_region ?_ | refine r_nil ?_ | refine e_then ?_ | refine r_go rfl rfl ?_ | refine r_pass rfl rfl rfl ?_ | refine r_passu rfl rfl rfl ?_ | refine r_y (y_fieldAddr rfl) rfl ?_ | refine r_y (y_fieldAddr' rfl) rfl ?_ | refine r_y (y_len rfl) rfl ?_ | refine r_y (y_lenStr rfl) rfl ?_ | refine r_y (y_ptr_nil rfl rfl) rfl ?_ | refine r_y (y_ptr_ne_nil rfl rfl) rfl ?_ | refine r_y (y_slice_nil rfl rfl) rfl ?_ | refine r_y (y_map_nil rfl rfl) rfl ?_ | refine r_y (y_add64 rfl rfl (by omega)) rfl ?_ | refine r_y (y_sub64 rfl rfl (by omega)) rfl ?_ | refine g_true rfl ?_ | refine g_false rfl ?_ | refine g_skip ?_ | refine g_block ?_ | refine e_block_normal ?_ | refine g_exit ?_ | refine e_block_exit ?_ | refine e_block_exit_ne rfl ?_ | refine e_then_exit ?_ | refine e_round_exit ?_))
  refine r_y (y_load rfl (h2.cell? rfl)) rfl ?_
  (repeat (first | refine r_pure rfl rfl ?_ | refine g_seq ?_ | refine g_region ?_ | refine r_nil ?_ | refine e_then ?_ | refine r_go rfl rfl ?_ | refine r_pass rfl rfl rfl ?_ | refine r_passu rfl rfl rfl ?_ | refine r_y (y_fieldAddr rfl) rfl ?_ | refine r_y (y_fieldAddr' rfl) rfl ?_ | refine r_y (y_len rfl) rfl ?_ | refine r_y (y_lenStr rfl) rfl ?_ | refine r_y (y_ptr_nil rfl rfl) rfl ?_ | refine r_y (y_ptr_ne_nil rfl rfl) rfl ?_ | refine r_y (y_slice_nil rfl rfl) rfl ?_ | refine r_y (y_map_nil rfl rfl) rfl ?_ | refine r_y (y_add64 rfl rfl (by omega)) rfl ?_ | refine r_y (y_sub64 rfl rfl (by omega)) rfl ?_ | refine g_true rfl ?_ | refine g_false rfl ?_ | refine g_skip ?_ | refine g_block ?_ | refine e_block_normal ?_ | refine g_exit ?_ | refine e_block_exit ?_ | refine e_block_exit_ne rfl ?_ | refine e_then_exit ?_ | refine e_round_exit ?_))
  refine g_dec rfl (fun g => ?_) (fun g => ?_)
  · have g' : e = 0 := by simpa using g
    subst g'
    (repeat (first | refine r_pure rfl rfl ?_ | refine g_seq ?_ | refine g_region ?_ | refine r_nil ?_ | refine e_then ?_ | refine r_go rfl rfl ?_ | refine r_pass rfl rfl rfl ?_ | refine r_passu rfl rfl rfl ?_ | refine r_y (y_fieldAddr rfl) rfl ?_ | refine r_y (y_fieldAddr' rfl) rfl ?_ | refine r_y (y_len rfl) rfl ?_ | refine r_y (y_lenStr rfl) rfl ?_ | refine r_y (y_ptr_nil rfl rfl) rfl ?_ | refine r_y (y_ptr_ne_nil rfl rfl) rfl ?_ | refine r_y (y_slice_nil rfl rfl) rfl ?_ | refine r_y (y_map_nil rfl rfl) rfl ?_ | refine r_y (y_add64 rfl rfl (by omega)) rfl ?_ | refine r_y (y_sub64 rfl rfl (by omega)) rfl ?_ | refine g_true rfl ?_ | refine g_false rfl ?_ | refine g_skip ?_ | refine g_block ?_ | refine e_block_normal ?_ | refine g_exit ?_ | refine e_block_exit ?_ | refine e_block_exit_ne rfl ?_ | refine e_then_exit ?_ | refine e_round_exit ?_))
    refine r_store1 hO rfl rfl rfl rfl h2 (by simp) h1 (fun w1 s1 hc1 => ?_)
    (repeat (first | refine r_pure rfl rfl ?_ | refine g_seq ?_ | refine g_region ?_ | refine r_nil ?_ | refine e_then ?_ | refine r_go rfl rfl ?_ | refine r_pass rfl rfl rfl ?_ | refine r_passu rfl rfl rfl ?_ | refine r_y (y_fieldAddr rfl) rfl ?_ | refine r_y (y_fieldAddr' rfl) rfl ?_ | refine r_y (y_len rfl) rfl ?_ | refine r_y (y_lenStr rfl) rfl ?_ | refine r_y (y_ptr_nil rfl rfl) rfl ?_ | refine r_y (y_ptr_ne_nil rfl rfl) rfl ?_ | refine r_y (y_slice_nil rfl rfl) rfl ?_ | refine r_y (y_map_nil rfl rfl) rfl ?_ | refine r_y (y_add64 rfl rfl (by omega)) rfl ?_ | refine r_y (y_sub64 rfl rfl (by omega)) rfl ?_ | refine g_true rfl ?_ | refine g_false rfl ?_ | refine g_skip ?_ | refine g_block ?_ | refine e_block_normal ?_ | refine g_exit ?_ | refine e_block_exit ?_ | refine e_block_exit_ne rfl ?_ | refine e_then_exit ?_ | refine e_round_exit ?_))
    refine ret0 (.inr rfl) rfl ?_
    exact ⟨_, _, rfl, s1, rfl, rfl, h1, u, hc1, h3.step s1⟩
  · have g' : ¬ e = 0 := by simpa using g
    (repeat (first | refine r_pure rfl rfl ?_ | refine g_seq ?_ | refine g_region ?_ | refine r_nil ?_ | refine e_then ?_ | refine r_go rfl rfl ?_ | refine r_pass rfl rfl rfl ?_ | refine r_passu rfl rfl rfl ?_ | refine r_y (y_fieldAddr rfl) rfl ?_ | refine r_y (y_fieldAddr' rfl) rfl ?_ | refine r_y (y_len rfl) rfl ?_ | refine r_y (y_lenStr rfl) rfl ?_ | refine r_y (y_ptr_nil rfl rfl) rfl ?_ | refine r_y (y_ptr_ne_nil rfl rfl) rfl ?_ | refine r_y (y_slice_nil rfl rfl) rfl ?_ | refine r_y (y_map_nil rfl rfl) rfl ?_ | refine r_y (y_add64 rfl rfl (by omega)) rfl ?_ | refine r_y (y_sub64 rfl rfl (by omega)) rfl ?_ | refine g_true rfl ?_ | refine g_false rfl ?_ | refine g_skip ?_ | refine g_block ?_ | refine e_block_normal ?_ | refine g_exit ?_ | refine e_block_exit ?_ | refine e_block_exit_ne rfl ?_ | refine e_then_exit ?_ | refine e_round_exit ?_))
    refine ret0 (.inr rfl) rfl ?_
    refine ⟨_, _, rfl, (Step.refl hO).more (by simp) hM, rfl, rfl, ?_⟩
    rw [if_neg g']
    exact ⟨h1, u, h2, h3⟩

/-- What 'take' takes, and leaves. -/
def takeR (bs : List UInt8) (e n : Nat) : List UInt8 × List UInt8 × Nat :=
  if e = 0 then (if bs.length < n then ([], bs, 10) else (bs.take n, bs.drop n, 0)) else ([], bs, e)

theorem take_ok (hO : OK O w) {e : Nat} (h : RdAt O w p bs e) {n : Nat} (hn : n < 9223372036854775808) : FnC Tryz.prog 68 [.pointer (some ⟨p, 0, none⟩), .int .i64 n] O [p] w fun r O' w' =>
    O = O' ∧ Bytes O w' r (takeR bs e n).1 ∧ RdAt O w' p (takeR bs e n).2.1 (takeR bs e n).2.2 := by
  have h' := h
  obtain ⟨h1, u, h2, h3⟩ := h
  obtain ⟨a, cap, rfl, hcap⟩ := h3.form
  have hM : ∀ b, b ∈ [p] → b ∈ O := by simpa using h1
  refine fn_of _ Tryz.func68 rfl (by kernel_rfl) Tryz.ntmps68 rfl ?_
  (repeat (first | refine r_pure rfl rfl ?_ | refine g_seq ?_ | refine g_region ?_ | refine r_nil ?_ | refine e_then ?_ | refine r_go rfl rfl ?_ | refine r_pass rfl rfl rfl ?_ | refine r_passu rfl rfl rfl ?_ | refine r_y (y_fieldAddr rfl) rfl ?_ | refine r_y (y_fieldAddr' rfl) rfl ?_ | refine r_y (y_len rfl) rfl ?_ | refine r_y (y_lenStr rfl) rfl ?_ | refine r_y (y_ptr_nil rfl rfl) rfl ?_ | refine r_y (y_ptr_ne_nil rfl rfl) rfl ?_ | refine r_y (y_slice_nil rfl rfl) rfl ?_ | refine r_y (y_map_nil rfl rfl) rfl ?_ | refine r_y (y_add64 rfl rfl (by omega)) rfl ?_ | refine r_y (y_sub64 rfl rfl (by omega)) rfl ?_ | refine g_true rfl ?_ | refine g_false rfl ?_ | refine g_skip ?_ | refine g_block ?_ | refine e_block_normal ?_ | refine g_exit ?_ | refine e_block_exit ?_ | refine e_block_exit_ne rfl ?_ | refine e_then_exit ?_ | refine e_round_exit ?_))
  refine r_y (y_load rfl (h2.cell? rfl)) rfl ?_
  (repeat (first | refine r_pure rfl rfl ?_ | refine g_seq ?_ | refine g_region ?_ | refine r_nil ?_ | refine e_then ?_ | refine r_go rfl rfl ?_ | refine r_pass rfl rfl rfl ?_ | refine r_passu rfl rfl rfl ?_ | refine r_y (y_fieldAddr rfl) rfl ?_ | refine r_y (y_fieldAddr' rfl) rfl ?_ | refine r_y (y_len rfl) rfl ?_ | refine r_y (y_lenStr rfl) rfl ?_ | refine r_y (y_ptr_nil rfl rfl) rfl ?_ | refine r_y (y_ptr_ne_nil rfl rfl) rfl ?_ | refine r_y (y_slice_nil rfl rfl) rfl ?_ | refine r_y (y_map_nil rfl rfl) rfl ?_ | refine r_y (y_add64 rfl rfl (by omega)) rfl ?_ | refine r_y (y_sub64 rfl rfl (by omega)) rfl ?_ | refine g_true rfl ?_ | refine g_false rfl ?_ | refine g_skip ?_ | refine g_block ?_ | refine e_block_normal ?_ | refine g_exit ?_ | refine e_block_exit ?_ | refine e_block_exit_ne rfl ?_ | refine e_then_exit ?_ | refine e_round_exit ?_))
  refine g_dec rfl (fun g => ?_) (fun g => ?_)
  · have g' : bs.length < n := by omega
    (repeat (first | refine r_pure rfl rfl ?_ | refine g_seq ?_ | refine g_region ?_ | refine r_nil ?_ | refine e_then ?_ | refine r_go rfl rfl ?_ | refine r_pass rfl rfl rfl ?_ | refine r_passu rfl rfl rfl ?_ | refine r_y (y_fieldAddr rfl) rfl ?_ | refine r_y (y_fieldAddr' rfl) rfl ?_ | refine r_y (y_len rfl) rfl ?_ | refine r_y (y_lenStr rfl) rfl ?_ | refine r_y (y_ptr_nil rfl rfl) rfl ?_ | refine r_y (y_ptr_ne_nil rfl rfl) rfl ?_ | refine r_y (y_slice_nil rfl rfl) rfl ?_ | refine r_y (y_map_nil rfl rfl) rfl ?_ | refine r_y (y_add64 rfl rfl (by omega)) rfl ?_ | refine r_y (y_sub64 rfl rfl (by omega)) rfl ?_ | refine g_true rfl ?_ | refine g_false rfl ?_ | refine g_skip ?_ | refine g_block ?_ | refine e_block_normal ?_ | refine g_exit ?_ | refine e_block_exit ?_ | refine e_block_exit_ne rfl ?_ | refine e_then_exit ?_ | refine e_round_exit ?_))
    refine r_call rfl rfl (fail_ok hO h' (f := 10)) ?_
    rintro r O1 w1 s1 ⟨rfl, rfl, k1, x, k2, k3⟩
    (repeat (first | refine r_pure rfl rfl ?_ | refine g_seq ?_ | refine g_region ?_ | refine r_nil ?_ | refine e_then ?_ | refine r_go rfl rfl ?_ | refine r_pass rfl rfl rfl ?_ | refine r_passu rfl rfl rfl ?_ | refine r_y (y_fieldAddr rfl) rfl ?_ | refine r_y (y_fieldAddr' rfl) rfl ?_ | refine r_y (y_len rfl) rfl ?_ | refine r_y (y_lenStr rfl) rfl ?_ | refine r_y (y_ptr_nil rfl rfl) rfl ?_ | refine r_y (y_ptr_ne_nil rfl rfl) rfl ?_ | refine r_y (y_slice_nil rfl rfl) rfl ?_ | refine r_y (y_map_nil rfl rfl) rfl ?_ | refine r_y (y_add64 rfl rfl (by omega)) rfl ?_ | refine r_y (y_sub64 rfl rfl (by omega)) rfl ?_ | refine g_true rfl ?_ | refine g_false rfl ?_ | refine g_skip ?_ | refine g_block ?_ | refine e_block_normal ?_ | refine g_exit ?_ | refine e_block_exit ?_ | refine e_block_exit_ne rfl ?_ | refine e_then_exit ?_ | refine e_round_exit ?_))
    refine r_y (y_load rfl (k2.cell? rfl)) rfl ?_
    (repeat (first | refine r_pure rfl rfl ?_ | refine g_seq ?_ | refine g_region ?_ | refine r_nil ?_ | refine e_then ?_ | refine r_go rfl rfl ?_ | refine r_pass rfl rfl rfl ?_ | refine r_passu rfl rfl rfl ?_ | refine r_y (y_fieldAddr rfl) rfl ?_ | refine r_y (y_fieldAddr' rfl) rfl ?_ | refine r_y (y_len rfl) rfl ?_ | refine r_y (y_lenStr rfl) rfl ?_ | refine r_y (y_ptr_nil rfl rfl) rfl ?_ | refine r_y (y_ptr_ne_nil rfl rfl) rfl ?_ | refine r_y (y_slice_nil rfl rfl) rfl ?_ | refine r_y (y_map_nil rfl rfl) rfl ?_ | refine r_y (y_add64 rfl rfl (by omega)) rfl ?_ | refine r_y (y_sub64 rfl rfl (by omega)) rfl ?_ | refine g_true rfl ?_ | refine g_false rfl ?_ | refine g_skip ?_ | refine g_block ?_ | refine e_block_normal ?_ | refine g_exit ?_ | refine e_block_exit ?_ | refine e_block_exit_ne rfl ?_ | refine e_then_exit ?_ | refine e_round_exit ?_))
    have hne : ¬ (if e = 0 then 10 else e) = 0 := by split <;> omega
    refine g_ndec rfl (fun g => ?_) (fun g => absurd g (by simpa using hne))
    (repeat (first | refine r_pure rfl rfl ?_ | refine g_seq ?_ | refine g_region ?_ | refine r_nil ?_ | refine e_then ?_ | refine r_go rfl rfl ?_ | refine r_pass rfl rfl rfl ?_ | refine r_passu rfl rfl rfl ?_ | refine r_y (y_fieldAddr rfl) rfl ?_ | refine r_y (y_fieldAddr' rfl) rfl ?_ | refine r_y (y_len rfl) rfl ?_ | refine r_y (y_lenStr rfl) rfl ?_ | refine r_y (y_ptr_nil rfl rfl) rfl ?_ | refine r_y (y_ptr_ne_nil rfl rfl) rfl ?_ | refine r_y (y_slice_nil rfl rfl) rfl ?_ | refine r_y (y_map_nil rfl rfl) rfl ?_ | refine r_y (y_add64 rfl rfl (by omega)) rfl ?_ | refine r_y (y_sub64 rfl rfl (by omega)) rfl ?_ | refine g_true rfl ?_ | refine g_false rfl ?_ | refine g_skip ?_ | refine g_block ?_ | refine e_block_normal ?_ | refine g_exit ?_ | refine e_block_exit ?_ | refine e_block_exit_ne rfl ?_ | refine e_then_exit ?_ | refine e_round_exit ?_))
    refine g_ret ?_; (repeat (first | refine e_then_ret ?_ | refine e_block_ret ?_ | refine e_round_ret ?_)); refine ret1 (.inl rfl) rfl rfl ?_
    refine ⟨_, _, rfl, s1, rfl, ?_⟩
    have : takeR bs e n = ([], bs, if e = 0 then 10 else e) := by
      unfold takeR
      by_cases he : e = 0 <;> simp [he, g']
    rw [this]
    exact ⟨Bytes.nil, k1, x, k2, k3⟩
  · have g' : n ≤ bs.length := by omega
    (repeat (first | refine r_pure rfl rfl ?_ | refine g_seq ?_ | refine g_region ?_ | refine r_nil ?_ | refine e_then ?_ | refine r_go rfl rfl ?_ | refine r_pass rfl rfl rfl ?_ | refine r_passu rfl rfl rfl ?_ | refine r_y (y_fieldAddr rfl) rfl ?_ | refine r_y (y_fieldAddr' rfl) rfl ?_ | refine r_y (y_len rfl) rfl ?_ | refine r_y (y_lenStr rfl) rfl ?_ | refine r_y (y_ptr_nil rfl rfl) rfl ?_ | refine r_y (y_ptr_ne_nil rfl rfl) rfl ?_ | refine r_y (y_slice_nil rfl rfl) rfl ?_ | refine r_y (y_map_nil rfl rfl) rfl ?_ | refine r_y (y_add64 rfl rfl (by omega)) rfl ?_ | refine r_y (y_sub64 rfl rfl (by omega)) rfl ?_ | refine g_true rfl ?_ | refine g_false rfl ?_ | refine g_skip ?_ | refine g_block ?_ | refine e_block_normal ?_ | refine g_exit ?_ | refine e_block_exit ?_ | refine e_block_exit_ne rfl ?_ | refine e_then_exit ?_ | refine e_round_exit ?_))
    refine r_y (y_load rfl (h2.cell? rfl)) rfl ?_
    (repeat (first | refine r_pure rfl rfl ?_ | refine g_seq ?_ | refine g_region ?_ | refine r_nil ?_ | refine e_then ?_ | refine r_go rfl rfl ?_ | refine r_pass rfl rfl rfl ?_ | refine r_passu rfl rfl rfl ?_ | refine r_y (y_fieldAddr rfl) rfl ?_ | refine r_y (y_fieldAddr' rfl) rfl ?_ | refine r_y (y_len rfl) rfl ?_ | refine r_y (y_lenStr rfl) rfl ?_ | refine r_y (y_ptr_nil rfl rfl) rfl ?_ | refine r_y (y_ptr_ne_nil rfl rfl) rfl ?_ | refine r_y (y_slice_nil rfl rfl) rfl ?_ | refine r_y (y_map_nil rfl rfl) rfl ?_ | refine r_y (y_add64 rfl rfl (by omega)) rfl ?_ | refine r_y (y_sub64 rfl rfl (by omega)) rfl ?_ | refine g_true rfl ?_ | refine g_false rfl ?_ | refine g_skip ?_ | refine g_block ?_ | refine e_block_normal ?_ | refine g_exit ?_ | refine e_block_exit ?_ | refine e_block_exit_ne rfl ?_ | refine e_then_exit ?_ | refine e_round_exit ?_))
    refine g_ndec rfl (fun g => ?_) (fun g => ?_)
    · have he : ¬ e = 0 := by simpa using g
      (repeat (first | refine r_pure rfl rfl ?_ | refine g_seq ?_ | refine g_region ?_ | refine r_nil ?_ | refine e_then ?_ | refine r_go rfl rfl ?_ | refine r_pass rfl rfl rfl ?_ | refine r_passu rfl rfl rfl ?_ | refine r_y (y_fieldAddr rfl) rfl ?_ | refine r_y (y_fieldAddr' rfl) rfl ?_ | refine r_y (y_len rfl) rfl ?_ | refine r_y (y_lenStr rfl) rfl ?_ | refine r_y (y_ptr_nil rfl rfl) rfl ?_ | refine r_y (y_ptr_ne_nil rfl rfl) rfl ?_ | refine r_y (y_slice_nil rfl rfl) rfl ?_ | refine r_y (y_map_nil rfl rfl) rfl ?_ | refine r_y (y_add64 rfl rfl (by omega)) rfl ?_ | refine r_y (y_sub64 rfl rfl (by omega)) rfl ?_ | refine g_true rfl ?_ | refine g_false rfl ?_ | refine g_skip ?_ | refine g_block ?_ | refine e_block_normal ?_ | refine g_exit ?_ | refine e_block_exit ?_ | refine e_block_exit_ne rfl ?_ | refine e_then_exit ?_ | refine e_round_exit ?_))
      refine g_ret ?_; (repeat (first | refine e_then_ret ?_ | refine e_block_ret ?_ | refine e_round_ret ?_)); refine ret1 (.inl rfl) rfl rfl ?_
      refine ⟨_, _, rfl, (Step.refl hO).more (by simp) hM, rfl, ?_⟩
      have : takeR bs e n = ([], bs, e) := by unfold takeR; simp [he]
      rw [this]
      exact ⟨Bytes.nil, h'⟩
    · have he : e = 0 := by simpa using g
      subst he
      (repeat (first | refine r_pure rfl rfl ?_ | refine g_seq ?_ | refine g_region ?_ | refine r_nil ?_ | refine e_then ?_ | refine r_go rfl rfl ?_ | refine r_pass rfl rfl rfl ?_ | refine r_passu rfl rfl rfl ?_ | refine r_y (y_fieldAddr rfl) rfl ?_ | refine r_y (y_fieldAddr' rfl) rfl ?_ | refine r_y (y_len rfl) rfl ?_ | refine r_y (y_lenStr rfl) rfl ?_ | refine r_y (y_ptr_nil rfl rfl) rfl ?_ | refine r_y (y_ptr_ne_nil rfl rfl) rfl ?_ | refine r_y (y_slice_nil rfl rfl) rfl ?_ | refine r_y (y_map_nil rfl rfl) rfl ?_ | refine r_y (y_add64 rfl rfl (by omega)) rfl ?_ | refine r_y (y_sub64 rfl rfl (by omega)) rfl ?_ | refine g_true rfl ?_ | refine g_false rfl ?_ | refine g_skip ?_ | refine g_block ?_ | refine e_block_normal ?_ | refine g_exit ?_ | refine e_block_exit ?_ | refine e_block_exit_ne rfl ?_ | refine e_then_exit ?_ | refine e_round_exit ?_))
      refine r_y (y_load rfl (h2.cell? rfl)) rfl ?_
      (repeat (first | refine r_pure rfl rfl ?_ | refine g_seq ?_ | refine g_region ?_ | refine r_nil ?_ | refine e_then ?_ | refine r_go rfl rfl ?_ | refine r_pass rfl rfl rfl ?_ | refine r_passu rfl rfl rfl ?_ | refine r_y (y_fieldAddr rfl) rfl ?_ | refine r_y (y_fieldAddr' rfl) rfl ?_ | refine r_y (y_len rfl) rfl ?_ | refine r_y (y_lenStr rfl) rfl ?_ | refine r_y (y_ptr_nil rfl rfl) rfl ?_ | refine r_y (y_ptr_ne_nil rfl rfl) rfl ?_ | refine r_y (y_slice_nil rfl rfl) rfl ?_ | refine r_y (y_map_nil rfl rfl) rfl ?_ | refine r_y (y_add64 rfl rfl (by omega)) rfl ?_ | refine r_y (y_sub64 rfl rfl (by omega)) rfl ?_ | refine g_true rfl ?_ | refine g_false rfl ?_ | refine g_skip ?_ | refine g_block ?_ | refine e_block_normal ?_ | refine g_exit ?_ | refine e_block_exit ?_ | refine e_block_exit_ne rfl ?_ | refine e_then_exit ?_ | refine e_round_exit ?_))
      refine r_y (y_slice rfl rfl rfl rfl (by simp) (by omega)) rfl ?_
      (repeat (first | refine r_pure rfl rfl ?_ | refine g_seq ?_ | refine g_region ?_ | refine r_nil ?_ | refine e_then ?_ | refine r_go rfl rfl ?_ | refine r_pass rfl rfl rfl ?_ | refine r_passu rfl rfl rfl ?_ | refine r_y (y_fieldAddr rfl) rfl ?_ | refine r_y (y_fieldAddr' rfl) rfl ?_ | refine r_y (y_len rfl) rfl ?_ | refine r_y (y_lenStr rfl) rfl ?_ | refine r_y (y_ptr_nil rfl rfl) rfl ?_ | refine r_y (y_ptr_ne_nil rfl rfl) rfl ?_ | refine r_y (y_slice_nil rfl rfl) rfl ?_ | refine r_y (y_map_nil rfl rfl) rfl ?_ | refine r_y (y_add64 rfl rfl (by omega)) rfl ?_ | refine r_y (y_sub64 rfl rfl (by omega)) rfl ?_ | refine g_true rfl ?_ | refine g_false rfl ?_ | refine g_skip ?_ | refine g_block ?_ | refine e_block_normal ?_ | refine g_exit ?_ | refine e_block_exit ?_ | refine e_block_exit_ne rfl ?_ | refine e_then_exit ?_ | refine e_round_exit ?_))
      refine r_y (y_load rfl (h2.cell? rfl)) rfl ?_
      (repeat (first | refine r_pure rfl rfl ?_ | refine g_seq ?_ | refine g_region ?_ | refine r_nil ?_ | refine e_then ?_ | refine r_go rfl rfl ?_ | refine r_pass rfl rfl rfl ?_ | refine r_passu rfl rfl rfl ?_ | refine r_y (y_fieldAddr rfl) rfl ?_ | refine r_y (y_fieldAddr' rfl) rfl ?_ | refine r_y (y_len rfl) rfl ?_ | refine r_y (y_lenStr rfl) rfl ?_ | refine r_y (y_ptr_nil rfl rfl) rfl ?_ | refine r_y (y_ptr_ne_nil rfl rfl) rfl ?_ | refine r_y (y_slice_nil rfl rfl) rfl ?_ | refine r_y (y_map_nil rfl rfl) rfl ?_ | refine r_y (y_add64 rfl rfl (by omega)) rfl ?_ | refine r_y (y_sub64 rfl rfl (by omega)) rfl ?_ | refine g_true rfl ?_ | refine g_false rfl ?_ | refine g_skip ?_ | refine g_block ?_ | refine e_block_normal ?_ | refine g_exit ?_ | refine e_block_exit ?_ | refine e_block_exit_ne rfl ?_ | refine e_then_exit ?_ | refine e_round_exit ?_))
      refine r_y (y_slice rfl rfl rfl rfl (by simp) (by omega)) rfl ?_
      (repeat (first | refine r_pure rfl rfl ?_ | refine g_seq ?_ | refine g_region ?_ | refine r_nil ?_ | refine e_then ?_ | refine r_go rfl rfl ?_ | refine r_pass rfl rfl rfl ?_ | refine r_passu rfl rfl rfl ?_ | refine r_y (y_fieldAddr rfl) rfl ?_ | refine r_y (y_fieldAddr' rfl) rfl ?_ | refine r_y (y_len rfl) rfl ?_ | refine r_y (y_lenStr rfl) rfl ?_ | refine r_y (y_ptr_nil rfl rfl) rfl ?_ | refine r_y (y_ptr_ne_nil rfl rfl) rfl ?_ | refine r_y (y_slice_nil rfl rfl) rfl ?_ | refine r_y (y_map_nil rfl rfl) rfl ?_ | refine r_y (y_add64 rfl rfl (by omega)) rfl ?_ | refine r_y (y_sub64 rfl rfl (by omega)) rfl ?_ | refine g_true rfl ?_ | refine g_false rfl ?_ | refine g_skip ?_ | refine g_block ?_ | refine e_block_normal ?_ | refine g_exit ?_ | refine e_block_exit ?_ | refine e_block_exit_ne rfl ?_ | refine e_then_exit ?_ | refine e_round_exit ?_))
      refine r_store1 hO rfl rfl rfl rfl h2 (by simp) h1 (fun w1 s1 hc1 => ?_)
      (repeat (first | refine r_pure rfl rfl ?_ | refine g_seq ?_ | refine g_region ?_ | refine r_nil ?_ | refine e_then ?_ | refine r_go rfl rfl ?_ | refine r_pass rfl rfl rfl ?_ | refine r_passu rfl rfl rfl ?_ | refine r_y (y_fieldAddr rfl) rfl ?_ | refine r_y (y_fieldAddr' rfl) rfl ?_ | refine r_y (y_len rfl) rfl ?_ | refine r_y (y_lenStr rfl) rfl ?_ | refine r_y (y_ptr_nil rfl rfl) rfl ?_ | refine r_y (y_ptr_ne_nil rfl rfl) rfl ?_ | refine r_y (y_slice_nil rfl rfl) rfl ?_ | refine r_y (y_map_nil rfl rfl) rfl ?_ | refine r_y (y_add64 rfl rfl (by omega)) rfl ?_ | refine r_y (y_sub64 rfl rfl (by omega)) rfl ?_ | refine g_true rfl ?_ | refine g_false rfl ?_ | refine g_skip ?_ | refine g_block ?_ | refine e_block_normal ?_ | refine g_exit ?_ | refine e_block_exit ?_ | refine e_block_exit_ne rfl ?_ | refine e_then_exit ?_ | refine e_round_exit ?_))
      refine g_ret ?_; (repeat (first | refine e_then_ret ?_ | refine e_block_ret ?_ | refine e_round_ret ?_)); refine ret1 (.inl rfl) rfl rfl ?_
      have : takeR bs 0 n = (bs.take n, bs.drop n, 0) := by unfold takeR; simp; omega
      rw [this]
      refine ⟨_, _, rfl, s1, rfl, ?_, h1, _, hc1, ?_⟩
      · have := (h3.cut (l := 0) (h := n) (k := n) (by omega) (by omega) (by omega) g').step s1
        simpa using this
      · have := (h3.cut (l := n) (h := bs.length) (k := cap) (by omega) g' hcap (by omega)).step s1
        have e1 : (bs.drop n).take (bs.length - n) = bs.drop n := List.take_of_length_le (by simp)
        rw [e1] at this
        simpa using this

/-- What a number of so many bytes is read as. -/
def rdN (bs : List UInt8) (e n : Nat) : Nat × List UInt8 × Nat := (numB (takeR bs e n).1, (takeR bs e n).2)

theorem or_low (a c : Nat) (h : c < 256) : a * 2 ^ 8 ||| c = a * 256 + c := by
  have := Nat.two_pow_add_eq_or_of_lt (i := 8) (b := c) (by simpa using h) a
  rw [Nat.mul_comm a (2 ^ 8), ← this]

theorem get32_ok (hO : OK O w) {e : Nat} (h : RdAt O w p bs e) : FnC Tryz.prog 69 [.pointer (some ⟨p, 0, none⟩), .int .i64 (4 : Nat)] O [p] w fun r O' w' =>
    O = O' ∧ r = .int .u32 (rdN bs e 4).1 ∧ RdAt O w' p (rdN bs e 4).2.1 (rdN bs e 4).2.2 := by
  refine fn_of _ Tryz.func69 rfl (by kernel_rfl) Tryz.ntmps69 rfl ?_
  (repeat (first | refine r_pure rfl rfl ?_ | refine g_seq ?_ | refine g_region ?_ | refine r_nil ?_ | refine e_then ?_ | refine r_go rfl rfl ?_ | refine r_pass rfl rfl rfl ?_ | refine r_passu rfl rfl rfl ?_ | refine r_y (y_fieldAddr rfl) rfl ?_ | refine r_y (y_fieldAddr' rfl) rfl ?_ | refine r_y (y_len rfl) rfl ?_ | refine r_y (y_lenStr rfl) rfl ?_ | refine r_y (y_ptr_nil rfl rfl) rfl ?_ | refine r_y (y_ptr_ne_nil rfl rfl) rfl ?_ | refine r_y (y_slice_nil rfl rfl) rfl ?_ | refine r_y (y_map_nil rfl rfl) rfl ?_ | refine r_y (y_add64 rfl rfl (by omega)) rfl ?_ | refine r_y (y_sub64 rfl rfl (by omega)) rfl ?_ | refine g_true rfl ?_ | refine g_false rfl ?_ | refine g_skip ?_ | refine g_block ?_ | refine e_block_normal ?_ | refine g_exit ?_ | refine e_block_exit ?_ | refine e_block_exit_ne rfl ?_ | refine e_then_exit ?_ | refine e_round_exit ?_))
  refine r_y (y_convN (k := .u32) (a := 0) rfl (by decide)) rfl ?_
  (repeat (first | refine r_pure rfl rfl ?_ | refine g_seq ?_ | refine g_region ?_ | refine r_nil ?_ | refine e_then ?_ | refine r_go rfl rfl ?_ | refine r_pass rfl rfl rfl ?_ | refine r_passu rfl rfl rfl ?_ | refine r_y (y_fieldAddr rfl) rfl ?_ | refine r_y (y_fieldAddr' rfl) rfl ?_ | refine r_y (y_len rfl) rfl ?_ | refine r_y (y_lenStr rfl) rfl ?_ | refine r_y (y_ptr_nil rfl rfl) rfl ?_ | refine r_y (y_ptr_ne_nil rfl rfl) rfl ?_ | refine r_y (y_slice_nil rfl rfl) rfl ?_ | refine r_y (y_map_nil rfl rfl) rfl ?_ | refine r_y (y_add64 rfl rfl (by omega)) rfl ?_ | refine r_y (y_sub64 rfl rfl (by omega)) rfl ?_ | refine g_true rfl ?_ | refine g_false rfl ?_ | refine g_skip ?_ | refine g_block ?_ | refine e_block_normal ?_ | refine g_exit ?_ | refine e_block_exit ?_ | refine e_block_exit_ne rfl ?_ | refine e_then_exit ?_ | refine e_round_exit ?_))
  refine r_call rfl rfl (take_ok hO h (n := 4) (by decide)) ?_
  rintro r O1 w1 s1 ⟨rfl, hb, hr⟩
  have hlen : (takeR bs e 4).1.length ≤ 4 := by
    unfold takeR; split
    · split <;> simp; omega
    · simp
  show R _ _ _ _ _ _ _ _
  unfold rdN
  generalize (takeR bs e 4).1 = xs at hb hlen ⊢
  generalize (takeR bs e 4).2 = rest at hr ⊢
  obtain ⟨a, cap, rfl, _⟩ := hb.form
  (repeat (first | refine r_pure rfl rfl ?_ | refine g_seq ?_ | refine g_region ?_ | refine r_nil ?_ | refine e_then ?_ | refine r_go rfl rfl ?_ | refine r_pass rfl rfl rfl ?_ | refine r_passu rfl rfl rfl ?_ | refine r_y (y_fieldAddr rfl) rfl ?_ | refine r_y (y_fieldAddr' rfl) rfl ?_ | refine r_y (y_len rfl) rfl ?_ | refine r_y (y_lenStr rfl) rfl ?_ | refine r_y (y_ptr_nil rfl rfl) rfl ?_ | refine r_y (y_ptr_ne_nil rfl rfl) rfl ?_ | refine r_y (y_slice_nil rfl rfl) rfl ?_ | refine r_y (y_map_nil rfl rfl) rfl ?_ | refine r_y (y_add64 rfl rfl (by omega)) rfl ?_ | refine r_y (y_sub64 rfl rfl (by omega)) rfl ?_ | refine g_true rfl ?_ | refine g_false rfl ?_ | refine g_skip ?_ | refine g_block ?_ | refine e_block_normal ?_ | refine g_exit ?_ | refine e_block_exit ?_ | refine e_block_exit_ne rfl ?_ | refine e_then_exit ?_ | refine e_round_exit ?_))
  refine g_loop (X := Nat) (fun i => [(5, .int .u32 (numB (xs.take i))), (14, .slice a xs.length cap), (15, .int .i64 xs.length), (16, .int .i64 i)])
    (fun i wr => wr = w1 ∧ i ≤ xs.length) (fun i => xs.length - i) 0 (sub_cons rfl rfl (sub_cons rfl rfl (sub_cons rfl rfl (sub_cons rfl rfl (sub_nil))))) ⟨rfl, by omega⟩ ?_
  rintro i wr ⟨rfl, hi⟩
  (repeat (first | refine r_pure rfl rfl ?_ | refine g_seq ?_ | refine g_region ?_ | refine r_nil ?_ | refine e_then ?_ | refine r_go rfl rfl ?_ | refine r_pass rfl rfl rfl ?_ | refine r_passu rfl rfl rfl ?_ | refine r_y (y_fieldAddr rfl) rfl ?_ | refine r_y (y_fieldAddr' rfl) rfl ?_ | refine r_y (y_len rfl) rfl ?_ | refine r_y (y_lenStr rfl) rfl ?_ | refine r_y (y_ptr_nil rfl rfl) rfl ?_ | refine r_y (y_ptr_ne_nil rfl rfl) rfl ?_ | refine r_y (y_slice_nil rfl rfl) rfl ?_ | refine r_y (y_map_nil rfl rfl) rfl ?_ | refine r_y (y_add64 rfl rfl (by omega)) rfl ?_ | refine r_y (y_sub64 rfl rfl (by omega)) rfl ?_ | refine g_true rfl ?_ | refine g_false rfl ?_ | refine g_skip ?_ | refine g_block ?_ | refine e_block_normal ?_ | refine g_exit ?_ | refine e_block_exit ?_ | refine e_block_exit_ne rfl ?_ | refine e_then_exit ?_ | refine e_round_exit ?_))
  refine g_dec rfl (fun g => ?_) (fun g => ?_)
  · have hi' : i < xs.length := by omega
    obtain ⟨x, rfl, hcx⟩ := hb.at (List.getElem?_eq_getElem hi')
    (repeat (first | refine r_pure rfl rfl ?_ | refine g_seq ?_ | refine g_region ?_ | refine r_nil ?_ | refine e_then ?_ | refine r_go rfl rfl ?_ | refine r_pass rfl rfl rfl ?_ | refine r_passu rfl rfl rfl ?_ | refine r_y (y_fieldAddr rfl) rfl ?_ | refine r_y (y_fieldAddr' rfl) rfl ?_ | refine r_y (y_len rfl) rfl ?_ | refine r_y (y_lenStr rfl) rfl ?_ | refine r_y (y_ptr_nil rfl rfl) rfl ?_ | refine r_y (y_ptr_ne_nil rfl rfl) rfl ?_ | refine r_y (y_slice_nil rfl rfl) rfl ?_ | refine r_y (y_map_nil rfl rfl) rfl ?_ | refine r_y (y_add64 rfl rfl (by omega)) rfl ?_ | refine r_y (y_sub64 rfl rfl (by omega)) rfl ?_ | refine g_true rfl ?_ | refine g_false rfl ?_ | refine g_skip ?_ | refine g_block ?_ | refine e_block_normal ?_ | refine g_exit ?_ | refine e_block_exit ?_ | refine e_block_exit_ne rfl ?_ | refine e_then_exit ?_ | refine e_round_exit ?_))
    refine r_y (y_indexAddr rfl rfl (by omega)) rfl ?_
    refine r_y (y_load rfl (cell_at hcx)) rfl ?_
    (repeat (first | refine r_pure rfl rfl ?_ | refine g_seq ?_ | refine g_region ?_ | refine r_nil ?_ | refine e_then ?_ | refine r_go rfl rfl ?_ | refine r_pass rfl rfl rfl ?_ | refine r_passu rfl rfl rfl ?_ | refine r_y (y_fieldAddr rfl) rfl ?_ | refine r_y (y_fieldAddr' rfl) rfl ?_ | refine r_y (y_len rfl) rfl ?_ | refine r_y (y_lenStr rfl) rfl ?_ | refine r_y (y_ptr_nil rfl rfl) rfl ?_ | refine r_y (y_ptr_ne_nil rfl rfl) rfl ?_ | refine r_y (y_slice_nil rfl rfl) rfl ?_ | refine r_y (y_map_nil rfl rfl) rfl ?_ | refine r_y (y_add64 rfl rfl (by omega)) rfl ?_ | refine r_y (y_sub64 rfl rfl (by omega)) rfl ?_ | refine g_true rfl ?_ | refine g_false rfl ?_ | refine g_skip ?_ | refine g_block ?_ | refine e_block_normal ?_ | refine g_exit ?_ | refine e_block_exit ?_ | refine e_block_exit_ne rfl ?_ | refine e_then_exit ?_ | refine e_round_exit ?_))
    have hlt : numB (xs.take i) < 256 ^ 3 := by
      have h1 := numB_lt (xs.take i)
      have h2 : (xs.take i).length ≤ 4 - 1 := by simp; omega
      exact Nat.lt_of_lt_of_le h1 (Nat.pow_le_pow_right (by decide) h2)
    have hc := UInt8.toNat_lt xs[i]
    refine r_y (y_shlN (k := .u32) (c := 8) rfl rfl (by decide) (by simp only [lim]; omega)) rfl ?_
    (repeat (first | refine r_pure rfl rfl ?_ | refine g_seq ?_ | refine g_region ?_ | refine r_nil ?_ | refine e_then ?_ | refine r_go rfl rfl ?_ | refine r_pass rfl rfl rfl ?_ | refine r_passu rfl rfl rfl ?_ | refine r_y (y_fieldAddr rfl) rfl ?_ | refine r_y (y_fieldAddr' rfl) rfl ?_ | refine r_y (y_len rfl) rfl ?_ | refine r_y (y_lenStr rfl) rfl ?_ | refine r_y (y_ptr_nil rfl rfl) rfl ?_ | refine r_y (y_ptr_ne_nil rfl rfl) rfl ?_ | refine r_y (y_slice_nil rfl rfl) rfl ?_ | refine r_y (y_map_nil rfl rfl) rfl ?_ | refine r_y (y_add64 rfl rfl (by omega)) rfl ?_ | refine r_y (y_sub64 rfl rfl (by omega)) rfl ?_ | refine g_true rfl ?_ | refine g_false rfl ?_ | refine g_skip ?_ | refine g_block ?_ | refine e_block_normal ?_ | refine g_exit ?_ | refine e_block_exit ?_ | refine e_block_exit_ne rfl ?_ | refine e_then_exit ?_ | refine e_round_exit ?_))
    refine r_y (y_convN (k := .u32) rfl (by simp only [lim]; omega)) rfl ?_
    have hor := or_low (numB (xs.take i)) xs[i].toNat hc
    refine r_y (y_orN (k := .u32) rfl rfl (by simp only [full]; omega) (by simp only [full]; omega) (by rw [hor]; simp only [lim]; omega)) rfl ?_
    have e1 : numB (xs.take (i + 1)) = numB (xs.take i) * 2 ^ 8 ||| xs[i].toNat := by
      rw [hor, List.take_succ_eq_append_getElem hi', numB_snoc]
    rw [← e1]
    (repeat (first | refine r_pure rfl rfl ?_ | refine g_seq ?_ | refine g_region ?_ | refine r_nil ?_ | refine e_then ?_ | refine r_go rfl rfl ?_ | refine r_pass rfl rfl rfl ?_ | refine r_passu rfl rfl rfl ?_ | refine r_y (y_fieldAddr rfl) rfl ?_ | refine r_y (y_fieldAddr' rfl) rfl ?_ | refine r_y (y_len rfl) rfl ?_ | refine r_y (y_lenStr rfl) rfl ?_ | refine r_y (y_ptr_nil rfl rfl) rfl ?_ | refine r_y (y_ptr_ne_nil rfl rfl) rfl ?_ | refine r_y (y_slice_nil rfl rfl) rfl ?_ | refine r_y (y_map_nil rfl rfl) rfl ?_ | refine r_y (y_add64 rfl rfl (by omega)) rfl ?_ | refine r_y (y_sub64 rfl rfl (by omega)) rfl ?_ | refine g_true rfl ?_ | refine g_false rfl ?_ | refine g_skip ?_ | refine g_block ?_ | refine e_block_normal ?_ | refine g_exit ?_ | refine e_block_exit ?_ | refine e_block_exit_ne rfl ?_ | refine e_then_exit ?_ | refine e_round_exit ?_))
    exact e_round (i + 1) (sub_cons rfl rfl (sub_cons rfl rfl (sub_cons rfl rfl (sub_cons rfl rfl (sub_nil))))) ⟨rfl, by omega⟩ (by omega)
  · have hi' : i = xs.length := by omega
    subst hi'
    (repeat (first | refine r_pure rfl rfl ?_ | refine g_seq ?_ | refine g_region ?_ | refine r_nil ?_ | refine e_then ?_ | refine r_go rfl rfl ?_ | refine r_pass rfl rfl rfl ?_ | refine r_passu rfl rfl rfl ?_ | refine r_y (y_fieldAddr rfl) rfl ?_ | refine r_y (y_fieldAddr' rfl) rfl ?_ | refine r_y (y_len rfl) rfl ?_ | refine r_y (y_lenStr rfl) rfl ?_ | refine r_y (y_ptr_nil rfl rfl) rfl ?_ | refine r_y (y_ptr_ne_nil rfl rfl) rfl ?_ | refine r_y (y_slice_nil rfl rfl) rfl ?_ | refine r_y (y_map_nil rfl rfl) rfl ?_ | refine r_y (y_add64 rfl rfl (by omega)) rfl ?_ | refine r_y (y_sub64 rfl rfl (by omega)) rfl ?_ | refine g_true rfl ?_ | refine g_false rfl ?_ | refine g_skip ?_ | refine g_block ?_ | refine e_block_normal ?_ | refine g_exit ?_ | refine e_block_exit ?_ | refine e_block_exit_ne rfl ?_ | refine e_then_exit ?_ | refine e_round_exit ?_))
    refine g_ret ?_; (repeat (first | refine e_then_ret ?_ | refine e_block_ret ?_ | refine e_round_ret ?_)); refine ret1 (.inl rfl) rfl rfl ?_
    exact ⟨_, _, rfl, s1, rfl, by rw [List.take_length], hr⟩

theorem get32_none (hO : OK O w) {i : Int} : FnC Tryz.prog 69 [.pointer none, .int .i64 i] O [] w fun r O' w' => r = .int .u32 0 ∧ O = O' ∧ w = w' := by
  refine fn_of _ Tryz.func69 rfl (by kernel_rfl) Tryz.ntmps69 rfl ?_
  (repeat (first | refine r_pure rfl rfl ?_ | refine g_seq ?_ | refine g_region ?_ | refine r_nil ?_ | refine e_then ?_ | refine r_go rfl rfl ?_ | refine r_pass rfl rfl rfl ?_ | refine r_passu rfl rfl rfl ?_ | refine r_y (y_fieldAddr rfl) rfl ?_ | refine r_y (y_fieldAddr' rfl) rfl ?_ | refine r_y (y_len rfl) rfl ?_ | refine r_y (y_lenStr rfl) rfl ?_ | refine r_y (y_ptr_nil rfl rfl) rfl ?_ | refine r_y (y_ptr_ne_nil rfl rfl) rfl ?_ | refine r_y (y_slice_nil rfl rfl) rfl ?_ | refine r_y (y_map_nil rfl rfl) rfl ?_ | refine r_y (y_add64 rfl rfl (by omega)) rfl ?_ | refine r_y (y_sub64 rfl rfl (by omega)) rfl ?_ | refine g_true rfl ?_ | refine g_false rfl ?_ | refine g_skip ?_ | refine g_block ?_ | refine e_block_normal ?_ | refine g_exit ?_ | refine e_block_exit ?_ | refine e_block_exit_ne rfl ?_ | refine e_then_exit ?_ | refine e_round_exit ?_))
  refine r_y (y_convN (k := .u32) (a := 0) rfl (by decide)) rfl ?_
  (repeat (first | refine r_pure rfl rfl ?_ | refine g_seq ?_ | refine g_region ?_ | refine r_nil ?_ | refine e_then ?_ | refine r_go rfl rfl ?_ | refine r_pass rfl rfl rfl ?_ | refine r_passu rfl rfl rfl ?_ | refine r_y (y_fieldAddr rfl) rfl ?_ | refine r_y (y_fieldAddr' rfl) rfl ?_ | refine r_y (y_len rfl) rfl ?_ | refine r_y (y_lenStr rfl) rfl ?_ | refine r_y (y_ptr_nil rfl rfl) rfl ?_ | refine r_y (y_ptr_ne_nil rfl rfl) rfl ?_ | refine r_y (y_slice_nil rfl rfl) rfl ?_ | refine r_y (y_map_nil rfl rfl) rfl ?_ | refine r_y (y_add64 rfl rfl (by omega)) rfl ?_ | refine r_y (y_sub64 rfl rfl (by omega)) rfl ?_ | refine g_true rfl ?_ | refine g_false rfl ?_ | refine g_skip ?_ | refine g_block ?_ | refine e_block_normal ?_ | refine g_exit ?_ | refine e_block_exit ?_ | refine e_block_exit_ne rfl ?_ | refine e_then_exit ?_ | refine e_round_exit ?_))
  refine g_ret ?_; (repeat (first | refine e_then_ret ?_ | refine e_block_ret ?_ | refine e_round_ret ?_)); refine ret1 (.inl rfl) rfl rfl ?_
  exact ⟨_, _, rfl, Step.refl hO, rfl, rfl, rfl⟩
theorem get64_ok (hO : OK O w) {e : Nat} (h : RdAt O w p bs e) : FnC Tryz.prog 53 [.pointer (some ⟨p, 0, none⟩), .int .i64 (8 : Nat)] O [p] w fun r O' w' =>
    O = O' ∧ r = .int .u64 (rdN bs e 8).1 ∧ RdAt O w' p (rdN bs e 8).2.1 (rdN bs e 8).2.2 := by
  refine fn_of _ Tryz.func53 rfl (by kernel_rfl) Tryz.ntmps53 rfl ?_
  (repeat (first | refine r_pure rfl rfl ?_ | refine g_seq ?_ | refine g_region ?_ | refine r_nil ?_ | refine e_then ?_ | refine r_go rfl rfl ?_ | refine r_pass rfl rfl rfl ?_ | refine r_passu rfl rfl rfl ?_ | refine r_y (y_fieldAddr rfl) rfl ?_ | refine r_y (y_fieldAddr' rfl) rfl ?_ | refine r_y (y_len rfl) rfl ?_ | refine r_y (y_lenStr rfl) rfl ?_ | refine r_y (y_ptr_nil rfl rfl) rfl ?_ | refine r_y (y_ptr_ne_nil rfl rfl) rfl ?_ | refine r_y (y_slice_nil rfl rfl) rfl ?_ | refine r_y (y_map_nil rfl rfl) rfl ?_ | refine r_y (y_add64 rfl rfl (by omega)) rfl ?_ | refine r_y (y_sub64 rfl rfl (by omega)) rfl ?_ | refine g_true rfl ?_ | refine g_false rfl ?_ | refine g_skip ?_ | refine g_block ?_ | refine e_block_normal ?_ | refine g_exit ?_ | refine e_block_exit ?_ | refine e_block_exit_ne rfl ?_ | refine e_then_exit ?_ | refine e_round_exit ?_))
  refine r_y (y_convN (k := .u64) (a := 0) rfl (by decide)) rfl ?_
  (repeat (first | refine r_pure rfl rfl ?_ | refine g_seq ?_ | refine g_region ?_ | refine r_nil ?_ | refine e_then ?_ | refine r_go rfl rfl ?_ | refine r_pass rfl rfl rfl ?_ | refine r_passu rfl rfl rfl ?_ | refine r_y (y_fieldAddr rfl) rfl ?_ | refine r_y (y_fieldAddr' rfl) rfl ?_ | refine r_y (y_len rfl) rfl ?_ | refine r_y (y_lenStr rfl) rfl ?_ | refine r_y (y_ptr_nil rfl rfl) rfl ?_ | refine r_y (y_ptr_ne_nil rfl rfl) rfl ?_ | refine r_y (y_slice_nil rfl rfl) rfl ?_ | refine r_y (y_map_nil rfl rfl) rfl ?_ | refine r_y (y_add64 rfl rfl (by omega)) rfl ?_ | refine r_y (y_sub64 rfl rfl (by omega)) rfl ?_ | refine g_true rfl ?_ | refine g_false rfl ?_ | refine g_skip ?_ | refine g_block ?_ | refine e_block_normal ?_ | refine g_exit ?_ | refine e_block_exit ?_ | refine e_block_exit_ne rfl ?_ | refine e_then_exit ?_ | refine e_round_exit ?_))
  refine r_call rfl rfl (take_ok hO h (n := 8) (by decide)) ?_
  rintro r O1 w1 s1 ⟨rfl, hb, hr⟩
  have hlen : (takeR bs e 8).1.length ≤ 8 := by
    unfold takeR; split
    · split <;> simp; omega
    · simp
  show R _ _ _ _ _ _ _ _
  unfold rdN
  generalize (takeR bs e 8).1 = xs at hb hlen ⊢
  generalize (takeR bs e 8).2 = rest at hr ⊢
  obtain ⟨a, cap, rfl, _⟩ := hb.form
  (repeat (first | refine r_pure rfl rfl ?_ | refine g_seq ?_ | refine g_region ?_ | refine r_nil ?_ | refine e_then ?_ | refine r_go rfl rfl ?_ | refine r_pass rfl rfl rfl ?_ | refine r_passu rfl rfl rfl ?_ | refine r_y (y_fieldAddr rfl) rfl ?_ | refine r_y (y_fieldAddr' rfl) rfl ?_ | refine r_y (y_len rfl) rfl ?_ | refine r_y (y_lenStr rfl) rfl ?_ | refine r_y (y_ptr_nil rfl rfl) rfl ?_ | refine r_y (y_ptr_ne_nil rfl rfl) rfl ?_ | refine r_y (y_slice_nil rfl rfl) rfl ?_ | refine r_y (y_map_nil rfl rfl) rfl ?_ | refine r_y (y_add64 rfl rfl (by omega)) rfl ?_ | refine r_y (y_sub64 rfl rfl (by omega)) rfl ?_ | refine g_true rfl ?_ | refine g_false rfl ?_ | refine g_skip ?_ | refine g_block ?_ | refine e_block_normal ?_ | refine g_exit ?_ | refine e_block_exit ?_ | refine e_block_exit_ne rfl ?_ | refine e_then_exit ?_ | refine e_round_exit ?_))
  refine g_loop (X := Nat) (fun i => [(5, .int .u64 (numB (xs.take i))), (14, .slice a xs.length cap), (15, .int .i64 xs.length), (16, .int .i64 i)])
    (fun i wr => wr = w1 ∧ i ≤ xs.length) (fun i => xs.length - i) 0 (sub_cons rfl rfl (sub_cons rfl rfl (sub_cons rfl rfl (sub_cons rfl rfl (sub_nil))))) ⟨rfl, by omega⟩ ?_
  rintro i wr ⟨rfl, hi⟩
  (repeat (first | refine r_pure rfl rfl ?_ | refine g_seq ?_ | refine g_region ?_ | refine r_nil ?_ | refine e_then ?_ | refine r_go rfl rfl ?_ | refine r_pass rfl rfl rfl ?_ | refine r_passu rfl rfl rfl ?_ | refine r_y (y_fieldAddr rfl) rfl ?_ | refine r_y (y_fieldAddr' rfl) rfl ?_ | refine r_y (y_len rfl) rfl ?_ | refine r_y (y_lenStr rfl) rfl ?_ | refine r_y (y_ptr_nil rfl rfl) rfl ?_ | refine r_y (y_ptr_ne_nil rfl rfl) rfl ?_ | refine r_y (y_slice_nil rfl rfl) rfl ?_ | refine r_y (y_map_nil rfl rfl) rfl ?_ | refine r_y (y_add64 rfl rfl (by omega)) rfl ?_ | refine r_y (y_sub64 rfl rfl (by omega)) rfl ?_ | refine g_true rfl ?_ | refine g_false rfl ?_ | refine g_skip ?_ | refine g_block ?_ | refine e_block_normal ?_ | refine g_exit ?_ | refine e_block_exit ?_ | refine e_block_exit_ne rfl ?_ | refine e_then_exit ?_ | refine e_round_exit ?_))
  refine g_dec rfl (fun g => ?_) (fun g => ?_)
  · have hi' : i < xs.length := by omega
    obtain ⟨x, rfl, hcx⟩ := hb.at (List.getElem?_eq_getElem hi')
    (repeat (first | refine r_pure rfl rfl ?_ | refine g_seq ?_ | refine g_region ?_ | refine r_nil ?_ | refine e_then ?_ | refine r_go rfl rfl ?_ | refine r_pass rfl rfl rfl ?_ | refine r_passu rfl rfl rfl ?_ | refine r_y (y_fieldAddr rfl) rfl ?_ | refine r_y (y_fieldAddr' rfl) rfl ?_ | refine r_y (y_len rfl) rfl ?_ | refine r_y (y_lenStr rfl) rfl ?_ | refine r_y (y_ptr_nil rfl rfl) rfl ?_ | refine r_y (y_ptr_ne_nil rfl rfl) rfl ?_ | refine r_y (y_slice_nil rfl rfl) rfl ?_ | refine r_y (y_map_nil rfl rfl) rfl ?_ | refine r_y (y_add64 rfl rfl (by omega)) rfl ?_ | refine r_y (y_sub64 rfl rfl (by omega)) rfl ?_ | refine g_true rfl ?_ | refine g_false rfl ?_ | refine g_skip ?_ | refine g_block ?_ | refine e_block_normal ?_ | refine g_exit ?_ | refine e_block_exit ?_ | refine e_block_exit_ne rfl ?_ | refine e_then_exit ?_ | refine e_round_exit ?_))
    refine r_y (y_indexAddr rfl rfl (by omega)) rfl ?_
    refine r_y (y_load rfl (cell_at hcx)) rfl ?_
    (repeat (first | refine r_pure rfl rfl ?_ | refine g_seq ?_ | refine g_region ?_ | refine r_nil ?_ | refine e_then ?_ | refine r_go rfl rfl ?_ | refine r_pass rfl rfl rfl ?_ | refine r_passu rfl rfl rfl ?_ | refine r_y (y_fieldAddr rfl) rfl ?_ | refine r_y (y_fieldAddr' rfl) rfl ?_ | refine r_y (y_len rfl) rfl ?_ | refine r_y (y_lenStr rfl) rfl ?_ | refine r_y (y_ptr_nil rfl rfl) rfl ?_ | refine r_y (y_ptr_ne_nil rfl rfl) rfl ?_ | refine r_y (y_slice_nil rfl rfl) rfl ?_ | refine r_y (y_map_nil rfl rfl) rfl ?_ | refine r_y (y_add64 rfl rfl (by omega)) rfl ?_ | refine r_y (y_sub64 rfl rfl (by omega)) rfl ?_ | refine g_true rfl ?_ | refine g_false rfl ?_ | refine g_skip ?_ | refine g_block ?_ | refine e_block_normal ?_ | refine g_exit ?_ | refine e_block_exit ?_ | refine e_block_exit_ne rfl ?_ | refine e_then_exit ?_ | refine e_round_exit ?_))
    have hlt : numB (xs.take i) < 256 ^ 7 := by
      have h1 := numB_lt (xs.take i)
      have h2 : (xs.take i).length ≤ 8 - 1 := by simp; omega
      exact Nat.lt_of_lt_of_le h1 (Nat.pow_le_pow_right (by decide) h2)
    have hc := UInt8.toNat_lt xs[i]
    refine r_y (y_shlN (k := .u64) (c := 8) rfl rfl (by decide) (by simp only [lim]; omega)) rfl ?_
    (repeat (first | refine r_pure rfl rfl ?_ | refine g_seq ?_ | refine g_region ?_ | refine r_nil ?_ | refine e_then ?_ | refine r_go rfl rfl ?_ | refine r_pass rfl rfl rfl ?_ | refine r_passu rfl rfl rfl ?_ | refine r_y (y_fieldAddr rfl) rfl ?_ | refine r_y (y_fieldAddr' rfl) rfl ?_ | refine r_y (y_len rfl) rfl ?_ | refine r_y (y_lenStr rfl) rfl ?_ | refine r_y (y_ptr_nil rfl rfl) rfl ?_ | refine r_y (y_ptr_ne_nil rfl rfl) rfl ?_ | refine r_y (y_slice_nil rfl rfl) rfl ?_ | refine r_y (y_map_nil rfl rfl) rfl ?_ | refine r_y (y_add64 rfl rfl (by omega)) rfl ?_ | refine r_y (y_sub64 rfl rfl (by omega)) rfl ?_ | refine g_true rfl ?_ | refine g_false rfl ?_ | refine g_skip ?_ | refine g_block ?_ | refine e_block_normal ?_ | refine g_exit ?_ | refine e_block_exit ?_ | refine e_block_exit_ne rfl ?_ | refine e_then_exit ?_ | refine e_round_exit ?_))
    refine r_y (y_convN (k := .u64) rfl (by simp only [lim]; omega)) rfl ?_
    have hor := or_low (numB (xs.take i)) xs[i].toNat hc
    refine r_y (y_orN (k := .u64) rfl rfl (by simp only [full]; omega) (by simp only [full]; omega) (by rw [hor]; simp only [lim]; omega)) rfl ?_
    have e1 : numB (xs.take (i + 1)) = numB (xs.take i) * 2 ^ 8 ||| xs[i].toNat := by
      rw [hor, List.take_succ_eq_append_getElem hi', numB_snoc]
    rw [← e1]
    (repeat (first | refine r_pure rfl rfl ?_ | refine g_seq ?_ | refine g_region ?_ | refine r_nil ?_ | refine e_then ?_ | refine r_go rfl rfl ?_ | refine r_pass rfl rfl rfl ?_ | refine r_passu rfl rfl rfl ?_ | refine r_y (y_fieldAddr rfl) rfl ?_ | refine r_y (y_fieldAddr' rfl) rfl ?_ | refine r_y (y_len rfl) rfl ?_ | refine r_y (y_lenStr rfl) rfl ?_ | refine r_y (y_ptr_nil rfl rfl) rfl ?_ | refine r_y (y_ptr_ne_nil rfl rfl) rfl ?_ | refine r_y (y_slice_nil rfl rfl) rfl ?_ | refine r_y (y_map_nil rfl rfl) rfl ?_ | refine r_y (y_add64 rfl rfl (by omega)) rfl ?_ | refine r_y (y_sub64 rfl rfl (by omega)) rfl ?_ | refine g_true rfl ?_ | refine g_false rfl ?_ | refine g_skip ?_ | refine g_block ?_ | refine e_block_normal ?_ | refine g_exit ?_ | refine e_block_exit ?_ | refine e_block_exit_ne rfl ?_ | refine e_then_exit ?_ | refine e_round_exit ?_))
    exact e_round (i + 1) (sub_cons rfl rfl (sub_cons rfl rfl (sub_cons rfl rfl (sub_cons rfl rfl (sub_nil))))) ⟨rfl, by omega⟩ (by omega)
  · have hi' : i = xs.length := by omega
    subst hi'
    (repeat (first | refine r_pure rfl rfl ?_ | refine g_seq ?_ | refine g_region ?_ | refine r_nil ?_ | refine e_then ?_ | refine r_go rfl rfl ?_ | refine r_pass rfl rfl rfl ?_ | refine r_passu rfl rfl rfl ?_ | refine r_y (y_fieldAddr rfl) rfl ?_ | refine r_y (y_fieldAddr' rfl) rfl ?_ | refine r_y (y_len rfl) rfl ?_ | refine r_y (y_lenStr rfl) rfl ?_ | refine r_y (y_ptr_nil rfl rfl) rfl ?_ | refine r_y (y_ptr_ne_nil rfl rfl) rfl ?_ | refine r_y (y_slice_nil rfl rfl) rfl ?_ | refine r_y (y_map_nil rfl rfl) rfl ?_ | refine r_y (y_add64 rfl rfl (by omega)) rfl ?_ | refine r_y (y_sub64 rfl rfl (by omega)) rfl ?_ | refine g_true rfl ?_ | refine g_false rfl ?_ | refine g_skip ?_ | refine g_block ?_ | refine e_block_normal ?_ | refine g_exit ?_ | refine e_block_exit ?_ | refine e_block_exit_ne rfl ?_ | refine e_then_exit ?_ | refine e_round_exit ?_))
    refine g_ret ?_; (repeat (first | refine e_then_ret ?_ | refine e_block_ret ?_ | refine e_round_ret ?_)); refine ret1 (.inl rfl) rfl rfl ?_
    exact ⟨_, _, rfl, s1, rfl, by rw [List.take_length], hr⟩

theorem get64_none (hO : OK O w) {i : Int} : FnC Tryz.prog 53 [.pointer none, .int .i64 i] O [] w fun r O' w' => r = .int .u64 0 ∧ O = O' ∧ w = w' := by
  refine fn_of _ Tryz.func53 rfl (by kernel_rfl) Tryz.ntmps53 rfl ?_
  (repeat (first | refine r_pure rfl rfl ?_ | refine g_seq ?_ | refine g_region ?_ | refine r_nil ?_ | refine e_then ?_ | refine r_go rfl rfl ?_ | refine r_pass rfl rfl rfl ?_ | refine r_passu rfl rfl rfl ?_ | refine r_y (y_fieldAddr rfl) rfl ?_ | refine r_y (y_fieldAddr' rfl) rfl ?_ | refine r_y (y_len rfl) rfl ?_ | refine r_y (y_lenStr rfl) rfl ?_ | refine r_y (y_ptr_nil rfl rfl) rfl ?_ | refine r_y (y_ptr_ne_nil rfl rfl) rfl ?_ | refine r_y (y_slice_nil rfl rfl) rfl ?_ | refine r_y (y_map_nil rfl rfl) rfl ?_ | refine r_y (y_add64 rfl rfl (by omega)) rfl ?_ | refine r_y (y_sub64 rfl rfl (by omega)) rfl ?_ | refine g_true rfl ?_ | refine g_false rfl ?_ | refine g_skip ?_ | refine g_block ?_ | refine e_block_normal ?_ | refine g_exit ?_ | refine e_block_exit ?_ | refine e_block_exit_ne rfl ?_ | refine e_then_exit ?_ | refine e_round_exit ?_))
  refine r_y (y_convN (k := .u64) (a := 0) rfl (by decide)) rfl ?_
  (repeat (first | refine r_pure rfl rfl ?_ | refine g_seq ?_ | refine g_region ?_ | refine r_nil ?_ | refine e_then ?_ | refine r_go rfl rfl ?_ | refine r_pass rfl rfl rfl ?_ | refine r_passu rfl rfl rfl ?_ | refine r_y (y_fieldAddr rfl) rfl ?_ | refine r_y (y_fieldAddr' rfl) rfl ?_ | refine r_y (y_len rfl) rfl ?_ | refine r_y (y_lenStr rfl) rfl ?_ | refine r_y (y_ptr_nil rfl rfl) rfl ?_ | refine r_y (y_ptr_ne_nil rfl rfl) rfl ?_ | refine r_y (y_slice_nil rfl rfl) rfl ?_ | refine r_y (y_map_nil rfl rfl) rfl ?_ | refine r_y (y_add64 rfl rfl (by omega)) rfl ?_ | refine r_y (y_sub64 rfl rfl (by omega)) rfl ?_ | refine g_true rfl ?_ | refine g_false rfl ?_ | refine g_skip ?_ | refine g_block ?_ | refine e_block_normal ?_ | refine g_exit ?_ | refine e_block_exit ?_ | refine e_block_exit_ne rfl ?_ | refine e_then_exit ?_ | refine e_round_exit ?_))
  refine g_ret ?_; (repeat (first | refine e_then_ret ?_ | refine e_block_ret ?_ | refine e_round_ret ?_)); refine ret1 (.inl rfl) rfl rfl ?_
  exact ⟨_, _, rfl, Step.refl hO, rfl, rfl, rfl⟩
theorem ru32_ok (hO : OK O w) {e : Nat} (h : RdAt O w p bs e) : FnC Tryz.prog 56 [.pointer (some ⟨p, 0, none⟩)] O [p] w fun r O' w' =>
    O = O' ∧ r = .int .u32 (rdN bs e 4).1 ∧ RdAt O w' p (rdN bs e 4).2.1 (rdN bs e 4).2.2 := by
  refine fn_of _ Tryz.func56 rfl (by kernel_rfl) Tryz.ntmps56 rfl ?_
  (repeat (first | refine r_pure rfl rfl ?_ | refine g_seq ?_ | refine g_region ?_ | refine r_nil ?_ | refine e_then ?_ | refine r_go rfl rfl ?_ | refine r_pass rfl rfl rfl ?_ | refine r_passu rfl rfl rfl ?_ | refine r_y (y_fieldAddr rfl) rfl ?_ | refine r_y (y_fieldAddr' rfl) rfl ?_ | refine r_y (y_len rfl) rfl ?_ | refine r_y (y_lenStr rfl) rfl ?_ | refine r_y (y_ptr_nil rfl rfl) rfl ?_ | refine r_y (y_ptr_ne_nil rfl rfl) rfl ?_ | refine r_y (y_slice_nil rfl rfl) rfl ?_ | refine r_y (y_map_nil rfl rfl) rfl ?_ | refine r_y (y_add64 rfl rfl (by omega)) rfl ?_ | refine r_y (y_sub64 rfl rfl (by omega)) rfl ?_ | refine g_true rfl ?_ | refine g_false rfl ?_ | refine g_skip ?_ | refine g_block ?_ | refine e_block_normal ?_ | refine g_exit ?_ | refine e_block_exit ?_ | refine e_block_exit_ne rfl ?_ | refine e_then_exit ?_ | refine e_round_exit ?_))
  refine r_call rfl rfl (get32_ok hO h) ?_
  rintro r O1 w1 s1 ⟨rfl, rfl, hr⟩
  (repeat (first | refine r_pure rfl rfl ?_ | refine g_seq ?_ | refine g_region ?_ | refine r_nil ?_ | refine e_then ?_ | refine r_go rfl rfl ?_ | refine r_pass rfl rfl rfl ?_ | refine r_passu rfl rfl rfl ?_ | refine r_y (y_fieldAddr rfl) rfl ?_ | refine r_y (y_fieldAddr' rfl) rfl ?_ | refine r_y (y_len rfl) rfl ?_ | refine r_y (y_lenStr rfl) rfl ?_ | refine r_y (y_ptr_nil rfl rfl) rfl ?_ | refine r_y (y_ptr_ne_nil rfl rfl) rfl ?_ | refine r_y (y_slice_nil rfl rfl) rfl ?_ | refine r_y (y_map_nil rfl rfl) rfl ?_ | refine r_y (y_add64 rfl rfl (by omega)) rfl ?_ | refine r_y (y_sub64 rfl rfl (by omega)) rfl ?_ | refine g_true rfl ?_ | refine g_false rfl ?_ | refine g_skip ?_ | refine g_block ?_ | refine e_block_normal ?_ | refine g_exit ?_ | refine e_block_exit ?_ | refine e_block_exit_ne rfl ?_ | refine e_then_exit ?_ | refine e_round_exit ?_))
  refine g_ret ?_; (repeat (first | refine e_then_ret ?_ | refine e_block_ret ?_ | refine e_round_ret ?_)); refine ret1 (.inl rfl) rfl rfl ?_
  exact ⟨_, _, rfl, s1, rfl, rfl, hr⟩

theorem ru32_none (hO : OK O w) : FnC Tryz.prog 56 [.pointer none] O [] w fun r O' w' => r = .int .u32 0 ∧ O = O' ∧ w = w' := by
  refine fn_of _ Tryz.func56 rfl (by kernel_rfl) Tryz.ntmps56 rfl ?_
  (repeat (first | refine r_pure rfl rfl ?_ | refine g_seq ?_ | refine g_region ?_ | refine r_nil ?_ | refine e_then ?_ | refine r_go rfl rfl ?_ | refine r_pass rfl rfl rfl ?_ | refine r_passu rfl rfl rfl ?_ | refine r_y (y_fieldAddr rfl) rfl ?_ | refine r_y (y_fieldAddr' rfl) rfl ?_ | refine r_y (y_len rfl) rfl ?_ | refine r_y (y_lenStr rfl) rfl ?_ | refine r_y (y_ptr_nil rfl rfl) rfl ?_ | refine r_y (y_ptr_ne_nil rfl rfl) rfl ?_ | refine r_y (y_slice_nil rfl rfl) rfl ?_ | refine r_y (y_map_nil rfl rfl) rfl ?_ | refine r_y (y_add64 rfl rfl (by omega)) rfl ?_ | refine r_y (y_sub64 rfl rfl (by omega)) rfl ?_ | refine g_true rfl ?_ | refine g_false rfl ?_ | refine g_skip ?_ | refine g_block ?_ | refine e_block_normal ?_ | refine g_exit ?_ | refine e_block_exit ?_ | refine e_block_exit_ne rfl ?_ | refine e_then_exit ?_ | refine e_round_exit ?_))
  refine r_call rfl rfl (get32_none hO) ?_
  rintro r O1 w1 s1 ⟨rfl, rfl, rfl⟩
  (repeat (first | refine r_pure rfl rfl ?_ | refine g_seq ?_ | refine g_region ?_ | refine r_nil ?_ | refine e_then ?_ | refine r_go rfl rfl ?_ | refine r_pass rfl rfl rfl ?_ | refine r_passu rfl rfl rfl ?_ | refine r_y (y_fieldAddr rfl) rfl ?_ | refine r_y (y_fieldAddr' rfl) rfl ?_ | refine r_y (y_len rfl) rfl ?_ | refine r_y (y_lenStr rfl) rfl ?_ | refine r_y (y_ptr_nil rfl rfl) rfl ?_ | refine r_y (y_ptr_ne_nil rfl rfl) rfl ?_ | refine r_y (y_slice_nil rfl rfl) rfl ?_ | refine r_y (y_map_nil rfl rfl) rfl ?_ | refine r_y (y_add64 rfl rfl (by omega)) rfl ?_ | refine r_y (y_sub64 rfl rfl (by omega)) rfl ?_ | refine g_true rfl ?_ | refine g_false rfl ?_ | refine g_skip ?_ | refine g_block ?_ | refine e_block_normal ?_ | refine g_exit ?_ | refine e_block_exit ?_ | refine e_block_exit_ne rfl ?_ | refine e_then_exit ?_ | refine e_round_exit ?_))
  refine g_ret ?_; (repeat (first | refine e_then_ret ?_ | refine e_block_ret ?_ | refine e_round_ret ?_)); refine ret1 (.inl rfl) rfl rfl ?_
  exact ⟨_, _, rfl, Step.refl hO, rfl, rfl, rfl⟩
theorem ru64_ok (hO : OK O w) {e : Nat} (h : RdAt O w p bs e) : FnC Tryz.prog 30 [.pointer (some ⟨p, 0, none⟩)] O [p] w fun r O' w' =>
    O = O' ∧ r = .int .u64 (rdN bs e 8).1 ∧ RdAt O w' p (rdN bs e 8).2.1 (rdN bs e 8).2.2 := by
  refine fn_of _ Tryz.func30 rfl (by kernel_rfl) Tryz.ntmps30 rfl ?_
  (repeat (first | refine r_pure rfl rfl ?_ | refine g_seq ?_ | refine g_region ?_ | refine r_nil ?_ | refine e_then ?_ | refine r_go rfl rfl ?_ | refine r_pass rfl rfl rfl ?_ | refine r_passu rfl rfl rfl ?_ | refine r_y (y_fieldAddr rfl) rfl ?_ | refine r_y (y_fieldAddr' rfl) rfl ?_ | refine r_y (y_len rfl) rfl ?_ | refine r_y (y_lenStr rfl) rfl ?_ | refine r_y (y_ptr_nil rfl rfl) rfl ?_ | refine r_y (y_ptr_ne_nil rfl rfl) rfl ?_ | refine r_y (y_slice_nil rfl rfl) rfl ?_ | refine r_y (y_map_nil rfl rfl) rfl ?_ | refine r_y (y_add64 rfl rfl (by omega)) rfl ?_ | refine r_y (y_sub64 rfl rfl (by omega)) rfl ?_ | refine g_true rfl ?_ | refine g_false rfl ?_ | refine g_skip ?_ | refine g_block ?_ | refine e_block_normal ?_ | refine g_exit ?_ | refine e_block_exit ?_ | refine e_block_exit_ne rfl ?_ | refine e_then_exit ?_ | refine e_round_exit ?_))
  refine r_call rfl rfl (get64_ok hO h) ?_
  rintro r O1 w1 s1 ⟨rfl, rfl, hr⟩
  (repeat (first | refine r_pure rfl rfl ?_ | refine g_seq ?_ | refine g_region ?_ | refine r_nil ?_ | refine e_then ?_ | refine r_go rfl rfl ?_ | refine r_pass rfl rfl rfl ?_ | refine r_passu rfl rfl rfl ?_ | refine r_y (y_fieldAddr rfl) rfl ?_ | refine r_y (y_fieldAddr' rfl) rfl ?_ | refine r_y (y_len rfl) rfl ?_ | refine r_y (y_lenStr rfl) rfl ?_ | refine r_y (y_ptr_nil rfl rfl) rfl ?_ | refine r_y (y_ptr_ne_nil rfl rfl) rfl ?_ | refine r_y (y_slice_nil rfl rfl) rfl ?_ | refine r_y (y_map_nil rfl rfl) rfl ?_ | refine r_y (y_add64 rfl rfl (by omega)) rfl ?_ | refine r_y (y_sub64 rfl rfl (by omega)) rfl ?_ | refine g_true rfl ?_ | refine g_false rfl ?_ | refine g_skip ?_ | refine g_block ?_ | refine e_block_normal ?_ | refine g_exit ?_ | refine e_block_exit ?_ | refine e_block_exit_ne rfl ?_ | refine e_then_exit ?_ | refine e_round_exit ?_))
  refine g_ret ?_; (repeat (first | refine e_then_ret ?_ | refine e_block_ret ?_ | refine e_round_ret ?_)); refine ret1 (.inl rfl) rfl rfl ?_
  exact ⟨_, _, rfl, s1, rfl, rfl, hr⟩

theorem ru64_none (hO : OK O w) : FnC Tryz.prog 30 [.pointer none] O [] w fun r O' w' => r = .int .u64 0 ∧ O = O' ∧ w = w' := by
  refine fn_of _ Tryz.func30 rfl (by kernel_rfl) Tryz.ntmps30 rfl ?_
  (repeat (first | refine r_pure rfl rfl ?_ | refine g_seq ?_ | refine g_region ?_ | refine r_nil ?_ | refine e_then ?_ | refine r_go rfl rfl ?_ | refine r_pass rfl rfl rfl ?_ | refine r_passu rfl rfl rfl ?_ | refine r_y (y_fieldAddr rfl) rfl ?_ | refine r_y (y_fieldAddr' rfl) rfl ?_ | refine r_y (y_len rfl) rfl ?_ | refine r_y (y_lenStr rfl) rfl ?_ | refine r_y (y_ptr_nil rfl rfl) rfl ?_ | refine r_y (y_ptr_ne_nil rfl rfl) rfl ?_ | refine r_y (y_slice_nil rfl rfl) rfl ?_ | refine r_y (y_map_nil rfl rfl) rfl ?_ | refine r_y (y_add64 rfl rfl (by omega)) rfl ?_ | refine r_y (y_sub64 rfl rfl (by omega)) rfl ?_ | refine g_true rfl ?_ | refine g_false rfl ?_ | refine g_skip ?_ | refine g_block ?_ | refine e_block_normal ?_ | refine g_exit ?_ | refine e_block_exit ?_ | refine e_block_exit_ne rfl ?_ | refine e_then_exit ?_ | refine e_round_exit ?_))
  refine r_call rfl rfl (get64_none hO) ?_
  rintro r O1 w1 s1 ⟨rfl, rfl, rfl⟩
  (repeat (first | refine r_pure rfl rfl ?_ | refine g_seq ?_ | refine g_region ?_ | refine r_nil ?_ | refine e_then ?_ | refine r_go rfl rfl ?_ | refine r_pass rfl rfl rfl ?_ | refine r_passu rfl rfl rfl ?_ | refine r_y (y_fieldAddr rfl) rfl ?_ | refine r_y (y_fieldAddr' rfl) rfl ?_ | refine r_y (y_len rfl) rfl ?_ | refine r_y (y_lenStr rfl) rfl ?_ | refine r_y (y_ptr_nil rfl rfl) rfl ?_ | refine r_y (y_ptr_ne_nil rfl rfl) rfl ?_ | refine r_y (y_slice_nil rfl rfl) rfl ?_ | refine r_y (y_map_nil rfl rfl) rfl ?_ | refine r_y (y_add64 rfl rfl (by omega)) rfl ?_ | refine r_y (y_sub64 rfl rfl (by omega)) rfl ?_ | refine g_true rfl ?_ | refine g_false rfl ?_ | refine g_skip ?_ | refine g_block ?_ | refine e_block_normal ?_ | refine g_exit ?_ | refine e_block_exit ?_ | refine e_block_exit_ne rfl ?_ | refine e_then_exit ?_ | refine e_round_exit ?_))
  refine g_ret ?_; (repeat (first | refine e_then_ret ?_ | refine e_block_ret ?_ | refine e_round_ret ?_)); refine ret1 (.inl rfl) rfl rfl ?_
  exact ⟨_, _, rfl, Step.refl hO, rfl, rfl, rfl⟩
theorem takeR_err (bs : List UInt8) (e n : Nat) (h : e ≠ 0) : takeR bs e n = ([], bs, e) := by unfold takeR; simp [h]

/-- What a bool is read as. -/
def rdBool (bs : List UInt8) (e : Nat) : Bool × List UInt8 × Nat :=
  let r := rdN bs e 4
  if 1 < r.1 then (false, r.2.1, if r.2.2 = 0 then 11 else r.2.2) else (decide (r.1 = 1), r.2)

/-! ### bytes that were put as such -/

theorem nonzero_ok (hO : OK O w) {c : UInt8} : FnC Tryz.prog 87 [byteV c] O [] w fun r O' w' => r = .bool (decide (c ≠ 0)) ∧ O = O' ∧ w = w' := by
  refine fn_of _ Tryz.func87 rfl (by kernel_rfl) Tryz.ntmps87 rfl ?_
  (repeat (first | refine r_pure rfl rfl ?_ | refine g_seq ?_ | refine g_region ?_ | refine r_nil ?_ | refine e_then ?_ | refine r_go rfl rfl ?_ | refine r_pass rfl rfl rfl ?_ | refine r_passu rfl rfl rfl ?_ | refine r_y (y_fieldAddr rfl) rfl ?_ | refine r_y (y_fieldAddr' rfl) rfl ?_ | refine r_y (y_len rfl) rfl ?_ | refine r_y (y_lenStr rfl) rfl ?_ | refine r_y (y_ptr_nil rfl rfl) rfl ?_ | refine r_y (y_ptr_ne_nil rfl rfl) rfl ?_ | refine r_y (y_slice_nil rfl rfl) rfl ?_ | refine r_y (y_map_nil rfl rfl) rfl ?_ | refine r_y (y_add64 rfl rfl (by omega)) rfl ?_ | refine r_y (y_sub64 rfl rfl (by omega)) rfl ?_ | refine g_true rfl ?_ | refine g_false rfl ?_ | refine g_skip ?_ | refine g_block ?_ | refine e_block_normal ?_ | refine g_exit ?_ | refine e_block_exit ?_ | refine e_block_exit_ne rfl ?_ | refine e_then_exit ?_ | refine e_round_exit ?_))
  refine g_ret ?_; (repeat (first | refine e_then_ret ?_ | refine e_block_ret ?_ | refine e_round_ret ?_)); refine ret1 (.inl rfl) rfl rfl ?_
  refine ⟨_, _, rfl, Step.refl hO, ?_, rfl, rfl⟩
  congr 1
  rw [← decide_not, decide_eq_decide]
  constructor
  · intro h e; subst e; exact h rfl
  · intro h e; apply h; apply UInt8.toNat_inj.1; simpa using e

theorem index_ok (hO : OK O w) {Oi : List Nat} (hb : Bytes Oi w v bs) (hl : bs.length ≤ maxLen) : FnC Tryz.prog 91 [v, .func (.func 87) #[] #[]] O [] w fun r O' w' =>
    (∃ i : Int, r = .int .i64 i ∧ (0 ≤ i ↔ ∃ c, c ∈ bs ∧ c ≠ 0)) ∧ O = O' ∧ w = w' := by
  obtain ⟨a, cap, rfl, _⟩ := hb.form
  refine fn_of _ Tryz.func91 rfl (by kernel_rfl) Tryz.ntmps91 rfl ?_
  (repeat (first | refine r_pure rfl rfl ?_ | refine g_seq ?_ | refine g_region ?_ | refine r_nil ?_ | refine e_then ?_ | refine r_go rfl rfl ?_ | refine r_pass rfl rfl rfl ?_ | refine r_passu rfl rfl rfl ?_ | refine r_y (y_fieldAddr rfl) rfl ?_ | refine r_y (y_fieldAddr' rfl) rfl ?_ | refine r_y (y_len rfl) rfl ?_ | refine r_y (y_lenStr rfl) rfl ?_ | refine r_y (y_ptr_nil rfl rfl) rfl ?_ | refine r_y (y_ptr_ne_nil rfl rfl) rfl ?_ | refine r_y (y_slice_nil rfl rfl) rfl ?_ | refine r_y (y_map_nil rfl rfl) rfl ?_ | refine r_y (y_add64 rfl rfl (by omega)) rfl ?_ | refine r_y (y_sub64 rfl rfl (by omega)) rfl ?_ | refine g_true rfl ?_ | refine g_false rfl ?_ | refine g_skip ?_ | refine g_block ?_ | refine e_block_normal ?_ | refine g_exit ?_ | refine e_block_exit ?_ | refine e_block_exit_ne rfl ?_ | refine e_then_exit ?_ | refine e_round_exit ?_))
  refine g_loop (X := Nat) (fun i => [(0, .slice a bs.length cap), (1, .func (.func 87) #[] #[]), (7, .int .i64 bs.length), (8, .int .i64 i)])
    (fun i wr => wr = w ∧ i ≤ bs.length ∧ ∀ j (hj : j < bs.length), j < i → bs[j] = 0) (fun i => bs.length - i) 0 (sub_cons rfl rfl (sub_cons rfl rfl (sub_cons rfl rfl (sub_cons rfl rfl (sub_nil))))) ⟨rfl, by omega, fun j hj h => by omega⟩ ?_
  rintro i wr ⟨rfl, hi, hz⟩
  (repeat (first | refine r_pure rfl rfl ?_ | refine g_seq ?_ | refine g_region ?_ | refine r_nil ?_ | refine e_then ?_ | refine r_go rfl rfl ?_ | refine r_pass rfl rfl rfl ?_ | refine r_passu rfl rfl rfl ?_ | refine r_y (y_fieldAddr rfl) rfl ?_ | refine r_y (y_fieldAddr' rfl) rfl ?_ | refine r_y (y_len rfl) rfl ?_ | refine r_y (y_lenStr rfl) rfl ?_ | refine r_y (y_ptr_nil rfl rfl) rfl ?_ | refine r_y (y_ptr_ne_nil rfl rfl) rfl ?_ | refine r_y (y_slice_nil rfl rfl) rfl ?_ | refine r_y (y_map_nil rfl rfl) rfl ?_ | refine r_y (y_add64 rfl rfl (by omega)) rfl ?_ | refine r_y (y_sub64 rfl rfl (by omega)) rfl ?_ | refine g_true rfl ?_ | refine g_false rfl ?_ | refine g_skip ?_ | refine g_block ?_ | refine e_block_normal ?_ | refine g_exit ?_ | refine e_block_exit ?_ | refine e_block_exit_ne rfl ?_ | refine e_then_exit ?_ | refine e_round_exit ?_))
  refine g_dec rfl (fun g => ?_) (fun g => ?_)
  · have hi' : i < bs.length := by omega
    obtain ⟨x, rfl, hcx⟩ := hb.at (List.getElem?_eq_getElem hi')
    (repeat (first | refine r_pure rfl rfl ?_ | refine g_seq ?_ | refine g_region ?_ | refine r_nil ?_ | refine e_then ?_ | refine r_go rfl rfl ?_ | refine r_pass rfl rfl rfl ?_ | refine r_passu rfl rfl rfl ?_ | refine r_y (y_fieldAddr rfl) rfl ?_ | refine r_y (y_fieldAddr' rfl) rfl ?_ | refine r_y (y_len rfl) rfl ?_ | refine r_y (y_lenStr rfl) rfl ?_ | refine r_y (y_ptr_nil rfl rfl) rfl ?_ | refine r_y (y_ptr_ne_nil rfl rfl) rfl ?_ | refine r_y (y_slice_nil rfl rfl) rfl ?_ | refine r_y (y_map_nil rfl rfl) rfl ?_ | refine r_y (y_add64 rfl rfl (by omega)) rfl ?_ | refine r_y (y_sub64 rfl rfl (by omega)) rfl ?_ | refine g_true rfl ?_ | refine g_false rfl ?_ | refine g_skip ?_ | refine g_block ?_ | refine e_block_normal ?_ | refine g_exit ?_ | refine e_block_exit ?_ | refine e_block_exit_ne rfl ?_ | refine e_then_exit ?_ | refine e_round_exit ?_))
    refine r_y (y_indexAddr rfl rfl (by omega)) rfl ?_
    refine r_y (y_load rfl (cell_at hcx)) rfl ?_
    refine r_callv rfl rfl rfl (nonzero_ok hO (c := bs[i])) ?_
    rintro r O1 w1 s1 ⟨rfl, rfl, rfl⟩
    (repeat (first | refine r_pure rfl rfl ?_ | refine g_seq ?_ | refine g_region ?_ | refine r_nil ?_ | refine e_then ?_ | refine r_go rfl rfl ?_ | refine r_pass rfl rfl rfl ?_ | refine r_passu rfl rfl rfl ?_ | refine r_y (y_fieldAddr rfl) rfl ?_ | refine r_y (y_fieldAddr' rfl) rfl ?_ | refine r_y (y_len rfl) rfl ?_ | refine r_y (y_lenStr rfl) rfl ?_ | refine r_y (y_ptr_nil rfl rfl) rfl ?_ | refine r_y (y_ptr_ne_nil rfl rfl) rfl ?_ | refine r_y (y_slice_nil rfl rfl) rfl ?_ | refine r_y (y_map_nil rfl rfl) rfl ?_ | refine r_y (y_add64 rfl rfl (by omega)) rfl ?_ | refine r_y (y_sub64 rfl rfl (by omega)) rfl ?_ | refine g_true rfl ?_ | refine g_false rfl ?_ | refine g_skip ?_ | refine g_block ?_ | refine e_block_normal ?_ | refine g_exit ?_ | refine e_block_exit ?_ | refine e_block_exit_ne rfl ?_ | refine e_then_exit ?_ | refine e_round_exit ?_))
    refine g_dec rfl (fun g2 => ?_) (fun g2 => ?_)
    · (repeat (first | refine r_pure rfl rfl ?_ | refine g_seq ?_ | refine g_region ?_ | refine r_nil ?_ | refine e_then ?_ | refine r_go rfl rfl ?_ | refine r_pass rfl rfl rfl ?_ | refine r_passu rfl rfl rfl ?_ | refine r_y (y_fieldAddr rfl) rfl ?_ | refine r_y (y_fieldAddr' rfl) rfl ?_ | refine r_y (y_len rfl) rfl ?_ | refine r_y (y_lenStr rfl) rfl ?_ | refine r_y (y_ptr_nil rfl rfl) rfl ?_ | refine r_y (y_ptr_ne_nil rfl rfl) rfl ?_ | refine r_y (y_slice_nil rfl rfl) rfl ?_ | refine r_y (y_map_nil rfl rfl) rfl ?_ | refine r_y (y_add64 rfl rfl (by omega)) rfl ?_ | refine r_y (y_sub64 rfl rfl (by omega)) rfl ?_ | refine g_true rfl ?_ | refine g_false rfl ?_ | refine g_skip ?_ | refine g_block ?_ | refine e_block_normal ?_ | refine g_exit ?_ | refine e_block_exit ?_ | refine e_block_exit_ne rfl ?_ | refine e_then_exit ?_ | refine e_round_exit ?_))
      refine g_ret ?_; (repeat (first | refine e_then_ret ?_ | refine e_block_ret ?_ | refine e_round_ret ?_)); refine ret1 (.inl rfl) rfl rfl ?_
      exact ⟨_, _, rfl, Step.refl hO, ⟨_, rfl, ⟨fun _ => ⟨_, List.getElem_mem hi', g2⟩, fun _ => by omega⟩⟩, rfl, rfl⟩
    · (repeat (first | refine r_pure rfl rfl ?_ | refine g_seq ?_ | refine g_region ?_ | refine r_nil ?_ | refine e_then ?_ | refine r_go rfl rfl ?_ | refine r_pass rfl rfl rfl ?_ | refine r_passu rfl rfl rfl ?_ | refine r_y (y_fieldAddr rfl) rfl ?_ | refine r_y (y_fieldAddr' rfl) rfl ?_ | refine r_y (y_len rfl) rfl ?_ | refine r_y (y_lenStr rfl) rfl ?_ | refine r_y (y_ptr_nil rfl rfl) rfl ?_ | refine r_y (y_ptr_ne_nil rfl rfl) rfl ?_ | refine r_y (y_slice_nil rfl rfl) rfl ?_ | refine r_y (y_map_nil rfl rfl) rfl ?_ | refine r_y (y_add64 rfl rfl (by omega)) rfl ?_ | refine r_y (y_sub64 rfl rfl (by omega)) rfl ?_ | refine g_true rfl ?_ | refine g_false rfl ?_ | refine g_skip ?_ | refine g_block ?_ | refine e_block_normal ?_ | refine g_exit ?_ | refine e_block_exit ?_ | refine e_block_exit_ne rfl ?_ | refine e_then_exit ?_ | refine e_round_exit ?_))
      simp only [maxLen] at hl
      (repeat (first | refine r_pure rfl rfl ?_ | refine g_seq ?_ | refine g_region ?_ | refine r_nil ?_ | refine e_then ?_ | refine r_go rfl rfl ?_ | refine r_pass rfl rfl rfl ?_ | refine r_passu rfl rfl rfl ?_ | refine r_y (y_fieldAddr rfl) rfl ?_ | refine r_y (y_fieldAddr' rfl) rfl ?_ | refine r_y (y_len rfl) rfl ?_ | refine r_y (y_lenStr rfl) rfl ?_ | refine r_y (y_ptr_nil rfl rfl) rfl ?_ | refine r_y (y_ptr_ne_nil rfl rfl) rfl ?_ | refine r_y (y_slice_nil rfl rfl) rfl ?_ | refine r_y (y_map_nil rfl rfl) rfl ?_ | refine r_y (y_add64 rfl rfl (by omega)) rfl ?_ | refine r_y (y_sub64 rfl rfl (by omega)) rfl ?_ | refine g_true rfl ?_ | refine g_false rfl ?_ | refine g_skip ?_ | refine g_block ?_ | refine e_block_normal ?_ | refine g_exit ?_ | refine e_block_exit ?_ | refine e_block_exit_ne rfl ?_ | refine e_then_exit ?_ | refine e_round_exit ?_))
      refine e_round (i + 1) (sub_cons rfl rfl (sub_cons rfl rfl (sub_cons rfl rfl (sub_cons rfl rfl (sub_nil))))) ⟨rfl, by omega, fun j hj h => ?_⟩ (by omega)
      by_cases e : j = i
      · subst e; simpa using g2
      · exact hz j hj (by omega)
  · (repeat (first | refine r_pure rfl rfl ?_ | refine g_seq ?_ | refine g_region ?_ | refine r_nil ?_ | refine e_then ?_ | refine r_go rfl rfl ?_ | refine r_pass rfl rfl rfl ?_ | refine r_passu rfl rfl rfl ?_ | refine r_y (y_fieldAddr rfl) rfl ?_ | refine r_y (y_fieldAddr' rfl) rfl ?_ | refine r_y (y_len rfl) rfl ?_ | refine r_y (y_lenStr rfl) rfl ?_ | refine r_y (y_ptr_nil rfl rfl) rfl ?_ | refine r_y (y_ptr_ne_nil rfl rfl) rfl ?_ | refine r_y (y_slice_nil rfl rfl) rfl ?_ | refine r_y (y_map_nil rfl rfl) rfl ?_ | refine r_y (y_add64 rfl rfl (by omega)) rfl ?_ | refine r_y (y_sub64 rfl rfl (by omega)) rfl ?_ | refine g_true rfl ?_ | refine g_false rfl ?_ | refine g_skip ?_ | refine g_block ?_ | refine e_block_normal ?_ | refine g_exit ?_ | refine e_block_exit ?_ | refine e_block_exit_ne rfl ?_ | refine e_then_exit ?_ | refine e_round_exit ?_))
    refine g_ret ?_; (repeat (first | refine e_then_ret ?_ | refine e_block_ret ?_ | refine e_round_ret ?_)); refine ret1 (.inl rfl) rfl rfl ?_
    refine ⟨_, _, rfl, Step.refl hO, ⟨_, rfl, ⟨fun h => absurd h (by decide), fun ⟨c, hc, hn⟩ => ?_⟩⟩, rfl, rfl⟩
    obtain ⟨j, hj, rfl⟩ := List.getElem_of_mem hc
    exact absurd (hz j hj (by omega)) hn

theorem contains_ok (hO : OK O w) {Oi : List Nat} (hb : Bytes Oi w v bs) (hl : bs.length ≤ maxLen) : FnC Tryz.prog 86 [v, .func (.func 87) #[] #[]] O [] w fun r O' w' =>
    r = .bool (decide (∃ c, c ∈ bs ∧ c ≠ 0)) ∧ O = O' ∧ w = w' := by
  refine fn_of _ Tryz.func86 rfl (by kernel_rfl) Tryz.ntmps86 rfl ?_
  (repeat (first | refine r_pure rfl rfl ?_ | refine g_seq ?_ | refine g_region ?_ | refine r_nil ?_ | refine e_then ?_ | refine r_go rfl rfl ?_ | refine r_pass rfl rfl rfl ?_ | refine r_passu rfl rfl rfl ?_ | refine r_y (y_fieldAddr rfl) rfl ?_ | refine r_y (y_fieldAddr' rfl) rfl ?_ | refine r_y (y_len rfl) rfl ?_ | refine r_y (y_lenStr rfl) rfl ?_ | refine r_y (y_ptr_nil rfl rfl) rfl ?_ | refine r_y (y_ptr_ne_nil rfl rfl) rfl ?_ | refine r_y (y_slice_nil rfl rfl) rfl ?_ | refine r_y (y_map_nil rfl rfl) rfl ?_ | refine r_y (y_add64 rfl rfl (by omega)) rfl ?_ | refine r_y (y_sub64 rfl rfl (by omega)) rfl ?_ | refine g_true rfl ?_ | refine g_false rfl ?_ | refine g_skip ?_ | refine g_block ?_ | refine e_block_normal ?_ | refine g_exit ?_ | refine e_block_exit ?_ | refine e_block_exit_ne rfl ?_ | refine e_then_exit ?_ | refine e_round_exit ?_))
  refine r_call rfl rfl (index_ok hO hb hl) ?_
  rintro r O1 w1 s1 ⟨⟨i, rfl, hi⟩, rfl, rfl⟩
  (repeat (first | refine r_pure rfl rfl ?_ | refine g_seq ?_ | refine g_region ?_ | refine r_nil ?_ | refine e_then ?_ | refine r_go rfl rfl ?_ | refine r_pass rfl rfl rfl ?_ | refine r_passu rfl rfl rfl ?_ | refine r_y (y_fieldAddr rfl) rfl ?_ | refine r_y (y_fieldAddr' rfl) rfl ?_ | refine r_y (y_len rfl) rfl ?_ | refine r_y (y_lenStr rfl) rfl ?_ | refine r_y (y_ptr_nil rfl rfl) rfl ?_ | refine r_y (y_ptr_ne_nil rfl rfl) rfl ?_ | refine r_y (y_slice_nil rfl rfl) rfl ?_ | refine r_y (y_map_nil rfl rfl) rfl ?_ | refine r_y (y_add64 rfl rfl (by omega)) rfl ?_ | refine r_y (y_sub64 rfl rfl (by omega)) rfl ?_ | refine g_true rfl ?_ | refine g_false rfl ?_ | refine g_skip ?_ | refine g_block ?_ | refine e_block_normal ?_ | refine g_exit ?_ | refine e_block_exit ?_ | refine e_block_exit_ne rfl ?_ | refine e_then_exit ?_ | refine e_round_exit ?_))
  refine g_ret ?_; (repeat (first | refine e_then_ret ?_ | refine e_block_ret ?_ | refine e_round_ret ?_)); refine ret1 (.inl rfl) rfl rfl ?_
  refine ⟨_, _, rfl, Step.refl hO, ?_, rfl, rfl⟩
  congr 1
  rw [decide_eq_decide]
  exact hi

theorem takeR_length (bs : List UInt8) (e n : Nat) : (takeR bs e n).1.length ≤ n := by
  unfold takeR; split
  · split <;> simp; omega
  · simp

theorem takeR_ok (bs : List UInt8) (e n : Nat) (h : (takeR bs e n).2.2 = 0) : e = 0 ∧ n ≤ bs.length ∧ takeR bs e n = (bs.take n, bs.drop n, 0) := by
  unfold takeR at h ⊢
  by_cases he : e = 0
  · simp only [he, if_true] at h ⊢
    by_cases hl : bs.length < n
    · simp [hl] at h
    · rw [if_neg hl]; exact ⟨trivial, by omega, rfl⟩
  · simp [he] at h

theorem rdN_lt (bs : List UInt8) (e n : Nat) : (rdN bs e n).1 < 256 ^ n :=
  Nat.lt_of_lt_of_le (numB_lt _) (Nat.pow_le_pow_right (by decide) (takeR_length bs e n))

/-- What bytes are read as. -/
def rdOpaque (bs : List UInt8) (e : Nat) (most : Int) : List UInt8 × List UInt8 × Nat :=
  let n := rdN bs e 4
  if n.2.2 ≠ 0 then ([], n.2)
  else if most < 0 ∨ most < n.1 then ([], n.2.1, 13)
  else
    let t := takeR n.2.1 0 (n.1 + fillN n.1)
    if t.2.2 ≠ 0 then ([], t.2)
    else if ∃ c, c ∈ t.1.drop n.1 ∧ c ≠ 0 then ([], t.2.1, 11)
    else (t.1.take n.1, t.2)

theorem ropaque_ok (hO : OK O w) {e : Nat} (h : RdAt O w p bs e) {most : Int} (hm : most ≤ 9223372036854775807) : FnC Tryz.prog 80 [.pointer (some ⟨p, 0, none⟩), .int .i64 most] O [p] w fun r O' w' =>
    O = O' ∧ Buf (fun q => w.heap.size ≤ q) w' 1 r (rdOpaque bs e most).1.length (bytesV (rdOpaque bs e most).1) ∧ RdAt O w' p (rdOpaque bs e most).2.1 (rdOpaque bs e most).2.2 := by
  have hlt := rdN_lt bs e 4
  unfold rdOpaque
  refine fn_of _ Tryz.func80 rfl (by kernel_rfl) Tryz.ntmps80 rfl ?_
  (repeat (first | refine r_pure rfl rfl ?_ | refine g_seq ?_ | refine g_region ?_ | refine r_nil ?_ | refine e_then ?_ | refine r_go rfl rfl ?_ | refine r_pass rfl rfl rfl ?_ | refine r_passu rfl rfl rfl ?_ | refine r_y (y_fieldAddr rfl) rfl ?_ | refine r_y (y_fieldAddr' rfl) rfl ?_ | refine r_y (y_len rfl) rfl ?_ | refine r_y (y_lenStr rfl) rfl ?_ | refine r_y (y_ptr_nil rfl rfl) rfl ?_ | refine r_y (y_ptr_ne_nil rfl rfl) rfl ?_ | refine r_y (y_slice_nil rfl rfl) rfl ?_ | refine r_y (y_map_nil rfl rfl) rfl ?_ | refine r_y (y_add64 rfl rfl (by omega)) rfl ?_ | refine r_y (y_sub64 rfl rfl (by omega)) rfl ?_ | refine g_true rfl ?_ | refine g_false rfl ?_ | refine g_skip ?_ | refine g_block ?_ | refine e_block_normal ?_ | refine g_exit ?_ | refine e_block_exit ?_ | refine e_block_exit_ne rfl ?_ | refine e_then_exit ?_ | refine e_round_exit ?_))
  refine r_call rfl rfl (ru32_ok hO h) ?_
  rintro r O1 w1 s1 ⟨rfl, rfl, hr⟩
  generalize hn : rdN bs e 4 = n at hr hlt ⊢
  obtain ⟨n, cs, e1⟩ := n
  dsimp only at hr hlt ⊢
  have hn32 : n < 4294967296 := hlt
  (repeat (first | refine r_pure rfl rfl ?_ | refine g_seq ?_ | refine g_region ?_ | refine r_nil ?_ | refine e_then ?_ | refine r_go rfl rfl ?_ | refine r_pass rfl rfl rfl ?_ | refine r_passu rfl rfl rfl ?_ | refine r_y (y_fieldAddr rfl) rfl ?_ | refine r_y (y_fieldAddr' rfl) rfl ?_ | refine r_y (y_len rfl) rfl ?_ | refine r_y (y_lenStr rfl) rfl ?_ | refine r_y (y_ptr_nil rfl rfl) rfl ?_ | refine r_y (y_ptr_ne_nil rfl rfl) rfl ?_ | refine r_y (y_slice_nil rfl rfl) rfl ?_ | refine r_y (y_map_nil rfl rfl) rfl ?_ | refine r_y (y_add64 rfl rfl (by omega)) rfl ?_ | refine r_y (y_sub64 rfl rfl (by omega)) rfl ?_ | refine g_true rfl ?_ | refine g_false rfl ?_ | refine g_skip ?_ | refine g_block ?_ | refine e_block_normal ?_ | refine g_exit ?_ | refine e_block_exit ?_ | refine e_block_exit_ne rfl ?_ | refine e_then_exit ?_ | refine e_round_exit ?_))
  refine r_call rfl rfl (err_ok s1.ok hr) ?_
  rintro r O2 w2 s2 ⟨rfl, rfl, rfl⟩
  (repeat (first | refine r_pure rfl rfl ?_ | refine g_seq ?_ | refine g_region ?_ | refine r_nil ?_ | refine e_then ?_ | refine r_go rfl rfl ?_ | refine r_pass rfl rfl rfl ?_ | refine r_passu rfl rfl rfl ?_ | refine r_y (y_fieldAddr rfl) rfl ?_ | refine r_y (y_fieldAddr' rfl) rfl ?_ | refine r_y (y_len rfl) rfl ?_ | refine r_y (y_lenStr rfl) rfl ?_ | refine r_y (y_ptr_nil rfl rfl) rfl ?_ | refine r_y (y_ptr_ne_nil rfl rfl) rfl ?_ | refine r_y (y_slice_nil rfl rfl) rfl ?_ | refine r_y (y_map_nil rfl rfl) rfl ?_ | refine r_y (y_add64 rfl rfl (by omega)) rfl ?_ | refine r_y (y_sub64 rfl rfl (by omega)) rfl ?_ | refine g_true rfl ?_ | refine g_false rfl ?_ | refine g_skip ?_ | refine g_block ?_ | refine e_block_normal ?_ | refine g_exit ?_ | refine e_block_exit ?_ | refine e_block_exit_ne rfl ?_ | refine e_then_exit ?_ | refine e_round_exit ?_))
  refine g_ndec rfl (fun g => ?_) (fun g => ?_)
  · have g' : e1 ≠ 0 := by simpa using g
    (repeat (first | refine r_pure rfl rfl ?_ | refine g_seq ?_ | refine g_region ?_ | refine r_nil ?_ | refine e_then ?_ | refine r_go rfl rfl ?_ | refine r_pass rfl rfl rfl ?_ | refine r_passu rfl rfl rfl ?_ | refine r_y (y_fieldAddr rfl) rfl ?_ | refine r_y (y_fieldAddr' rfl) rfl ?_ | refine r_y (y_len rfl) rfl ?_ | refine r_y (y_lenStr rfl) rfl ?_ | refine r_y (y_ptr_nil rfl rfl) rfl ?_ | refine r_y (y_ptr_ne_nil rfl rfl) rfl ?_ | refine r_y (y_slice_nil rfl rfl) rfl ?_ | refine r_y (y_map_nil rfl rfl) rfl ?_ | refine r_y (y_add64 rfl rfl (by omega)) rfl ?_ | refine r_y (y_sub64 rfl rfl (by omega)) rfl ?_ | refine g_true rfl ?_ | refine g_false rfl ?_ | refine g_skip ?_ | refine g_block ?_ | refine e_block_normal ?_ | refine g_exit ?_ | refine e_block_exit ?_ | refine e_block_exit_ne rfl ?_ | refine e_then_exit ?_ | refine e_round_exit ?_))
    refine g_ret ?_; (repeat (first | refine e_then_ret ?_ | refine e_block_ret ?_ | refine e_round_ret ?_)); refine ret1 (.inl rfl) rfl rfl ?_
    rw [if_pos g']
    exact ⟨_, _, rfl, s1, rfl, Buf.nil, hr⟩
  have g' : e1 = 0 := by simpa using g
  subst g'
  rw [if_neg (by simp)]
  (repeat (first | refine r_pure rfl rfl ?_ | refine g_seq ?_ | refine g_region ?_ | refine r_nil ?_ | refine e_then ?_ | refine r_go rfl rfl ?_ | refine r_pass rfl rfl rfl ?_ | refine r_passu rfl rfl rfl ?_ | refine r_y (y_fieldAddr rfl) rfl ?_ | refine r_y (y_fieldAddr' rfl) rfl ?_ | refine r_y (y_len rfl) rfl ?_ | refine r_y (y_lenStr rfl) rfl ?_ | refine r_y (y_ptr_nil rfl rfl) rfl ?_ | refine r_y (y_ptr_ne_nil rfl rfl) rfl ?_ | refine r_y (y_slice_nil rfl rfl) rfl ?_ | refine r_y (y_map_nil rfl rfl) rfl ?_ | refine r_y (y_add64 rfl rfl (by omega)) rfl ?_ | refine r_y (y_sub64 rfl rfl (by omega)) rfl ?_ | refine g_true rfl ?_ | refine g_false rfl ?_ | refine g_skip ?_ | refine g_block ?_ | refine e_block_normal ?_ | refine g_exit ?_ | refine e_block_exit ?_ | refine e_block_exit_ne rfl ?_ | refine e_then_exit ?_ | refine e_round_exit ?_))
  refine r_partd rfl rfl (fun g2 => ?_) (fun g2 => ?_)
  · (repeat (first | refine r_pure rfl rfl ?_ | refine g_seq ?_ | refine g_region ?_ | refine r_nil ?_ | refine e_then ?_ | refine r_go rfl rfl ?_ | refine r_pass rfl rfl rfl ?_ | refine r_passu rfl rfl rfl ?_ | refine r_y (y_fieldAddr rfl) rfl ?_ | refine r_y (y_fieldAddr' rfl) rfl ?_ | refine r_y (y_len rfl) rfl ?_ | refine r_y (y_lenStr rfl) rfl ?_ | refine r_y (y_ptr_nil rfl rfl) rfl ?_ | refine r_y (y_ptr_ne_nil rfl rfl) rfl ?_ | refine r_y (y_slice_nil rfl rfl) rfl ?_ | refine r_y (y_map_nil rfl rfl) rfl ?_ | refine r_y (y_add64 rfl rfl (by omega)) rfl ?_ | refine r_y (y_sub64 rfl rfl (by omega)) rfl ?_ | refine g_true rfl ?_ | refine g_false rfl ?_ | refine g_skip ?_ | refine g_block ?_ | refine e_block_normal ?_ | refine g_exit ?_ | refine e_block_exit ?_ | refine e_block_exit_ne rfl ?_ | refine e_then_exit ?_ | refine e_round_exit ?_))
    refine r_call rfl rfl (fail_ok s1.ok hr (f := 13)) ?_
    rintro r O1 w3 s3 ⟨rfl, rfl, hr3⟩
    (repeat (first | refine r_pure rfl rfl ?_ | refine g_seq ?_ | refine g_region ?_ | refine r_nil ?_ | refine e_then ?_ | refine r_go rfl rfl ?_ | refine r_pass rfl rfl rfl ?_ | refine r_passu rfl rfl rfl ?_ | refine r_y (y_fieldAddr rfl) rfl ?_ | refine r_y (y_fieldAddr' rfl) rfl ?_ | refine r_y (y_len rfl) rfl ?_ | refine r_y (y_lenStr rfl) rfl ?_ | refine r_y (y_ptr_nil rfl rfl) rfl ?_ | refine r_y (y_ptr_ne_nil rfl rfl) rfl ?_ | refine r_y (y_slice_nil rfl rfl) rfl ?_ | refine r_y (y_map_nil rfl rfl) rfl ?_ | refine r_y (y_add64 rfl rfl (by omega)) rfl ?_ | refine r_y (y_sub64 rfl rfl (by omega)) rfl ?_ | refine g_true rfl ?_ | refine g_false rfl ?_ | refine g_skip ?_ | refine g_block ?_ | refine e_block_normal ?_ | refine g_exit ?_ | refine e_block_exit ?_ | refine e_block_exit_ne rfl ?_ | refine e_then_exit ?_ | refine e_round_exit ?_))
    refine g_ret ?_; (repeat (first | refine e_then_ret ?_ | refine e_block_ret ?_ | refine e_round_ret ?_)); refine ret1 (.inl rfl) rfl rfl ?_
    rw [if_pos (.inl g2)]
    exact ⟨_, _, rfl, s1.trans s3 (fun b hb => .inl hb), rfl, Buf.nil, hr3⟩
  obtain ⟨mo, rfl⟩ : ∃ k : Nat, most = k := ⟨most.toNat, by omega⟩
  (repeat (first | refine r_pure rfl rfl ?_ | refine g_seq ?_ | refine g_region ?_ | refine r_nil ?_ | refine e_then ?_ | refine r_go rfl rfl ?_ | refine r_pass rfl rfl rfl ?_ | refine r_passu rfl rfl rfl ?_ | refine r_y (y_fieldAddr rfl) rfl ?_ | refine r_y (y_fieldAddr' rfl) rfl ?_ | refine r_y (y_len rfl) rfl ?_ | refine r_y (y_lenStr rfl) rfl ?_ | refine r_y (y_ptr_nil rfl rfl) rfl ?_ | refine r_y (y_ptr_ne_nil rfl rfl) rfl ?_ | refine r_y (y_slice_nil rfl rfl) rfl ?_ | refine r_y (y_map_nil rfl rfl) rfl ?_ | refine r_y (y_add64 rfl rfl (by omega)) rfl ?_ | refine r_y (y_sub64 rfl rfl (by omega)) rfl ?_ | refine g_true rfl ?_ | refine g_false rfl ?_ | refine g_skip ?_ | refine g_block ?_ | refine e_block_normal ?_ | refine g_exit ?_ | refine e_block_exit ?_ | refine e_block_exit_ne rfl ?_ | refine e_then_exit ?_ | refine e_round_exit ?_))
  refine r_y (y_convN (k := .u64) rfl (by simp only [lim]; omega)) rfl ?_
  (repeat (first | refine r_pure rfl rfl ?_ | refine g_seq ?_ | refine g_region ?_ | refine r_nil ?_ | refine e_then ?_ | refine r_go rfl rfl ?_ | refine r_pass rfl rfl rfl ?_ | refine r_passu rfl rfl rfl ?_ | refine r_y (y_fieldAddr rfl) rfl ?_ | refine r_y (y_fieldAddr' rfl) rfl ?_ | refine r_y (y_len rfl) rfl ?_ | refine r_y (y_lenStr rfl) rfl ?_ | refine r_y (y_ptr_nil rfl rfl) rfl ?_ | refine r_y (y_ptr_ne_nil rfl rfl) rfl ?_ | refine r_y (y_slice_nil rfl rfl) rfl ?_ | refine r_y (y_map_nil rfl rfl) rfl ?_ | refine r_y (y_add64 rfl rfl (by omega)) rfl ?_ | refine r_y (y_sub64 rfl rfl (by omega)) rfl ?_ | refine g_true rfl ?_ | refine g_false rfl ?_ | refine g_skip ?_ | refine g_block ?_ | refine e_block_normal ?_ | refine g_exit ?_ | refine e_block_exit ?_ | refine e_block_exit_ne rfl ?_ | refine e_then_exit ?_ | refine e_round_exit ?_))
  refine r_y (y_convN (k := .u64) rfl (by simp only [lim]; omega)) rfl ?_
  (repeat (first | refine r_pure rfl rfl ?_ | refine g_seq ?_ | refine g_region ?_ | refine r_nil ?_ | refine e_then ?_ | refine r_go rfl rfl ?_ | refine r_pass rfl rfl rfl ?_ | refine r_passu rfl rfl rfl ?_ | refine r_y (y_fieldAddr rfl) rfl ?_ | refine r_y (y_fieldAddr' rfl) rfl ?_ | refine r_y (y_len rfl) rfl ?_ | refine r_y (y_lenStr rfl) rfl ?_ | refine r_y (y_ptr_nil rfl rfl) rfl ?_ | refine r_y (y_ptr_ne_nil rfl rfl) rfl ?_ | refine r_y (y_slice_nil rfl rfl) rfl ?_ | refine r_y (y_map_nil rfl rfl) rfl ?_ | refine r_y (y_add64 rfl rfl (by omega)) rfl ?_ | refine r_y (y_sub64 rfl rfl (by omega)) rfl ?_ | refine g_true rfl ?_ | refine g_false rfl ?_ | refine g_skip ?_ | refine g_block ?_ | refine e_block_normal ?_ | refine g_exit ?_ | refine e_block_exit ?_ | refine e_block_exit_ne rfl ?_ | refine e_then_exit ?_ | refine e_round_exit ?_))
  refine g_dec rfl (fun g3 => ?_) (fun g3 => ?_)
  · (repeat (first | refine r_pure rfl rfl ?_ | refine g_seq ?_ | refine g_region ?_ | refine r_nil ?_ | refine e_then ?_ | refine r_go rfl rfl ?_ | refine r_pass rfl rfl rfl ?_ | refine r_passu rfl rfl rfl ?_ | refine r_y (y_fieldAddr rfl) rfl ?_ | refine r_y (y_fieldAddr' rfl) rfl ?_ | refine r_y (y_len rfl) rfl ?_ | refine r_y (y_lenStr rfl) rfl ?_ | refine r_y (y_ptr_nil rfl rfl) rfl ?_ | refine r_y (y_ptr_ne_nil rfl rfl) rfl ?_ | refine r_y (y_slice_nil rfl rfl) rfl ?_ | refine r_y (y_map_nil rfl rfl) rfl ?_ | refine r_y (y_add64 rfl rfl (by omega)) rfl ?_ | refine r_y (y_sub64 rfl rfl (by omega)) rfl ?_ | refine g_true rfl ?_ | refine g_false rfl ?_ | refine g_skip ?_ | refine g_block ?_ | refine e_block_normal ?_ | refine g_exit ?_ | refine e_block_exit ?_ | refine e_block_exit_ne rfl ?_ | refine e_then_exit ?_ | refine e_round_exit ?_))
    refine r_call rfl rfl (fail_ok s1.ok hr (f := 13)) ?_
    rintro r O1 w3 s3 ⟨rfl, rfl, hr3⟩
    (repeat (first | refine r_pure rfl rfl ?_ | refine g_seq ?_ | refine g_region ?_ | refine r_nil ?_ | refine e_then ?_ | refine r_go rfl rfl ?_ | refine r_pass rfl rfl rfl ?_ | refine r_passu rfl rfl rfl ?_ | refine r_y (y_fieldAddr rfl) rfl ?_ | refine r_y (y_fieldAddr' rfl) rfl ?_ | refine r_y (y_len rfl) rfl ?_ | refine r_y (y_lenStr rfl) rfl ?_ | refine r_y (y_ptr_nil rfl rfl) rfl ?_ | refine r_y (y_ptr_ne_nil rfl rfl) rfl ?_ | refine r_y (y_slice_nil rfl rfl) rfl ?_ | refine r_y (y_map_nil rfl rfl) rfl ?_ | refine r_y (y_add64 rfl rfl (by omega)) rfl ?_ | refine r_y (y_sub64 rfl rfl (by omega)) rfl ?_ | refine g_true rfl ?_ | refine g_false rfl ?_ | refine g_skip ?_ | refine g_block ?_ | refine e_block_normal ?_ | refine g_exit ?_ | refine e_block_exit ?_ | refine e_block_exit_ne rfl ?_ | refine e_then_exit ?_ | refine e_round_exit ?_))
    refine g_ret ?_; (repeat (first | refine e_then_ret ?_ | refine e_block_ret ?_ | refine e_round_ret ?_)); refine ret1 (.inl rfl) rfl rfl ?_
    rw [if_pos (.inr (by omega))]
    exact ⟨_, _, rfl, s1.trans s3 (fun b hb => .inl hb), rfl, Buf.nil, hr3⟩
  rw [if_neg (by omega)]
  (repeat (first | refine r_pure rfl rfl ?_ | refine g_seq ?_ | refine g_region ?_ | refine r_nil ?_ | refine e_then ?_ | refine r_go rfl rfl ?_ | refine r_pass rfl rfl rfl ?_ | refine r_passu rfl rfl rfl ?_ | refine r_y (y_fieldAddr rfl) rfl ?_ | refine r_y (y_fieldAddr' rfl) rfl ?_ | refine r_y (y_len rfl) rfl ?_ | refine r_y (y_lenStr rfl) rfl ?_ | refine r_y (y_ptr_nil rfl rfl) rfl ?_ | refine r_y (y_ptr_ne_nil rfl rfl) rfl ?_ | refine r_y (y_slice_nil rfl rfl) rfl ?_ | refine r_y (y_map_nil rfl rfl) rfl ?_ | refine r_y (y_add64 rfl rfl (by omega)) rfl ?_ | refine r_y (y_sub64 rfl rfl (by omega)) rfl ?_ | refine g_true rfl ?_ | refine g_false rfl ?_ | refine g_skip ?_ | refine g_block ?_ | refine e_block_normal ?_ | refine g_exit ?_ | refine e_block_exit ?_ | refine e_block_exit_ne rfl ?_ | refine e_then_exit ?_ | refine e_round_exit ?_))
  refine r_y (y_convN (k := .i64) rfl (by simp only [lim]; omega)) rfl ?_
  (repeat (first | refine r_pure rfl rfl ?_ | refine g_seq ?_ | refine g_region ?_ | refine r_nil ?_ | refine e_then ?_ | refine r_go rfl rfl ?_ | refine r_pass rfl rfl rfl ?_ | refine r_passu rfl rfl rfl ?_ | refine r_y (y_fieldAddr rfl) rfl ?_ | refine r_y (y_fieldAddr' rfl) rfl ?_ | refine r_y (y_len rfl) rfl ?_ | refine r_y (y_lenStr rfl) rfl ?_ | refine r_y (y_ptr_nil rfl rfl) rfl ?_ | refine r_y (y_ptr_ne_nil rfl rfl) rfl ?_ | refine r_y (y_slice_nil rfl rfl) rfl ?_ | refine r_y (y_map_nil rfl rfl) rfl ?_ | refine r_y (y_add64 rfl rfl (by omega)) rfl ?_ | refine r_y (y_sub64 rfl rfl (by omega)) rfl ?_ | refine g_true rfl ?_ | refine g_false rfl ?_ | refine g_skip ?_ | refine g_block ?_ | refine e_block_normal ?_ | refine g_exit ?_ | refine e_block_exit ?_ | refine e_block_exit_ne rfl ?_ | refine e_then_exit ?_ | refine e_round_exit ?_))
  refine r_call rfl rfl (fill_ok s1.ok (by omega)) ?_
  rintro r O3 w3 s3 ⟨rfl, rfl, rfl⟩
  have hf : fillN n < 4 := Nat.mod_lt _ (by decide)
  refine r_y (y_addN (k := .i64) rfl rfl (by simp only [lim]; omega)) rfl ?_
  refine r_call rfl rfl (take_ok s1.ok hr (by omega)) ?_
  rintro r O4 w4 s4 ⟨rfl, hb4, hr4⟩
  have htk := takeR_ok cs 0 (n + fillN n)
  have htl := takeR_length cs 0 (n + fillN n)
  generalize takeR cs 0 (n + fillN n) = t at hb4 hr4 htk htl ⊢
  obtain ⟨t1, t2, t3⟩ := t
  dsimp only at hb4 hr4 htk htl ⊢
  obtain ⟨ta, tc, rfl, htc⟩ := hb4.form
  have hr4' := hr4
  obtain ⟨k1, x, k2, k3⟩ := hr4'
  have s04 := s1.trans s4 (fun b hb => .inl hb)
  (repeat (first | refine r_pure rfl rfl ?_ | refine g_seq ?_ | refine g_region ?_ | refine r_nil ?_ | refine e_then ?_ | refine r_go rfl rfl ?_ | refine r_pass rfl rfl rfl ?_ | refine r_passu rfl rfl rfl ?_ | refine r_y (y_fieldAddr rfl) rfl ?_ | refine r_y (y_fieldAddr' rfl) rfl ?_ | refine r_y (y_len rfl) rfl ?_ | refine r_y (y_lenStr rfl) rfl ?_ | refine r_y (y_ptr_nil rfl rfl) rfl ?_ | refine r_y (y_ptr_ne_nil rfl rfl) rfl ?_ | refine r_y (y_slice_nil rfl rfl) rfl ?_ | refine r_y (y_map_nil rfl rfl) rfl ?_ | refine r_y (y_add64 rfl rfl (by omega)) rfl ?_ | refine r_y (y_sub64 rfl rfl (by omega)) rfl ?_ | refine g_true rfl ?_ | refine g_false rfl ?_ | refine g_skip ?_ | refine g_block ?_ | refine e_block_normal ?_ | refine g_exit ?_ | refine e_block_exit ?_ | refine e_block_exit_ne rfl ?_ | refine e_then_exit ?_ | refine e_round_exit ?_))
  refine r_y (y_load rfl (k2.cell? rfl)) rfl ?_
  (repeat (first | refine r_pure rfl rfl ?_ | refine g_seq ?_ | refine g_region ?_ | refine r_nil ?_ | refine e_then ?_ | refine r_go rfl rfl ?_ | refine r_pass rfl rfl rfl ?_ | refine r_passu rfl rfl rfl ?_ | refine r_y (y_fieldAddr rfl) rfl ?_ | refine r_y (y_fieldAddr' rfl) rfl ?_ | refine r_y (y_len rfl) rfl ?_ | refine r_y (y_lenStr rfl) rfl ?_ | refine r_y (y_ptr_nil rfl rfl) rfl ?_ | refine r_y (y_ptr_ne_nil rfl rfl) rfl ?_ | refine r_y (y_slice_nil rfl rfl) rfl ?_ | refine r_y (y_map_nil rfl rfl) rfl ?_ | refine r_y (y_add64 rfl rfl (by omega)) rfl ?_ | refine r_y (y_sub64 rfl rfl (by omega)) rfl ?_ | refine g_true rfl ?_ | refine g_false rfl ?_ | refine g_skip ?_ | refine g_block ?_ | refine e_block_normal ?_ | refine g_exit ?_ | refine e_block_exit ?_ | refine e_block_exit_ne rfl ?_ | refine e_then_exit ?_ | refine e_round_exit ?_))
  refine g_ndec rfl (fun g4 => ?_) (fun g4 => ?_)
  · have g' : t3 ≠ 0 := by simpa using g4
    (repeat (first | refine r_pure rfl rfl ?_ | refine g_seq ?_ | refine g_region ?_ | refine r_nil ?_ | refine e_then ?_ | refine r_go rfl rfl ?_ | refine r_pass rfl rfl rfl ?_ | refine r_passu rfl rfl rfl ?_ | refine r_y (y_fieldAddr rfl) rfl ?_ | refine r_y (y_fieldAddr' rfl) rfl ?_ | refine r_y (y_len rfl) rfl ?_ | refine r_y (y_lenStr rfl) rfl ?_ | refine r_y (y_ptr_nil rfl rfl) rfl ?_ | refine r_y (y_ptr_ne_nil rfl rfl) rfl ?_ | refine r_y (y_slice_nil rfl rfl) rfl ?_ | refine r_y (y_map_nil rfl rfl) rfl ?_ | refine r_y (y_add64 rfl rfl (by omega)) rfl ?_ | refine r_y (y_sub64 rfl rfl (by omega)) rfl ?_ | refine g_true rfl ?_ | refine g_false rfl ?_ | refine g_skip ?_ | refine g_block ?_ | refine e_block_normal ?_ | refine g_exit ?_ | refine e_block_exit ?_ | refine e_block_exit_ne rfl ?_ | refine e_then_exit ?_ | refine e_round_exit ?_))
    refine g_ret ?_; (repeat (first | refine e_then_ret ?_ | refine e_block_ret ?_ | refine e_round_ret ?_)); refine ret1 (.inl rfl) rfl rfl ?_
    rw [if_pos g']
    exact ⟨_, _, rfl, s04, rfl, Buf.nil, hr4⟩
  have g' : t3 = 0 := by simpa using g4
  subst g'
  rw [if_neg (by simp)]
  obtain ⟨_, hle, ht⟩ := htk rfl
  injection ht with ht1 ht
  have hl1 : t1.length = n + fillN n := by rw [ht1]; simp; omega
  (repeat (first | refine r_pure rfl rfl ?_ | refine g_seq ?_ | refine g_region ?_ | refine r_nil ?_ | refine e_then ?_ | refine r_go rfl rfl ?_ | refine r_pass rfl rfl rfl ?_ | refine r_passu rfl rfl rfl ?_ | refine r_y (y_fieldAddr rfl) rfl ?_ | refine r_y (y_fieldAddr' rfl) rfl ?_ | refine r_y (y_len rfl) rfl ?_ | refine r_y (y_lenStr rfl) rfl ?_ | refine r_y (y_ptr_nil rfl rfl) rfl ?_ | refine r_y (y_ptr_ne_nil rfl rfl) rfl ?_ | refine r_y (y_slice_nil rfl rfl) rfl ?_ | refine r_y (y_map_nil rfl rfl) rfl ?_ | refine r_y (y_add64 rfl rfl (by omega)) rfl ?_ | refine r_y (y_sub64 rfl rfl (by omega)) rfl ?_ | refine g_true rfl ?_ | refine g_false rfl ?_ | refine g_skip ?_ | refine g_block ?_ | refine e_block_normal ?_ | refine g_exit ?_ | refine e_block_exit ?_ | refine e_block_exit_ne rfl ?_ | refine e_then_exit ?_ | refine e_round_exit ?_))
  refine r_y (y_slice rfl rfl rfl rfl (by simp) (by omega)) rfl ?_
  have hb5 : Bytes O w4 (cutV ta 1 n t1.length tc) (t1.drop n) := by
    have := hb4.cut (l := n) (h := t1.length) (k := tc) (by omega) (by omega) htc (by omega)
    rwa [List.take_of_length_le (by simp)] at this
  refine r_call rfl rfl (contains_ok s4.ok (v := cutV ta 1 n t1.length tc) hb5 (by simp [maxLen]; omega)) ?_
  rintro r O5 w5 s5 ⟨rfl, rfl, rfl⟩
  (repeat (first | refine r_pure rfl rfl ?_ | refine g_seq ?_ | refine g_region ?_ | refine r_nil ?_ | refine e_then ?_ | refine r_go rfl rfl ?_ | refine r_pass rfl rfl rfl ?_ | refine r_passu rfl rfl rfl ?_ | refine r_y (y_fieldAddr rfl) rfl ?_ | refine r_y (y_fieldAddr' rfl) rfl ?_ | refine r_y (y_len rfl) rfl ?_ | refine r_y (y_lenStr rfl) rfl ?_ | refine r_y (y_ptr_nil rfl rfl) rfl ?_ | refine r_y (y_ptr_ne_nil rfl rfl) rfl ?_ | refine r_y (y_slice_nil rfl rfl) rfl ?_ | refine r_y (y_map_nil rfl rfl) rfl ?_ | refine r_y (y_add64 rfl rfl (by omega)) rfl ?_ | refine r_y (y_sub64 rfl rfl (by omega)) rfl ?_ | refine g_true rfl ?_ | refine g_false rfl ?_ | refine g_skip ?_ | refine g_block ?_ | refine e_block_normal ?_ | refine g_exit ?_ | refine e_block_exit ?_ | refine e_block_exit_ne rfl ?_ | refine e_then_exit ?_ | refine e_round_exit ?_))
  refine g_dec rfl (fun g5 => ?_) (fun g5 => ?_)
  · (repeat (first | refine r_pure rfl rfl ?_ | refine g_seq ?_ | refine g_region ?_ | refine r_nil ?_ | refine e_then ?_ | refine r_go rfl rfl ?_ | refine r_pass rfl rfl rfl ?_ | refine r_passu rfl rfl rfl ?_ | refine r_y (y_fieldAddr rfl) rfl ?_ | refine r_y (y_fieldAddr' rfl) rfl ?_ | refine r_y (y_len rfl) rfl ?_ | refine r_y (y_lenStr rfl) rfl ?_ | refine r_y (y_ptr_nil rfl rfl) rfl ?_ | refine r_y (y_ptr_ne_nil rfl rfl) rfl ?_ | refine r_y (y_slice_nil rfl rfl) rfl ?_ | refine r_y (y_map_nil rfl rfl) rfl ?_ | refine r_y (y_add64 rfl rfl (by omega)) rfl ?_ | refine r_y (y_sub64 rfl rfl (by omega)) rfl ?_ | refine g_true rfl ?_ | refine g_false rfl ?_ | refine g_skip ?_ | refine g_block ?_ | refine e_block_normal ?_ | refine g_exit ?_ | refine e_block_exit ?_ | refine e_block_exit_ne rfl ?_ | refine e_then_exit ?_ | refine e_round_exit ?_))
    refine r_call rfl rfl (fail_ok s4.ok hr4 (f := 11)) ?_
    rintro r O1 w6 s6 ⟨rfl, rfl, hr6⟩
    (repeat (first | refine r_pure rfl rfl ?_ | refine g_seq ?_ | refine g_region ?_ | refine r_nil ?_ | refine e_then ?_ | refine r_go rfl rfl ?_ | refine r_pass rfl rfl rfl ?_ | refine r_passu rfl rfl rfl ?_ | refine r_y (y_fieldAddr rfl) rfl ?_ | refine r_y (y_fieldAddr' rfl) rfl ?_ | refine r_y (y_len rfl) rfl ?_ | refine r_y (y_lenStr rfl) rfl ?_ | refine r_y (y_ptr_nil rfl rfl) rfl ?_ | refine r_y (y_ptr_ne_nil rfl rfl) rfl ?_ | refine r_y (y_slice_nil rfl rfl) rfl ?_ | refine r_y (y_map_nil rfl rfl) rfl ?_ | refine r_y (y_add64 rfl rfl (by omega)) rfl ?_ | refine r_y (y_sub64 rfl rfl (by omega)) rfl ?_ | refine g_true rfl ?_ | refine g_false rfl ?_ | refine g_skip ?_ | refine g_block ?_ | refine e_block_normal ?_ | refine g_exit ?_ | refine e_block_exit ?_ | refine e_block_exit_ne rfl ?_ | refine e_then_exit ?_ | refine e_round_exit ?_))
    refine g_ret ?_; (repeat (first | refine e_then_ret ?_ | refine e_block_ret ?_ | refine e_round_ret ?_)); refine ret1 (.inl rfl) rfl rfl ?_
    rw [if_pos g5]
    exact ⟨_, _, rfl, s04.trans s6 (fun b hb => .inl hb), rfl, Buf.nil, hr6⟩
  rw [if_neg g5]
  (repeat (first | refine r_pure rfl rfl ?_ | refine g_seq ?_ | refine g_region ?_ | refine r_nil ?_ | refine e_then ?_ | refine r_go rfl rfl ?_ | refine r_pass rfl rfl rfl ?_ | refine r_passu rfl rfl rfl ?_ | refine r_y (y_fieldAddr rfl) rfl ?_ | refine r_y (y_fieldAddr' rfl) rfl ?_ | refine r_y (y_len rfl) rfl ?_ | refine r_y (y_lenStr rfl) rfl ?_ | refine r_y (y_ptr_nil rfl rfl) rfl ?_ | refine r_y (y_ptr_ne_nil rfl rfl) rfl ?_ | refine r_y (y_slice_nil rfl rfl) rfl ?_ | refine r_y (y_map_nil rfl rfl) rfl ?_ | refine r_y (y_add64 rfl rfl (by omega)) rfl ?_ | refine r_y (y_sub64 rfl rfl (by omega)) rfl ?_ | refine g_true rfl ?_ | refine g_false rfl ?_ | refine g_skip ?_ | refine g_block ?_ | refine e_block_normal ?_ | refine g_exit ?_ | refine e_block_exit ?_ | refine e_block_exit_ne rfl ?_ | refine e_then_exit ?_ | refine e_round_exit ?_))
  refine r_y (y_slice rfl rfl rfl rfl (by simp) (by omega)) rfl ?_
  have hb6 : Bytes O w4 (cutV ta 1 0 n tc) (t1.take n) := by
    have := hb4.cut (l := 0) (h := n) (k := tc) (by omega) (by omega) (by omega) (by omega)
    simpa using this
  refine r_call rfl rfl (sclone_ok s4.ok (v := cutV ta 1 0 n tc) hb6 (by simp; omega)) ?_
  rintro r O7 w7 s7 ⟨rfl, hb7⟩
  (repeat (first | refine r_pure rfl rfl ?_ | refine g_seq ?_ | refine g_region ?_ | refine r_nil ?_ | refine e_then ?_ | refine r_go rfl rfl ?_ | refine r_pass rfl rfl rfl ?_ | refine r_passu rfl rfl rfl ?_ | refine r_y (y_fieldAddr rfl) rfl ?_ | refine r_y (y_fieldAddr' rfl) rfl ?_ | refine r_y (y_len rfl) rfl ?_ | refine r_y (y_lenStr rfl) rfl ?_ | refine r_y (y_ptr_nil rfl rfl) rfl ?_ | refine r_y (y_ptr_ne_nil rfl rfl) rfl ?_ | refine r_y (y_slice_nil rfl rfl) rfl ?_ | refine r_y (y_map_nil rfl rfl) rfl ?_ | refine r_y (y_add64 rfl rfl (by omega)) rfl ?_ | refine r_y (y_sub64 rfl rfl (by omega)) rfl ?_ | refine g_true rfl ?_ | refine g_false rfl ?_ | refine g_skip ?_ | refine g_block ?_ | refine e_block_normal ?_ | refine g_exit ?_ | refine e_block_exit ?_ | refine e_block_exit_ne rfl ?_ | refine e_then_exit ?_ | refine e_round_exit ?_))
  refine g_ret ?_; (repeat (first | refine e_then_ret ?_ | refine e_block_ret ?_ | refine e_round_ret ?_)); refine ret1 (.inl rfl) rfl rfl ?_
  have hz := s04.size
  exact ⟨_, _, rfl, s04.trans0 s7, rfl, hb7.mono (fun q hq => by omega), hr4.step s7 (by simp)⟩

theorem ropaque_none (hO : OK O w) {most : Int} : FnC Tryz.prog 80 [.pointer none, .int .i64 most] O [] w fun r O' w' => r = .slice none 0 0 ∧ O = O' ∧ w = w' := by
  refine fn_of _ Tryz.func80 rfl (by kernel_rfl) Tryz.ntmps80 rfl ?_
  (repeat (first | refine r_pure rfl rfl ?_ | refine g_seq ?_ | refine g_region ?_ | refine r_nil ?_ | refine e_then ?_ | refine r_go rfl rfl ?_ | refine r_pass rfl rfl rfl ?_ | refine r_passu rfl rfl rfl ?_ | refine r_y (y_fieldAddr rfl) rfl ?_ | refine r_y (y_fieldAddr' rfl) rfl ?_ | refine r_y (y_len rfl) rfl ?_ | refine r_y (y_lenStr rfl) rfl ?_ | refine r_y (y_ptr_nil rfl rfl) rfl ?_ | refine r_y (y_ptr_ne_nil rfl rfl) rfl ?_ | refine r_y (y_slice_nil rfl rfl) rfl ?_ | refine r_y (y_map_nil rfl rfl) rfl ?_ | refine r_y (y_add64 rfl rfl (by omega)) rfl ?_ | refine r_y (y_sub64 rfl rfl (by omega)) rfl ?_ | refine g_true rfl ?_ | refine g_false rfl ?_ | refine g_skip ?_ | refine g_block ?_ | refine e_block_normal ?_ | refine g_exit ?_ | refine e_block_exit ?_ | refine e_block_exit_ne rfl ?_ | refine e_then_exit ?_ | refine e_round_exit ?_))
  refine r_call rfl rfl (ru32_none hO) ?_
  rintro r O1 w1 s1 ⟨rfl, rfl, rfl⟩
  (repeat (first | refine r_pure rfl rfl ?_ | refine g_seq ?_ | refine g_region ?_ | refine r_nil ?_ | refine e_then ?_ | refine r_go rfl rfl ?_ | refine r_pass rfl rfl rfl ?_ | refine r_passu rfl rfl rfl ?_ | refine r_y (y_fieldAddr rfl) rfl ?_ | refine r_y (y_fieldAddr' rfl) rfl ?_ | refine r_y (y_len rfl) rfl ?_ | refine r_y (y_lenStr rfl) rfl ?_ | refine r_y (y_ptr_nil rfl rfl) rfl ?_ | refine r_y (y_ptr_ne_nil rfl rfl) rfl ?_ | refine r_y (y_slice_nil rfl rfl) rfl ?_ | refine r_y (y_map_nil rfl rfl) rfl ?_ | refine r_y (y_add64 rfl rfl (by omega)) rfl ?_ | refine r_y (y_sub64 rfl rfl (by omega)) rfl ?_ | refine g_true rfl ?_ | refine g_false rfl ?_ | refine g_skip ?_ | refine g_block ?_ | refine e_block_normal ?_ | refine g_exit ?_ | refine e_block_exit ?_ | refine e_block_exit_ne rfl ?_ | refine e_then_exit ?_ | refine e_round_exit ?_))
  refine r_call rfl rfl (err_none hO) ?_
  rintro r O1 w1 s1 ⟨rfl, rfl, rfl⟩
  (repeat (first | refine r_pure rfl rfl ?_ | refine g_seq ?_ | refine g_region ?_ | refine r_nil ?_ | refine e_then ?_ | refine r_go rfl rfl ?_ | refine r_pass rfl rfl rfl ?_ | refine r_passu rfl rfl rfl ?_ | refine r_y (y_fieldAddr rfl) rfl ?_ | refine r_y (y_fieldAddr' rfl) rfl ?_ | refine r_y (y_len rfl) rfl ?_ | refine r_y (y_lenStr rfl) rfl ?_ | refine r_y (y_ptr_nil rfl rfl) rfl ?_ | refine r_y (y_ptr_ne_nil rfl rfl) rfl ?_ | refine r_y (y_slice_nil rfl rfl) rfl ?_ | refine r_y (y_map_nil rfl rfl) rfl ?_ | refine r_y (y_add64 rfl rfl (by omega)) rfl ?_ | refine r_y (y_sub64 rfl rfl (by omega)) rfl ?_ | refine g_true rfl ?_ | refine g_false rfl ?_ | refine g_skip ?_ | refine g_block ?_ | refine e_block_normal ?_ | refine g_exit ?_ | refine e_block_exit ?_ | refine e_block_exit_ne rfl ?_ | refine e_then_exit ?_ | refine e_round_exit ?_))
  refine g_ret ?_; (repeat (first | refine e_then_ret ?_ | refine e_block_ret ?_ | refine e_round_ret ?_)); refine ret1 (.inl rfl) rfl rfl ?_
  exact ⟨_, _, rfl, Step.refl hO, rfl, rfl, rfl⟩

end

end Go.Proofs.YtcfpnghkkkphhaaGreat
