/- The example of layer 1, and some of its laws, answer true. -/
import Derived.Test.YtejkpngghbcbbaaXdrp
import Derived.Test.YtejkpngghbcbbaaGkRead
namespace Go.Proofs.Ytejkpngghbcbbaa
open Gk Go
set_option linter.unusedVariables false
attribute [local irreducible] Gk.E Gk.G Gk.R Gk.RD Gk.Y Gk.Ent Gk.Sat Gk.Round Gk.After Gk.Cell Gk.Sl Gk.SlA Gk.CB Gk.OK Gk.FnC Gk.FBytes Gk.Bytes Gk.BytesL Gk.StrL Gk.Buf Gk.MapI

section
variable {w : World} {O : List Nat}

set_option maxHeartbeats 4000000 in
theorem awake01_ok (hO : OK O w) : FnC Try.prog 17 [] O [] w fun r O' w' => O = O' ∧ r = .bool true := by
  refine fn_of _ Try.func17 rfl (by kernel_rfl) Try.ntmps17 rfl ?_
  (repeat (first | refine r_pure rfl rfl ?_ | refine g_seq ?_ | refine g_region ?_ | refine r_nil ?_ | refine e_then ?_ | refine r_go rfl rfl ?_ | refine r_pass rfl rfl rfl ?_ | refine r_passu rfl rfl rfl ?_ | refine r_y (y_fieldAddr rfl) rfl ?_ | refine r_y (y_fieldAddr' rfl) rfl ?_ | refine r_y (y_len rfl) rfl ?_ | refine r_y (y_lenStr rfl) rfl ?_ | refine r_y (y_ptr_nil rfl rfl) rfl ?_ | refine r_y (y_ptr_ne_nil rfl rfl) rfl ?_ | refine r_y (y_slice_nil rfl rfl) rfl ?_ | refine r_y (y_map_nil rfl rfl) rfl ?_ | refine r_y (y_add64 rfl rfl (by omega)) rfl ?_ | refine r_y (y_sub64 rfl rfl (by omega)) rfl ?_ | refine g_true rfl ?_ | refine g_false rfl ?_ | refine g_skip ?_ | refine g_block ?_ | refine e_block_normal ?_ | refine g_exit ?_ | refine e_block_exit ?_ | refine e_block_exit_ne rfl ?_ | refine e_then_exit ?_ | refine e_round_exit ?_))
  refine r_call rfl rfl (newWriter_ok hO) ?_
  rintro r O1 w1 s1 ⟨p, rfl, rfl, hp, hW⟩
  have f := wr_new hp hW
  have z1 := s1.size
  (repeat (first | refine r_pure rfl rfl ?_ | refine g_seq ?_ | refine g_region ?_ | refine r_nil ?_ | refine e_then ?_ | refine r_go rfl rfl ?_ | refine r_pass rfl rfl rfl ?_ | refine r_passu rfl rfl rfl ?_ | refine r_y (y_fieldAddr rfl) rfl ?_ | refine r_y (y_fieldAddr' rfl) rfl ?_ | refine r_y (y_len rfl) rfl ?_ | refine r_y (y_lenStr rfl) rfl ?_ | refine r_y (y_ptr_nil rfl rfl) rfl ?_ | refine r_y (y_ptr_ne_nil rfl rfl) rfl ?_ | refine r_y (y_slice_nil rfl rfl) rfl ?_ | refine r_y (y_map_nil rfl rfl) rfl ?_ | refine r_y (y_add64 rfl rfl (by omega)) rfl ?_ | refine r_y (y_sub64 rfl rfl (by omega)) rfl ?_ | refine g_true rfl ?_ | refine g_false rfl ?_ | refine g_skip ?_ | refine g_block ?_ | refine e_block_normal ?_ | refine g_exit ?_ | refine e_block_exit ?_ | refine e_block_exit_ne rfl ?_ | refine e_then_exit ?_ | refine e_round_exit ?_))
  refine r_lit (cs := bytesV [97, 98]) s1.ok rfl rfl rfl rfl rfl (fun q2 w2 hq2 s2 z2 b2 => ?_)
  have hb2 := b2.bytes (xs := [97, 98]) (cap := 2) (fresh_nin s1.ok (by omega)) (by simp)
  have s02 := s1.trans0 s2
  refine r_call rfl rfl (wopaque_ok s2.ok (hW.keep s2) hb2 (by decide) (by decide)) ?_
  rintro r O3 w3 s3 k3
  obtain ⟨rfl, s03, v3, hW, f⟩ := wr_next s02 (Nat.le_refl _) (by omega) f s3 k3
  have z3 := s03.size
  (repeat (first | refine r_pure rfl rfl ?_ | refine g_seq ?_ | refine g_region ?_ | refine r_nil ?_ | refine e_then ?_ | refine r_go rfl rfl ?_ | refine r_pass rfl rfl rfl ?_ | refine r_passu rfl rfl rfl ?_ | refine r_y (y_fieldAddr rfl) rfl ?_ | refine r_y (y_fieldAddr' rfl) rfl ?_ | refine r_y (y_len rfl) rfl ?_ | refine r_y (y_lenStr rfl) rfl ?_ | refine r_y (y_ptr_nil rfl rfl) rfl ?_ | refine r_y (y_ptr_ne_nil rfl rfl) rfl ?_ | refine r_y (y_slice_nil rfl rfl) rfl ?_ | refine r_y (y_map_nil rfl rfl) rfl ?_ | refine r_y (y_add64 rfl rfl (by omega)) rfl ?_ | refine r_y (y_sub64 rfl rfl (by omega)) rfl ?_ | refine g_true rfl ?_ | refine g_false rfl ?_ | refine g_skip ?_ | refine g_block ?_ | refine e_block_normal ?_ | refine g_exit ?_ | refine e_block_exit ?_ | refine e_block_exit_ne rfl ?_ | refine e_then_exit ?_ | refine e_round_exit ?_))
  refine r_call rfl rfl (u32_ok s3.ok hW (x := 7) (by decide) (by decide)) ?_
  rintro r O4 w4 s4 k4
  obtain ⟨rfl, s04, v4, hW, f⟩ := wr_next s03 (Nat.le_refl _) (by omega) f s4 k4
  have z4 := s04.size
  (repeat (first | refine r_pure rfl rfl ?_ | refine g_seq ?_ | refine g_region ?_ | refine r_nil ?_ | refine e_then ?_ | refine r_go rfl rfl ?_ | refine r_pass rfl rfl rfl ?_ | refine r_passu rfl rfl rfl ?_ | refine r_y (y_fieldAddr rfl) rfl ?_ | refine r_y (y_fieldAddr' rfl) rfl ?_ | refine r_y (y_len rfl) rfl ?_ | refine r_y (y_lenStr rfl) rfl ?_ | refine r_y (y_ptr_nil rfl rfl) rfl ?_ | refine r_y (y_ptr_ne_nil rfl rfl) rfl ?_ | refine r_y (y_slice_nil rfl rfl) rfl ?_ | refine r_y (y_map_nil rfl rfl) rfl ?_ | refine r_y (y_add64 rfl rfl (by omega)) rfl ?_ | refine r_y (y_sub64 rfl rfl (by omega)) rfl ?_ | refine g_true rfl ?_ | refine g_false rfl ?_ | refine g_skip ?_ | refine g_block ?_ | refine e_block_normal ?_ | refine g_exit ?_ | refine e_block_exit ?_ | refine e_block_exit_ne rfl ?_ | refine e_then_exit ?_ | refine e_round_exit ?_))
  refine r_call rfl rfl (wbool_ok s4.ok hW (by decide)) ?_
  rintro r O5 w5 s5 k5
  obtain ⟨rfl, s05, v5, hW, f⟩ := wr_next s04 (Nat.le_refl _) (by omega) f s5 k5
  (repeat (first | refine r_pure rfl rfl ?_ | refine g_seq ?_ | refine g_region ?_ | refine r_nil ?_ | refine e_then ?_ | refine r_go rfl rfl ?_ | refine r_pass rfl rfl rfl ?_ | refine r_passu rfl rfl rfl ?_ | refine r_y (y_fieldAddr rfl) rfl ?_ | refine r_y (y_fieldAddr' rfl) rfl ?_ | refine r_y (y_len rfl) rfl ?_ | refine r_y (y_lenStr rfl) rfl ?_ | refine r_y (y_ptr_nil rfl rfl) rfl ?_ | refine r_y (y_ptr_ne_nil rfl rfl) rfl ?_ | refine r_y (y_slice_nil rfl rfl) rfl ?_ | refine r_y (y_map_nil rfl rfl) rfl ?_ | refine r_y (y_add64 rfl rfl (by omega)) rfl ?_ | refine r_y (y_sub64 rfl rfl (by omega)) rfl ?_ | refine g_true rfl ?_ | refine g_false rfl ?_ | refine g_skip ?_ | refine g_block ?_ | refine e_block_normal ?_ | refine g_exit ?_ | refine e_block_exit ?_ | refine e_block_exit_ne rfl ?_ | refine e_then_exit ?_ | refine e_round_exit ?_))
  refine r_call rfl rfl (out_ok s5.ok hW (by decide)) ?_
  rintro b O6 w6 s6 ⟨rfl, hb6⟩
  have hb : Bytes O5 w6 b _ := Sl.bytes (hb6.sl (fun q hq => fresh_nin s5.ok hq))
  have s06 := s05.trans0 s6
  (repeat (first | refine r_pure rfl rfl ?_ | refine g_seq ?_ | refine g_region ?_ | refine r_nil ?_ | refine e_then ?_ | refine r_go rfl rfl ?_ | refine r_pass rfl rfl rfl ?_ | refine r_passu rfl rfl rfl ?_ | refine r_y (y_fieldAddr rfl) rfl ?_ | refine r_y (y_fieldAddr' rfl) rfl ?_ | refine r_y (y_len rfl) rfl ?_ | refine r_y (y_lenStr rfl) rfl ?_ | refine r_y (y_ptr_nil rfl rfl) rfl ?_ | refine r_y (y_ptr_ne_nil rfl rfl) rfl ?_ | refine r_y (y_slice_nil rfl rfl) rfl ?_ | refine r_y (y_map_nil rfl rfl) rfl ?_ | refine r_y (y_add64 rfl rfl (by omega)) rfl ?_ | refine r_y (y_sub64 rfl rfl (by omega)) rfl ?_ | refine g_true rfl ?_ | refine g_false rfl ?_ | refine g_skip ?_ | refine g_block ?_ | refine e_block_normal ?_ | refine g_exit ?_ | refine e_block_exit ?_ | refine e_block_exit_ne rfl ?_ | refine e_then_exit ?_ | refine e_round_exit ?_))
  refine r_call rfl rfl (newReader_ok s6.ok hb (by decide)) ?_
  rintro r O7 w7 s7 ⟨q, rfl, rfl, hq, hR⟩
  have s07 := s06.trans0 s7
  have hb := hb.step s7
  have z7 := s06.size
  (repeat (first | refine r_pure rfl rfl ?_ | refine g_seq ?_ | refine g_region ?_ | refine r_nil ?_ | refine e_then ?_ | refine r_go rfl rfl ?_ | refine r_pass rfl rfl rfl ?_ | refine r_passu rfl rfl rfl ?_ | refine r_y (y_fieldAddr rfl) rfl ?_ | refine r_y (y_fieldAddr' rfl) rfl ?_ | refine r_y (y_len rfl) rfl ?_ | refine r_y (y_lenStr rfl) rfl ?_ | refine r_y (y_ptr_nil rfl rfl) rfl ?_ | refine r_y (y_ptr_ne_nil rfl rfl) rfl ?_ | refine r_y (y_slice_nil rfl rfl) rfl ?_ | refine r_y (y_map_nil rfl rfl) rfl ?_ | refine r_y (y_add64 rfl rfl (by omega)) rfl ?_ | refine r_y (y_sub64 rfl rfl (by omega)) rfl ?_ | refine g_true rfl ?_ | refine g_false rfl ?_ | refine g_skip ?_ | refine g_block ?_ | refine e_block_normal ?_ | refine g_exit ?_ | refine e_block_exit ?_ | refine e_block_exit_ne rfl ?_ | refine e_then_exit ?_ | refine e_round_exit ?_))
  refine r_call rfl rfl (ropaque_ok s7.ok hR (most := 2) (by decide)) ?_
  rintro c O8 w8 s8 ⟨rfl, hc8, hR⟩
  have s08 := s07.trans s8 (fun b hb => .inr (by simp at hb; omega))
  have hb := hb.step s8
  have hc : Bytes (q :: O5) w8 c _ := Sl.bytes (hc8.sl (fun q hq => fresh_nin s7.ok hq))
  (repeat (first | refine r_pure rfl rfl ?_ | refine g_seq ?_ | refine g_region ?_ | refine r_nil ?_ | refine e_then ?_ | refine r_go rfl rfl ?_ | refine r_pass rfl rfl rfl ?_ | refine r_passu rfl rfl rfl ?_ | refine r_y (y_fieldAddr rfl) rfl ?_ | refine r_y (y_fieldAddr' rfl) rfl ?_ | refine r_y (y_len rfl) rfl ?_ | refine r_y (y_lenStr rfl) rfl ?_ | refine r_y (y_ptr_nil rfl rfl) rfl ?_ | refine r_y (y_ptr_ne_nil rfl rfl) rfl ?_ | refine r_y (y_slice_nil rfl rfl) rfl ?_ | refine r_y (y_map_nil rfl rfl) rfl ?_ | refine r_y (y_add64 rfl rfl (by omega)) rfl ?_ | refine r_y (y_sub64 rfl rfl (by omega)) rfl ?_ | refine g_true rfl ?_ | refine g_false rfl ?_ | refine g_skip ?_ | refine g_block ?_ | refine e_block_normal ?_ | refine g_exit ?_ | refine e_block_exit ?_ | refine e_block_exit_ne rfl ?_ | refine e_then_exit ?_ | refine e_round_exit ?_))
  refine r_call rfl rfl (ru32_ok s8.ok hR) ?_
  rintro r O9 w9 s9 ⟨rfl, rfl, hR⟩
  have s09 := s08.trans s9 (fun b hb => .inr (by simp at hb; omega))
  have hb := hb.step s9
  have hc := hc.step s9
  (repeat (first | refine r_pure rfl rfl ?_ | refine g_seq ?_ | refine g_region ?_ | refine r_nil ?_ | refine e_then ?_ | refine r_go rfl rfl ?_ | refine r_pass rfl rfl rfl ?_ | refine r_passu rfl rfl rfl ?_ | refine r_y (y_fieldAddr rfl) rfl ?_ | refine r_y (y_fieldAddr' rfl) rfl ?_ | refine r_y (y_len rfl) rfl ?_ | refine r_y (y_lenStr rfl) rfl ?_ | refine r_y (y_ptr_nil rfl rfl) rfl ?_ | refine r_y (y_ptr_ne_nil rfl rfl) rfl ?_ | refine r_y (y_slice_nil rfl rfl) rfl ?_ | refine r_y (y_map_nil rfl rfl) rfl ?_ | refine r_y (y_add64 rfl rfl (by omega)) rfl ?_ | refine r_y (y_sub64 rfl rfl (by omega)) rfl ?_ | refine g_true rfl ?_ | refine g_false rfl ?_ | refine g_skip ?_ | refine g_block ?_ | refine e_block_normal ?_ | refine g_exit ?_ | refine e_block_exit ?_ | refine e_block_exit_ne rfl ?_ | refine e_then_exit ?_ | refine e_round_exit ?_))
  refine r_call rfl rfl (rbool_ok s9.ok hR) ?_
  rintro r O10 w10 s10 ⟨rfl, rfl, hR⟩
  have s010 := s09.trans s10 (fun b hb => .inr (by simp at hb; omega))
  have hb := hb.step s10
  have hc := hc.step s10
  have e1 : rdOpaque (((([] ++ opaqueB [97, 98]) ++ be 4 7) ++ be 4 (if true then 1 else 0))) 0 2 = ([97, 98], be 4 7 ++ be 4 1, 0) := by decide
  rw [e1] at hR hc
  dsimp only at hR hc
  rw [e1]
  dsimp only
  have e2 : rdN (be 4 7 ++ be 4 1) 0 4 = (7, be 4 1, 0) := by decide
  rw [e2] at hR ⊢
  dsimp only at hR ⊢
  have e3 : rdBool (be 4 1) 0 = (true, [], 0) := by decide
  rw [e3] at hR ⊢
  dsimp only at hR ⊢
  have eb : ((([] ++ opaqueB [97, 98]) ++ be 4 7) ++ be 4 (if true then 1 else 0)) = [0, 0, 0, 2, 97, 98, 0, 0, 0, 0, 0, 7, 0, 0, 0, 1] := by decide
  rw [eb] at hb
  obtain ⟨ba, bc, rfl, _⟩ := hb.form
  obtain ⟨x3, e3, hx3⟩ := hb.at (i := 3) rfl
  obtain ⟨x4, e4, hx4⟩ := hb.at (i := 4) rfl
  obtain ⟨x6, e6, hx6⟩ := hb.at (i := 6) rfl
  subst e3
  injection e4 with e4
  subst e4
  injection e6 with e6
  subst e6
  (repeat (first | refine r_pure rfl rfl ?_ | refine g_seq ?_ | refine g_region ?_ | refine r_nil ?_ | refine e_then ?_ | refine r_go rfl rfl ?_ | refine r_pass rfl rfl rfl ?_ | refine r_passu rfl rfl rfl ?_ | refine r_y (y_fieldAddr rfl) rfl ?_ | refine r_y (y_fieldAddr' rfl) rfl ?_ | refine r_y (y_len rfl) rfl ?_ | refine r_y (y_lenStr rfl) rfl ?_ | refine r_y (y_ptr_nil rfl rfl) rfl ?_ | refine r_y (y_ptr_ne_nil rfl rfl) rfl ?_ | refine r_y (y_slice_nil rfl rfl) rfl ?_ | refine r_y (y_map_nil rfl rfl) rfl ?_ | refine r_y (y_add64 rfl rfl (by omega)) rfl ?_ | refine r_y (y_sub64 rfl rfl (by omega)) rfl ?_ | refine g_true rfl ?_ | refine g_false rfl ?_ | refine g_skip ?_ | refine g_block ?_ | refine e_block_normal ?_ | refine g_exit ?_ | refine e_block_exit ?_ | refine e_block_exit_ne rfl ?_ | refine e_then_exit ?_ | refine e_round_exit ?_))
  refine r_y (y_indexAddr rfl rfl (by decide)) rfl ?_
  (repeat (first | refine r_pure rfl rfl ?_ | refine g_seq ?_ | refine g_region ?_ | refine r_nil ?_ | refine e_then ?_ | refine r_go rfl rfl ?_ | refine r_pass rfl rfl rfl ?_ | refine r_passu rfl rfl rfl ?_ | refine r_y (y_fieldAddr rfl) rfl ?_ | refine r_y (y_fieldAddr' rfl) rfl ?_ | refine r_y (y_len rfl) rfl ?_ | refine r_y (y_lenStr rfl) rfl ?_ | refine r_y (y_ptr_nil rfl rfl) rfl ?_ | refine r_y (y_ptr_ne_nil rfl rfl) rfl ?_ | refine r_y (y_slice_nil rfl rfl) rfl ?_ | refine r_y (y_map_nil rfl rfl) rfl ?_ | refine r_y (y_add64 rfl rfl (by omega)) rfl ?_ | refine r_y (y_sub64 rfl rfl (by omega)) rfl ?_ | refine g_true rfl ?_ | refine g_false rfl ?_ | refine g_skip ?_ | refine g_block ?_ | refine e_block_normal ?_ | refine g_exit ?_ | refine e_block_exit ?_ | refine e_block_exit_ne rfl ?_ | refine e_then_exit ?_ | refine e_round_exit ?_))
  refine r_y (y_load rfl (cell_at (i := 3) hx3)) rfl ?_
  (repeat (first | refine r_pure rfl rfl ?_ | refine g_seq ?_ | refine g_region ?_ | refine r_nil ?_ | refine e_then ?_ | refine r_go rfl rfl ?_ | refine r_pass rfl rfl rfl ?_ | refine r_passu rfl rfl rfl ?_ | refine r_y (y_fieldAddr rfl) rfl ?_ | refine r_y (y_fieldAddr' rfl) rfl ?_ | refine r_y (y_len rfl) rfl ?_ | refine r_y (y_lenStr rfl) rfl ?_ | refine r_y (y_ptr_nil rfl rfl) rfl ?_ | refine r_y (y_ptr_ne_nil rfl rfl) rfl ?_ | refine r_y (y_slice_nil rfl rfl) rfl ?_ | refine r_y (y_map_nil rfl rfl) rfl ?_ | refine r_y (y_add64 rfl rfl (by omega)) rfl ?_ | refine r_y (y_sub64 rfl rfl (by omega)) rfl ?_ | refine g_true rfl ?_ | refine g_false rfl ?_ | refine g_skip ?_ | refine g_block ?_ | refine e_block_normal ?_ | refine g_exit ?_ | refine e_block_exit ?_ | refine e_block_exit_ne rfl ?_ | refine e_then_exit ?_ | refine e_round_exit ?_))
  refine r_y (y_indexAddr rfl rfl (by decide)) rfl ?_
  (repeat (first | refine r_pure rfl rfl ?_ | refine g_seq ?_ | refine g_region ?_ | refine r_nil ?_ | refine e_then ?_ | refine r_go rfl rfl ?_ | refine r_pass rfl rfl rfl ?_ | refine r_passu rfl rfl rfl ?_ | refine r_y (y_fieldAddr rfl) rfl ?_ | refine r_y (y_fieldAddr' rfl) rfl ?_ | refine r_y (y_len rfl) rfl ?_ | refine r_y (y_lenStr rfl) rfl ?_ | refine r_y (y_ptr_nil rfl rfl) rfl ?_ | refine r_y (y_ptr_ne_nil rfl rfl) rfl ?_ | refine r_y (y_slice_nil rfl rfl) rfl ?_ | refine r_y (y_map_nil rfl rfl) rfl ?_ | refine r_y (y_add64 rfl rfl (by omega)) rfl ?_ | refine r_y (y_sub64 rfl rfl (by omega)) rfl ?_ | refine g_true rfl ?_ | refine g_false rfl ?_ | refine g_skip ?_ | refine g_block ?_ | refine e_block_normal ?_ | refine g_exit ?_ | refine e_block_exit ?_ | refine e_block_exit_ne rfl ?_ | refine e_then_exit ?_ | refine e_round_exit ?_))
  refine r_y (y_load rfl (cell_at (i := 4) hx4)) rfl ?_
  (repeat (first | refine r_pure rfl rfl ?_ | refine g_seq ?_ | refine g_region ?_ | refine r_nil ?_ | refine e_then ?_ | refine r_go rfl rfl ?_ | refine r_pass rfl rfl rfl ?_ | refine r_passu rfl rfl rfl ?_ | refine r_y (y_fieldAddr rfl) rfl ?_ | refine r_y (y_fieldAddr' rfl) rfl ?_ | refine r_y (y_len rfl) rfl ?_ | refine r_y (y_lenStr rfl) rfl ?_ | refine r_y (y_ptr_nil rfl rfl) rfl ?_ | refine r_y (y_ptr_ne_nil rfl rfl) rfl ?_ | refine r_y (y_slice_nil rfl rfl) rfl ?_ | refine r_y (y_map_nil rfl rfl) rfl ?_ | refine r_y (y_add64 rfl rfl (by omega)) rfl ?_ | refine r_y (y_sub64 rfl rfl (by omega)) rfl ?_ | refine g_true rfl ?_ | refine g_false rfl ?_ | refine g_skip ?_ | refine g_block ?_ | refine e_block_normal ?_ | refine g_exit ?_ | refine e_block_exit ?_ | refine e_block_exit_ne rfl ?_ | refine e_then_exit ?_ | refine e_round_exit ?_))
  refine r_y (y_indexAddr rfl rfl (by decide)) rfl ?_
  (repeat (first | refine r_pure rfl rfl ?_ | refine g_seq ?_ | refine g_region ?_ | refine r_nil ?_ | refine e_then ?_ | refine r_go rfl rfl ?_ | refine r_pass rfl rfl rfl ?_ | refine r_passu rfl rfl rfl ?_ | refine r_y (y_fieldAddr rfl) rfl ?_ | refine r_y (y_fieldAddr' rfl) rfl ?_ | refine r_y (y_len rfl) rfl ?_ | refine r_y (y_lenStr rfl) rfl ?_ | refine r_y (y_ptr_nil rfl rfl) rfl ?_ | refine r_y (y_ptr_ne_nil rfl rfl) rfl ?_ | refine r_y (y_slice_nil rfl rfl) rfl ?_ | refine r_y (y_map_nil rfl rfl) rfl ?_ | refine r_y (y_add64 rfl rfl (by omega)) rfl ?_ | refine r_y (y_sub64 rfl rfl (by omega)) rfl ?_ | refine g_true rfl ?_ | refine g_false rfl ?_ | refine g_skip ?_ | refine g_block ?_ | refine e_block_normal ?_ | refine g_exit ?_ | refine e_block_exit ?_ | refine e_block_exit_ne rfl ?_ | refine e_then_exit ?_ | refine e_round_exit ?_))
  refine r_y (y_load rfl (cell_at (i := 6) hx6)) rfl ?_
  (repeat (first | refine r_pure rfl rfl ?_ | refine g_seq ?_ | refine g_region ?_ | refine r_nil ?_ | refine e_then ?_ | refine r_go rfl rfl ?_ | refine r_pass rfl rfl rfl ?_ | refine r_passu rfl rfl rfl ?_ | refine r_y (y_fieldAddr rfl) rfl ?_ | refine r_y (y_fieldAddr' rfl) rfl ?_ | refine r_y (y_len rfl) rfl ?_ | refine r_y (y_lenStr rfl) rfl ?_ | refine r_y (y_ptr_nil rfl rfl) rfl ?_ | refine r_y (y_ptr_ne_nil rfl rfl) rfl ?_ | refine r_y (y_slice_nil rfl rfl) rfl ?_ | refine r_y (y_map_nil rfl rfl) rfl ?_ | refine r_y (y_add64 rfl rfl (by omega)) rfl ?_ | refine r_y (y_sub64 rfl rfl (by omega)) rfl ?_ | refine g_true rfl ?_ | refine g_false rfl ?_ | refine g_skip ?_ | refine g_block ?_ | refine e_block_normal ?_ | refine g_exit ?_ | refine e_block_exit ?_ | refine e_block_exit_ne rfl ?_ | refine e_then_exit ?_ | refine e_round_exit ?_))
  refine r_y (y_bytes_str rfl hc) rfl ?_
  (repeat (first | refine r_pure rfl rfl ?_ | refine g_seq ?_ | refine g_region ?_ | refine r_nil ?_ | refine e_then ?_ | refine r_go rfl rfl ?_ | refine r_pass rfl rfl rfl ?_ | refine r_passu rfl rfl rfl ?_ | refine r_y (y_fieldAddr rfl) rfl ?_ | refine r_y (y_fieldAddr' rfl) rfl ?_ | refine r_y (y_len rfl) rfl ?_ | refine r_y (y_lenStr rfl) rfl ?_ | refine r_y (y_ptr_nil rfl rfl) rfl ?_ | refine r_y (y_ptr_ne_nil rfl rfl) rfl ?_ | refine r_y (y_slice_nil rfl rfl) rfl ?_ | refine r_y (y_map_nil rfl rfl) rfl ?_ | refine r_y (y_add64 rfl rfl (by omega)) rfl ?_ | refine r_y (y_sub64 rfl rfl (by omega)) rfl ?_ | refine g_true rfl ?_ | refine g_false rfl ?_ | refine g_skip ?_ | refine g_block ?_ | refine e_block_normal ?_ | refine g_exit ?_ | refine e_block_exit ?_ | refine e_block_exit_ne rfl ?_ | refine e_then_exit ?_ | refine e_round_exit ?_))
  refine r_call rfl rfl (end_ok s10.ok hR) ?_
  rintro r O11 w11 s11 ⟨rfl, rfl, rfl⟩
  (repeat (first | refine r_pure rfl rfl ?_ | refine g_seq ?_ | refine g_region ?_ | refine r_nil ?_ | refine e_then ?_ | refine r_go rfl rfl ?_ | refine r_pass rfl rfl rfl ?_ | refine r_passu rfl rfl rfl ?_ | refine r_y (y_fieldAddr rfl) rfl ?_ | refine r_y (y_fieldAddr' rfl) rfl ?_ | refine r_y (y_len rfl) rfl ?_ | refine r_y (y_lenStr rfl) rfl ?_ | refine r_y (y_ptr_nil rfl rfl) rfl ?_ | refine r_y (y_ptr_ne_nil rfl rfl) rfl ?_ | refine r_y (y_slice_nil rfl rfl) rfl ?_ | refine r_y (y_map_nil rfl rfl) rfl ?_ | refine r_y (y_add64 rfl rfl (by omega)) rfl ?_ | refine r_y (y_sub64 rfl rfl (by omega)) rfl ?_ | refine g_true rfl ?_ | refine g_false rfl ?_ | refine g_skip ?_ | refine g_block ?_ | refine e_block_normal ?_ | refine g_exit ?_ | refine e_block_exit ?_ | refine e_block_exit_ne rfl ?_ | refine e_then_exit ?_ | refine e_round_exit ?_))
  refine g_ret ?_; (repeat (first | refine e_then_ret ?_ | refine e_block_ret ?_ | refine e_round_ret ?_)); refine ret1 (.inl rfl) rfl rfl ?_
  exact ⟨_, O, rfl, s010.less (fun _ h => h) s010.keep, rfl, rfl⟩

set_option maxHeartbeats 4000000 in
theorem XdrPads_ok {vb : Value} {b : List UInt8} {at' x : UInt8} (hb : Bytes [] w vb b) :
    FnC Try.prog 3 [vb, byteV at', byteV x] [] [] w fun r O' w' => r = .bool true := by
  have hO : OK [] w := OK_nil
  obtain ⟨ba, bc, rfl, _⟩ := hb.form
  refine fn_of _ Try.func3 rfl (by kernel_rfl) Try.ntmps3 rfl ?_
  (repeat (first | refine r_pure rfl rfl ?_ | refine g_seq ?_ | refine g_region ?_ | refine r_nil ?_ | refine e_then ?_ | refine r_go rfl rfl ?_ | refine r_pass rfl rfl rfl ?_ | refine r_passu rfl rfl rfl ?_ | refine r_y (y_fieldAddr rfl) rfl ?_ | refine r_y (y_fieldAddr' rfl) rfl ?_ | refine r_y (y_len rfl) rfl ?_ | refine r_y (y_lenStr rfl) rfl ?_ | refine r_y (y_ptr_nil rfl rfl) rfl ?_ | refine r_y (y_ptr_ne_nil rfl rfl) rfl ?_ | refine r_y (y_slice_nil rfl rfl) rfl ?_ | refine r_y (y_map_nil rfl rfl) rfl ?_ | refine r_y (y_add64 rfl rfl (by omega)) rfl ?_ | refine r_y (y_sub64 rfl rfl (by omega)) rfl ?_ | refine g_true rfl ?_ | refine g_false rfl ?_ | refine g_skip ?_ | refine g_block ?_ | refine e_block_normal ?_ | refine g_exit ?_ | refine e_block_exit ?_ | refine e_block_exit_ne rfl ?_ | refine e_then_exit ?_ | refine e_round_exit ?_))
  refine r_call rfl rfl (awake01_ok hO) ?_
  rintro r O0 w0 s0 ⟨rfl, rfl⟩
  (repeat (first | refine r_pure rfl rfl ?_ | refine g_seq ?_ | refine g_region ?_ | refine r_nil ?_ | refine e_then ?_ | refine r_go rfl rfl ?_ | refine r_pass rfl rfl rfl ?_ | refine r_passu rfl rfl rfl ?_ | refine r_y (y_fieldAddr rfl) rfl ?_ | refine r_y (y_fieldAddr' rfl) rfl ?_ | refine r_y (y_len rfl) rfl ?_ | refine r_y (y_lenStr rfl) rfl ?_ | refine r_y (y_ptr_nil rfl rfl) rfl ?_ | refine r_y (y_ptr_ne_nil rfl rfl) rfl ?_ | refine r_y (y_slice_nil rfl rfl) rfl ?_ | refine r_y (y_map_nil rfl rfl) rfl ?_ | refine r_y (y_add64 rfl rfl (by omega)) rfl ?_ | refine r_y (y_sub64 rfl rfl (by omega)) rfl ?_ | refine g_true rfl ?_ | refine g_false rfl ?_ | refine g_skip ?_ | refine g_block ?_ | refine e_block_normal ?_ | refine g_exit ?_ | refine e_block_exit ?_ | refine e_block_exit_ne rfl ?_ | refine e_then_exit ?_ | refine e_round_exit ?_))
  refine g_dec rfl (fun h1 => ?_) (fun h1 => ?_)
  · (repeat (first | refine r_pure rfl rfl ?_ | refine g_seq ?_ | refine g_region ?_ | refine r_nil ?_ | refine e_then ?_ | refine r_go rfl rfl ?_ | refine r_pass rfl rfl rfl ?_ | refine r_passu rfl rfl rfl ?_ | refine r_y (y_fieldAddr rfl) rfl ?_ | refine r_y (y_fieldAddr' rfl) rfl ?_ | refine r_y (y_len rfl) rfl ?_ | refine r_y (y_lenStr rfl) rfl ?_ | refine r_y (y_ptr_nil rfl rfl) rfl ?_ | refine r_y (y_ptr_ne_nil rfl rfl) rfl ?_ | refine r_y (y_slice_nil rfl rfl) rfl ?_ | refine r_y (y_map_nil rfl rfl) rfl ?_ | refine r_y (y_add64 rfl rfl (by omega)) rfl ?_ | refine r_y (y_sub64 rfl rfl (by omega)) rfl ?_ | refine g_true rfl ?_ | refine g_false rfl ?_ | refine g_skip ?_ | refine g_block ?_ | refine e_block_normal ?_ | refine g_exit ?_ | refine e_block_exit ?_ | refine e_block_exit_ne rfl ?_ | refine e_then_exit ?_ | refine e_round_exit ?_))
    refine g_ret ?_; (repeat (first | refine e_then_ret ?_ | refine e_block_ret ?_ | refine e_round_ret ?_)); refine ret1 (.inl rfl) rfl rfl ?_
    exact ⟨_, _, rfl, s0, rfl⟩
  have hb := hb.step s0
  have hbl : b.length ≤ 100 := by omega
  (repeat (first | refine r_pure rfl rfl ?_ | refine g_seq ?_ | refine g_region ?_ | refine r_nil ?_ | refine e_then ?_ | refine r_go rfl rfl ?_ | refine r_pass rfl rfl rfl ?_ | refine r_passu rfl rfl rfl ?_ | refine r_y (y_fieldAddr rfl) rfl ?_ | refine r_y (y_fieldAddr' rfl) rfl ?_ | refine r_y (y_len rfl) rfl ?_ | refine r_y (y_lenStr rfl) rfl ?_ | refine r_y (y_ptr_nil rfl rfl) rfl ?_ | refine r_y (y_ptr_ne_nil rfl rfl) rfl ?_ | refine r_y (y_slice_nil rfl rfl) rfl ?_ | refine r_y (y_map_nil rfl rfl) rfl ?_ | refine r_y (y_add64 rfl rfl (by omega)) rfl ?_ | refine r_y (y_sub64 rfl rfl (by omega)) rfl ?_ | refine g_true rfl ?_ | refine g_false rfl ?_ | refine g_skip ?_ | refine g_block ?_ | refine e_block_normal ?_ | refine g_exit ?_ | refine e_block_exit ?_ | refine e_block_exit_ne rfl ?_ | refine e_then_exit ?_ | refine e_round_exit ?_))
  refine r_call rfl rfl (newWriter_ok s0.ok) ?_
  rintro r O1 w1 s1 ⟨p, rfl, rfl, hp, hW⟩
  have f := wr_new hp hW
  have z1 := s1.size
  have z0 := s0.size
  have s01 := s0.trans0 s1
  have hb := hb.step s1
  (repeat (first | refine r_pure rfl rfl ?_ | refine g_seq ?_ | refine g_region ?_ | refine r_nil ?_ | refine e_then ?_ | refine r_go rfl rfl ?_ | refine r_pass rfl rfl rfl ?_ | refine r_passu rfl rfl rfl ?_ | refine r_y (y_fieldAddr rfl) rfl ?_ | refine r_y (y_fieldAddr' rfl) rfl ?_ | refine r_y (y_len rfl) rfl ?_ | refine r_y (y_lenStr rfl) rfl ?_ | refine r_y (y_ptr_nil rfl rfl) rfl ?_ | refine r_y (y_ptr_ne_nil rfl rfl) rfl ?_ | refine r_y (y_slice_nil rfl rfl) rfl ?_ | refine r_y (y_map_nil rfl rfl) rfl ?_ | refine r_y (y_add64 rfl rfl (by omega)) rfl ?_ | refine r_y (y_sub64 rfl rfl (by omega)) rfl ?_ | refine g_true rfl ?_ | refine g_false rfl ?_ | refine g_skip ?_ | refine g_block ?_ | refine e_block_normal ?_ | refine g_exit ?_ | refine e_block_exit ?_ | refine e_block_exit_ne rfl ?_ | refine e_then_exit ?_ | refine e_round_exit ?_))
  refine r_call rfl rfl (wopaque_ok s1.ok hW hb (by simp) (by omega)) ?_
  rintro r O2 w2 s2 k2
  obtain ⟨rfl, s02, v2, hW, f⟩ := wr_next s01 (by omega) (by omega) f s2 k2
  have hb := hb.step s2
  rw [List.nil_append] at hW
  have hol := opaqueB_length b
  have hfl := fillN_lt b.length
  (repeat (first | refine r_pure rfl rfl ?_ | refine g_seq ?_ | refine g_region ?_ | refine r_nil ?_ | refine e_then ?_ | refine r_go rfl rfl ?_ | refine r_pass rfl rfl rfl ?_ | refine r_passu rfl rfl rfl ?_ | refine r_y (y_fieldAddr rfl) rfl ?_ | refine r_y (y_fieldAddr' rfl) rfl ?_ | refine r_y (y_len rfl) rfl ?_ | refine r_y (y_lenStr rfl) rfl ?_ | refine r_y (y_ptr_nil rfl rfl) rfl ?_ | refine r_y (y_ptr_ne_nil rfl rfl) rfl ?_ | refine r_y (y_slice_nil rfl rfl) rfl ?_ | refine r_y (y_map_nil rfl rfl) rfl ?_ | refine r_y (y_add64 rfl rfl (by omega)) rfl ?_ | refine r_y (y_sub64 rfl rfl (by omega)) rfl ?_ | refine g_true rfl ?_ | refine g_false rfl ?_ | refine g_skip ?_ | refine g_block ?_ | refine e_block_normal ?_ | refine g_exit ?_ | refine e_block_exit ?_ | refine e_block_exit_ne rfl ?_ | refine e_then_exit ?_ | refine e_round_exit ?_))
  refine r_call rfl rfl (out_ok s2.ok hW (by omega)) ?_
  rintro c O3 w3 s3 ⟨rfl, hc3⟩
  have s03 := s02.trans0 s3
  have z2 := s02.size
  obtain ⟨qc, nc, rc, rfl, cbc, hqc, ltc, lec⟩ := hc3.owned (by intro e; rw [e] at hol; simp only [List.length_nil] at hol; omega)
  have hqn : qc ∉ O2 := fresh_nin s2.ok hqc
  have s03' := s03.take (q := qc) (by omega) ltc
  have hb := hb.step (s3.take (q := qc) hqc ltc)
  (repeat (first | refine r_pure rfl rfl ?_ | refine g_seq ?_ | refine g_region ?_ | refine r_nil ?_ | refine e_then ?_ | refine r_go rfl rfl ?_ | refine r_pass rfl rfl rfl ?_ | refine r_passu rfl rfl rfl ?_ | refine r_y (y_fieldAddr rfl) rfl ?_ | refine r_y (y_fieldAddr' rfl) rfl ?_ | refine r_y (y_len rfl) rfl ?_ | refine r_y (y_lenStr rfl) rfl ?_ | refine r_y (y_ptr_nil rfl rfl) rfl ?_ | refine r_y (y_ptr_ne_nil rfl rfl) rfl ?_ | refine r_y (y_slice_nil rfl rfl) rfl ?_ | refine r_y (y_map_nil rfl rfl) rfl ?_ | refine r_y (y_add64 rfl rfl (by omega)) rfl ?_ | refine r_y (y_sub64 rfl rfl (by omega)) rfl ?_ | refine g_true rfl ?_ | refine g_false rfl ?_ | refine g_skip ?_ | refine g_block ?_ | refine e_block_normal ?_ | refine g_exit ?_ | refine e_block_exit ?_ | refine e_block_exit_ne rfl ?_ | refine e_then_exit ?_ | refine e_round_exit ?_))
  have ec : ((opaqueB b).length : Int) - 4 - (b.length : Int) = (fillN b.length : Nat) := by omega
  rw [ec]
  refine r_partd rfl rfl (fun h2 => absurd h2 (by omega)) (fun _ => ?_)
  (repeat (first | refine r_pure rfl rfl ?_ | refine g_seq ?_ | refine g_region ?_ | refine r_nil ?_ | refine e_then ?_ | refine r_go rfl rfl ?_ | refine r_pass rfl rfl rfl ?_ | refine r_passu rfl rfl rfl ?_ | refine r_y (y_fieldAddr rfl) rfl ?_ | refine r_y (y_fieldAddr' rfl) rfl ?_ | refine r_y (y_len rfl) rfl ?_ | refine r_y (y_lenStr rfl) rfl ?_ | refine r_y (y_ptr_nil rfl rfl) rfl ?_ | refine r_y (y_ptr_ne_nil rfl rfl) rfl ?_ | refine r_y (y_slice_nil rfl rfl) rfl ?_ | refine r_y (y_map_nil rfl rfl) rfl ?_ | refine r_y (y_add64 rfl rfl (by omega)) rfl ?_ | refine r_y (y_sub64 rfl rfl (by omega)) rfl ?_ | refine g_true rfl ?_ | refine g_false rfl ?_ | refine g_skip ?_ | refine g_block ?_ | refine e_block_normal ?_ | refine g_exit ?_ | refine e_block_exit ?_ | refine e_block_exit_ne rfl ?_ | refine e_then_exit ?_ | refine e_round_exit ?_))
  refine g_dec rfl (fun h2 => absurd h2 (by omega)) (fun _ => ?_)
  (repeat (first | refine r_pure rfl rfl ?_ | refine g_seq ?_ | refine g_region ?_ | refine r_nil ?_ | refine e_then ?_ | refine r_go rfl rfl ?_ | refine r_pass rfl rfl rfl ?_ | refine r_passu rfl rfl rfl ?_ | refine r_y (y_fieldAddr rfl) rfl ?_ | refine r_y (y_fieldAddr' rfl) rfl ?_ | refine r_y (y_len rfl) rfl ?_ | refine r_y (y_lenStr rfl) rfl ?_ | refine r_y (y_ptr_nil rfl rfl) rfl ?_ | refine r_y (y_ptr_ne_nil rfl rfl) rfl ?_ | refine r_y (y_slice_nil rfl rfl) rfl ?_ | refine r_y (y_map_nil rfl rfl) rfl ?_ | refine r_y (y_add64 rfl rfl (by omega)) rfl ?_ | refine r_y (y_sub64 rfl rfl (by omega)) rfl ?_ | refine g_true rfl ?_ | refine g_false rfl ?_ | refine g_skip ?_ | refine g_block ?_ | refine e_block_normal ?_ | refine g_exit ?_ | refine e_block_exit ?_ | refine e_block_exit_ne rfl ?_ | refine e_then_exit ?_ | refine e_round_exit ?_))
  refine g_mid (X := List UInt8) (fun c => [(0, .slice ba b.length bc), (1, byteV at'), (2, byteV x), (9, .slice (some ⟨qc, 0, none⟩) (opaqueB b).length nc), (10, .int .i64 (fillN b.length))])
    (fun c wr => Step [] [] (qc :: O2) w wr ∧ CB wr qc (bytesV c ++ rc) ∧ Bytes (qc :: O2) wr (.slice ba b.length bc) b ∧ c.length = (opaqueB b).length ∧ rdOpaque c 0 100 = if 0 < fillN b.length ∧ x ≠ 0 then ([], [], 11) else (b, [], 0)) ?_ ?_
  · refine g_dec rfl (fun h2 => ?_) (fun h2 => ?_)
    · (repeat (first | refine r_pure rfl rfl ?_ | refine g_seq ?_ | refine g_region ?_ | refine r_nil ?_ | refine e_then ?_ | refine r_go rfl rfl ?_ | refine r_pass rfl rfl rfl ?_ | refine r_passu rfl rfl rfl ?_ | refine r_y (y_fieldAddr rfl) rfl ?_ | refine r_y (y_fieldAddr' rfl) rfl ?_ | refine r_y (y_len rfl) rfl ?_ | refine r_y (y_lenStr rfl) rfl ?_ | refine r_y (y_ptr_nil rfl rfl) rfl ?_ | refine r_y (y_ptr_ne_nil rfl rfl) rfl ?_ | refine r_y (y_slice_nil rfl rfl) rfl ?_ | refine r_y (y_map_nil rfl rfl) rfl ?_ | refine r_y (y_add64 rfl rfl (by omega)) rfl ?_ | refine r_y (y_sub64 rfl rfl (by omega)) rfl ?_ | refine g_true rfl ?_ | refine g_false rfl ?_ | refine g_skip ?_ | refine g_block ?_ | refine e_block_normal ?_ | refine g_exit ?_ | refine e_block_exit ?_ | refine e_block_exit_ne rfl ?_ | refine e_then_exit ?_ | refine e_round_exit ?_))
      refine r_y (y_u8_i64 rfl) rfl ?_
      (repeat (first | refine r_pure rfl rfl ?_ | refine g_seq ?_ | refine g_region ?_ | refine r_nil ?_ | refine e_then ?_ | refine r_go rfl rfl ?_ | refine r_pass rfl rfl rfl ?_ | refine r_passu rfl rfl rfl ?_ | refine r_y (y_fieldAddr rfl) rfl ?_ | refine r_y (y_fieldAddr' rfl) rfl ?_ | refine r_y (y_len rfl) rfl ?_ | refine r_y (y_lenStr rfl) rfl ?_ | refine r_y (y_ptr_nil rfl rfl) rfl ?_ | refine r_y (y_ptr_ne_nil rfl rfl) rfl ?_ | refine r_y (y_slice_nil rfl rfl) rfl ?_ | refine r_y (y_map_nil rfl rfl) rfl ?_ | refine r_y (y_add64 rfl rfl (by omega)) rfl ?_ | refine r_y (y_sub64 rfl rfl (by omega)) rfl ?_ | refine g_true rfl ?_ | refine g_false rfl ?_ | refine g_skip ?_ | refine g_block ?_ | refine e_block_normal ?_ | refine g_exit ?_ | refine e_block_exit ?_ | refine e_block_exit_ne rfl ?_ | refine e_then_exit ?_ | refine e_round_exit ?_))
      refine r_y (y_remN rfl rfl (by omega)) rfl ?_
      have hj : at'.toNat % fillN b.length < fillN b.length := Nat.mod_lt _ (by omega)
      generalize at'.toNat % fillN b.length = j at hj ⊢
      (repeat (first | refine r_pure rfl rfl ?_ | refine g_seq ?_ | refine g_region ?_ | refine r_nil ?_ | refine e_then ?_ | refine r_go rfl rfl ?_ | refine r_pass rfl rfl rfl ?_ | refine r_passu rfl rfl rfl ?_ | refine r_y (y_fieldAddr rfl) rfl ?_ | refine r_y (y_fieldAddr' rfl) rfl ?_ | refine r_y (y_len rfl) rfl ?_ | refine r_y (y_lenStr rfl) rfl ?_ | refine r_y (y_ptr_nil rfl rfl) rfl ?_ | refine r_y (y_ptr_ne_nil rfl rfl) rfl ?_ | refine r_y (y_slice_nil rfl rfl) rfl ?_ | refine r_y (y_map_nil rfl rfl) rfl ?_ | refine r_y (y_add64 rfl rfl (by omega)) rfl ?_ | refine r_y (y_sub64 rfl rfl (by omega)) rfl ?_ | refine g_true rfl ?_ | refine g_false rfl ?_ | refine g_skip ?_ | refine g_block ?_ | refine e_block_normal ?_ | refine g_exit ?_ | refine e_block_exit ?_ | refine e_block_exit_ne rfl ?_ | refine e_then_exit ?_ | refine e_round_exit ?_))
      rw [show (4 + (b.length : Int) + (j : Int)) = ((4 + b.length + j : Nat) : Int) from by omega]
      refine r_y (y_indexOwn (i := 4 + b.length + j) rfl rfl (by omega)) rfl ?_
      refine r_store1 (p := qc) (i := 4 + b.length + j) s03'.ok rfl rfl rfl rfl cbc (by simp [bytesV]; omega) (by simp) (fun w4 s4 cb4 => ?_)
      (repeat (first | refine r_pure rfl rfl ?_ | refine g_seq ?_ | refine g_region ?_ | refine r_nil ?_ | refine e_then ?_ | refine r_go rfl rfl ?_ | refine r_pass rfl rfl rfl ?_ | refine r_passu rfl rfl rfl ?_ | refine r_y (y_fieldAddr rfl) rfl ?_ | refine r_y (y_fieldAddr' rfl) rfl ?_ | refine r_y (y_len rfl) rfl ?_ | refine r_y (y_lenStr rfl) rfl ?_ | refine r_y (y_ptr_nil rfl rfl) rfl ?_ | refine r_y (y_ptr_ne_nil rfl rfl) rfl ?_ | refine r_y (y_slice_nil rfl rfl) rfl ?_ | refine r_y (y_map_nil rfl rfl) rfl ?_ | refine r_y (y_add64 rfl rfl (by omega)) rfl ?_ | refine r_y (y_sub64 rfl rfl (by omega)) rfl ?_ | refine g_true rfl ?_ | refine g_false rfl ?_ | refine g_skip ?_ | refine g_block ?_ | refine e_block_normal ?_ | refine g_exit ?_ | refine e_block_exit ?_ | refine e_block_exit_ne rfl ?_ | refine e_then_exit ?_ | refine e_round_exit ?_))
      refine e_round ((opaqueB b).set (4 + b.length + j) x) (sub_cons rfl rfl (sub_cons rfl rfl (sub_cons rfl rfl (sub_cons rfl rfl (sub_cons rfl rfl (sub_nil)))))) ⟨s03'.trans s4 (fun b hb => .inr (by simp at hb; omega)), ?_, hb.step s4, by simp, ?_⟩ (by decide)
      · rw [List.set_append_left _ _ (by simp [bytesV]; omega)] at cb4
        have e : (bytesV (opaqueB b)).set (4 + b.length + j) (byteV x) = bytesV ((opaqueB b).set (4 + b.length + j) x) := by simp [bytesV, List.map_set]
        rw [← e]; exact cb4
      · rw [opaqueB_set (by omega)]
        have := rdOpaque_pad (b := b) (pad := (List.replicate (fillN b.length) 0).set j x) (rest := []) (most := 100) (by omega) (by omega) (by simp)
        rw [List.append_nil] at this
        rw [this]
        by_cases hx : x = 0
        · rw [if_neg (by rw [set_noughts hj]; simpa using hx), if_neg (by simp [hx])]
        · rw [if_pos ((set_noughts hj).2 hx), if_pos ⟨by omega, hx⟩]
    · (repeat (first | refine r_pure rfl rfl ?_ | refine g_seq ?_ | refine g_region ?_ | refine r_nil ?_ | refine e_then ?_ | refine r_go rfl rfl ?_ | refine r_pass rfl rfl rfl ?_ | refine r_passu rfl rfl rfl ?_ | refine r_y (y_fieldAddr rfl) rfl ?_ | refine r_y (y_fieldAddr' rfl) rfl ?_ | refine r_y (y_len rfl) rfl ?_ | refine r_y (y_lenStr rfl) rfl ?_ | refine r_y (y_ptr_nil rfl rfl) rfl ?_ | refine r_y (y_ptr_ne_nil rfl rfl) rfl ?_ | refine r_y (y_slice_nil rfl rfl) rfl ?_ | refine r_y (y_map_nil rfl rfl) rfl ?_ | refine r_y (y_add64 rfl rfl (by omega)) rfl ?_ | refine r_y (y_sub64 rfl rfl (by omega)) rfl ?_ | refine g_true rfl ?_ | refine g_false rfl ?_ | refine g_skip ?_ | refine g_block ?_ | refine e_block_normal ?_ | refine g_exit ?_ | refine e_block_exit ?_ | refine e_block_exit_ne rfl ?_ | refine e_then_exit ?_ | refine e_round_exit ?_))
      refine e_round (opaqueB b) (sub_cons rfl rfl (sub_cons rfl rfl (sub_cons rfl rfl (sub_cons rfl rfl (sub_cons rfl rfl (sub_nil)))))) ⟨s03', cbc, hb, rfl, ?_⟩ (by decide)
      rw [if_neg (by omega)]
      have := rdOpaque_put (b := b) (rest := []) (most := 100) (by omega) (by omega)
      rwa [List.append_nil] at this
  · rintro c w4 ⟨s04, hcc, hb, hcl, hrd⟩
    rw [← hcl]
    have hc : Bytes O2 w4 (.slice (some ⟨qc, 0, none⟩) c.length nc) c := hcc.bytesP hqn (by omega)
    (repeat (first | refine r_pure rfl rfl ?_ | refine g_seq ?_ | refine g_region ?_ | refine r_nil ?_ | refine e_then ?_ | refine r_go rfl rfl ?_ | refine r_pass rfl rfl rfl ?_ | refine r_passu rfl rfl rfl ?_ | refine r_y (y_fieldAddr rfl) rfl ?_ | refine r_y (y_fieldAddr' rfl) rfl ?_ | refine r_y (y_len rfl) rfl ?_ | refine r_y (y_lenStr rfl) rfl ?_ | refine r_y (y_ptr_nil rfl rfl) rfl ?_ | refine r_y (y_ptr_ne_nil rfl rfl) rfl ?_ | refine r_y (y_slice_nil rfl rfl) rfl ?_ | refine r_y (y_map_nil rfl rfl) rfl ?_ | refine r_y (y_add64 rfl rfl (by omega)) rfl ?_ | refine r_y (y_sub64 rfl rfl (by omega)) rfl ?_ | refine g_true rfl ?_ | refine g_false rfl ?_ | refine g_skip ?_ | refine g_block ?_ | refine e_block_normal ?_ | refine g_exit ?_ | refine e_block_exit ?_ | refine e_block_exit_ne rfl ?_ | refine e_then_exit ?_ | refine e_round_exit ?_))
    refine r_call rfl rfl (newReader_ok s04.ok hc (by omega)) ?_
    rintro r O5 w5 s5 ⟨pr, rfl, rfl, hpr, hR⟩
    have hb := hb.step s5
    have s05 := s04.trans0 s5
    have z4 := s04.size
    (repeat (first | refine r_pure rfl rfl ?_ | refine g_seq ?_ | refine g_region ?_ | refine r_nil ?_ | refine e_then ?_ | refine r_go rfl rfl ?_ | refine r_pass rfl rfl rfl ?_ | refine r_passu rfl rfl rfl ?_ | refine r_y (y_fieldAddr rfl) rfl ?_ | refine r_y (y_fieldAddr' rfl) rfl ?_ | refine r_y (y_len rfl) rfl ?_ | refine r_y (y_lenStr rfl) rfl ?_ | refine r_y (y_ptr_nil rfl rfl) rfl ?_ | refine r_y (y_ptr_ne_nil rfl rfl) rfl ?_ | refine r_y (y_slice_nil rfl rfl) rfl ?_ | refine r_y (y_map_nil rfl rfl) rfl ?_ | refine r_y (y_add64 rfl rfl (by omega)) rfl ?_ | refine r_y (y_sub64 rfl rfl (by omega)) rfl ?_ | refine g_true rfl ?_ | refine g_false rfl ?_ | refine g_skip ?_ | refine g_block ?_ | refine e_block_normal ?_ | refine g_exit ?_ | refine e_block_exit ?_ | refine e_block_exit_ne rfl ?_ | refine e_then_exit ?_ | refine e_round_exit ?_))
    refine r_call rfl rfl (ropaque_ok s5.ok hR (most := 100) (by decide)) ?_
    rintro d O6 w6 s6 ⟨rfl, hd, hR⟩
    have hb := hb.step s6
    have s06 := s05.trans s6 (fun b hb => .inr (by simp at hb; omega))
    have s06 := s05.trans s6 (fun b hb => .inr (by simp at hb; omega))
    rw [hrd] at hd hR
    by_cases e : 0 < fillN b.length ∧ x ≠ 0
    · rw [if_pos e] at hd hR
      dsimp only at hd hR
      have hd : Bytes (pr :: qc :: O2) w6 d [] := Sl.bytes (hd.sl (fun q hq => fresh_nin s5.ok hq))
      obtain ⟨da, dc, rfl, _⟩ := hd.form
      have hx0 : x.toNat ≠ 0 := fun h => e.2 (UInt8.toNat_inj.1 (by simpa using h))
      (repeat (first | refine r_pure rfl rfl ?_ | refine g_seq ?_ | refine g_region ?_ | refine r_nil ?_ | refine e_then ?_ | refine r_go rfl rfl ?_ | refine r_pass rfl rfl rfl ?_ | refine r_passu rfl rfl rfl ?_ | refine r_y (y_fieldAddr rfl) rfl ?_ | refine r_y (y_fieldAddr' rfl) rfl ?_ | refine r_y (y_len rfl) rfl ?_ | refine r_y (y_lenStr rfl) rfl ?_ | refine r_y (y_ptr_nil rfl rfl) rfl ?_ | refine r_y (y_ptr_ne_nil rfl rfl) rfl ?_ | refine r_y (y_slice_nil rfl rfl) rfl ?_ | refine r_y (y_map_nil rfl rfl) rfl ?_ | refine r_y (y_add64 rfl rfl (by omega)) rfl ?_ | refine r_y (y_sub64 rfl rfl (by omega)) rfl ?_ | refine g_true rfl ?_ | refine g_false rfl ?_ | refine g_skip ?_ | refine g_block ?_ | refine e_block_normal ?_ | refine g_exit ?_ | refine e_block_exit ?_ | refine e_block_exit_ne rfl ?_ | refine e_then_exit ?_ | refine e_round_exit ?_))
      refine r_partd rfl rfl (fun h3 => ?_) (fun h3 => absurd h3 (by omega))
      (repeat (first | refine r_pure rfl rfl ?_ | refine g_seq ?_ | refine g_region ?_ | refine r_nil ?_ | refine e_then ?_ | refine r_go rfl rfl ?_ | refine r_pass rfl rfl rfl ?_ | refine r_passu rfl rfl rfl ?_ | refine r_y (y_fieldAddr rfl) rfl ?_ | refine r_y (y_fieldAddr' rfl) rfl ?_ | refine r_y (y_len rfl) rfl ?_ | refine r_y (y_lenStr rfl) rfl ?_ | refine r_y (y_ptr_nil rfl rfl) rfl ?_ | refine r_y (y_ptr_ne_nil rfl rfl) rfl ?_ | refine r_y (y_slice_nil rfl rfl) rfl ?_ | refine r_y (y_map_nil rfl rfl) rfl ?_ | refine r_y (y_add64 rfl rfl (by omega)) rfl ?_ | refine r_y (y_sub64 rfl rfl (by omega)) rfl ?_ | refine g_true rfl ?_ | refine g_false rfl ?_ | refine g_skip ?_ | refine g_block ?_ | refine e_block_normal ?_ | refine g_exit ?_ | refine e_block_exit ?_ | refine e_block_exit_ne rfl ?_ | refine e_then_exit ?_ | refine e_round_exit ?_))
      refine g_ndec rfl (fun h4 => ?_) (fun h4 => absurd h4 (by omega))
      (repeat (first | refine r_pure rfl rfl ?_ | refine g_seq ?_ | refine g_region ?_ | refine r_nil ?_ | refine e_then ?_ | refine r_go rfl rfl ?_ | refine r_pass rfl rfl rfl ?_ | refine r_passu rfl rfl rfl ?_ | refine r_y (y_fieldAddr rfl) rfl ?_ | refine r_y (y_fieldAddr' rfl) rfl ?_ | refine r_y (y_len rfl) rfl ?_ | refine r_y (y_lenStr rfl) rfl ?_ | refine r_y (y_ptr_nil rfl rfl) rfl ?_ | refine r_y (y_ptr_ne_nil rfl rfl) rfl ?_ | refine r_y (y_slice_nil rfl rfl) rfl ?_ | refine r_y (y_map_nil rfl rfl) rfl ?_ | refine r_y (y_add64 rfl rfl (by omega)) rfl ?_ | refine r_y (y_sub64 rfl rfl (by omega)) rfl ?_ | refine g_true rfl ?_ | refine g_false rfl ?_ | refine g_skip ?_ | refine g_block ?_ | refine e_block_normal ?_ | refine g_exit ?_ | refine e_block_exit ?_ | refine e_block_exit_ne rfl ?_ | refine e_then_exit ?_ | refine e_round_exit ?_))
      refine r_call rfl rfl (err_ok s6.ok hR) ?_
      rintro r O7 w7 s7 ⟨rfl, rfl, rfl⟩
      (repeat (first | refine r_pure rfl rfl ?_ | refine g_seq ?_ | refine g_region ?_ | refine r_nil ?_ | refine e_then ?_ | refine r_go rfl rfl ?_ | refine r_pass rfl rfl rfl ?_ | refine r_passu rfl rfl rfl ?_ | refine r_y (y_fieldAddr rfl) rfl ?_ | refine r_y (y_fieldAddr' rfl) rfl ?_ | refine r_y (y_len rfl) rfl ?_ | refine r_y (y_lenStr rfl) rfl ?_ | refine r_y (y_ptr_nil rfl rfl) rfl ?_ | refine r_y (y_ptr_ne_nil rfl rfl) rfl ?_ | refine r_y (y_slice_nil rfl rfl) rfl ?_ | refine r_y (y_map_nil rfl rfl) rfl ?_ | refine r_y (y_add64 rfl rfl (by omega)) rfl ?_ | refine r_y (y_sub64 rfl rfl (by omega)) rfl ?_ | refine g_true rfl ?_ | refine g_false rfl ?_ | refine g_skip ?_ | refine g_block ?_ | refine e_block_normal ?_ | refine g_exit ?_ | refine e_block_exit ?_ | refine e_block_exit_ne rfl ?_ | refine e_then_exit ?_ | refine e_round_exit ?_))
      refine g_ret ?_; (repeat (first | refine e_then_ret ?_ | refine e_block_ret ?_ | refine e_round_ret ?_)); refine ret1 (.inl rfl) rfl rfl ?_
      exact ⟨_, _, rfl, s06, rfl⟩
    · rw [if_neg e] at hd hR
      dsimp only at hd hR
      have hd : Bytes (pr :: qc :: O2) w6 d b := Sl.bytes (hd.sl (fun q hq => fresh_nin s5.ok hq))
      obtain ⟨da, dc, rfl, _⟩ := hd.form
      (repeat (first | refine r_pure rfl rfl ?_ | refine g_seq ?_ | refine g_region ?_ | refine r_nil ?_ | refine e_then ?_ | refine r_go rfl rfl ?_ | refine r_pass rfl rfl rfl ?_ | refine r_passu rfl rfl rfl ?_ | refine r_y (y_fieldAddr rfl) rfl ?_ | refine r_y (y_fieldAddr' rfl) rfl ?_ | refine r_y (y_len rfl) rfl ?_ | refine r_y (y_lenStr rfl) rfl ?_ | refine r_y (y_ptr_nil rfl rfl) rfl ?_ | refine r_y (y_ptr_ne_nil rfl rfl) rfl ?_ | refine r_y (y_slice_nil rfl rfl) rfl ?_ | refine r_y (y_map_nil rfl rfl) rfl ?_ | refine r_y (y_add64 rfl rfl (by omega)) rfl ?_ | refine r_y (y_sub64 rfl rfl (by omega)) rfl ?_ | refine g_true rfl ?_ | refine g_false rfl ?_ | refine g_skip ?_ | refine g_block ?_ | refine e_block_normal ?_ | refine g_exit ?_ | refine e_block_exit ?_ | refine e_block_exit_ne rfl ?_ | refine e_then_exit ?_ | refine e_round_exit ?_))
      refine r_partd rfl rfl (fun h3 => ?y1) (fun h3 => ?y2)
      case' y1 =>
        (repeat (first | refine r_pure rfl rfl ?_ | refine g_seq ?_ | refine g_region ?_ | refine r_nil ?_ | refine e_then ?_ | refine r_go rfl rfl ?_ | refine r_pass rfl rfl rfl ?_ | refine r_passu rfl rfl rfl ?_ | refine r_y (y_fieldAddr rfl) rfl ?_ | refine r_y (y_fieldAddr' rfl) rfl ?_ | refine r_y (y_len rfl) rfl ?_ | refine r_y (y_lenStr rfl) rfl ?_ | refine r_y (y_ptr_nil rfl rfl) rfl ?_ | refine r_y (y_ptr_ne_nil rfl rfl) rfl ?_ | refine r_y (y_slice_nil rfl rfl) rfl ?_ | refine r_y (y_map_nil rfl rfl) rfl ?_ | refine r_y (y_add64 rfl rfl (by omega)) rfl ?_ | refine r_y (y_sub64 rfl rfl (by omega)) rfl ?_ | refine g_true rfl ?_ | refine g_false rfl ?_ | refine g_skip ?_ | refine g_block ?_ | refine e_block_normal ?_ | refine g_exit ?_ | refine e_block_exit ?_ | refine e_block_exit_ne rfl ?_ | refine e_then_exit ?_ | refine e_round_exit ?_))
        refine g_ndec rfl (fun h4 => absurd ⟨by omega, fun h => h4 (by rw [h]; rfl)⟩ e) (fun h4 => ?y3)
      all_goals
        (repeat (first | refine r_pure rfl rfl ?_ | refine g_seq ?_ | refine g_region ?_ | refine r_nil ?_ | refine e_then ?_ | refine r_go rfl rfl ?_ | refine r_pass rfl rfl rfl ?_ | refine r_passu rfl rfl rfl ?_ | refine r_y (y_fieldAddr rfl) rfl ?_ | refine r_y (y_fieldAddr' rfl) rfl ?_ | refine r_y (y_len rfl) rfl ?_ | refine r_y (y_lenStr rfl) rfl ?_ | refine r_y (y_ptr_nil rfl rfl) rfl ?_ | refine r_y (y_ptr_ne_nil rfl rfl) rfl ?_ | refine r_y (y_slice_nil rfl rfl) rfl ?_ | refine r_y (y_map_nil rfl rfl) rfl ?_ | refine r_y (y_add64 rfl rfl (by omega)) rfl ?_ | refine r_y (y_sub64 rfl rfl (by omega)) rfl ?_ | refine g_true rfl ?_ | refine g_false rfl ?_ | refine g_skip ?_ | refine g_block ?_ | refine e_block_normal ?_ | refine g_exit ?_ | refine e_block_exit ?_ | refine e_block_exit_ne rfl ?_ | refine e_then_exit ?_ | refine e_round_exit ?_))
        refine r_y (y_bytes_str rfl hd) rfl ?_
        (repeat (first | refine r_pure rfl rfl ?_ | refine g_seq ?_ | refine g_region ?_ | refine r_nil ?_ | refine e_then ?_ | refine r_go rfl rfl ?_ | refine r_pass rfl rfl rfl ?_ | refine r_passu rfl rfl rfl ?_ | refine r_y (y_fieldAddr rfl) rfl ?_ | refine r_y (y_fieldAddr' rfl) rfl ?_ | refine r_y (y_len rfl) rfl ?_ | refine r_y (y_lenStr rfl) rfl ?_ | refine r_y (y_ptr_nil rfl rfl) rfl ?_ | refine r_y (y_ptr_ne_nil rfl rfl) rfl ?_ | refine r_y (y_slice_nil rfl rfl) rfl ?_ | refine r_y (y_map_nil rfl rfl) rfl ?_ | refine r_y (y_add64 rfl rfl (by omega)) rfl ?_ | refine r_y (y_sub64 rfl rfl (by omega)) rfl ?_ | refine g_true rfl ?_ | refine g_false rfl ?_ | refine g_skip ?_ | refine g_block ?_ | refine e_block_normal ?_ | refine g_exit ?_ | refine e_block_exit ?_ | refine e_block_exit_ne rfl ?_ | refine e_then_exit ?_ | refine e_round_exit ?_))
        refine r_y (y_bytes_str rfl hb) rfl ?_
        (repeat (first | refine r_pure rfl rfl ?_ | refine g_seq ?_ | refine g_region ?_ | refine r_nil ?_ | refine e_then ?_ | refine r_go rfl rfl ?_ | refine r_pass rfl rfl rfl ?_ | refine r_passu rfl rfl rfl ?_ | refine r_y (y_fieldAddr rfl) rfl ?_ | refine r_y (y_fieldAddr' rfl) rfl ?_ | refine r_y (y_len rfl) rfl ?_ | refine r_y (y_lenStr rfl) rfl ?_ | refine r_y (y_ptr_nil rfl rfl) rfl ?_ | refine r_y (y_ptr_ne_nil rfl rfl) rfl ?_ | refine r_y (y_slice_nil rfl rfl) rfl ?_ | refine r_y (y_map_nil rfl rfl) rfl ?_ | refine r_y (y_add64 rfl rfl (by omega)) rfl ?_ | refine r_y (y_sub64 rfl rfl (by omega)) rfl ?_ | refine g_true rfl ?_ | refine g_false rfl ?_ | refine g_skip ?_ | refine g_block ?_ | refine e_block_normal ?_ | refine g_exit ?_ | refine e_block_exit ?_ | refine e_block_exit_ne rfl ?_ | refine e_then_exit ?_ | refine e_round_exit ?_))
        refine r_partd rfl rfl (fun h5 => ?_) (fun h5 => absurd rfl h5)
        (repeat (first | refine r_pure rfl rfl ?_ | refine g_seq ?_ | refine g_region ?_ | refine r_nil ?_ | refine e_then ?_ | refine r_go rfl rfl ?_ | refine r_pass rfl rfl rfl ?_ | refine r_passu rfl rfl rfl ?_ | refine r_y (y_fieldAddr rfl) rfl ?_ | refine r_y (y_fieldAddr' rfl) rfl ?_ | refine r_y (y_len rfl) rfl ?_ | refine r_y (y_lenStr rfl) rfl ?_ | refine r_y (y_ptr_nil rfl rfl) rfl ?_ | refine r_y (y_ptr_ne_nil rfl rfl) rfl ?_ | refine r_y (y_slice_nil rfl rfl) rfl ?_ | refine r_y (y_map_nil rfl rfl) rfl ?_ | refine r_y (y_add64 rfl rfl (by omega)) rfl ?_ | refine r_y (y_sub64 rfl rfl (by omega)) rfl ?_ | refine g_true rfl ?_ | refine g_false rfl ?_ | refine g_skip ?_ | refine g_block ?_ | refine e_block_normal ?_ | refine g_exit ?_ | refine e_block_exit ?_ | refine e_block_exit_ne rfl ?_ | refine e_then_exit ?_ | refine e_round_exit ?_))
        refine r_call rfl rfl (end_ok s6.ok hR) ?_
        rintro r O7 w7 s7 ⟨rfl, rfl, rfl⟩
        (repeat (first | refine r_pure rfl rfl ?_ | refine g_seq ?_ | refine g_region ?_ | refine r_nil ?_ | refine e_then ?_ | refine r_go rfl rfl ?_ | refine r_pass rfl rfl rfl ?_ | refine r_passu rfl rfl rfl ?_ | refine r_y (y_fieldAddr rfl) rfl ?_ | refine r_y (y_fieldAddr' rfl) rfl ?_ | refine r_y (y_len rfl) rfl ?_ | refine r_y (y_lenStr rfl) rfl ?_ | refine r_y (y_ptr_nil rfl rfl) rfl ?_ | refine r_y (y_ptr_ne_nil rfl rfl) rfl ?_ | refine r_y (y_slice_nil rfl rfl) rfl ?_ | refine r_y (y_map_nil rfl rfl) rfl ?_ | refine r_y (y_add64 rfl rfl (by omega)) rfl ?_ | refine r_y (y_sub64 rfl rfl (by omega)) rfl ?_ | refine g_true rfl ?_ | refine g_false rfl ?_ | refine g_skip ?_ | refine g_block ?_ | refine e_block_normal ?_ | refine g_exit ?_ | refine e_block_exit ?_ | refine e_block_exit_ne rfl ?_ | refine e_then_exit ?_ | refine e_round_exit ?_))
        refine g_ret ?_; (repeat (first | refine e_then_ret ?_ | refine e_block_ret ?_ | refine e_round_ret ?_)); refine ret1 (.inl rfl) rfl rfl ?_
        exact ⟨_, _, rfl, s06, rfl⟩

end

theorem XdrPads_true {w : World} {v0 v1 v2 : Value} (r0 : Reads Try.prog w 22 [v0]) (r1 : Reads Try.prog w 5 [v1]) (r2 : Reads Try.prog w 5 [v2]) :
    FnC Try.prog 3 [v0, v1, v2] [] [] w fun r O' w' => r = .bool true := by
  obtain ⟨b, hb, _⟩ := reads_bytes r0
  obtain ⟨x, hx⟩ := reads_u8 r1
  obtain ⟨y, hy⟩ := reads_u8 r2
  injection hx with hx
  injection hy with hy
  subst hx hy
  exact XdrPads_ok hb
end Go.Proofs.Ytejkpngghbcbbaa
