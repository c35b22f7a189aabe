/- XdrBig and XdrOne answer true. -/
import Derived.Test.YtejkpngghbcbbaaXdrLaw
namespace Go.Proofs.Ytejkpngghbcbbaa
open Gk Go
set_option linter.unusedVariables false
attribute [local irreducible] Gk.E Gk.G Gk.R Gk.RD Gk.Y Gk.Ent Gk.Sat Gk.Round Gk.After Gk.Cell Gk.Sl Gk.SlA Gk.CB Gk.OK Gk.FnC Gk.FBytes Gk.Bytes Gk.BytesL Gk.StrL Gk.Buf Gk.MapI

section
variable {w : World}

set_option maxHeartbeats 4000000 in
theorem XdrBig_ok {vb vm : Value} {b more : List UInt8} {most : Nat} (hmost : most < 65536) (hb : Bytes [] w vb b) (hm : Bytes [] w vm more) :
    FnC Try.prog 4 [vb, .int .u16 most, vm] [] [] w fun r O' w' => r = .bool true := by
  have hO : OK [] w := OK_nil
  obtain ⟨ba, bc, rfl, _⟩ := hb.form
  obtain ⟨ma, mc, rfl, _⟩ := hm.form
  refine fn_of _ Try.func4 rfl (by kernel_rfl) Try.ntmps4 rfl ?_
  (repeat (first | refine r_pure rfl rfl ?_ | refine g_seq ?_ | refine g_region ?_ | refine r_nil ?_ | refine e_then ?_ | refine r_go rfl rfl ?_ | refine r_pass rfl rfl rfl ?_ | refine r_passu rfl rfl rfl ?_ | refine r_y (y_fieldAddr rfl) rfl ?_ | refine r_y (y_fieldAddr' rfl) rfl ?_ | refine r_y (y_len rfl) rfl ?_ | refine r_y (y_lenStr rfl) rfl ?_ | refine r_y (y_ptr_nil rfl rfl) rfl ?_ | refine r_y (y_ptr_ne_nil rfl rfl) rfl ?_ | refine r_y (y_slice_nil rfl rfl) rfl ?_ | refine r_y (y_map_nil rfl rfl) rfl ?_ | refine r_y (y_add64 rfl rfl (by omega)) rfl ?_ | refine r_y (y_sub64 rfl rfl (by omega)) rfl ?_ | refine g_true rfl ?_ | refine g_false rfl ?_ | refine g_skip ?_ | refine g_block ?_ | refine e_block_normal ?_ | refine g_exit ?_ | refine e_block_exit ?_ | refine e_block_exit_ne rfl ?_ | refine e_then_exit ?_ | refine e_round_exit ?_))
  refine r_call rfl rfl (awake01_ok hO) ?_
  rintro r O0 w0 s0 ⟨rfl, rfl⟩
  (repeat (first | refine r_pure rfl rfl ?_ | refine g_seq ?_ | refine g_region ?_ | refine r_nil ?_ | refine e_then ?_ | refine r_go rfl rfl ?_ | refine r_pass rfl rfl rfl ?_ | refine r_passu rfl rfl rfl ?_ | refine r_y (y_fieldAddr rfl) rfl ?_ | refine r_y (y_fieldAddr' rfl) rfl ?_ | refine r_y (y_len rfl) rfl ?_ | refine r_y (y_lenStr rfl) rfl ?_ | refine r_y (y_ptr_nil rfl rfl) rfl ?_ | refine r_y (y_ptr_ne_nil rfl rfl) rfl ?_ | refine r_y (y_slice_nil rfl rfl) rfl ?_ | refine r_y (y_map_nil rfl rfl) rfl ?_ | refine r_y (y_add64 rfl rfl (by omega)) rfl ?_ | refine r_y (y_sub64 rfl rfl (by omega)) rfl ?_ | refine g_true rfl ?_ | refine g_false rfl ?_ | refine g_skip ?_ | refine g_block ?_ | refine e_block_normal ?_ | refine g_exit ?_ | refine e_block_exit ?_ | refine e_block_exit_ne rfl ?_ | refine e_then_exit ?_ | refine e_round_exit ?_))
  refine r_partd rfl rfl (fun h1 => ?_) (fun h1 => ?_)
  · (repeat (first | refine r_pure rfl rfl ?_ | refine g_seq ?_ | refine g_region ?_ | refine r_nil ?_ | refine e_then ?_ | refine r_go rfl rfl ?_ | refine r_pass rfl rfl rfl ?_ | refine r_passu rfl rfl rfl ?_ | refine r_y (y_fieldAddr rfl) rfl ?_ | refine r_y (y_fieldAddr' rfl) rfl ?_ | refine r_y (y_len rfl) rfl ?_ | refine r_y (y_lenStr rfl) rfl ?_ | refine r_y (y_ptr_nil rfl rfl) rfl ?_ | refine r_y (y_ptr_ne_nil rfl rfl) rfl ?_ | refine r_y (y_slice_nil rfl rfl) rfl ?_ | refine r_y (y_map_nil rfl rfl) rfl ?_ | refine r_y (y_add64 rfl rfl (by omega)) rfl ?_ | refine r_y (y_sub64 rfl rfl (by omega)) rfl ?_ | refine g_true rfl ?_ | refine g_false rfl ?_ | refine g_skip ?_ | refine g_block ?_ | refine e_block_normal ?_ | refine g_exit ?_ | refine e_block_exit ?_ | refine e_block_exit_ne rfl ?_ | refine e_then_exit ?_ | refine e_round_exit ?_))
    refine g_ret ?_; (repeat (first | refine e_then_ret ?_ | refine e_block_ret ?_ | refine e_round_ret ?_)); refine ret1 (.inl rfl) rfl rfl ?_
    exact ⟨_, _, rfl, s0, rfl⟩
  (repeat (first | refine r_pure rfl rfl ?_ | refine g_seq ?_ | refine g_region ?_ | refine r_nil ?_ | refine e_then ?_ | refine r_go rfl rfl ?_ | refine r_pass rfl rfl rfl ?_ | refine r_passu rfl rfl rfl ?_ | refine r_y (y_fieldAddr rfl) rfl ?_ | refine r_y (y_fieldAddr' rfl) rfl ?_ | refine r_y (y_len rfl) rfl ?_ | refine r_y (y_lenStr rfl) rfl ?_ | refine r_y (y_ptr_nil rfl rfl) rfl ?_ | refine r_y (y_ptr_ne_nil rfl rfl) rfl ?_ | refine r_y (y_slice_nil rfl rfl) rfl ?_ | refine r_y (y_map_nil rfl rfl) rfl ?_ | refine r_y (y_add64 rfl rfl (by omega)) rfl ?_ | refine r_y (y_sub64 rfl rfl (by omega)) rfl ?_ | refine g_true rfl ?_ | refine g_false rfl ?_ | refine g_skip ?_ | refine g_block ?_ | refine e_block_normal ?_ | refine g_exit ?_ | refine e_block_exit ?_ | refine e_block_exit_ne rfl ?_ | refine e_then_exit ?_ | refine e_round_exit ?_))
  refine g_dec rfl (fun h2 => ?_) (fun h2 => ?_)
  · (repeat (first | refine r_pure rfl rfl ?_ | refine g_seq ?_ | refine g_region ?_ | refine r_nil ?_ | refine e_then ?_ | refine r_go rfl rfl ?_ | refine r_pass rfl rfl rfl ?_ | refine r_passu rfl rfl rfl ?_ | refine r_y (y_fieldAddr rfl) rfl ?_ | refine r_y (y_fieldAddr' rfl) rfl ?_ | refine r_y (y_len rfl) rfl ?_ | refine r_y (y_lenStr rfl) rfl ?_ | refine r_y (y_ptr_nil rfl rfl) rfl ?_ | refine r_y (y_ptr_ne_nil rfl rfl) rfl ?_ | refine r_y (y_slice_nil rfl rfl) rfl ?_ | refine r_y (y_map_nil rfl rfl) rfl ?_ | refine r_y (y_add64 rfl rfl (by omega)) rfl ?_ | refine r_y (y_sub64 rfl rfl (by omega)) rfl ?_ | refine g_true rfl ?_ | refine g_false rfl ?_ | refine g_skip ?_ | refine g_block ?_ | refine e_block_normal ?_ | refine g_exit ?_ | refine e_block_exit ?_ | refine e_block_exit_ne rfl ?_ | refine e_then_exit ?_ | refine e_round_exit ?_))
    refine g_ret ?_; (repeat (first | refine e_then_ret ?_ | refine e_block_ret ?_ | refine e_round_ret ?_)); refine ret1 (.inl rfl) rfl rfl ?_
    exact ⟨_, _, rfl, s0, rfl⟩
  have hbl : b.length ≤ 200 := by omega
  have hml : more.length ≤ 20 := by omega
  have hb := hb.step s0
  have hm := hm.step s0
  (repeat (first | refine r_pure rfl rfl ?_ | refine g_seq ?_ | refine g_region ?_ | refine r_nil ?_ | refine e_then ?_ | refine r_go rfl rfl ?_ | refine r_pass rfl rfl rfl ?_ | refine r_passu rfl rfl rfl ?_ | refine r_y (y_fieldAddr rfl) rfl ?_ | refine r_y (y_fieldAddr' rfl) rfl ?_ | refine r_y (y_len rfl) rfl ?_ | refine r_y (y_lenStr rfl) rfl ?_ | refine r_y (y_ptr_nil rfl rfl) rfl ?_ | refine r_y (y_ptr_ne_nil rfl rfl) rfl ?_ | refine r_y (y_slice_nil rfl rfl) rfl ?_ | refine r_y (y_map_nil rfl rfl) rfl ?_ | refine r_y (y_add64 rfl rfl (by omega)) rfl ?_ | refine r_y (y_sub64 rfl rfl (by omega)) rfl ?_ | refine g_true rfl ?_ | refine g_false rfl ?_ | refine g_skip ?_ | refine g_block ?_ | refine e_block_normal ?_ | refine g_exit ?_ | refine e_block_exit ?_ | refine e_block_exit_ne rfl ?_ | refine e_then_exit ?_ | refine e_round_exit ?_))
  refine r_call rfl rfl (newWriter_ok s0.ok) ?_
  rintro r O1 w1 s1 ⟨p, rfl, rfl, hp, hW⟩
  have f := wr_new hp hW
  have z1 := s1.size
  have z0 := s0.size
  have s01 := s0.trans0 s1
  have hb := hb.step s1
  have hm := hm.step s1
  (repeat (first | refine r_pure rfl rfl ?_ | refine g_seq ?_ | refine g_region ?_ | refine r_nil ?_ | refine e_then ?_ | refine r_go rfl rfl ?_ | refine r_pass rfl rfl rfl ?_ | refine r_passu rfl rfl rfl ?_ | refine r_y (y_fieldAddr rfl) rfl ?_ | refine r_y (y_fieldAddr' rfl) rfl ?_ | refine r_y (y_len rfl) rfl ?_ | refine r_y (y_lenStr rfl) rfl ?_ | refine r_y (y_ptr_nil rfl rfl) rfl ?_ | refine r_y (y_ptr_ne_nil rfl rfl) rfl ?_ | refine r_y (y_slice_nil rfl rfl) rfl ?_ | refine r_y (y_map_nil rfl rfl) rfl ?_ | refine r_y (y_add64 rfl rfl (by omega)) rfl ?_ | refine r_y (y_sub64 rfl rfl (by omega)) rfl ?_ | refine g_true rfl ?_ | refine g_false rfl ?_ | refine g_skip ?_ | refine g_block ?_ | refine e_block_normal ?_ | refine g_exit ?_ | refine e_block_exit ?_ | refine e_block_exit_ne rfl ?_ | refine e_then_exit ?_ | refine e_round_exit ?_))
  refine r_call rfl rfl (wopaque_ok s1.ok hW hb (by simp) (by omega)) ?_
  rintro r O2 w2 s2 k2
  obtain ⟨rfl, s02, v2, hW, f⟩ := wr_next s01 (by omega) (by omega) f s2 k2
  have hb := hb.step s2
  have hm := hm.step s2
  have z2 := s2.size
  rw [List.nil_append] at hW
  have hol := opaqueB_length b
  have hol2 := opaqueB_length more
  have hfl := fillN_lt b.length
  have hfl2 := fillN_lt more.length
  (repeat (first | refine r_pure rfl rfl ?_ | refine g_seq ?_ | refine g_region ?_ | refine r_nil ?_ | refine e_then ?_ | refine r_go rfl rfl ?_ | refine r_pass rfl rfl rfl ?_ | refine r_passu rfl rfl rfl ?_ | refine r_y (y_fieldAddr rfl) rfl ?_ | refine r_y (y_fieldAddr' rfl) rfl ?_ | refine r_y (y_len rfl) rfl ?_ | refine r_y (y_lenStr rfl) rfl ?_ | refine r_y (y_ptr_nil rfl rfl) rfl ?_ | refine r_y (y_ptr_ne_nil rfl rfl) rfl ?_ | refine r_y (y_slice_nil rfl rfl) rfl ?_ | refine r_y (y_map_nil rfl rfl) rfl ?_ | refine r_y (y_add64 rfl rfl (by omega)) rfl ?_ | refine r_y (y_sub64 rfl rfl (by omega)) rfl ?_ | refine g_true rfl ?_ | refine g_false rfl ?_ | refine g_skip ?_ | refine g_block ?_ | refine e_block_normal ?_ | refine g_exit ?_ | refine e_block_exit ?_ | refine e_block_exit_ne rfl ?_ | refine e_then_exit ?_ | refine e_round_exit ?_))
  refine r_call rfl rfl (wopaque_ok s2.ok hW hm (by omega) (by omega)) ?_
  rintro r O3 w3 s3 k3
  obtain ⟨rfl, s03, v3, hW, f⟩ := wr_next s02 (by omega) (by omega) f s3 k3
  have hb := hb.step s3
  have hm := hm.step s3
  (repeat (first | refine r_pure rfl rfl ?_ | refine g_seq ?_ | refine g_region ?_ | refine r_nil ?_ | refine e_then ?_ | refine r_go rfl rfl ?_ | refine r_pass rfl rfl rfl ?_ | refine r_passu rfl rfl rfl ?_ | refine r_y (y_fieldAddr rfl) rfl ?_ | refine r_y (y_fieldAddr' rfl) rfl ?_ | refine r_y (y_len rfl) rfl ?_ | refine r_y (y_lenStr rfl) rfl ?_ | refine r_y (y_ptr_nil rfl rfl) rfl ?_ | refine r_y (y_ptr_ne_nil rfl rfl) rfl ?_ | refine r_y (y_slice_nil rfl rfl) rfl ?_ | refine r_y (y_map_nil rfl rfl) rfl ?_ | refine r_y (y_add64 rfl rfl (by omega)) rfl ?_ | refine r_y (y_sub64 rfl rfl (by omega)) rfl ?_ | refine g_true rfl ?_ | refine g_false rfl ?_ | refine g_skip ?_ | refine g_block ?_ | refine e_block_normal ?_ | refine g_exit ?_ | refine e_block_exit ?_ | refine e_block_exit_ne rfl ?_ | refine e_then_exit ?_ | refine e_round_exit ?_))
  refine r_call rfl rfl (out_ok s3.ok hW (by simp; omega)) ?_
  rintro c O4 w4 s4 ⟨rfl, hc4⟩
  have s04 := s03.trans0 s4
  have hb := hb.step s4
  have hm := hm.step s4
  have z4 := s04.size
  have hc : Bytes O3 w4 c (opaqueB b ++ opaqueB more) := Sl.bytes (hc4.sl (fun q hq => fresh_nin s3.ok hq))
  (repeat (first | refine r_pure rfl rfl ?_ | refine g_seq ?_ | refine g_region ?_ | refine r_nil ?_ | refine e_then ?_ | refine r_go rfl rfl ?_ | refine r_pass rfl rfl rfl ?_ | refine r_passu rfl rfl rfl ?_ | refine r_y (y_fieldAddr rfl) rfl ?_ | refine r_y (y_fieldAddr' rfl) rfl ?_ | refine r_y (y_len rfl) rfl ?_ | refine r_y (y_lenStr rfl) rfl ?_ | refine r_y (y_ptr_nil rfl rfl) rfl ?_ | refine r_y (y_ptr_ne_nil rfl rfl) rfl ?_ | refine r_y (y_slice_nil rfl rfl) rfl ?_ | refine r_y (y_map_nil rfl rfl) rfl ?_ | refine r_y (y_add64 rfl rfl (by omega)) rfl ?_ | refine r_y (y_sub64 rfl rfl (by omega)) rfl ?_ | refine g_true rfl ?_ | refine g_false rfl ?_ | refine g_skip ?_ | refine g_block ?_ | refine e_block_normal ?_ | refine g_exit ?_ | refine e_block_exit ?_ | refine e_block_exit_ne rfl ?_ | refine e_then_exit ?_ | refine e_round_exit ?_))
  refine r_call rfl rfl (newReader_ok s4.ok hc (by simp; omega)) ?_
  rintro r O5 w5 s5 ⟨pr, rfl, rfl, hpr, hR⟩
  have hb := hb.step s5
  have hm := hm.step s5
  have s05 := s04.trans0 s5
  (repeat (first | refine r_pure rfl rfl ?_ | refine g_seq ?_ | refine g_region ?_ | refine r_nil ?_ | refine e_then ?_ | refine r_go rfl rfl ?_ | refine r_pass rfl rfl rfl ?_ | refine r_passu rfl rfl rfl ?_ | refine r_y (y_fieldAddr rfl) rfl ?_ | refine r_y (y_fieldAddr' rfl) rfl ?_ | refine r_y (y_len rfl) rfl ?_ | refine r_y (y_lenStr rfl) rfl ?_ | refine r_y (y_ptr_nil rfl rfl) rfl ?_ | refine r_y (y_ptr_ne_nil rfl rfl) rfl ?_ | refine r_y (y_slice_nil rfl rfl) rfl ?_ | refine r_y (y_map_nil rfl rfl) rfl ?_ | refine r_y (y_add64 rfl rfl (by omega)) rfl ?_ | refine r_y (y_sub64 rfl rfl (by omega)) rfl ?_ | refine g_true rfl ?_ | refine g_false rfl ?_ | refine g_skip ?_ | refine g_block ?_ | refine e_block_normal ?_ | refine g_exit ?_ | refine e_block_exit ?_ | refine e_block_exit_ne rfl ?_ | refine e_then_exit ?_ | refine e_round_exit ?_))
  refine r_y (y_convN (k := .i64) rfl (by simp only [lim]; omega)) rfl ?_
  refine r_call rfl rfl (ropaque_ok s5.ok hR (most := (most : Int)) (by omega)) ?_
  rintro d O6 w6 s6 ⟨rfl, hd, hR⟩
  have hb := hb.step s6
  have hm := hm.step s6
  have s06 := s05.trans s6 (fun b hb => .inr (by simp at hb; omega))
  by_cases e : b.length ≤ most
  · rw [rdOpaque_put (by omega) (by omega)] at hd hR
    dsimp only at hd hR
    have hd : Bytes (pr :: O3) w6 d b := Sl.bytes (hd.sl (fun q hq => fresh_nin s5.ok hq))
    obtain ⟨da, dc, rfl, _⟩ := hd.form
    (repeat (first | refine r_pure rfl rfl ?_ | refine g_seq ?_ | refine g_region ?_ | refine r_nil ?_ | refine e_then ?_ | refine r_go rfl rfl ?_ | refine r_pass rfl rfl rfl ?_ | refine r_passu rfl rfl rfl ?_ | refine r_y (y_fieldAddr rfl) rfl ?_ | refine r_y (y_fieldAddr' rfl) rfl ?_ | refine r_y (y_len rfl) rfl ?_ | refine r_y (y_lenStr rfl) rfl ?_ | refine r_y (y_ptr_nil rfl rfl) rfl ?_ | refine r_y (y_ptr_ne_nil rfl rfl) rfl ?_ | refine r_y (y_slice_nil rfl rfl) rfl ?_ | refine r_y (y_map_nil rfl rfl) rfl ?_ | refine r_y (y_add64 rfl rfl (by omega)) rfl ?_ | refine r_y (y_sub64 rfl rfl (by omega)) rfl ?_ | refine g_true rfl ?_ | refine g_false rfl ?_ | refine g_skip ?_ | refine g_block ?_ | refine e_block_normal ?_ | refine g_exit ?_ | refine e_block_exit ?_ | refine e_block_exit_ne rfl ?_ | refine e_then_exit ?_ | refine e_round_exit ?_))
    refine r_y (y_convN (k := .i64) rfl (by simp only [lim]; omega)) rfl ?_
    (repeat (first | refine r_pure rfl rfl ?_ | refine g_seq ?_ | refine g_region ?_ | refine r_nil ?_ | refine e_then ?_ | refine r_go rfl rfl ?_ | refine r_pass rfl rfl rfl ?_ | refine r_passu rfl rfl rfl ?_ | refine r_y (y_fieldAddr rfl) rfl ?_ | refine r_y (y_fieldAddr' rfl) rfl ?_ | refine r_y (y_len rfl) rfl ?_ | refine r_y (y_lenStr rfl) rfl ?_ | refine r_y (y_ptr_nil rfl rfl) rfl ?_ | refine r_y (y_ptr_ne_nil rfl rfl) rfl ?_ | refine r_y (y_slice_nil rfl rfl) rfl ?_ | refine r_y (y_map_nil rfl rfl) rfl ?_ | refine r_y (y_add64 rfl rfl (by omega)) rfl ?_ | refine r_y (y_sub64 rfl rfl (by omega)) rfl ?_ | refine g_true rfl ?_ | refine g_false rfl ?_ | refine g_skip ?_ | refine g_block ?_ | refine e_block_normal ?_ | refine g_exit ?_ | refine e_block_exit ?_ | refine e_block_exit_ne rfl ?_ | refine e_then_exit ?_ | refine e_round_exit ?_))
    refine g_dec rfl (fun h3 => absurd h3 (by omega)) (fun h3 => ?_)
    (repeat (first | refine r_pure rfl rfl ?_ | refine g_seq ?_ | refine g_region ?_ | refine r_nil ?_ | refine e_then ?_ | refine r_go rfl rfl ?_ | refine r_pass rfl rfl rfl ?_ | refine r_passu rfl rfl rfl ?_ | refine r_y (y_fieldAddr rfl) rfl ?_ | refine r_y (y_fieldAddr' rfl) rfl ?_ | refine r_y (y_len rfl) rfl ?_ | refine r_y (y_lenStr rfl) rfl ?_ | refine r_y (y_ptr_nil rfl rfl) rfl ?_ | refine r_y (y_ptr_ne_nil rfl rfl) rfl ?_ | refine r_y (y_slice_nil rfl rfl) rfl ?_ | refine r_y (y_map_nil rfl rfl) rfl ?_ | refine r_y (y_add64 rfl rfl (by omega)) rfl ?_ | refine r_y (y_sub64 rfl rfl (by omega)) rfl ?_ | refine g_true rfl ?_ | refine g_false rfl ?_ | refine g_skip ?_ | refine g_block ?_ | refine e_block_normal ?_ | refine g_exit ?_ | refine e_block_exit ?_ | refine e_block_exit_ne rfl ?_ | refine e_then_exit ?_ | refine e_round_exit ?_))
    refine r_call rfl rfl (ropaque_ok s6.ok hR (most := 20) (by decide)) ?_
    rintro g O7 w7 s7 ⟨rfl, hg, hR⟩
    have hb := hb.step s7
    have hm := hm.step s7
    have hd := hd.step s7
    have s07 := s06.trans s7 (fun b hb => .inr (by simp at hb; omega))
    have e2 := rdOpaque_put (b := more) (rest := []) (most := 20) (by omega) (by omega)
    rw [List.append_nil] at e2
    rw [e2] at hg hR
    dsimp only at hg hR
    have hg : Bytes (pr :: O3) w7 g more := Sl.bytes (hg.sl (fun q hq => fresh_nin s6.ok hq))
    (repeat (first | refine r_pure rfl rfl ?_ | refine g_seq ?_ | refine g_region ?_ | refine r_nil ?_ | refine e_then ?_ | refine r_go rfl rfl ?_ | refine r_pass rfl rfl rfl ?_ | refine r_passu rfl rfl rfl ?_ | refine r_y (y_fieldAddr rfl) rfl ?_ | refine r_y (y_fieldAddr' rfl) rfl ?_ | refine r_y (y_len rfl) rfl ?_ | refine r_y (y_lenStr rfl) rfl ?_ | refine r_y (y_ptr_nil rfl rfl) rfl ?_ | refine r_y (y_ptr_ne_nil rfl rfl) rfl ?_ | refine r_y (y_slice_nil rfl rfl) rfl ?_ | refine r_y (y_map_nil rfl rfl) rfl ?_ | refine r_y (y_add64 rfl rfl (by omega)) rfl ?_ | refine r_y (y_sub64 rfl rfl (by omega)) rfl ?_ | refine g_true rfl ?_ | refine g_false rfl ?_ | refine g_skip ?_ | refine g_block ?_ | refine e_block_normal ?_ | refine g_exit ?_ | refine e_block_exit ?_ | refine e_block_exit_ne rfl ?_ | refine e_then_exit ?_ | refine e_round_exit ?_))
    refine r_y (y_bytes_str rfl hd) rfl ?_
    (repeat (first | refine r_pure rfl rfl ?_ | refine g_seq ?_ | refine g_region ?_ | refine r_nil ?_ | refine e_then ?_ | refine r_go rfl rfl ?_ | refine r_pass rfl rfl rfl ?_ | refine r_passu rfl rfl rfl ?_ | refine r_y (y_fieldAddr rfl) rfl ?_ | refine r_y (y_fieldAddr' rfl) rfl ?_ | refine r_y (y_len rfl) rfl ?_ | refine r_y (y_lenStr rfl) rfl ?_ | refine r_y (y_ptr_nil rfl rfl) rfl ?_ | refine r_y (y_ptr_ne_nil rfl rfl) rfl ?_ | refine r_y (y_slice_nil rfl rfl) rfl ?_ | refine r_y (y_map_nil rfl rfl) rfl ?_ | refine r_y (y_add64 rfl rfl (by omega)) rfl ?_ | refine r_y (y_sub64 rfl rfl (by omega)) rfl ?_ | refine g_true rfl ?_ | refine g_false rfl ?_ | refine g_skip ?_ | refine g_block ?_ | refine e_block_normal ?_ | refine g_exit ?_ | refine e_block_exit ?_ | refine e_block_exit_ne rfl ?_ | refine e_then_exit ?_ | refine e_round_exit ?_))
    refine r_y (y_bytes_str rfl hb) rfl ?_
    (repeat (first | refine r_pure rfl rfl ?_ | refine g_seq ?_ | refine g_region ?_ | refine r_nil ?_ | refine e_then ?_ | refine r_go rfl rfl ?_ | refine r_pass rfl rfl rfl ?_ | refine r_passu rfl rfl rfl ?_ | refine r_y (y_fieldAddr rfl) rfl ?_ | refine r_y (y_fieldAddr' rfl) rfl ?_ | refine r_y (y_len rfl) rfl ?_ | refine r_y (y_lenStr rfl) rfl ?_ | refine r_y (y_ptr_nil rfl rfl) rfl ?_ | refine r_y (y_ptr_ne_nil rfl rfl) rfl ?_ | refine r_y (y_slice_nil rfl rfl) rfl ?_ | refine r_y (y_map_nil rfl rfl) rfl ?_ | refine r_y (y_add64 rfl rfl (by omega)) rfl ?_ | refine r_y (y_sub64 rfl rfl (by omega)) rfl ?_ | refine g_true rfl ?_ | refine g_false rfl ?_ | refine g_skip ?_ | refine g_block ?_ | refine e_block_normal ?_ | refine g_exit ?_ | refine e_block_exit ?_ | refine e_block_exit_ne rfl ?_ | refine e_then_exit ?_ | refine e_round_exit ?_))
    refine r_partd rfl rfl (fun h5 => ?_) (fun h5 => absurd rfl h5)
    (repeat (first | refine r_pure rfl rfl ?_ | refine g_seq ?_ | refine g_region ?_ | refine r_nil ?_ | refine e_then ?_ | refine r_go rfl rfl ?_ | refine r_pass rfl rfl rfl ?_ | refine r_passu rfl rfl rfl ?_ | refine r_y (y_fieldAddr rfl) rfl ?_ | refine r_y (y_fieldAddr' rfl) rfl ?_ | refine r_y (y_len rfl) rfl ?_ | refine r_y (y_lenStr rfl) rfl ?_ | refine r_y (y_ptr_nil rfl rfl) rfl ?_ | refine r_y (y_ptr_ne_nil rfl rfl) rfl ?_ | refine r_y (y_slice_nil rfl rfl) rfl ?_ | refine r_y (y_map_nil rfl rfl) rfl ?_ | refine r_y (y_add64 rfl rfl (by omega)) rfl ?_ | refine r_y (y_sub64 rfl rfl (by omega)) rfl ?_ | refine g_true rfl ?_ | refine g_false rfl ?_ | refine g_skip ?_ | refine g_block ?_ | refine e_block_normal ?_ | refine g_exit ?_ | refine e_block_exit ?_ | refine e_block_exit_ne rfl ?_ | refine e_then_exit ?_ | refine e_round_exit ?_))
    refine r_y (y_bytes_str rfl hg) rfl ?_
    (repeat (first | refine r_pure rfl rfl ?_ | refine g_seq ?_ | refine g_region ?_ | refine r_nil ?_ | refine e_then ?_ | refine r_go rfl rfl ?_ | refine r_pass rfl rfl rfl ?_ | refine r_passu rfl rfl rfl ?_ | refine r_y (y_fieldAddr rfl) rfl ?_ | refine r_y (y_fieldAddr' rfl) rfl ?_ | refine r_y (y_len rfl) rfl ?_ | refine r_y (y_lenStr rfl) rfl ?_ | refine r_y (y_ptr_nil rfl rfl) rfl ?_ | refine r_y (y_ptr_ne_nil rfl rfl) rfl ?_ | refine r_y (y_slice_nil rfl rfl) rfl ?_ | refine r_y (y_map_nil rfl rfl) rfl ?_ | refine r_y (y_add64 rfl rfl (by omega)) rfl ?_ | refine r_y (y_sub64 rfl rfl (by omega)) rfl ?_ | refine g_true rfl ?_ | refine g_false rfl ?_ | refine g_skip ?_ | refine g_block ?_ | refine e_block_normal ?_ | refine g_exit ?_ | refine e_block_exit ?_ | refine e_block_exit_ne rfl ?_ | refine e_then_exit ?_ | refine e_round_exit ?_))
    refine r_y (y_bytes_str rfl hm) rfl ?_
    (repeat (first | refine r_pure rfl rfl ?_ | refine g_seq ?_ | refine g_region ?_ | refine r_nil ?_ | refine e_then ?_ | refine r_go rfl rfl ?_ | refine r_pass rfl rfl rfl ?_ | refine r_passu rfl rfl rfl ?_ | refine r_y (y_fieldAddr rfl) rfl ?_ | refine r_y (y_fieldAddr' rfl) rfl ?_ | refine r_y (y_len rfl) rfl ?_ | refine r_y (y_lenStr rfl) rfl ?_ | refine r_y (y_ptr_nil rfl rfl) rfl ?_ | refine r_y (y_ptr_ne_nil rfl rfl) rfl ?_ | refine r_y (y_slice_nil rfl rfl) rfl ?_ | refine r_y (y_map_nil rfl rfl) rfl ?_ | refine r_y (y_add64 rfl rfl (by omega)) rfl ?_ | refine r_y (y_sub64 rfl rfl (by omega)) rfl ?_ | refine g_true rfl ?_ | refine g_false rfl ?_ | refine g_skip ?_ | refine g_block ?_ | refine e_block_normal ?_ | refine g_exit ?_ | refine e_block_exit ?_ | refine e_block_exit_ne rfl ?_ | refine e_then_exit ?_ | refine e_round_exit ?_))
    refine r_partd rfl rfl (fun h5 => ?_) (fun h5 => absurd rfl h5)
    (repeat (first | refine r_pure rfl rfl ?_ | refine g_seq ?_ | refine g_region ?_ | refine r_nil ?_ | refine e_then ?_ | refine r_go rfl rfl ?_ | refine r_pass rfl rfl rfl ?_ | refine r_passu rfl rfl rfl ?_ | refine r_y (y_fieldAddr rfl) rfl ?_ | refine r_y (y_fieldAddr' rfl) rfl ?_ | refine r_y (y_len rfl) rfl ?_ | refine r_y (y_lenStr rfl) rfl ?_ | refine r_y (y_ptr_nil rfl rfl) rfl ?_ | refine r_y (y_ptr_ne_nil rfl rfl) rfl ?_ | refine r_y (y_slice_nil rfl rfl) rfl ?_ | refine r_y (y_map_nil rfl rfl) rfl ?_ | refine r_y (y_add64 rfl rfl (by omega)) rfl ?_ | refine r_y (y_sub64 rfl rfl (by omega)) rfl ?_ | refine g_true rfl ?_ | refine g_false rfl ?_ | refine g_skip ?_ | refine g_block ?_ | refine e_block_normal ?_ | refine g_exit ?_ | refine e_block_exit ?_ | refine e_block_exit_ne rfl ?_ | refine e_then_exit ?_ | refine e_round_exit ?_))
    refine r_call rfl rfl (end_ok s7.ok hR) ?_
    rintro r O8 w8 s8 ⟨rfl, rfl, rfl⟩
    (repeat (first | refine r_pure rfl rfl ?_ | refine g_seq ?_ | refine g_region ?_ | refine r_nil ?_ | refine e_then ?_ | refine r_go rfl rfl ?_ | refine r_pass rfl rfl rfl ?_ | refine r_passu rfl rfl rfl ?_ | refine r_y (y_fieldAddr rfl) rfl ?_ | refine r_y (y_fieldAddr' rfl) rfl ?_ | refine r_y (y_len rfl) rfl ?_ | refine r_y (y_lenStr rfl) rfl ?_ | refine r_y (y_ptr_nil rfl rfl) rfl ?_ | refine r_y (y_ptr_ne_nil rfl rfl) rfl ?_ | refine r_y (y_slice_nil rfl rfl) rfl ?_ | refine r_y (y_map_nil rfl rfl) rfl ?_ | refine r_y (y_add64 rfl rfl (by omega)) rfl ?_ | refine r_y (y_sub64 rfl rfl (by omega)) rfl ?_ | refine g_true rfl ?_ | refine g_false rfl ?_ | refine g_skip ?_ | refine g_block ?_ | refine e_block_normal ?_ | refine g_exit ?_ | refine e_block_exit ?_ | refine e_block_exit_ne rfl ?_ | refine e_then_exit ?_ | refine e_round_exit ?_))
    refine g_ret ?_; (repeat (first | refine e_then_ret ?_ | refine e_block_ret ?_ | refine e_round_ret ?_)); refine ret1 (.inl rfl) rfl rfl ?_
    exact ⟨_, _, rfl, s07, rfl⟩
  · rw [rdOpaque_big (by omega) (by omega)] at hd hR
    dsimp only at hd hR
    have hd : Bytes (pr :: O3) w6 d [] := Sl.bytes (hd.sl (fun q hq => fresh_nin s5.ok hq))
    obtain ⟨da, dc, rfl, _⟩ := hd.form
    (repeat (first | refine r_pure rfl rfl ?_ | refine g_seq ?_ | refine g_region ?_ | refine r_nil ?_ | refine e_then ?_ | refine r_go rfl rfl ?_ | refine r_pass rfl rfl rfl ?_ | refine r_passu rfl rfl rfl ?_ | refine r_y (y_fieldAddr rfl) rfl ?_ | refine r_y (y_fieldAddr' rfl) rfl ?_ | refine r_y (y_len rfl) rfl ?_ | refine r_y (y_lenStr rfl) rfl ?_ | refine r_y (y_ptr_nil rfl rfl) rfl ?_ | refine r_y (y_ptr_ne_nil rfl rfl) rfl ?_ | refine r_y (y_slice_nil rfl rfl) rfl ?_ | refine r_y (y_map_nil rfl rfl) rfl ?_ | refine r_y (y_add64 rfl rfl (by omega)) rfl ?_ | refine r_y (y_sub64 rfl rfl (by omega)) rfl ?_ | refine g_true rfl ?_ | refine g_false rfl ?_ | refine g_skip ?_ | refine g_block ?_ | refine e_block_normal ?_ | refine g_exit ?_ | refine e_block_exit ?_ | refine e_block_exit_ne rfl ?_ | refine e_then_exit ?_ | refine e_round_exit ?_))
    refine r_y (y_convN (k := .i64) rfl (by simp only [lim]; omega)) rfl ?_
    (repeat (first | refine r_pure rfl rfl ?_ | refine g_seq ?_ | refine g_region ?_ | refine r_nil ?_ | refine e_then ?_ | refine r_go rfl rfl ?_ | refine r_pass rfl rfl rfl ?_ | refine r_passu rfl rfl rfl ?_ | refine r_y (y_fieldAddr rfl) rfl ?_ | refine r_y (y_fieldAddr' rfl) rfl ?_ | refine r_y (y_len rfl) rfl ?_ | refine r_y (y_lenStr rfl) rfl ?_ | refine r_y (y_ptr_nil rfl rfl) rfl ?_ | refine r_y (y_ptr_ne_nil rfl rfl) rfl ?_ | refine r_y (y_slice_nil rfl rfl) rfl ?_ | refine r_y (y_map_nil rfl rfl) rfl ?_ | refine r_y (y_add64 rfl rfl (by omega)) rfl ?_ | refine r_y (y_sub64 rfl rfl (by omega)) rfl ?_ | refine g_true rfl ?_ | refine g_false rfl ?_ | refine g_skip ?_ | refine g_block ?_ | refine e_block_normal ?_ | refine g_exit ?_ | refine e_block_exit ?_ | refine e_block_exit_ne rfl ?_ | refine e_then_exit ?_ | refine e_round_exit ?_))
    refine g_dec rfl (fun h3 => ?_) (fun h3 => absurd h3 (by omega))
    (repeat (first | refine r_pure rfl rfl ?_ | refine g_seq ?_ | refine g_region ?_ | refine r_nil ?_ | refine e_then ?_ | refine r_go rfl rfl ?_ | refine r_pass rfl rfl rfl ?_ | refine r_passu rfl rfl rfl ?_ | refine r_y (y_fieldAddr rfl) rfl ?_ | refine r_y (y_fieldAddr' rfl) rfl ?_ | refine r_y (y_len rfl) rfl ?_ | refine r_y (y_lenStr rfl) rfl ?_ | refine r_y (y_ptr_nil rfl rfl) rfl ?_ | refine r_y (y_ptr_ne_nil rfl rfl) rfl ?_ | refine r_y (y_slice_nil rfl rfl) rfl ?_ | refine r_y (y_map_nil rfl rfl) rfl ?_ | refine r_y (y_add64 rfl rfl (by omega)) rfl ?_ | refine r_y (y_sub64 rfl rfl (by omega)) rfl ?_ | refine g_true rfl ?_ | refine g_false rfl ?_ | refine g_skip ?_ | refine g_block ?_ | refine e_block_normal ?_ | refine g_exit ?_ | refine e_block_exit ?_ | refine e_block_exit_ne rfl ?_ | refine e_then_exit ?_ | refine e_round_exit ?_))
    refine r_call rfl rfl (err_ok s6.ok hR) ?_
    rintro r O8 w8 s8 ⟨rfl, rfl, rfl⟩
    (repeat (first | refine r_pure rfl rfl ?_ | refine g_seq ?_ | refine g_region ?_ | refine r_nil ?_ | refine e_then ?_ | refine r_go rfl rfl ?_ | refine r_pass rfl rfl rfl ?_ | refine r_passu rfl rfl rfl ?_ | refine r_y (y_fieldAddr rfl) rfl ?_ | refine r_y (y_fieldAddr' rfl) rfl ?_ | refine r_y (y_len rfl) rfl ?_ | refine r_y (y_lenStr rfl) rfl ?_ | refine r_y (y_ptr_nil rfl rfl) rfl ?_ | refine r_y (y_ptr_ne_nil rfl rfl) rfl ?_ | refine r_y (y_slice_nil rfl rfl) rfl ?_ | refine r_y (y_map_nil rfl rfl) rfl ?_ | refine r_y (y_add64 rfl rfl (by omega)) rfl ?_ | refine r_y (y_sub64 rfl rfl (by omega)) rfl ?_ | refine g_true rfl ?_ | refine g_false rfl ?_ | refine g_skip ?_ | refine g_block ?_ | refine e_block_normal ?_ | refine g_exit ?_ | refine e_block_exit ?_ | refine e_block_exit_ne rfl ?_ | refine e_then_exit ?_ | refine e_round_exit ?_))
    refine r_call rfl rfl (ropaque_ok s6.ok hR (most := 1000) (by decide)) ?_
    rintro g O7 w7 s7 ⟨rfl, hg, hR⟩
    rw [rdOpaque_err _ _ (by decide)] at hg hR
    obtain ⟨ga, gc, rfl, _⟩ := hg.form
    have s07 := s06.trans s7 (fun b hb => .inr (by simp at hb; omega))
    (repeat (first | refine r_pure rfl rfl ?_ | refine g_seq ?_ | refine g_region ?_ | refine r_nil ?_ | refine e_then ?_ | refine r_go rfl rfl ?_ | refine r_pass rfl rfl rfl ?_ | refine r_passu rfl rfl rfl ?_ | refine r_y (y_fieldAddr rfl) rfl ?_ | refine r_y (y_fieldAddr' rfl) rfl ?_ | refine r_y (y_len rfl) rfl ?_ | refine r_y (y_lenStr rfl) rfl ?_ | refine r_y (y_ptr_nil rfl rfl) rfl ?_ | refine r_y (y_ptr_ne_nil rfl rfl) rfl ?_ | refine r_y (y_slice_nil rfl rfl) rfl ?_ | refine r_y (y_map_nil rfl rfl) rfl ?_ | refine r_y (y_add64 rfl rfl (by omega)) rfl ?_ | refine r_y (y_sub64 rfl rfl (by omega)) rfl ?_ | refine g_true rfl ?_ | refine g_false rfl ?_ | refine g_skip ?_ | refine g_block ?_ | refine e_block_normal ?_ | refine g_exit ?_ | refine e_block_exit ?_ | refine e_block_exit_ne rfl ?_ | refine e_then_exit ?_ | refine e_round_exit ?_))
    refine g_ret ?_; (repeat (first | refine e_then_ret ?_ | refine e_block_ret ?_ | refine e_round_ret ?_)); refine ret1 (.inl rfl) rfl rfl ?_
    exact ⟨_, _, rfl, s07, rfl⟩

end

theorem XdrBig_true {w : World} {v0 v1 v2 : Value} (r0 : Reads Try.prog w 22 [v0]) (r1 : Reads Try.prog w 34 [v1]) (r2 : Reads Try.prog w 22 [v2]) :
    FnC Try.prog 4 [v0, v1, v2] [] [] w fun r O' w' => r = .bool true := by
  obtain ⟨b, hb, _⟩ := reads_bytes r0
  obtain ⟨x, hx, hl⟩ := reads_nat (k := .u16) rfl r1
  obtain ⟨c, hc, _⟩ := reads_bytes r2
  injection hx with hx
  subst hx
  exact XdrBig_ok hl hb hc
end Go.Proofs.Ytejkpngghbcbbaa
