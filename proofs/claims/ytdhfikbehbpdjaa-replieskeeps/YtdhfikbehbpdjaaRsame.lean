/- Replies as the reference has them: turned, and compared. -/
import Derived.Test.YtdhfikbehbpdjaaRef14
namespace Go.Proofs.Ytdhfikbehbpdjaa
open Gk Go
set_option linter.unusedVariables false
set_option maxHeartbeats 4000000
set_option maxRecDepth 4000
set_option linter.unusedSimpArgs false
attribute [local irreducible] Int.decLt Int.decLe Int.decEq Int.instDecidableEq Gk.Rnds Gk.E Gk.G Gk.R Gk.RD Gk.RX Gk.RO Gk.Y Gk.Ent Gk.Sat Gk.Round Gk.After Gk.Cell Gk.Sl Gk.SlA Gk.CB Gk.OK Gk.FnC Gk.Bytes Gk.BytesL Gk.StrL Gk.Buf Gk.MapI
attribute [local irreducible] be
theorem y_loadRowAt {P : Program} {ρ : Env} {w w0 : World} {M O0 : List Nat} {L : List KT} {Φ Φ' : List Fact} {T m : Nat} [TAgg P T m] {x : Operand} {p : Addr} {j : Nat} {cs vs : List Value} (hx : evo ρ x = some (.pointer (some (p.add j)))) (F : FS M O0 w0 L Φ w) (hs : Sel Φ (Fact.row p cs) Φ') (hj : (cs.drop j).take m = vs) (hm : vs.length = m) : Y P ρ w (.load T x) (.agg vs.toArray) := by
  obtain ⟨O, F⟩ := F
  refine y_loadAgg hx hm (fun i v hi => ?_)
  have h := F.fa _ hs.mem (j + i) v (by
    rw [← hj, List.getElem?_take] at hi
    split at hi
    · rw [List.getElem?_drop] at hi; exact hi
    · cases hi)
  rw [Addr.add_add]
  have h2 := cell_at h
  rwa [Int.toNat_natCast, Nat.mul_one] at h2
theorem replyOf_c {r : Rp} {dv ev : Value} (h : r.ents.length ≤ 1000000) : Con Try.prog 10 [repV r dv ev] [] [] [Fact.bytes dv r.data, Fact.rel 4 EnR ev r.ents] fun u T Φ => ∃ ev', ((∃ a c, ev' = .slice a r.ents.length c) ∧ (r.ents = [] → ev' = nilV)) ∧ u = rrV r ev' ∧ T = [] ∧ Φ = [Fact.rel 4 EnR ev' r.ents] := by
  refine con_of (fun O0 w0 F => ?_)
  refine tidy F (fun F => ?_)
  refine fn_of _ Try.func10 rfl (by kernel_rfl) Try.ntmps10 rfl ?_
  obtain ⟨da, dc, rfl, _⟩ := (F.bytes (v := dv)).form
  obtain ⟨ea, ec, rfl, _⟩ := (F.rel (v := ev) (R := EnR)).form
  refine go_on ?_
  (first | refine f_box1 F rfl rfl (fun q w F => ?_) | refine f_boxN F rfl rfl (fun q w F => ?_)); refine go_on ?_
  (first | refine f_alloc1 F rfl (fun z w F => ?_) | refine f_allocN F rfl (fun z w F => ?_)); refine go_on ?_
  refine go_on ?_
  (first | refine f_alloc1 F rfl (fun y w F => ?_) | refine f_allocN F rfl (fun y w F => ?_)); refine go_on ?_
  refine f_storeAll F rfl rfl rfl (fun w F => ?_); refine go_on ?_
  have F := (F.nilbuf 4).all0 4 EnR
  refine g_loop (X := Nat × Value × List (List Value)) (fun k => [(1, .pointer (some ⟨q, 0, none⟩)), (2, .pointer (some ⟨z, 0, none⟩)), (3, .pointer (some ⟨y, 0, none⟩)), (4, .int .i64 k.1)])
    (fun k wr => ∃ O, Fr [] O0 w0 O wr [(2, Thing.buf 4 k.2.1 (r.ents.take k.1).length k.2.2.flatten), (2, Thing.cells z [.int .u32 0, .int .u32 0, .int .i64 0, .int .u32 0, .int .u32 0, .int .u32 0, .int .u32 0, .int .u32 0, .int .u32 0, .int .u64 0, .string ⟨#[]⟩, .slice none 0 0, .bool false, .int .u64 0, .int .u32 0]), (2, Thing.cells q [.int .u32 r.client, .int .u32 r.xid, .int .i64 r.status, .int .u32 r.ino, .int .u32 r.gen, .int .u32 r.kind, .int .u32 r.mode, .int .u32 r.links, .int .u32 r.size, .int .u64 r.change, .slice da r.data.length dc, .slice ea r.ents.length ec, .bool r.eof, .int .u64 r.verf, .int .u32 r.free]),
      (2, Thing.cells y [.int .u32 r.client, .int .u32 r.xid, .int .i64 r.status, .int .u32 r.ino, .int .u32 r.gen, .int .u32 r.kind, .int .u32 r.mode, .int .u32 r.links, .int .u32 r.size, .int .u64 r.change, str r.data, k.2.1, .bool r.eof, .int .u64 r.verf, .int .u32 r.free])] [Fact.all 4 EnR k.2.2 (r.ents.take k.1), Fact.rel 4 EnR (.slice ea r.ents.length ec) r.ents] ∧ k.1 ≤ r.ents.length ∧ (k.1 = 0 → k.2.1 = nilV)) (fun k => r.ents.length - k.1) (0, nilV, []) (sub_cons rfl rfl (sub_cons rfl rfl (sub_cons rfl rfl (sub_cons rfl rfl (sub_nil))))) ⟨_, F.wk, Nat.zero_le _, fun _ => rfl⟩ ?_
  clear F
  rintro ⟨k, ev, cs⟩ w ⟨O, F, hk, hz⟩
  dsimp only at F hk hz ⊢
  have htl : (r.ents.take k).length = k := by rw [List.length_take]; omega
  refine go_on ?_
  refine g_dec rfl (fun g => ?_) (fun g => ?_)
  · have hk' : k < r.ents.length := by omega
    obtain ⟨x, row, rfl, hrl, hrow0, hrow⟩ := (F.rel (R := EnR) (ys := r.ents)).elem hk'
    have hrow0 : row = [.int .u64 r.ents[k].cookie, .int .u32 r.ents[k].ino, .int .u32 r.ents[k].gen, str r.ents[k].name] := hrow0
    subst hrow0
    have F := F.fact hrow
    have htk : r.ents.take (k + 1) = r.ents.take k ++ [r.ents[k]] := List.take_succ_eq_append_getElem hk'
    generalize r.ents[k] = en at F htk
    obtain ⟨va, vc, rfl, _⟩ := (F.bufAt (v := ev)).form
    refine go_on ?_
    refine f_draw [(2, Thing.cells q _), (2, Thing.cells y _)] F [24] [(0, true), (1, true), (2, true), (3, true), (4, true), (5, true), (6, true), (7, true), (8, true), (9, true), (10, true), (11, true), (12, true), (13, true), (14, true), (15, true), (16, true), (17, true), (18, true), (19, true), (20, true), (21, false), (22, false), (23, true), (24, false)] (by kernel_rfl) (by kernel_rfl) (fun w F hS => ?_); refine go_look ?_
    refine rd_open rfl ?_; (first | refine ro_n ?_ | refine ro_g rfl rfl ?_); refine rx_y rfl (fun _ hw => y_loadRowAt rfl hw Sel.here rfl rfl) (by assumption) ?_; refine go_look ?_
    refine rd_do rfl ?_; (try refine r_go rfl rfl ?_)
    refine f_buildSlice (cs := [.int .u64 en.cookie, .int .u32 en.ino, .int .u32 en.gen, str en.name]) F rfl rfl rfl rfl (fun q8 w F => ?_)
    (try refine r_nil ?_); refine e_afterF F (fun hS => ?_); refine go_look ?_
    refine rd_do rfl ?_; (try refine r_go rfl rfl ?_)
    refine f_append F rfl rfl rfl F.srcRow (fun rr w O F => ?_)
    obtain ⟨ra, rc, rfl, _⟩ := (F.bufAt (v := rr)).form
    (try refine r_nil ?_); refine e_afterF F (fun hS => ?_); refine go_look ?_
    refine rd_do rfl ?_; (try refine r_go rfl rfl ?_)
    refine f_store1 F rfl rfl rfl (fun w F => ?_)
    (try refine r_nil ?_); refine e_after (fun h => by cases h) ?_; refine go_look ?_
    refine rd_done ?_; refine go_on ?_
    have F := F.allSnoc (R := EnR) (y := en) (row := [.int .u64 en.cookie, .int .u32 en.ino, .int .u32 en.gen, str en.name]) rfl rfl
    have e8 : cs.flatten ++ [Value.int .u64 en.cookie, .int .u32 en.ino, .int .u32 en.gen, str en.name] = (cs ++ [[Value.int .u64 en.cookie, .int .u32 en.ino, .int .u32 en.gen, str en.name]]).flatten := (flat_snoc _ _).symm
    have e9 : (r.ents.take k).length + 1 = (r.ents.take (k + 1)).length := by rw [htk, List.length_append]; rfl
    rw [e8, e9, ← htk] at F
    exact e_round (k + 1, _, cs ++ [[.int .u64 en.cookie, .int .u32 en.ino, .int .u32 en.gen, str en.name]]) (sub_cons rfl rfl (sub_cons rfl rfl (sub_cons rfl rfl (sub_cons rfl rfl (sub_nil))))) ⟨_, F.wk, by dsimp only; omega, fun h => by cases h⟩ (by simp only; omega)
  · obtain rfl : r.ents.length = k := by omega
    rw [List.take_length] at F
    obtain ⟨O, F⟩ := F.frzRel (R := EnR) rfl
    obtain ⟨va, vc, rfl, _⟩ := (F.rel (v := ev) (R := EnR) (ys := r.ents)).form
    refine go_on ?_
    refine f_storeAll F rfl rfl rfl (fun w F => ?_); refine go_on ?_
    refine go_back ?_
    exact F.fin ⟨_, ⟨⟨_, _, rfl⟩, fun h => hz (by rw [h]; rfl)⟩, rfl, rfl, rfl⟩
theorem same8_c (h : True) : Con Try.prog 38 [nilV, nilV] [] [] [] fun r T Φ => r = .bool true ∧ T = [] ∧ Φ = [] := by
  refine con_of (fun O0 w0 F => ?_)
  refine tidy F (fun F => ?_)
  refine fn_of _ Try.func38 rfl (by kernel_rfl) Try.ntmps38 rfl ?_
  refine go_on ?_
  refine g_loop (X := Unit) (fun k => [(0, nilV), (1, nilV), (5, .int .i64 (0 : Nat))]) (fun k wr => ∃ O, Fr [] O0 w0 O wr [] []) (fun k => 0) () (sub_cons rfl rfl (sub_cons rfl rfl (sub_cons rfl rfl (sub_nil)))) ⟨_, F.wk⟩ ?_
  clear F
  rintro - w ⟨O, F⟩
  refine go_on ?_
  refine go_back ?_
  exact F.fin ⟨rfl, rfl, rfl⟩
theorem find8_c (h : True) : Con Try.prog 23 [nilV, str []] [] [] [] fun r T Φ => r = .int .i64 (-1) ∧ T = [] ∧ Φ = [] := by
  refine con_of (fun O0 w0 F => ?_)
  refine tidy F (fun F => ?_)
  refine fn_of _ Try.func23 rfl (by kernel_rfl) Try.ntmps23 rfl ?_
  refine go_on ?_
  refine g_loop (X := Unit) (fun k => [(0, nilV), (5, .int .i64 (0 : Nat))]) (fun k wr => ∃ O, Fr [] O0 w0 O wr [] []) (fun k => 0) () (sub_cons rfl rfl (sub_cons rfl rfl (sub_nil))) ⟨_, F.wk⟩ ?_
  clear F
  rintro - w ⟨O, F⟩
  refine go_on ?_
  refine go_back ?_
  exact F.fin ⟨rfl, rfl, rfl⟩
theorem same9_c {r : Rp} (h : True) : Con Try.prog 19 [rrV r nilV, rrV r nilV] [] [] [] fun u T Φ => u = .bool true ∧ T = [] ∧ Φ = [] := by
  refine con_of (fun O0 w0 F => ?_)
  refine tidy F (fun F => ?_)
  refine fn_of _ Try.func19 rfl (by kernel_rfl) Try.ntmps19 rfl ?_
  refine go_on ?_
  (first | refine f_box1 F rfl rfl (fun q w F => ?_) | refine f_boxN F rfl rfl (fun q w F => ?_)); refine go_on ?_
  (first | refine f_box1 F rfl rfl (fun p w F => ?_) | refine f_boxN F rfl rfl (fun p w F => ?_)); refine go_on ?_
  refine go_on ?_
  refine r_y (y_agg_eq (r := true) (xs := [.int .u32 r.ino, .int .u32 r.gen]) (ys := [.int .u32 r.ino, .int .u32 r.gen]) rfl rfl (by simp [eqCells, kindEq])) rfl ?_
  refine go_on ?_
  refine r_y (y_agg_eq (r := true) (xs := [.int .u32 r.kind, .int .u32 r.mode, .int .u32 r.links, .int .u32 r.size, .int .u64 r.change]) (ys := [.int .u32 r.kind, .int .u32 r.mode, .int .u32 r.links, .int .u32 r.size, .int .u64 r.change]) rfl rfl (by simp [eqCells, kindEq])) rfl ?_
  refine go_on ?_
  refine f_call F rfl rfl same8_c ?_ (hp := trivial)
  clear F; rintro r O w T Φ ⟨rfl, rfl, rfl⟩ F0
  refine tidy F0 (fun F => ?_); clear F0
  refine go_on ?_
  refine go_back ?_
  exact F.fin ⟨by simp, rfl, rfl⟩
end Go.Proofs.Ytdhfikbehbpdjaa
