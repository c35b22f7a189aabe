/- What the disk does at a crash. -/
import Derived.Test.YtmohjmfcbhpldaaDisk
namespace Go.Proofs.Ytmohjmfcbhpldaa
open Gk Go
set_option linter.unusedVariables false
set_option maxHeartbeats 4000000
set_option maxRecDepth 4000
set_option linter.unusedSimpArgs false
attribute [local irreducible] Int.decLt Int.decLe Int.decEq Int.instDecidableEq Gk.Rnds Gk.E Gk.G Gk.R Gk.RD Gk.RX Gk.RO Gk.Y Gk.Ent Gk.Sat Gk.Round Gk.After Gk.Cell Gk.Sl Gk.SlA Gk.CB Gk.OK Gk.FnC Gk.Bytes Gk.BytesL Gk.StrL Gk.Buf Gk.MapI
/-- Is that write picked? -/
def bitB (pick : List UInt8) (i : Nat) : Bool := decide (andI .u8 ((((pick.getD (i / 8) 0).toNat / 2 ^ (i % 8) : Nat)) : Int) 1 = 1)
def crashTo (l ws : List (Int × List UInt8)) (pick : List UInt8) : Nat → List (Int × List UInt8)
  | 0 => l
  | k + 1 => if bitB pick k = true then (match ws[k]? with | some x => updI (crashTo l ws pick k) x.1 x.2 | none => crashTo l ws pick k) else crashTo l ws pick k
def pickN (pick : List UInt8) (below : Nat) : Nat := if 8 * pick.length < below then 8 * pick.length else below
def Dk.crash (d : Dk) (pick : List UInt8) : Dk := ⟨d.n, crashTo d.l d.waits pick (pickN pick d.waits.length), [], -1, false⟩

theorem crash_len {l ws : List (Int × List UInt8)} {pick : List UInt8} (hl : ∀ x ∈ l, x.2.length = 128) (hw : ∀ x ∈ ws, x.2.length = 128) : ∀ k, ∀ x ∈ crashTo l ws pick k, x.2.length = 128
  | 0 => hl
  | k + 1 => by
    unfold crashTo
    split
    · split
      · rename_i y hy
        exact upd_len _ _ _ (crash_len hl hw k) (hw y (List.mem_of_getElem? hy))
      · exact crash_len hl hw k
    · exact crash_len hl hw k

theorem picked_c {pa : Option Addr} {pn pc : Nat} {below : Int} (h : True) : Con Try.prog 37 [.slice pa pn pc, .int .i64 below] [] [] [] fun r T Φ => ∃ b1 b2, r = .func (.func 49) #[] #[dptr b1, dptr b2] ∧ T = [Thing.cells b1 [.int .i64 below], Thing.cells b2 [.slice pa pn pc]] ∧ Φ = [] := by
  refine con_of (fun O0 w0 F => ?_)
  refine tidy F (fun F => ?_)
  refine fn_of _ Try.func37 rfl (by kernel_rfl) Try.ntmps37 rfl ?_
  (refine go_on ?_; repeat (first | (refine f_store1 F rfl rfl rfl (fun w F => ?_); refine go_on ?_) | (refine f_storeAll F rfl rfl rfl (fun w F => ?_); refine go_on ?_) | (refine f_box1 F rfl rfl (fun q w F => ?_); refine go_on ?_) | (refine f_boxN F rfl rfl (fun q w F => ?_); refine go_on ?_) | (refine f_alloc1 F rfl (fun q w F => ?_); refine go_on ?_) | (refine f_allocN F rfl (fun q w F => ?_); refine go_on ?_)))
  refine go_back ?_
  exact F.fin ⟨_, _, rfl, rfl, rfl⟩

theorem picked1_c {X : Type} {l b1 b2 below : Nat} {pa : Option Addr} {pc : Nat} {pick : List UInt8} {J : X → List Thing} {JF : X → List Fact} {JP : Nat → X → Prop} {x0 : X}
    (hY : ∀ i x, i < pickN pick below → bitB pick i = true → JP i x → YCon Try.prog l [.int .i64 i] (J x) (JF x) (fun r T Φ => ∃ x', r = .bool true ∧ JP (i + 1) x' ∧ T = J x' ∧ Φ = JF x'))
    (hN : ∀ i x, i < pickN pick below → bitB pick i = false → JP i x → JP (i + 1) x) (h0 : JP 0 x0) (hl : pick.length ≤ 1000000 ∧ below ≤ 1000000) :
    Con Try.prog 49 [.func (.yield l) #[] #[], dptr b1, dptr b2] (J x0) [Thing.cells b1 [.int .i64 below], Thing.cells b2 [.slice pa pick.length pc]] (Fact.bytes (.slice pa pick.length pc) pick :: JF x0) fun r T Φ => ∃ x, JP (pickN pick below) x ∧ T = J x ∧ Φ = JF x := by
  obtain ⟨hl1, hl2⟩ := hl
  refine con_of (fun O0 w0 F => ?_)
  have F := F.perm List.perm_append_comm
  change Fr _ _ _ _ _ ((0, Thing.cells b1 _) :: (0, Thing.cells b2 _) :: (J x0).map (fun t => (1, t))) _ at F
  refine fn_of _ Try.func49 rfl (by kernel_rfl) Try.ntmps49 rfl ?_
  refine go_on ?_
  refine r_y (y_mulN rfl rfl (by simp only [lim]; omega)) rfl ?_
  refine go_on ?_
  refine r_y (y_min2 rfl rfl) rfl ?_
  have hN' : (if (((8 * pick.length : Nat) : Int)) < (below : Int) then (((8 * pick.length : Nat) : Int)) else (below : Int)) = ((pickN pick below : Nat) : Int) := by
    unfold pickN
    split
    · rw [if_pos (by omega)]
    · rw [if_neg (by omega)]
  rw [hN']
  have hb1 : pickN pick below ≤ 8 * pick.length := by unfold pickN; split <;> omega
  generalize pickN pick below = N at hY hN hN' hb1 ⊢
  clear hN'
  refine go_on ?_
  refine g_loop (X := Nat × X) (fun y => [(0, .func (.yield l) #[] #[]), (1, dptr b1), (2, dptr b2), (9, .int .i64 N), (10, .int .i64 y.1)])
    (fun y wr => ∃ O, Fr ((J x0).flatMap (·.bs)) O0 w0 O wr ((0, Thing.cells b1 [.int .i64 below]) :: (0, Thing.cells b2 [.slice pa pick.length pc]) :: (J y.2).map (fun t => (1, t))) (Fact.bytes (.slice pa pick.length pc) pick :: JF y.2) ∧ y.1 ≤ N ∧ JP y.1 y.2) (fun y => N - y.1)
    (0, x0) (sub_cons rfl rfl (sub_cons rfl rfl (sub_cons rfl rfl (sub_cons rfl rfl (sub_cons rfl rfl (sub_nil)))))) ⟨_, F, Nat.zero_le _, h0⟩ ?_
  clear F
  rintro ⟨i, xx⟩ w ⟨O, F, hi, hJ⟩
  dsimp only at F hi hJ ⊢
  refine go_on ?_
  refine g_dec rfl (fun g2 => ?_) (fun g2 => ?_)
  · have hi' : i < N := by omega
    have hq : i / 8 < pick.length := by omega
    refine go_on ?_
    refine r_y (y_quoN (b := 8) rfl rfl (by omega) (by simp only [lim]; omega)) rfl ?_
    obtain ⟨u, hu⟩ : ∃ u, pick.getD (i / 8) 0 = u := ⟨_, rfl⟩
    have hu2 : pick[i / 8] = u := by rw [← hu, List.getD_eq_getElem?_getD, List.getElem?_eq_getElem hq]; rfl
    refine go_on ?_
    obtain ⟨x, hx9, hc⟩ := ((F.bytes (xs := pick))).atm hq
    (first | subst hx9 | (injection hx9 with hx9; subst hx9))
    have F := F.fact (f := Fact.cell _ _) hc
    refine go_on ?_
    rw [hu2]
    refine r_y (y_remN (b := 8) rfl rfl (by omega)) rfl ?_
    refine r_y (y_shrN (k := .u8) (a := u.toNat) (c := i % 8) rfl rfl (by show i % 8 ≤ 8; omega)) rfl ?_
    refine go_on ?_
    refine r_y (y_andI rfl rfl) rfl ?_
    by_cases hb : bitB pick i = true
    · have hd : andI .u8 ((u.toNat / 2 ^ (i % 8) : Nat) : Int) 1 = 1 := by
        have := hb
        unfold bitB at this
        rw [hu] at this
        exact of_decide_eq_true this
      refine go_on ?_
      refine f_yield [(0, Thing.cells b1 [.int .i64 below]), (0, Thing.cells b2 [.slice (some x) pick.length pc])] F rfl rfl rfl (hY i xx hi' hb hJ) (fun f hf => by simp [hf]) (.inl rfl) (fun r O w T Φ hK F => ?_)
      obtain ⟨x', rfl, hJ', rfl, rfl⟩ := hK
      have F := F.wkF (Φ' := Fact.bytes (.slice (some x) pick.length pc) pick :: JF x') (fun f hf => by
        rcases List.mem_cons.1 hf with rfl | hf
        · simp
        · simp [hf])
      refine go_on ?_
      exact e_round (i + 1, x') (sub_cons rfl rfl (sub_cons rfl rfl (sub_cons rfl rfl (sub_cons rfl rfl (sub_cons rfl rfl (sub_nil)))))) ⟨_, F, by simp only; omega, hJ'⟩ (by simp only; omega)
    · have hb' : bitB pick i = false := by cases hh : bitB pick i <;> simp_all
      have hd : ¬ andI .u8 ((u.toNat / 2 ^ (i % 8) : Nat) : Int) 1 = 1 := by
        have := hb'
        unfold bitB at this
        rw [hu] at this
        exact of_decide_eq_false this
      refine go_on ?_
      exact e_round (i + 1, xx) (sub_cons rfl rfl (sub_cons rfl rfl (sub_cons rfl rfl (sub_cons rfl rfl (sub_cons rfl rfl (sub_nil)))))) ⟨_, F.wkF (fun f hf => by
        rcases List.mem_cons.1 hf with rfl | hf
        · simp
        · simp [hf]), by simp only; omega, hN i xx hi' hb' hJ⟩ (by simp only; omega)
  · have hi' : i = N := by omega
    subst hi'
    refine go_on ?_
    refine go_back ?_
    exact Fr.finL (own := [(0, Thing.cells b1 [.int .i64 below]), (0, Thing.cells b2 [.slice pa pick.length pc])]) F ⟨xx, hJ, rfl, rfl⟩ (fun f hf => by simp [hf]) (.inl rfl)

theorem dcrash_c {p m : Nat} {v : Value} {d : Dk} {u : Value} {pick : List UInt8} (h : d.waits.length ≤ 1000000 ∧ pick.length ≤ 1000000) : Con Try.prog 17 [dptr p, u] [Dn p m v d] [] [Fact.bytes u pick] fun r T Φ => T = [Dn p m (.slice none 0 0) (d.crash pick)] ∧ Φ = [] := by
  obtain ⟨h1, h2⟩ := h
  refine con_of (fun O0 w0 F => ?_)
  refine tidy F (fun F => ?_)
  refine fn_ofM _ Try.func17 rfl (by kernel_rfl) Try.ntmps17 rfl ?_
  obtain ⟨ua, uc, rfl, _⟩ := (F.bytes (v := u)).form
  obtain ⟨hok, F⟩ := F.unif
  have F := F.open
  have F := F.open (s := Thing.map m .i64 (mapV d.l))
  obtain ⟨va, vc, rfl, _⟩ := (F.bufAt (v := v)).form
  refine go_on ?_
  (first | refine f_box1 F rfl rfl (fun q0 w F => ?_) | refine f_boxN F rfl rfl (fun q0 w F => ?_)); refine go_on ?_
  (first | refine f_alloc1 F rfl (fun q1 w F => ?_) | refine f_allocN F rfl (fun q1 w F => ?_)); refine go_on ?_
  (refine go_on ?_; repeat (first | (refine f_store1 F rfl rfl rfl (fun w F => ?_); refine go_on ?_) | (refine f_storeAll F rfl rfl rfl (fun w F => ?_); refine go_on ?_) | (refine f_box1 F rfl rfl (fun q w F => ?_); refine go_on ?_) | (refine f_boxN F rfl rfl (fun q w F => ?_); refine go_on ?_) | (refine f_alloc1 F rfl (fun q w F => ?_); refine go_on ?_) | (refine f_allocN F rfl (fun q w F => ?_); refine go_on ?_) | (refine f_call F rfl rfl picked_c ?_; clear F; rintro r O w T Φ ⟨b1, b2, rfl, rfl, rfl⟩ F0; refine tidy F0 (fun F => ?_); clear F0; refine go_on ?_)))
  refine g_rangeC F rfl (fun l k w r0 e1 e2 e3 e4 e5 e6 e7 F => ?_)
  have hw := wtRow_len hok.2.2.1
  refine range_use (picked1_c (X := Nat × List (Int × List UInt8)) (l := l) (below := d.waits.length) (pick := pick)
    (J := fun y => [Thing.loop l r0, Thing.cells q1 [.int .i64 y.1], Thing.cells q0 [dptr p], Thing.map m .i64 (mapV y.2), Thing.buf 129 (.slice va d.waits.length vc) d.waits.length (wts d.waits), Thing.cells p [.int .i64 d.n, .map (some m), .slice va d.waits.length vc, .int .i64 d.left, .bool d.down]])
    (JF := fun _ => []) (JP := fun i y => y.2 = crashTo d.l d.waits pick i ∧ y.1 ≤ i) (x0 := (0, d.l)) ?_ ?_ ⟨rfl, Nat.le_refl _⟩ ⟨h2, h1⟩) F (fun r O w T Φ hK F => ?_)
  · clear F
    rintro i ⟨c, ll⟩ hi hb ⟨hc, hci⟩
    dsimp only at hc hci ⊢
    have hi2 : i < d.waits.length := by unfold pickN at hi; split at hi <;> omega
    refine ycon_of (ps := [17]) e3 rfl e6 rfl e7 (by simp) (fun O w F => ?_)
    rw [e4, e5]
    refine tidy F (fun F => ?_)
    refine go_on ?_
    refine e_begin F Sel.here (.inl rfl) e1 (fun w F => ?_)
    refine go_on ?_
    obtain ⟨qb, rfl, hrow⟩ := F.bufRow (rows := d.waits.map wtRow) (i := i) (m := d.waits.length) (sz := 129) hw (by simpa using hi2) (by omega)
    rw [wts_row] at hrow
    have hx128 : (d.waits[i]).2.length = 128 := hok.2.2.1 _ (List.getElem_mem hi2)
    have hstep : crashTo d.l d.waits pick (i + 1) = updI ll (d.waits[i]).1 (d.waits[i]).2 := by
      rw [crashTo, if_pos hb, List.getElem?_eq_getElem hi2, ← hc]
    generalize d.waits[i] = x at hrow hx128 hstep
    refine go_on ?_
    refine r_y (hrow rfl) rfl ?_
    refine f_decl F rfl (vs := wtRow x) rfl (by simp [wtRow, bytesV, hx128]) (one_wt x) ⟨_, rfl, rfl⟩ (fun q9 w F => ?_)
    refine go_on ?_
    refine f_draw [(1, Thing.cells q0 _), (1, Thing.cells p _), (2, Thing.cells q9 _)] F [] [(0, true), (1, true), (2, true), (3, true), (4, true), (5, true), (6, true), (7, true), (8, false)] (by kernel_rfl) (by kernel_rfl) (fun w F hS => ?_); refine go_look ?_
    refine rd_open rfl ?_; (first | refine ro_n ?_ | refine ro_g rfl rfl ?_); refine rx_y rfl (fun _ hw => y_loadTailS (pre := [.int .i64 x.1]) (vs := bytesV x.2) rfl hw (Sel.there (Sel.there Sel.here)) (by simp [bytesV, hx128])) (by assumption) ?_; refine go_look ?_
    refine rd_do rfl ?_; (try refine r_go rfl rfl ?_)
    refine f_mapUpdate F rfl rfl rfl rfl (fun w F => ?_)
    have eu : updI (mapV ll) x.1 (.agg (bytesV x.2).toArray) = mapV (updI ll x.1 x.2) := upd_map ll x.1 x.2
    rw [eu] at F
    (try refine r_nil ?_); refine e_afterF F (fun hS => ?_); refine go_look ?_
    refine rd_done ?_; refine go_on ?_
    refine f_store1 F rfl rfl rfl (fun w F => ?_); refine go_on ?_
    refine e_round_end none (.inl ⟨rfl, rfl⟩) F (by (repeat (first | exact Sel.here | apply Sel.there))) (.inl rfl) (fun w F => ?_)
    rw [rdy e1 e2] at F
    exact F.fin ⟨(c + 1, updI ll x.1 x.2), rfl, ⟨hstep.symm, by dsimp only; omega⟩, rfl, rfl⟩
  · rintro i ⟨c, ll⟩ hi hb ⟨hc, hci⟩
    refine ⟨?_, by dsimp only at hci ⊢; omega⟩
    dsimp only at hc ⊢
    rw [crashTo, if_neg (by rw [hb]; decide)]
    exact hc
  · obtain ⟨⟨c, ll⟩, ⟨hc, hci⟩, rfl, rfl⟩ := hK
    dsimp only at hc hci
    refine tidy F (fun F => ?_)
    refine back_done F Sel.here (.inl rfl) (by rw [e1]; decide) e2 (fun w F => ?_)
    refine go_on ?_
    refine f_draw [(1, Thing.cells q0 _)] F [] [(0, true), (1, true), (2, true), (3, true), (4, true), (5, false), (6, true), (7, true), (8, false), (9, true), (10, true), (11, false)] (by kernel_rfl) (by kernel_rfl) (fun w F hS => ?_); refine go_look ?_
    (repeat (first | (refine rd_do rfl ?_; (try refine r_go rfl rfl ?_); refine f_store1 F rfl rfl rfl (fun w F => ?_); (try refine r_nil ?_); refine e_afterF F (fun hS => ?_); refine go_look ?_) | (refine rd_do rfl ?_; (try refine r_go rfl rfl ?_); refine f_storeAll F rfl rfl rfl (fun w F => ?_); (try refine r_nil ?_); refine e_afterF F (fun hS => ?_); refine go_look ?_) | (refine rd_do rfl ?_; (try refine r_go rfl rfl ?_); refine f_box1 F rfl rfl (fun q w F => ?_); (try refine r_nil ?_); refine e_afterF F (fun hS => ?_); refine go_look ?_) | (refine rd_do rfl ?_; (try refine r_go rfl rfl ?_); refine f_boxN F rfl rfl (fun q w F => ?_); (try refine r_nil ?_); refine e_afterF F (fun hS => ?_); refine go_look ?_) | (refine rd_do rfl ?_; (try refine r_go rfl rfl ?_); refine f_alloc1 F rfl (fun q w F => ?_); (try refine r_nil ?_); refine e_afterF F (fun hS => ?_); refine go_look ?_) | (refine rd_do rfl ?_; (try refine r_go rfl rfl ?_); refine f_allocN F rfl (fun q w F => ?_); (try refine r_nil ?_); refine e_afterF F (fun hS => ?_); refine go_look ?_) | (refine rd_do rfl ?_; (try refine r_go rfl rfl ?_); refine f_call F rfl rfl picked_c ?_; clear F; rintro r O w T Φ ⟨b1, b2, rfl, rfl, rfl⟩ F0; refine tidy F0 (fun F => ?_); clear F0; refine r_nil ?_; refine e_afterF F (fun hS => ?_); refine go_look ?_)))
    refine rd_done ?_; refine go_on ?_
    refine go_on ?_
    have F := (F.nilbuf 129).demote
    have F := F.close2 (s := Thing.map m .i64 _) (t := Thing.buf 129 (.slice none 0 0) 0 [])
    have hok2 : (d.crash pick).ok := by
      obtain ⟨k1, k2, k3, k4, k5⟩ := hok
      exact ⟨k1, crash_len k2 k3 _, by simp [Dk.crash], by show (-1 : Int) ≤ -1; omega, by show (-1 : Int) ≤ 9223372036854775807; omega⟩
    rw [hc] at F
    have F := (F.close2 (s := Thing.cells p _)).mkif hok2
    refine g_ret ?_
    (repeat (first | refine e_then_ret ?_ | refine e_block_ret ?_))
    refine e_leave1 (.inl rfl) F (by (repeat (first | exact Sel.here | apply Sel.there))) (fun w F => ?_)
    refine ret1 (.inl rfl) rfl rfl ?_
    exact F.fin ⟨rfl, rfl⟩
end Go.Proofs.Ytmohjmfcbhpldaa
