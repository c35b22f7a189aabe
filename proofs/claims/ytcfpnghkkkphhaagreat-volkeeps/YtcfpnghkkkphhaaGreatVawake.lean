/- The example of layer 12. -/
import Derived.Test.YtcfpnghkkkphhaaGreatVgood
import Derived.Test.YtcfpnghkkkphhaaGreatVnil
namespace Go.Proofs.YtcfpnghkkkphhaaGreat
open Gk Go
set_option linter.unusedVariables false
set_option maxHeartbeats 4000000
set_option maxRecDepth 4000
set_option linter.unusedSimpArgs false
attribute [local irreducible] Int.decLt Int.decLe Int.decEq Int.instDecidableEq Gk.Rnds Gk.E Gk.G Gk.R Gk.RD Gk.RX Gk.RO Gk.Y Gk.Ent Gk.Sat Gk.Round Gk.After Gk.Cell Gk.Sl Gk.SlA Gk.CB Gk.OK Gk.FnC Gk.Bytes Gk.BytesL Gk.StrL Gk.Buf Gk.MapI
section
variable {M O0 O : List Nat} {w0 w : World} {L L' : List KT} {Φ Φ' : List Fact}
/-- Things that were built one behind the other. -/
theorem frzSlts (F : Fr M O0 w0 O w L Φ) {q n : Nat} {rows : List (List Value)} {l : List Slt} (hn : n = l.length) (hm : n ≤ 1000000) (ha : All2 (SltR.φ O w) rows l) (hr : ∀ row, row ∈ rows → row.length = 9)
    (h : Sel L (2, Thing.cells q rows.flatten) L' := by (repeat (first | exact Sel.here | apply Sel.there))) : ∃ O', Fr M O0 w0 O' w L' (Fact.rel 9 SltR (.slice (some ⟨q, 0, none⟩) n n) l :: Φ) := by
  have F := F.fact (f := Fact.all 9 SltR rows l) ⟨ha, hr⟩
  have hl : rows.flatten.length = n * 9 := by rw [flat_length rows hr, ha.length, hn]
  have F := F.asBuf h hl (by unfold maxLen; omega)
  obtain ⟨O', F⟩ := F.frzRel (R := SltR) (ys := l) (rows := rows) hn
  exact ⟨O', F.wkF (fun f hf => by
    rcases List.mem_cons.1 hf with rfl | hf
    · simp
    · simp [hf])⟩
end
theorem bytesV_rep (n : Nat) : List.replicate n (Value.int .u8 0) = bytesV (List.replicate n 0) := by
  unfold bytesV
  rw [List.map_replicate]
  rfl
theorem sumN_zero : ∀ n, sumN (fun _ => 0) n = 0
  | 0 => by rw [sumN]
  | n + 1 => by rw [sumN, sumN_zero n]
theorem used0 : usedS slt0 = 0 := by
  unfold usedS
  rw [← sumN_zero 24]
  exact sumN_congr _ fun i _ => by unfold slt0 needN; simp
def sOne (i : Nat) (d : List UInt8) : Slt := ⟨i, 1, 0, 1, 0, 0, 0, 0, d⟩
theorem sOne_ok {i : Nat} {d : List UInt8} (hi : i < 24) (hd : d.length ≤ 768) : (sOne i d).ok ∧ (sOne i d).fit :=
  ⟨⟨⟨hi, by show 1 ≤ 3; decide, hd⟩, .inr ⟨by show ¬ (1 : Nat) = 0; decide, Nat.le_refl 1⟩, fun k => absurd (show (1 : Nat) = 2 from k) (by decide)⟩, by show i < _; omega, by show 1 < _; omega, by show 0 < _; omega, by show 1 < _; omega, by show 0 < _; omega, by show 0 < _; omega, by show 0 < _; omega, by show 0 < _; omega⟩
theorem mayS_one {s : Slt} (h : s.ok) : mayS [s] := by
  intro i hi
  have h0 : i = 0 := by rw [List.length_singleton] at hi; omega
  subst h0
  exact ⟨h, fun x hx => by cases hx⟩
theorem used_one {S : Nat → Slt} {s : Slt} (h : s.ino < 24) : usedS (updS S [s]) + needN ((S s.ino).data.length : Nat) = usedS S + needN (s.data.length : Nat) := by
  have k1 := sumN_up (f := upI (fun i => needN ((S i).data.length : Nat)) s.ino 0) (i := s.ino) (x := needN (s.data.length : Nat)) (upI_at ..) 24
  have k2 := sumN_up (f := upI (fun i => needN ((S i).data.length : Nat)) s.ino 0) (i := s.ino) (x := needN ((S s.ino).data.length : Nat)) (upI_at ..) 24
  rw [if_pos h] at k1 k2
  have e1 : usedS (updS S [s]) = sumN (upI (upI (fun i => needN ((S i).data.length : Nat)) s.ino 0) s.ino (needN (s.data.length : Nat))) 24 := sumN_congr _ fun i _ => by
    show needN ((upI S s.ino s i).data.length : Nat) = _
    by_cases e : i = s.ino
    · rw [e, upI_at, upI_at]
    · rw [upI_ne _ e, upI_ne _ e, upI_ne _ e]
  have e2 : usedS S = sumN (upI (upI (fun i => needN ((S i).data.length : Nat)) s.ino 0) s.ino (needN ((S s.ino).data.length : Nat))) 24 := sumN_congr _ fun i _ => by
    by_cases e : i = s.ino
    · rw [e, upI_at]
    · rw [upI_ne _ e, upI_ne _ e]
  rw [e1, e2, k1, k2]
  omega
theorem awake12_get : ((volSave (tx0 45) [sOne 2 (List.replicate 97 0)]).2.get 35).length = 96 := by decide +kernel
theorem awake12_c (h : True) : Con Tryz.prog 9 [] [] [] [] fun r T Φ => r = .bool true ∧ T = [] ∧ Φ = [] := by
  have hG := Good.new (n := 45) (by decide)
  obtain ⟨hok, hfit⟩ := sOne_ok (i := 2) (d := List.replicate 97 0) (by decide) (by decide)
  have hs := hG.save (mayS_one hok) (fun s hs => by rw [List.mem_singleton.1 hs]; exact hfit)
  have hu := used_one (S := slt0) (s := sOne 2 (List.replicate 97 0)) (by decide)
  have hu : usedS (updS slt0 [sOne 2 (List.replicate 97 0)]) = 2 := by
    have e1 : needN ((slt0 (sOne 2 (List.replicate 97 0)).ino).data.length : Nat) = 0 := rfl
    have e2 : needN ((sOne 2 (List.replicate 97 0)).data.length : Nat) = 2 := rfl
    rw [used0, e1, e2] at hu
    omega
  have hw : (tx0 45).was.length = 45 := List.length_replicate
  rw [hu, hw, if_pos (by decide)] at hs
  obtain ⟨hs1, hs2, _, I', hG2⟩ := hs
  have hg := awake12_get
  refine con_of (fun O0 w0 F => ?_)
  refine tidy F (fun F => ?_)
  refine fn_of _ Tryz.func9 rfl (by kernel_rfl) Tryz.ntmps9 rfl ?_
  refine go_on ?_
  refine f_make (l := 45) (c := 45) F rfl rfl rfl (fun q w F => ?_)
  obtain ⟨O, F⟩ := F.frzSl (Nat.le_refl 45)
  have F := F.fact (f := Fact.bytesL (.slice (some ⟨q, 0, none⟩) 45 45) (List.replicate 45 [])) (nil_bytesL (F.sl (v := .slice (some ⟨q, 0, none⟩) 45 45) (cs := List.replicate 45 (.slice none 0 0))))
  refine go_on ?_
  refine f_call F rfl rfl (txnNew_c (l := List.replicate 45 [])) ?_ (hp := ⟨by rw [List.length_replicate]; omega, fun b hb => by rw [List.eq_of_mem_replicate hb]; exact Nat.zero_le _⟩)
  clear F; rintro r O w T Φ ⟨p, m, rfl, rfl, rfl⟩ F0
  refine tidy F0 (fun F => ?_); clear F0
  change Fr _ _ _ _ _ ((2, Tn p m (tx0 45)) :: _) _ at F
  refine go_on ?_
  refine f_make (l := 97) (c := 97) F rfl rfl rfl (fun qb w F => ?_)
  rw [bytesV_rep] at F
  obtain ⟨O, F⟩ := F.frzSl (q := qb) (cs := bytesV (List.replicate 97 0)) (Nat.le_refl 97)
  have F := F.factB (v := .slice (some ⟨qb, 0, none⟩) 97 97) (xs := List.replicate 97 0) (by have := F.sl (v := .slice (some ⟨qb, 0, none⟩) 97 97) (cs := bytesV (List.replicate 97 0)); exact Sl.bytes (by rw [List.length_replicate]; exact this))
  refine go_on ?_
  refine f_buildSlice (cs := [.int .u32 2, .int .u32 1, .int .u32 0, .int .u32 1, .int .u32 0, .int .u64 0, .int .u64 0, .int .u64 0, .slice (some ⟨qb, 0, none⟩) 97 97]) F rfl rfl rfl rfl (fun qs w F => ?_)
  obtain ⟨O, F⟩ := frzSlts F (q := qs) (n := 1) (rows := [sltC (sOne 2 (List.replicate 97 0)) (.slice (some ⟨qb, 0, none⟩) 97 97)]) (l := [sOne 2 (List.replicate 97 0)]) rfl (by decide) ⟨⟨_, rfl, F.bytes⟩, trivial⟩ (fun row hr => by rw [List.mem_singleton.1 hr]; rfl)
  refine go_on ?_
  refine f_call F rfl rfl (vsave_c (t := tx0 45) (l := [sOne 2 (List.replicate 97 0)])) ?_ (hp := ⟨by decide, hG.low, hG.nine, fun s hs => by rw [List.mem_singleton.1 hs]; exact hfit⟩)
  clear F; rintro r O w T Φ ⟨m2, rfl, rfl, rfl⟩ F0
  refine tidy F0 (fun F => ?_); clear F0
  rw [hs1]
  generalize (volSave (tx0 45) [sOne 2 (List.replicate 97 0)]).2 = t at F hs2 hG2 hg
  have hl : volLoad t 2 = (sOne 2 (List.replicate 97 0), 0) := hG2.load (i := 2) (by decide)
  have hr1 : t.right := hG2.1.right
  have hfr : volFree t = 8 := by rw [hG2.free, hs2, hw, hu]; rfl
  refine go_on ?_
  refine f_call F rfl rfl (vload_c (t := t) (ino := 2)) ?_ (hp := trivial)
  clear F; rintro r O w T Φ ⟨dv, rfl, rfl, rfl⟩ F0
  refine tidy F0 (fun F => ?_); clear F0
  rw [hl] at F
  rw [hl]
  obtain ⟨da, dc, rfl, _⟩ := (F.bytes (v := dv)).form
  unfold sltV sltC
  dsimp only [sOne] at F ⊢
  rw [List.length_replicate]
  refine go_on ?_
  (first | refine f_alloc1 F rfl (fun q3 w F => ?_) | refine f_allocN F rfl (fun q3 w F => ?_)); refine go_on ?_
  refine f_storeAll F rfl rfl rfl (fun w F => ?_); refine go_on ?_
  refine go_on ?_
  refine f_call F rfl rfl (vfree_c (t := t)) ?_ (hp := trivial)
  clear F; rintro r O w T Φ ⟨rfl, rfl, rfl⟩ F0
  refine tidy F0 (fun F => ?_); clear F0
  rw [hfr]
  refine go_on ?_
  refine f_call F rfl rfl (vwrong_c (t := t)) ?_ (hp := trivial)
  clear F; rintro r O w T Φ ⟨ws, rfl, rfl, rfl, hws⟩ F0
  refine tidy F0 (fun F => ?_); clear F0
  obtain rfl := hws.2 hG2.fine
  refine go_on ?_
  refine f_call F rfl rfl (txnGet_c (t := t) (i := 35)) ?_ (hp := trivial)
  clear F; rintro r O w T Φ ⟨rfl, rfl⟩ F0
  refine tidy F0 (fun F => ?_); clear F0
  obtain ⟨ga, gc, rfl, _⟩ := (F.bytes (xs := t.get 35)).form
  rw [hg]
  refine go_on ?_
  refine f_call F rfl rfl (vsetchange_c (t := t) (x := 5)) ?_ (hp := (by decide))
  clear F; rintro r O w T Φ ⟨rfl, rfl, rfl⟩ F0
  refine tidy F0 (fun F => ?_); clear F0
  rw [if_pos hr1]
  refine go_on ?_
  have F := F.fact (f := Fact.bytesL (.slice none 0 0) []) (BytesL.mk (vs := []) Sl.nil trivial)
  refine f_call F rfl rfl (txnNew_c (l := [])) ?_ (hp := ⟨by decide, fun b hb => by cases hb⟩)
  clear F; rintro r O w T Φ ⟨p3, m3, rfl, rfl, rfl⟩ F0
  refine tidy F0 (fun F => ?_); clear F0
  refine go_on ?_
  refine f_call F rfl rfl (vwrong_c (p := p3) (m := m3) (t := ⟨[], []⟩)) ?_ (hp := trivial)
  clear F; rintro r O w T Φ ⟨ws2, rfl, rfl, rfl, hws2⟩ F0
  refine tidy F0 (fun F => ?_); clear F0
  have hne : ws2 ≠ [] := fun e => absurd (hws2.1 e).1.1 (by simp)
  refine go_on ?_
  rw [decide_eq_false hne]
  refine go_back ?_
  exact F.fin ⟨rfl, rfl, rfl⟩
theorem few_c {v : Value} {l : List Slt} (h : l.length ≤ 9223372036854775807) : Con Tryz.prog 20 [v] [] [] [Fact.rel 9 SltR v l] fun r T Φ => r = .bool (decide ((∀ s, s ∈ l → s.data.length ≤ 800) ∧ l.length ≤ 12)) ∧ T = [] ∧ Φ = [] := by
  refine con_of (fun O0 w0 F => ?_)
  refine tidy F (fun F => ?_)
  refine fn_of _ Tryz.func20 rfl (by kernel_rfl) Tryz.ntmps20 rfl ?_
  obtain ⟨a, c, rfl, _⟩ := (F.rel (v := v) (R := SltR)).form
  refine go_on ?_
  refine g_loop (X := Nat) (fun i => [(0, .slice a l.length c), (3, .int .i64 i)])
    (fun i wr => ∃ O, Fr [] O0 w0 O wr [] [Fact.rel 9 SltR (.slice a l.length c) l] ∧ i ≤ l.length ∧ ∀ j (h : j < l.length), j < i → l[j].data.length ≤ 800) (fun i => l.length - i) 0 (sub_cons rfl rfl (sub_cons rfl rfl (sub_nil))) ⟨_, F.wk, Nat.zero_le _, fun j _ hj => absurd hj (Nat.not_lt_zero _)⟩ ?_
  clear F
  rintro i w ⟨O, F, hi, hf⟩
  refine go_on ?_
  refine g_dec rfl (fun g => ?_) (fun g => ?_)
  · have hi' : i < l.length := by omega
    obtain ⟨x, row, rfl, hrl, ⟨u, rfl, hb⟩, hrow⟩ := (F.rel (R := SltR) (ys := l)).elem hi'
    have F := (F.fact hrow).factB hb
    obtain ⟨ua, uc, rfl, _⟩ := (F.bytes (xs := l[i].data)).form
    unfold sltC at F
    by_cases g1 : l[i].data.length ≤ 800
    · refine go_on ?_
      refine e_round (i + 1) (sub_cons rfl rfl (sub_cons rfl rfl (sub_nil))) ⟨_, F.wk, by omega, fun j hj hlt => ?_⟩ (by omega)
      by_cases e : j = i
      · subst e; exact g1
      · exact hf j hj (by omega)
    · rw [show decide ((∀ s, s ∈ l → s.data.length ≤ 800) ∧ l.length ≤ 12) = false from decide_eq_false (fun k => g1 (k.1 _ (List.getElem_mem hi')))]
      refine go_on ?_
      refine go_back ?_
      exact F.fin ⟨rfl, rfl, rfl⟩
  · obtain rfl : l.length = i := by omega
    have hall : ∀ s, s ∈ l → s.data.length ≤ 800 := fun s hs => by
      obtain ⟨j, hj, rfl⟩ := List.getElem_of_mem hs
      exact hf j hj hj
    refine go_on ?_
    refine go_back ?_
    exact F.fin ⟨by congr 1; rw [decide_eq_decide]; exact ⟨fun k => ⟨hall, by omega⟩, fun k => by have := k.2; omega⟩, rfl, rfl⟩
end Go.Proofs.YtcfpnghkkkphhaaGreat
