/- VolGrows answers true. -/
import Derived.Test.YtcfpnghkkkphhaaGreatVawake
namespace Go.Proofs.YtcfpnghkkkphhaaGreat
open Gk Go
set_option linter.unusedVariables false
set_option maxHeartbeats 4000000
set_option maxRecDepth 4000
set_option linter.unusedSimpArgs false
attribute [local irreducible] Int.decLt Int.decLe Int.decEq Int.instDecidableEq Gk.Rnds Gk.E Gk.G Gk.R Gk.RD Gk.RX Gk.RO Gk.Y Gk.Ent Gk.Sat Gk.Round Gk.After Gk.Cell Gk.Sl Gk.SlA Gk.CB Gk.OK Gk.FnC Gk.Bytes Gk.BytesL Gk.StrL Gk.Buf Gk.MapI
def gMix (i n k : Nat) : List UInt8 := (List.range n).map fun j => if j < k then UInt8.ofNat (j + i) else 0
theorem gMix_len (i n k : Nat) : (gMix i n k).length = n := by unfold gMix; rw [List.length_map, List.length_range]
theorem gMix_zero (i n : Nat) : gMix i n 0 = List.replicate n 0 := by
  unfold gMix
  refine List.ext_getElem (by simp) (fun j h1 h2 => ?_)
  simp
theorem gMix_succ {i n k : Nat} : (gMix i n k).set k (UInt8.ofNat (k + i)) = gMix i n (k + 1) := by
  unfold gMix
  refine List.ext_getElem (by simp) (fun j h1 h2 => ?_)
  rw [List.getElem_set]
  simp only [List.getElem_map, List.getElem_range]
  by_cases e : k = j
  · subst e
    rw [if_pos rfl, if_pos (by omega)]
  · rw [if_neg e]
    by_cases e2 : j < k
    · rw [if_pos e2, if_pos (by omega)]
    · rw [if_neg e2, if_neg (by omega)]
def sTwo (i : Nat) (d : List UInt8) : Slt := ⟨2, 1, 0, 1, 0, i, 0, 0, d⟩
theorem sTwo_ok {i : Nat} {d : List UInt8} (hi : i < 100) (hd : d.length ≤ 768) : (sTwo i d).ok ∧ (sTwo i d).fit :=
  ⟨⟨⟨by show 2 < 24; decide, by show 1 ≤ 3; decide, hd⟩, .inr ⟨by show ¬ (1 : Nat) = 0; decide, Nat.le_refl 1⟩, fun k => absurd (show (1 : Nat) = 2 from k) (by decide)⟩, by show 2 < _; omega, by show 1 < _; omega, by show 0 < _; omega, by show 1 < _; omega, by show 0 < _; omega, by show i < _; omega, by show 0 < _; omega, by show 0 < _; omega⟩
theorem needN_nat (n : Nat) : needN (n : Int) = (n + 95) / 96 := by unfold needN; omega
theorem VolGrows_ok {w0 : World} {v : Value} {zs : List Nat} {o : Nat} (ho : o < 256) (hx : ∀ y, y ∈ zs → y < 65536) (F : Fr [] [] w0 [] w0 [] [Fact.sl v zs.length (zs.map fun n : Nat => Value.int .u16 n)]) :
    FnC Tryz.prog 4 [v, .int .u8 o] [] [] w0 fun r O' w' => r = .bool true := by
  obtain ⟨xa, xc, rfl, _⟩ := (F.sl (cs := zs.map fun n : Nat => Value.int .u16 n)).form
  have hG := Good.new (n := 55) (by decide)
  obtain ⟨N9, hN9⟩ : ∃ N9, N9 = o + 1 := ⟨_, rfl⟩
  obtain ⟨s9, hs9⟩ : ∃ s9, sOne 9 (List.replicate N9 0) = s9 := ⟨_, rfl⟩
  have hd9 : s9.data.length = N9 := by rw [← hs9]; exact List.length_replicate
  have hi9 : s9.ino = 9 := by rw [← hs9]; rfl
  obtain ⟨hok, hfit⟩ := sOne_ok (i := 9) (d := List.replicate N9 0) (by decide) (by rw [List.length_replicate]; omega)
  rw [hs9] at hok hfit
  have hs := hG.save (mayS_one hok) (fun s hs => by rw [List.mem_singleton.1 hs]; exact hfit)
  have hu := used_one (S := slt0) (s := s9) (by rw [hi9]; decide)
  have hn9 : needN (s9.data.length : Nat) = (N9 + 95) / 96 := by rw [hd9]; exact needN_nat N9
  have hn0 : needN ((slt0 s9.ino).data.length : Nat) = 0 := by show needN ((0 : Nat) : Int) = 0; rw [needN_nat]
  rw [used0, hn0, hn9] at hu
  have hw : (tx0 55).was.length = 55 := List.length_replicate
  rw [hw, if_pos (by omega)] at hs
  obtain ⟨hs1, hs2, _, I', hG2⟩ := hs
  have hS9 : updS slt0 [s9] 9 = s9 := by show upI slt0 s9.ino s9 9 = s9; rw [hi9, upI_at]
  have hS2 : updS slt0 [s9] 2 = slt0 2 := by show upI slt0 s9.ino s9 2 = slt0 2; rw [hi9, upI_ne _ (by decide)]
  refine fn_of _ Tryz.func4 rfl (by kernel_rfl) Tryz.ntmps4 rfl ?_
  refine go_on ?_
  refine f_call F rfl rfl awake12_c ?_ (hp := trivial)
  clear F; rintro r O w T Φ ⟨rfl, rfl, rfl⟩ F0
  refine tidy F0 (fun F => ?_); clear F0
  refine go_on ?_
  by_cases hl : zs.length ≤ 20
  · refine go_on ?_
    refine f_make (l := 55) (c := 55) F rfl rfl rfl (fun q w F => ?_)
    obtain ⟨O, F⟩ := F.frzSl (Nat.le_refl 55)
    have F := F.fact (f := Fact.bytesL (.slice (some ⟨q, 0, none⟩) 55 55) (List.replicate 55 [])) (nil_bytesL (F.sl (v := .slice (some ⟨q, 0, none⟩) 55 55) (cs := List.replicate 55 (.slice none 0 0))))
    refine go_on ?_
    refine f_call F rfl rfl (txnNew_c (l := List.replicate 55 [])) ?_ (hp := ⟨by rw [List.length_replicate]; omega, fun b hb => by rw [List.eq_of_mem_replicate hb]; exact Nat.zero_le _⟩)
    clear F; rintro r O w T Φ ⟨p, m, rfl, rfl, rfl⟩ F0
    refine tidy F0 (fun F => ?_); clear F0
    change Fr _ _ _ _ _ ((2, Tn p m (tx0 55)) :: _) _ at F
    refine go_on ?_
    rw [show ((o : Int) + 1) = ((N9 : Nat) : Int) from by omega]
    refine f_make (l := N9) (c := N9) F rfl rfl rfl (fun qb w F => ?_)
    rw [bytesV_rep] at F
    obtain ⟨O, F⟩ := F.frzSl (q := qb) (cs := bytesV (List.replicate N9 0)) (Nat.le_refl N9)
    have F := F.factB (v := .slice (some ⟨qb, 0, none⟩) N9 N9) (xs := List.replicate N9 0) (by have := F.sl (v := .slice (some ⟨qb, 0, none⟩) N9 N9) (cs := bytesV (List.replicate N9 0)); exact Sl.bytes (by rw [List.length_replicate]; exact this))
    refine go_on ?_
    refine f_buildSlice (cs := [.int .u32 9, .int .u32 1, .int .u32 0, .int .u32 1, .int .u32 0, .int .u64 0, .int .u64 0, .int .u64 0, .slice (some ⟨qb, 0, none⟩) N9 N9]) F rfl rfl rfl rfl (fun qs w F => ?_)
    obtain ⟨O, F⟩ := frzSlts F (q := qs) (n := 1) (rows := [sltC (sOne 9 (List.replicate N9 0)) (.slice (some ⟨qb, 0, none⟩) N9 N9)]) (l := [sOne 9 (List.replicate N9 0)]) rfl (by decide) ⟨⟨_, rfl, F.bytes⟩, trivial⟩ (fun row hr => by rw [List.mem_singleton.1 hr]; rfl)
    rw [hs9] at F
    refine go_on ?_
    refine f_call F rfl rfl (vsave_c (t := tx0 55) (l := [s9])) ?_ (hp := ⟨by simp, hG.low, hG.nine, fun s hs => by rw [List.mem_singleton.1 hs]; exact hfit⟩)
    clear F; rintro r O w T Φ ⟨m2, rfl, rfl, rfl⟩ F0
    refine tidy F0 (fun F => ?_); clear F0
    rw [hs1]
    have hw1 : (volSave (tx0 55) [s9]).2.was.length = 55 := by rw [hs2, hw]
    generalize (volSave (tx0 55) [s9]).2 = t at F hs2 hG2 hw1
    generalize updS slt0 [s9] = S at hG2 hu hS9 hS2
    have hfr : volFree t = ((20 - (N9 + 95) / 96 : Nat) : Int) := by rw [hG2.free, hw1]; omega
    clear hs1 hs2 hs9 hG
    refine go_on ?_
    refine f_call F rfl rfl (vfree_c (t := t)) ?_ (hp := trivial)
    clear F; rintro r O w T Φ ⟨rfl, rfl, rfl⟩ F0
    refine tidy F0 (fun F => ?_); clear F0
    rw [hfr]
    clear hfr
    refine go_on ?_
    refine g_loop (X := Nat × Nat × Tx × (Nat → Slt) × (Nat → List Nat)) (fun y => [(0, .slice xa zs.length xc), (1, .int .u8 o), (6, tptr p), (7, .int .i64 ((20 - (N9 + 95) / 96 : Nat) : Int)), (8, .int .i64 y.1)])
      (fun y wr => ∃ O, Fr [] [] w0 O wr [(2, Tn p y.2.1 y.2.2.1)] [Fact.sl (.slice xa zs.length xc) zs.length (zs.map fun n : Nat => Value.int .u16 n)] ∧ y.1 ≤ zs.length ∧ Good y.2.2.1 y.2.2.2.1 y.2.2.2.2 ∧ y.2.2.1.was.length = 55 ∧ y.2.2.2.1 9 = s9 ∧ usedS y.2.2.2.1 = needN ((y.2.2.2.1 2).data.length : Nat) + (N9 + 95) / 96) (fun y => zs.length - y.1)
      (0, m2, t, S, I') (sub_cons rfl rfl (sub_cons rfl rfl (sub_cons rfl rfl (sub_cons rfl rfl (sub_cons rfl rfl (sub_nil)))))) ⟨_, F.wk, Nat.zero_le _, hG2, hw1, hS9, by dsimp only; rw [hS2]; show usedS S = needN ((0 : Nat) : Int) + _; rw [needN_nat]; omega⟩ ?_
    clear F hG2 hw1 hS9 hS2 hu
    rintro ⟨i, m, t, S, I⟩ w ⟨O, F, hi, hG, hw1, hS9, hu⟩
    dsimp only at F hi hG hw1 hS9 hu ⊢
    refine go_on ?_
    refine g_dec rfl (fun g => ?_) (fun g => ?_)
    · have hi' : i < zs.length := by omega
      obtain ⟨y, hy⟩ : ∃ y, zs[i] = y := ⟨_, rfl⟩
      have hyl : y < 65536 := hy ▸ hx _ (List.getElem_mem hi')
      obtain ⟨n, hn⟩ : ∃ n, y % 769 = n := ⟨_, rfl⟩
      have hn1 : n ≤ 768 := by omega
      refine go_on ?_
      obtain ⟨x, hx9, hc⟩ := ((F.sl (cs := zs.map fun n : Nat => Value.int .u16 n))).atm hi'
      (first | subst hx9 | (injection hx9 with hx9; subst hx9))
      have F := F.fact (f := Fact.cell _ _) hc
      refine go_on ?_
      rw [hy]
      refine go_on ?_
      refine r_y (y_remN (b := 769) rfl rfl (by decide)) rfl ?_
      rw [hn]
      refine go_on ?_
      refine f_make (l := n) (c := n) F rfl rfl rfl (fun qb w F => ?_)
      rw [bytesV_rep, ← gMix_zero i n] at F
      refine go_on ?_
      refine g_loop (X := Nat) (fun k => [(0, .slice (some x) zs.length xc), (1, .int .u8 o), (6, tptr p), (7, .int .i64 ((20 - (N9 + 95) / 96 : Nat) : Int)), (8, .int .i64 i), (9, .int .i64 n), (10, .slice (some ⟨qb, 0, none⟩) n n), (11, .int .i64 k)])
        (fun k wr => ∃ O, Fr [] [] w0 O wr [(2, Thing.cells qb (bytesV (gMix i n k))), (2, Tn p m t)] [Fact.sl (.slice (some x) zs.length xc) zs.length (zs.map fun n : Nat => Value.int .u16 n)] ∧ k ≤ n) (fun k => n - k)
        0 (sub_cons rfl rfl (sub_cons rfl rfl (sub_cons rfl rfl (sub_cons rfl rfl (sub_cons rfl rfl (sub_cons rfl rfl (sub_cons rfl rfl (sub_cons rfl rfl (sub_nil))))))))) ⟨_, F.wk, Nat.zero_le _⟩ ?_
      clear F
      rintro k w ⟨O, F, hk⟩
      have hgl := gMix_len i n k
      refine go_on ?_
      refine g_dec rfl (fun g => ?_) (fun g => ?_)
      · have hk' : k < n := by omega
        refine go_on ?_
        refine f_store1 (cs := bytesV (gMix i n k)) (i := k) F rfl rfl rfl (fun w F => ?_) (hc := .any) (hi := by simp [bytesV]; omega)
        have es : (bytesV (gMix i n k)).set k (.int .u8 ((UInt8.ofNat (k + i)).toNat : Nat)) = bytesV (gMix i n (k + 1)) := by
          rw [← gMix_succ]
          unfold bytesV
          rw [List.map_set]
          rfl
        have F : Fr _ _ _ _ _ ((2, Thing.cells qb ((bytesV (gMix i n k)).set k (.int .u8 ((UInt8.ofNat (k + i)).toNat : Nat)))) :: _) _ := F
        rw [es] at F
        refine go_on ?_
        exact e_round (k + 1) (sub_cons rfl rfl (sub_cons rfl rfl (sub_cons rfl rfl (sub_cons rfl rfl (sub_cons rfl rfl (sub_cons rfl rfl (sub_cons rfl rfl (sub_cons rfl rfl (sub_nil))))))))) ⟨_, F.wk, by omega⟩ (by omega)
      · obtain rfl : k = n := by omega
        obtain ⟨b, hb⟩ : ∃ b, gMix i k k = b := ⟨_, rfl⟩
        rw [hb] at F hgl
        clear hb
        subst hgl
        obtain ⟨O, F⟩ := F.frzSl (q := qb) (cs := bytesV b) (Nat.le_refl b.length)
        have F := F.factB (v := .slice (some ⟨qb, 0, none⟩) b.length b.length) (xs := b) (by have := F.sl (v := .slice (some ⟨qb, 0, none⟩) b.length b.length) (cs := bytesV b); exact Sl.bytes this)
        obtain ⟨hok2, hfit2⟩ := sTwo_ok (i := i) (d := b) (by omega) (by omega)
        have hs := hG.save (mayS_one hok2) (fun s hs => by rw [List.mem_singleton.1 hs]; exact hfit2)
        have hu2 := used_one (S := S) (s := sTwo i b) (by show 2 < 24; decide)
        have hn2 : needN ((sTwo i b).data.length : Nat) = (b.length + 95) / 96 := needN_nat b.length
        rw [hn2, show (sTwo i b).ino = 2 from rfl] at hu2
        have hu3 : usedS (updS S [sTwo i b]) = (b.length + 95) / 96 + (N9 + 95) / 96 := by omega
        rw [hw1, if_pos (by omega)] at hs
        obtain ⟨hs1, hs2, _, I2, hG2⟩ := hs
        have hT9 : updS S [sTwo i b] 9 = s9 := by show upI S 2 (sTwo i b) 9 = s9; rw [upI_ne _ (by decide)]; exact hS9
        have hT2 : updS S [sTwo i b] 2 = sTwo i b := by show upI S 2 (sTwo i b) 2 = sTwo i b; rw [upI_at]
        have hw2 : (volSave t [sTwo i b]).2.was.length = 55 := by rw [hs2, hw1]
        refine go_on ?_
        refine f_buildSlice (cs := [.int .u32 2, .int .u32 1, .int .u32 0, .int .u32 1, .int .u32 0, .int .u64 (i : Nat), .int .u64 0, .int .u64 0, .slice (some ⟨qb, 0, none⟩) b.length b.length]) F rfl rfl rfl rfl (fun qs w F => ?_)
        obtain ⟨O, F⟩ := frzSlts F (q := qs) (n := 1) (rows := [sltC (sTwo i b) (.slice (some ⟨qb, 0, none⟩) b.length b.length)]) (l := [sTwo i b]) rfl (by decide) ⟨⟨_, rfl, F.bytes⟩, trivial⟩ (fun row hr => by rw [List.mem_singleton.1 hr]; rfl)
        refine go_on ?_
        refine f_call F rfl rfl (vsave_c (t := t) (l := [sTwo i b])) ?_ (hp := ⟨by simp, hG.low, hG.nine, fun s hs => by rw [List.mem_singleton.1 hs]; exact hfit2⟩)
        clear F; rintro r O w T Φ ⟨m2, rfl, rfl, rfl⟩ F0
        refine tidy F0 (fun F => ?_); clear F0
        rw [hs1]
        generalize (volSave t [sTwo i b]).2 = t2 at F hs2 hG2 hw2
        generalize updS S [sTwo i b] = S2 at hG2 hu2 hu3 hT9 hT2
        have hfr : volFree t2 = ((20 - ((b.length + 95) / 96 + (N9 + 95) / 96) : Nat) : Int) := by rw [hG2.free, hw2]; omega
        have hl2 : volLoad t2 2 = (sTwo i b, 0) := by have := hG2.load (i := 2) (by decide); rw [hT2] at this; exact this
        have hl9 : volLoad t2 9 = (s9, 0) := by have := hG2.load (i := 9) (by decide); rw [hT9] at this; exact this
        refine go_on ?_
        refine f_call F rfl rfl (vload_c (t := t2) (ino := 2)) ?_ (hp := trivial)
        clear F; rintro r O w T Φ ⟨dv, rfl, rfl, rfl⟩ F0
        refine tidy F0 (fun F => ?_); clear F0
        rw [hl2] at F
        rw [hl2]
        change Fr _ _ _ _ _ _ (Fact.bytes dv b :: _) at F
        obtain ⟨da, dc, rfl, _⟩ := (F.bytes (v := dv) (xs := b)).form
        unfold sltV sltC
        refine go_on ?_
        (first | refine f_alloc1 F rfl (fun q13 w F => ?_) | refine f_allocN F rfl (fun q13 w F => ?_)); refine go_on ?_
        refine f_storeAll F rfl rfl rfl (fun w F => ?_); refine go_on ?_
        refine go_on ?_
        refine f_call F rfl rfl (vload_c (t := t2) (ino := 9)) ?_ (hp := trivial)
        clear F; rintro r O w T Φ ⟨dv, rfl, rfl, rfl⟩ F0
        refine tidy F0 (fun F => ?_); clear F0
        rw [hl9] at F
        rw [hl9]
        obtain ⟨ea, ec, rfl, _⟩ := (F.bytes (v := dv) (xs := s9.data)).form
        unfold sltV sltC
        rw [hd9]
        rw [hd9] at F
        refine go_on ?_
        (first | refine f_alloc1 F rfl (fun q15 w F => ?_) | refine f_allocN F rfl (fun q15 w F => ?_)); refine go_on ?_
        refine f_storeAll F rfl rfl rfl (fun w F => ?_); refine go_on ?_
        refine go_on ?_
        rw [show ((o : Int) + 1) = ((N9 : Nat) : Int) from by omega]
        refine go_on ?_
        refine f_call F rfl rfl (vfree_c (t := t2)) ?_ (hp := trivial)
        clear F; rintro r O w T Φ ⟨rfl, rfl, rfl⟩ F0
        refine tidy F0 (fun F => ?_); clear F0
        rw [hfr]
        refine go_on ?_
        refine r_y (y_quo64 rfl rfl ⟨by omega, by omega, by omega⟩) rfl ?_
        refine go_on ?_
        rw [show (((20 - (N9 + 95) / 96 : Nat) : Int) - ((b.length : Int) + 95) / 96) = ((20 - ((b.length + 95) / 96 + (N9 + 95) / 96) : Nat) : Int) from by omega]
        refine go_on ?_
        refine f_call F rfl rfl (vwrong_c (t := t2)) ?_ (hp := trivial)
        clear F; rintro r O w T Φ ⟨ws, rfl, rfl, rfl, hws⟩ F0
        refine tidy F0 (fun F => ?_); clear F0
        obtain rfl := hws.2 hG2.fine
        refine go_on ?_
        exact e_round (i + 1, m2, t2, S2, I2) (sub_cons rfl rfl (sub_cons rfl rfl (sub_cons rfl rfl (sub_cons rfl rfl (sub_cons rfl rfl (sub_nil)))))) ⟨_, F.wk, by simp only; omega, hG2, hw2, hT9, by dsimp only; rw [hT2, hn2]; exact hu3⟩ (by simp only; omega)
    · refine go_on ?_
      refine go_back ?_
      exact F.law
  · refine go_on ?_
    refine go_back ?_
    exact F.law
theorem VolGrows_true {w : World} {v0 v1 : Value} (r0 : Reads Tryz.prog w 45 [v0]) (r1 : Reads Tryz.prog w 5 [v1]) :
    FnC Tryz.prog 4 [v0, v1] [] [] w fun r O' w' => r = .bool true := by
  obtain ⟨x, hx, _, hlt⟩ := reads_nats (k := .u16) rfl r0
  obtain ⟨o, h, ho⟩ := reads_nat (k := .u8) rfl r1
  injection h with h
  subst h
  exact VolGrows_ok ho hlt ((Fr.start OK_nil).fact (f := Fact.sl v0 x.length (x.map fun n : Nat => Value.int .u16 n)) hx)
end Go.Proofs.YtcfpnghkkkphhaaGreat
