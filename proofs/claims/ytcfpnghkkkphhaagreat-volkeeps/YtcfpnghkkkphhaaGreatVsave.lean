/- Blocks are given back, and taken. -/
import Derived.Test.YtcfpnghkkkphhaaGreatVchunk
namespace Go.Proofs.YtcfpnghkkkphhaaGreat
open Gk Go
set_option linter.unusedVariables false
set_option maxHeartbeats 4000000
set_option maxRecDepth 4000
set_option linter.unusedSimpArgs false
attribute [local irreducible] Int.decLt Int.decLe Int.decEq Int.instDecidableEq Gk.Rnds Gk.E Gk.G Gk.R Gk.RD Gk.RX Gk.RO Gk.Y Gk.Ent Gk.Sat Gk.Round Gk.After Gk.Cell Gk.Sl Gk.SlA Gk.CB Gk.OK Gk.FnC Gk.Bytes Gk.BytesL Gk.StrL Gk.Buf Gk.MapI
theorem cutB0_le (b : List UInt8) : (cutB0 b).length ≤ b.length := cutB0_len b
theorem withB_len (b : List UInt8) (i : Nat) (t : Bool) : (withB b i t).length ≤ (if b.length < i / 8 + 1 then i / 8 + 1 else b.length) := by
  unfold withB
  split
  · have := cutB0_len b; split <;> omega
  · refine Nat.le_trans (cutB0_len _) ?_
    rw [List.length_set, padB_len]
    exact Nat.le_refl _
theorem withB_lenF (b : List UInt8) (i : Nat) : (withB b i false).length ≤ b.length := by
  unfold withB
  split
  · exact cutB0_len b
  · rename_i h
    refine Nat.le_trans (cutB0_len _) ?_
    rw [List.length_set, padB_len]
    split
    · exact absurd ⟨rfl, by omega⟩ h
    · exact Nat.le_refl _
/-- A thing's blocks are given back. -/
def giveGo : List Nat → List UInt8 → Tx → List UInt8 × Tx
  | [], b, t => (b, t)
  | k :: ks, b, t => giveGo ks (withB b k false) (t.put1 (35 + (k : Int)) [])
def volGive (t : Tx) (b : List UInt8) (ino : Nat) : Nat × List UInt8 × Tx := if (t.ino ino).2 = 0 then (0, giveGo (t.ino ino).1.blocks b t) else ((t.ino ino).2, b, t)
theorem vgive_c {qs pf mf ino : Nat} {v : Value} {b : List UInt8} {t : Tx} (h : ino < 4294967296 ∧ b.length ≤ 1000000 ∧ ∀ x, x ∈ (t.ino ino).1.blocks → x ≤ 1000000) : Con Tryz.prog 39 [bptr qs, .int .u32 ino] [Thing.cells qs [tptr pf, v], Tn pf mf t] [] [Fact.bytes v b] fun r T Φ => ∃ v', r = errT (volGive t b ino).1 ∧ T = [Thing.cells qs [tptr pf, v'], Tn pf mf (volGive t b ino).2.2] ∧ Φ = [Fact.bytes v' (volGive t b ino).2.1] := by
  obtain ⟨h1, h2, h3⟩ := h
  refine con_of (fun O0 w0 F => ?_)
  refine tidy F (fun F => ?_)
  refine fn_of _ Tryz.func39 rfl (by kernel_rfl) Tryz.ntmps39 rfl ?_
  have hbig := (tnAt (t := t) F).get_big
  obtain ⟨va, vc, rfl, _⟩ := (F.bytes (v := v)).form
  refine go_on ?_
  refine f_call F rfl rfl (txnGet_c (t := t) (i := 11 + (ino : Int))) ?_ (hp := trivial)
  clear F; rintro r O w T Φ ⟨rfl, rfl⟩ F0
  refine tidy F0 (fun F => ?_); clear F0
  refine go_on ?_
  refine f_call F rfl rfl inoGet_c ?_ (hp := (Nat.le_trans (hbig _) (by decide)))
  clear F; rintro r O w T Φ ⟨bv, rfl, rfl, rfl⟩ F0
  refine tidy F0 (fun F => ?_); clear F0
  have hf := inoGet_fit (t.get (11 + (ino : Int)))
  change (t.ino ino).1.fit at hf
  obtain ⟨n, en, hn⟩ : ∃ n en, t.ino ino = (n, en) := ⟨_, _, rfl⟩
  have hn' : inoGet (t.get (11 + (ino : Int))) = (n, en) := hn
  rw [hn'] at F
  rw [hn']
  rw [hn] at hf h3
  dsimp only at F hf h3 ⊢
  have hbl : n.blocks.length ≤ 1000000 := hf.2.2.2.2.2.2.2.2.2
  have e : volGive t b ino = if en = 0 then (0, giveGo n.blocks b t) else (en, b, t) := by unfold volGive; rw [hn]
  clear hn hn' hf
  obtain ⟨ba, bc, rfl, _⟩ := (F.sl (cs := n.blocks.map u32V)).form
  rw [e]
  clear e
  refine go_on ?_
  (first | refine f_alloc1 F rfl (fun q5 w F => ?_) | refine f_allocN F rfl (fun q5 w F => ?_)); refine go_on ?_
  refine f_storeAll F rfl rfl rfl (fun w F => ?_); refine go_on ?_
  refine go_on ?_
  by_cases g1 : en = 0
  · subst g1
    rw [if_pos rfl]
    have F := F.fact (f := Fact.bytes (.slice none 0 0) []) Bytes.nil
    refine go_on ?_
    refine g_loop (X := Nat × Value × List UInt8 × Tx) (fun y => [(0, bptr qs), (25, .slice ba n.blocks.length bc), (26, .int .i64 n.blocks.length), (27, .int .i64 y.1)])
      (fun y wr => ∃ O, Fr ([Thing.cells qs [tptr pf, .slice va b.length vc], Tn pf mf t].flatMap (·.bs)) O0 w0 O wr [(1, Thing.cells qs [tptr pf, y.2.1]), (1, Tn pf mf y.2.2.2)] [Fact.u32s (.slice ba n.blocks.length bc) n.blocks, Fact.bytes y.2.1 y.2.2.1, Fact.bytes (.slice none 0 0) []] ∧ y.1 ≤ n.blocks.length ∧ giveGo n.blocks b t = giveGo (n.blocks.drop y.1) y.2.2.1 y.2.2.2 ∧ y.2.2.1.length ≤ 1000000) (fun y => n.blocks.length - y.1)
      (0, .slice va b.length vc, b, t) (sub_cons rfl rfl (sub_cons rfl rfl (sub_cons rfl rfl (sub_cons rfl rfl (sub_nil))))) ⟨_, F.wk, Nat.zero_le _, rfl, h2⟩ ?_
    clear F
    rintro ⟨j, v, b', t'⟩ w ⟨O, F, hj, hg, hl⟩
    dsimp only at F hj hg hl ⊢
    obtain ⟨va, vc, rfl, _⟩ := (F.bytes (v := v) (xs := b')).form
    refine go_on ?_
    refine g_dec rfl (fun g => ?_) (fun g => ?_)
    · have hj' : j < n.blocks.length := by omega
      obtain ⟨k, hk⟩ : ∃ k, n.blocks[j] = k := ⟨_, rfl⟩
      have hkl : k ≤ 1000000 := hk ▸ h3 _ (List.getElem_mem hj')
      have hd : n.blocks.drop j = k :: n.blocks.drop (j + 1) := by rw [List.drop_eq_getElem_cons hj', hk]
      rw [hd, giveGo] at hg
      have hwl := withB_lenF b' k
      refine go_on ?_
      obtain ⟨x, hx9, hc⟩ := ((F.sl (cs := n.blocks.map u32V))).atm hj'
      (first | subst hx9 | (injection hx9 with hx9; subst hx9))
      have F := F.fact (f := Fact.cell _ _) hc
      refine go_on ?_
      rw [hk]
      refine go_on ?_
      refine f_call F rfl rfl (bwith_c (b := b') (i := k) (t := false)) ?_ (hp := ⟨hkl, hl⟩)
      clear F; rintro r O w T Φ ⟨rfl, rfl⟩ F0
      refine tidy F0 (fun F => ?_); clear F0
      obtain ⟨O, F⟩ := F.frzB
      obtain ⟨wa, wc, rfl, _⟩ := (F.bytes (xs := withB b' k false)).form
      refine go_on ?_
      refine f_store1 F rfl rfl rfl (fun w F => ?_); refine go_on ?_
      refine f_call F rfl rfl (txnPut_c (t := t') (i := 35 + (k : Int)) (xs := [])) ?_ (hp := trivial)
      clear F; rintro r O w T Φ ⟨rfl, rfl, rfl⟩ F0
      refine tidy F0 (fun F => ?_); clear F0
      refine go_on ?_
      exact e_round (j + 1, _, withB b' k false, t'.put1 (35 + (k : Int)) []) (sub_cons rfl rfl (sub_cons rfl rfl (sub_cons rfl rfl (sub_cons rfl rfl (sub_nil))))) ⟨_, F.wk, by simp only; omega, hg, by simp only; omega⟩ (by simp only; omega)
    · obtain rfl : j = n.blocks.length := by omega
      rw [List.drop_length, giveGo] at hg
      rw [hg]
      refine go_on ?_
      refine go_back ?_
      exact F.fin ⟨_, rfl, rfl, rfl⟩
  · rw [if_neg g1]
    refine go_on ?_
    refine go_back ?_
    exact F.fin ⟨_, rfl, rfl, rfl⟩
/-- A thing takes these blocks. -/
def takeGo (d : List UInt8) (l : List Nat) (b : List UInt8) (t : Tx) : Nat → List UInt8 × Tx
  | 0 => (b, t)
  | i + 1 => (withB (takeGo d l b t i).1 (l.getD i 0) true, (takeGo d l b t i).2.put1 (35 + ((l.getD i 0 : Nat) : Int)) ((d.drop (96 * i)).take 96))
def takeIno (s : Slt) (l : List Nat) : Ino := ⟨s.kind, s.gen, s.links, s.mode, s.data.length, s.change, s.cookie, s.verf, l⟩
def Slt.fit (s : Slt) : Prop := s.ino < 4294967296 ∧ s.kind < 4294967296 ∧ s.gen < 4294967296 ∧ s.links < 4294967296 ∧ s.mode < 4294967296 ∧ s.change < 18446744073709551616 ∧ s.cookie < 18446744073709551616 ∧ s.verf < 18446744073709551616
def volPutI (t : Tx) (b : List UInt8) (i : Nat) (n : Ino) : Nat × List UInt8 × Tx :=
  if n.may then (t.putE (11 + (i : Int)) (if n.may ∧ ¬ n.none then n.bytes else []), b, t.put1 (11 + (i : Int)) (if n.may ∧ ¬ n.none then n.bytes else [])) else (1, b, t)
def volTake (t : Tx) (b : List UInt8) (s : Slt) : Nat × List UInt8 × Tx :=
  if drawE b (t.was.length - 35) (needN (s.data.length : Nat)) = 0 then
    volPutI (takeGo s.data (drawB b (t.was.length - 35) (needN (s.data.length : Nat))) b t (needN (s.data.length : Nat))).2 (takeGo s.data (drawB b (t.was.length - 35) (needN (s.data.length : Nat))) b t (needN (s.data.length : Nat))).1 s.ino (takeIno s (drawB b (t.was.length - 35) (needN (s.data.length : Nat))))
  else (drawE b (t.was.length - 35) (needN (s.data.length : Nat)), b, t)
theorem freeB_lt (b : List UInt8) : ∀ (n : Nat), ∀ x, x ∈ freeB b n → x < n
  | 0, x, h => by cases h
  | n + 1, x, h => by
    have h : x ∈ if hasB b n then freeB b n else freeB b n ++ [n] := h
    split at h
    · have := freeB_lt b n x h; omega
    · rcases List.mem_append.1 h with h | h
      · have := freeB_lt b n x h; omega
      · simp at h; omega
theorem drawB_lt {b : List UInt8} {n many : Nat} : ∀ x, x ∈ drawB b n many → x < n := by
  intro x hx
  unfold drawB at hx
  split at hx
  · cases hx
  · exact freeB_lt b n x (List.mem_of_mem_take hx)
theorem drawB_len {b : List UInt8} {n many : Nat} (h : drawE b n many = 0) : (drawB b n many).length = many := by
  unfold drawE at h
  unfold drawB
  split at h
  · cases h
  · rename_i g
    rw [if_neg g, List.length_take]
    omega
theorem takeGo_len {d : List UInt8} {l : List Nat} {b : List UInt8} {t : Tx} (hl : ∀ x, x ∈ l → x ≤ 1000) (hb : b.length ≤ 100000) : ∀ i, (takeGo d l b t i).1.length ≤ 100000
  | 0 => hb
  | i + 1 => by
    have h1 := takeGo_len (d := d) (t := t) hl hb i
    have h2 := withB_len (takeGo d l b t i).1 (l.getD i 0) true
    have h3 : l.getD i 0 ≤ 1000 := by
      rw [List.getD_eq_getElem?_getD]
      cases hg : l[i]? with
      | none => exact Nat.zero_le _
      | some y => exact hl y (List.mem_of_getElem? hg)
    rw [takeGo]
    refine Nat.le_trans h2 ?_
    split <;> omega
theorem vtake_c {qs pf mf : Nat} {v sv : Value} {b : List UInt8} {t : Tx} {s : Slt} (h : t.right ∧ b.length ≤ 100000 ∧ s.data.length ≤ 100000 ∧ s.fit) : Con Tryz.prog 40 [bptr qs, sltV s sv] [Thing.cells qs [tptr pf, v], Tn pf mf t] [] [Fact.bytes v b, Fact.bytes sv s.data] fun r T Φ => ∃ v', r = errT (volTake t b s).1 ∧ T = [Thing.cells qs [tptr pf, v'], Tn pf mf (volTake t b s).2.2] ∧ Φ = [Fact.bytes v' (volTake t b s).2.1] := by
  obtain ⟨hr, h2, h3, hfit⟩ := h
  have hr1 : 35 < t.was.length := hr.1
  have hr2 : t.was.length ≤ 803 := hr.2
  obtain ⟨f1, f2, f3, f4, f5, f6, f7, f8⟩ := id hfit
  refine con_of (fun O0 w0 F => ?_)
  refine tidy F (fun F => ?_)
  refine fn_ofM _ Tryz.func40 rfl (by kernel_rfl) Tryz.ntmps40 rfl ?_
  have hbig := (tnAt (t := t) F).get_big
  obtain ⟨va, vc, hvv, _⟩ := (F.bytes (v := v) (xs := b)).form
  subst hvv
  obtain ⟨sa, sc, hsv, _⟩ := (F.bytes (v := sv) (xs := s.data)).form
  subst hsv
  have hneed : needN (s.data.length : Nat) = (s.data.length + 95) / 96 := by unfold needN; omega
  obtain ⟨N, hN⟩ : ∃ N, t.was.length - 35 = N := ⟨_, rfl⟩
  unfold sltV sltC
  refine go_on ?_
  (first | refine f_box1 F rfl rfl (fun q2 w F => ?_) | refine f_boxN F rfl rfl (fun q2 w F => ?_)); refine go_on ?_
  refine go_on ?_
  (first | refine f_box1 F rfl rfl (fun q3 w F => ?_) | refine f_boxN F rfl rfl (fun q3 w F => ?_)); refine go_on ?_
  refine go_on ?_
  refine f_drawA F [] [(0, true), (1, true), (2, true), (3, true), (4, true), (5, true), (6, true), (7, true), (10, true), (11, true), (12, true), (21, true), (21, true), (21, true), (21, true), (21, true), (21, true), (21, true), (21, true), (21, true), (21, true)] (by kernel_rfl) (by kernel_rfl) (fun w F hS => ?_); refine go_look ?_
  apply e_join (X := Nat) (fun z => [(2, bptr q2), (3, bptr q3), (5, bptr z), (6, errT (drawE b N (needN (s.data.length : Nat))))])
    (fun z w => ∃ O lv, Fr ([Thing.cells qs [tptr pf, .slice va b.length vc], Tn pf mf t].flatMap (·.bs)) O0 w0 O w [(2, Thing.cells z [lv]), (2, Thing.cells q3 [.int .u32 s.ino, .int .u32 s.kind, .int .u32 s.gen, .int .u32 s.links, .int .u32 s.mode, .int .u64 s.change, .int .u64 s.cookie, .int .u64 s.verf, .slice sa s.data.length sc]), (2, Thing.cells q2 [bptr qs]), (1, Thing.cells qs [tptr pf, .slice va b.length vc]), (1, Tn pf mf t)] [Fact.sl lv (drawB b N (needN (s.data.length : Nat))).length ((drawB b N (needN (s.data.length : Nat))).map iV), Fact.bytes (.slice va b.length vc) b, Fact.bytes (.slice sa s.data.length sc) s.data])
  intro K2
  have F := F
  refine rd_fork (i := 8) (j := 18) (Li := [(9, true), (21, true), (21, true), (21, true), (21, true), (21, true), (21, true), (21, true), (21, true)]) (Lj := [(8, false), (9, true), (13, false), (14, false), (15, true), (16, true), (17, true), (19, false), (20, true)]) rfl rfl (by kernel_rfl) rfl rfl (by kernel_rfl) (by kernel_rfl) ?_ ?_
  · refine f_call F rfl rfl (txnLen_c (t := t)) ?_ (hp := trivial)
    clear F; rintro r O w T Φ ⟨rfl, rfl, rfl⟩ F0
    refine tidy F0 (fun F => ?_); clear F0
    (try refine r_nil ?_); refine e_afterF F (fun hS => ?_); refine go_look ?_
    rw [show ((t.was.length : Int) - 35) = ((N : Nat) : Int) from by omega]
    refine go_look ?_
    refine rd_fork (i := 13) (j := 18) (Li := [(21, true), (21, true), (21, true), (21, true), (21, true), (21, true), (21, true)]) (Lj := [(13, false), (14, false), (15, true), (16, true), (17, true), (19, false), (20, true)]) rfl rfl (by kernel_rfl) rfl rfl (by kernel_rfl) (by kernel_rfl) ?_ ?_
    · refine f_call F rfl rfl (need_c (size := (s.data.length : Nat))) ?_ (hp := by omega)
      clear F; rintro r O w T Φ ⟨rfl, rfl, rfl⟩ F0
      refine tidy F0 (fun F => ?_); clear F0
      (try refine r_nil ?_); refine e_afterF F (fun hS => ?_); refine go_look ?_
      refine rd_fork (i := 14) (j := 18) (Li := [(15, true), (16, true), (17, true), (18, false), (19, false), (20, true)]) (Lj := [(14, false), (15, true), (16, true), (17, true), (19, false), (20, true)]) rfl rfl (by kernel_rfl) rfl rfl (by kernel_rfl) (by kernel_rfl) ?_ ?_
      · refine f_call F rfl rfl (bdraw_c (b := b) (n := N) (many := needN (s.data.length : Nat))) ?_ (hp := ⟨by omega, by omega, by omega⟩)
        clear F; rintro r O w T Φ ⟨lv, rfl, rfl, rfl⟩ F0
        refine tidy F0 (fun F => ?_); clear F0
        (try refine r_nil ?_); refine e_afterF F (fun hS => ?_); refine go_look ?_
        refine rd_do rfl ?_; (try refine r_go rfl rfl ?_)
        refine f_alloc1 F rfl (fun z w F => ?_)
        (try refine r_nil ?_); refine e_afterF F (fun hS => ?_); refine go_look ?_
        refine rd_do rfl ?_; (try refine r_go rfl rfl ?_)
        obtain ⟨la, lc, rfl, _⟩ := (F.sl (cs := (drawB b N (needN (s.data.length : Nat))).map iV)).form
        refine f_store1 F rfl rfl rfl (fun w F => ?_)
        (try refine r_nil ?_); refine e_afterF F (fun hS => ?_); refine go_look ?_
        refine rd_done ?_
        exact K2 z _ _ ⟨_, _, F.wk⟩ (sub_cons rfl rfl (sub_cons rfl rfl (sub_cons rfl rfl (sub_cons rfl rfl (sub_nil)))))
      · refine f_alloc1 F rfl (fun z w F => ?_)
        (try refine r_nil ?_); refine e_afterF F (fun hS => ?_); refine go_look ?_
        refine rd_do rfl ?_; (try refine r_go rfl rfl ?_)
        refine f_call F rfl rfl (bdraw_c (b := b) (n := N) (many := needN (s.data.length : Nat))) ?_ (hp := ⟨by omega, by omega, by omega⟩)
        clear F; rintro r O w T Φ ⟨lv, rfl, rfl, rfl⟩ F0
        refine tidy F0 (fun F => ?_); clear F0
        (try refine r_nil ?_); refine e_afterF F (fun hS => ?_); refine go_look ?_
        refine rd_do rfl ?_; (try refine r_go rfl rfl ?_)
        obtain ⟨la, lc, rfl, _⟩ := (F.sl (cs := (drawB b N (needN (s.data.length : Nat))).map iV)).form
        refine f_store1 F rfl rfl rfl (fun w F => ?_)
        (try refine r_nil ?_); refine e_afterF F (fun hS => ?_); refine go_look ?_
        refine rd_done ?_
        exact K2 z _ _ ⟨_, _, F.wk⟩ (sub_cons rfl rfl (sub_cons rfl rfl (sub_cons rfl rfl (sub_cons rfl rfl (sub_nil)))))
    · refine f_alloc1 F rfl (fun z w F => ?_)
      (try refine r_nil ?_); refine e_afterF F (fun hS => ?_); refine go_look ?_
      refine rd_do rfl ?_; (try refine r_go rfl rfl ?_)
      refine f_call F rfl rfl (need_c (size := (s.data.length : Nat))) ?_ (hp := by omega)
      clear F; rintro r O w T Φ ⟨rfl, rfl, rfl⟩ F0
      refine tidy F0 (fun F => ?_); clear F0
      (try refine r_nil ?_); refine e_afterF F (fun hS => ?_); refine go_look ?_
      refine rd_do rfl ?_; (try refine r_go rfl rfl ?_)
      refine f_call F rfl rfl (bdraw_c (b := b) (n := N) (many := needN (s.data.length : Nat))) ?_ (hp := ⟨by omega, by omega, by omega⟩)
      clear F; rintro r O w T Φ ⟨lv, rfl, rfl, rfl⟩ F0
      refine tidy F0 (fun F => ?_); clear F0
      (try refine r_nil ?_); refine e_afterF F (fun hS => ?_); refine go_look ?_
      refine rd_do rfl ?_; (try refine r_go rfl rfl ?_)
      obtain ⟨la, lc, rfl, _⟩ := (F.sl (cs := (drawB b N (needN (s.data.length : Nat))).map iV)).form
      refine f_store1 F rfl rfl rfl (fun w F => ?_)
      (try refine r_nil ?_); refine e_afterF F (fun hS => ?_); refine go_look ?_
      refine rd_done ?_
      exact K2 z _ _ ⟨_, _, F.wk⟩ (sub_cons rfl rfl (sub_cons rfl rfl (sub_cons rfl rfl (sub_cons rfl rfl (sub_nil)))))
  · refine f_alloc1 F rfl (fun z w F => ?_)
    (try refine r_nil ?_); refine e_afterF F (fun hS => ?_); refine go_look ?_
    refine rd_do rfl ?_; (try refine r_go rfl rfl ?_)
    refine f_call F rfl rfl (txnLen_c (t := t)) ?_ (hp := trivial)
    clear F; rintro r O w T Φ ⟨rfl, rfl, rfl⟩ F0
    refine tidy F0 (fun F => ?_); clear F0
    (try refine r_nil ?_); refine e_afterF F (fun hS => ?_); refine go_look ?_
    rw [show ((t.was.length : Int) - 35) = ((N : Nat) : Int) from by omega]
    refine go_look ?_
    refine rd_do rfl ?_; (try refine r_go rfl rfl ?_)
    refine f_call F rfl rfl (need_c (size := (s.data.length : Nat))) ?_ (hp := by omega)
    clear F; rintro r O w T Φ ⟨rfl, rfl, rfl⟩ F0
    refine tidy F0 (fun F => ?_); clear F0
    (try refine r_nil ?_); refine e_afterF F (fun hS => ?_); refine go_look ?_
    refine rd_do rfl ?_; (try refine r_go rfl rfl ?_)
    refine f_call F rfl rfl (bdraw_c (b := b) (n := N) (many := needN (s.data.length : Nat))) ?_ (hp := ⟨by omega, by omega, by omega⟩)
    clear F; rintro r O w T Φ ⟨lv, rfl, rfl, rfl⟩ F0
    refine tidy F0 (fun F => ?_); clear F0
    (try refine r_nil ?_); refine e_afterF F (fun hS => ?_); refine go_look ?_
    refine rd_do rfl ?_; (try refine r_go rfl rfl ?_)
    obtain ⟨la, lc, rfl, _⟩ := (F.sl (cs := (drawB b N (needN (s.data.length : Nat))).map iV)).form
    refine f_store1 F rfl rfl rfl (fun w F => ?_)
    (try refine r_nil ?_); refine e_afterF F (fun hS => ?_); refine go_look ?_
    refine rd_done ?_
    exact K2 z _ _ ⟨_, _, F.wk⟩ (sub_cons rfl rfl (sub_cons rfl rfl (sub_cons rfl rfl (sub_cons rfl rfl (sub_nil)))))
  rintro q5 w ⟨O, lv, F⟩
  have hlt := drawB_lt (b := b) (n := N) (many := needN (s.data.length : Nat))
  have hdl := drawB_len (b := b) (n := N) (many := needN (s.data.length : Nat))
  have eT : volTake t b s = if drawE b N (needN (s.data.length : Nat)) = 0 then
    volPutI (takeGo s.data (drawB b N (needN (s.data.length : Nat))) b t (needN (s.data.length : Nat))).2 (takeGo s.data (drawB b N (needN (s.data.length : Nat))) b t (needN (s.data.length : Nat))).1 s.ino (takeIno s (drawB b N (needN (s.data.length : Nat))))
  else (drawE b N (needN (s.data.length : Nat)), b, t) := by unfold volTake; rw [hN]
  rw [eT]
  clear eT
  generalize drawB b N (needN (s.data.length : Nat)) = l at F hlt hdl ⊢
  generalize drawE b N (needN (s.data.length : Nat)) = de at hdl ⊢
  obtain ⟨la, lc, rfl, _⟩ := (F.sl (cs := l.map iV)).form
  by_cases g1 : de = 0
  · subst g1
    have hdl := hdl rfl
    rw [if_pos rfl]
    have hl1 : ∀ x, x ∈ l → x ≤ 1000 := fun x hx => by have := hlt x hx; omega
    have htl := takeGo_len (d := s.data) (t := t) hl1 h2
    refine go_on ?_
    (first | refine f_alloc1 F rfl (fun q7 w F => ?_) | refine f_allocN F rfl (fun q7 w F => ?_)); refine go_on ?_
    refine f_storeAll F rfl rfl rfl (fun w F => ?_); refine go_on ?_
    refine go_on ?_
    (first | refine f_alloc1 F rfl (fun q8 w F => ?_) | refine f_allocN F rfl (fun q8 w F => ?_)); refine go_on ?_
    refine f_store1 F rfl rfl rfl (fun w F => ?_); refine go_on ?_
    have F := F
    refine f_call F rfl rfl (schunk_c (u := .slice sa s.data.length sc)) ?_ (hp := rfl)
    clear F; rintro r O w T Φ ⟨c2, c3, rfl, rfl, rfl⟩ F0
    refine tidy F0 (fun F => ?_); clear F0
    refine go_on ?_
    have F := F.nilbuf 1
    refine g_rangeC F rfl (fun ly k w r0 e1 e2 e3 e4 e5 e6 e7 F => ?_)
    refine range_use (schunk1_c (X := Nat × Value × Value) (S := Unit) (ly := ly) (b2 := c2) (b3 := c3) (u := .slice sa s.data.length sc) (d := s.data)
      (J := fun y => [Thing.loop ly r0, Thing.cells q2 [bptr qs], Thing.cells q3 [.int .u32 s.ino, .int .u32 s.kind, .int .u32 s.gen, .int .u32 s.links, .int .u32 s.mode, .int .u64 s.change, .int .u64 s.cookie, .int .u64 s.verf, .slice sa s.data.length sc], Thing.cells q5 [.slice la l.length lc], Thing.cells q7 [.int .u32 s.kind, .int .u32 s.gen, .int .u32 s.links, .int .u32 s.mode, .int .u32 (s.data.length : Nat), .int .u64 s.change, .int .u64 s.cookie, .int .u64 s.verf, y.2.1], Thing.cells q8 [.int .i64 y.1], Thing.cells qs [tptr pf, y.2.2], Tn pf mf (takeGo s.data l b t y.1).2, Thing.buf 1 y.2.1 y.1 ((l.take y.1).map u32V)])
      (JF := fun y => [Fact.bytes y.2.2 (takeGo s.data l b t y.1).1, Fact.sl (.slice la l.length lc) l.length (l.map iV)])
      (JP := fun i y => y.1 = i) (SJ := fun _ => []) (SF := fun _ => []) (SP := fun _ => False)
      (x0 := (0, .slice none 0 0, .slice va b.length vc)) ?_ rfl (by omega)) F (fun r O w T Φ hK F => ?_)
    · rintro i ⟨i', nv, yv⟩ cv hi rfl
      dsimp only at hi ⊢
      have hil : i' < l.length := by omega
      obtain ⟨x, hx⟩ : ∃ x, l[i'] = x := ⟨_, rfl⟩
      have hx1 : x ≤ 1000 := hx ▸ hl1 _ (List.getElem_mem hil)
      have hgd : l.getD i' 0 = x := by rw [List.getD_eq_getElem?_getD, List.getElem?_eq_getElem hil, hx]; rfl
      have hT1 : (takeGo s.data l b t (i' + 1)).1 = withB (takeGo s.data l b t i').1 x true := by rw [takeGo, hgd]
      have hT2 : (takeGo s.data l b t (i' + 1)).2 = (takeGo s.data l b t i').2.put1 (35 + (x : Int)) ((s.data.drop (96 * i')).take 96) := by rw [takeGo, hgd]
      have hT3 : (l.take i').map u32V ++ [Value.int .u32 (x : Nat)] = (l.take (i' + 1)).map u32V := by rw [List.take_succ_eq_append_getElem hil, List.map_append, hx]; rfl
      have htl' := htl i'
      generalize (takeGo s.data l b t i').1 = b1 at hT1 htl' ⊢
      generalize (takeGo s.data l b t i').2 = t1 at hT2 ⊢
      refine ycon_of (ps := [54]) e3 rfl e6 rfl e7 (by simp) (fun O w F => ?_)
      rw [e4, e5]
      refine tidy F (fun F => ?_)
      obtain ⟨na, nc, rfl, _⟩ := (F.bufAt (v := nv)).form
      obtain ⟨ya, yc, rfl, _⟩ := (F.bytes (v := yv) (xs := b1)).form
      obtain ⟨ca, cc, rfl, _⟩ := (F.bytes (v := cv)).form
      refine go_on ?_
      refine e_begin F (by (repeat (first | exact Sel.here | apply Sel.there))) (.inl rfl) e1 (fun w F => ?_)
      obtain ⟨xa, hx9, hc⟩ := (F.sl (cs := l.map iV)).atm hil
      (first | subst hx9 | (injection hx9 with hx9; subst hx9))
      rw [hx] at hc
      have F := F.fact (f := Fact.cell _ _) hc
      refine go_on ?_
      refine f_draw [(1, Thing.cells q2 _), (1, Thing.cells qs _), (1, Thing.cells q5 _), (1, Thing.cells q8 _)] F [12] [(0, true), (1, true), (2, true), (3, true), (4, true), (5, true), (6, true), (7, true), (8, true), (9, false), (10, true), (11, true), (12, false)] (by kernel_rfl) (by kernel_rfl) (fun w F hS => ?_); refine go_look ?_
      refine rd_do rfl ?_; (try refine r_go rfl rfl ?_)
      refine f_call F rfl rfl (bwith_c (b := b1) (i := x) (t := true)) ?_ (hp := ⟨by omega, by omega⟩)
      clear F; rintro r O w T Φ ⟨rfl, rfl⟩ F0
      refine tidy F0 (fun F => ?_); clear F0
      obtain ⟨O, F⟩ := F.frzB
      obtain ⟨wa, wc, rfl, _⟩ := (F.bytes (xs := withB b1 x true)).form
      (try refine r_nil ?_); refine e_afterF F (fun hS => ?_); refine go_look ?_
      refine rd_do rfl ?_; (try refine r_go rfl rfl ?_)
      refine f_store1 F rfl rfl rfl (fun w F => ?_)
      (try refine r_nil ?_); refine e_after (fun h => by cases h) ?_; refine go_look ?_
      refine rd_done ?_; refine go_on ?_
      refine f_draw [(1, Thing.cells q2 _), (1, Thing.cells qs _), (1, Thing.cells q5 _), (1, Thing.cells q8 _)] F [10] [(0, true), (1, true), (2, true), (3, true), (4, true), (5, true), (6, true), (7, true), (8, true), (9, true), (10, false)] (by kernel_rfl) (by kernel_rfl) (fun w F hS => ?_); refine go_look ?_
      refine rd_do rfl ?_; (try refine r_go rfl rfl ?_)
      refine f_call F rfl rfl (txnPut_c (p := pf) (m := mf) (t := t1) (i := 35 + (x : Int)) (xs := (s.data.drop (96 * i')).take 96)) ?_ (hp := trivial)
      clear F; rintro r O w T Φ ⟨rfl, rfl, rfl⟩ F0
      refine tidy F0 (fun F => ?_); clear F0
      (try refine r_nil ?_); refine e_after (fun h => by cases h) ?_; refine go_look ?_
      refine rd_done ?_; refine go_on ?_
      refine f_draw [(1, Thing.cells q7 _), (1, Thing.cells q5 _), (1, Thing.cells q8 _)] F [10] [(0, true), (1, true), (2, true), (3, true), (4, true), (5, true), (6, true), (7, false), (8, false), (9, true), (10, false)] (by kernel_rfl) (by kernel_rfl) (fun w F hS => ?_); refine go_look ?_
      refine rd_do rfl ?_; (try refine r_go rfl rfl ?_)
      refine f_buildSlice (cs := [.int .u32 (x : Nat)]) F rfl rfl rfl rfl (fun q9 w F => ?_)
      (try refine r_nil ?_); refine e_afterF F (fun hS => ?_); refine go_look ?_
      refine rd_do rfl ?_; (try refine r_go rfl rfl ?_)
      refine f_append F rfl rfl rfl (F.srcOne) (fun r w O F => ?_); refine go_on ?_
      obtain ⟨ra, rc, rfl, _⟩ := (F.bufAt (v := r)).form
      (try refine r_nil ?_); refine e_afterF F (fun hS => ?_); refine go_look ?_
      refine rd_do rfl ?_; (try refine r_go rfl rfl ?_)
      refine f_store1 F rfl rfl rfl (fun w F => ?_)
      (try refine r_nil ?_); refine e_after (fun h => by cases h) ?_; refine go_look ?_
      refine rd_done ?_; refine go_on ?_
      refine f_store1 F rfl rfl rfl (fun w F => ?_); refine go_on ?_
      refine e_round_end none (.inl ⟨rfl, rfl⟩) F (by (repeat (first | exact Sel.here | apply Sel.there))) (.inl rfl) (fun w F => ?_)
      rw [rdy e1 e2] at F
      rw [← hT1, ← hT2, hT3] at F
      exact F.fin (.inl ⟨(i' + 1, _, _), rfl, rfl, rfl, rfl⟩)
    · rcases hK with ⟨⟨i, nv, yv⟩, hi, rfl, rfl⟩ | ⟨_, hf, _⟩
      · dsimp only at *
        have hi : i = l.length := by omega
        subst hi
        refine tidy F (fun F => ?_)
        refine back_done F (by (repeat (first | exact Sel.here | apply Sel.there))) (.inl rfl) (by rw [e1]; decide) e2 (fun w F => ?_)
        refine e_block_normal ?_
        have F := F.promote (t := Thing.buf 1 nv l.length ((l.take l.length).map u32V)) (by (repeat (first | exact Sel.here | apply Sel.there))) (fun bb hb => by
          simp only [List.flatMap_cons, List.flatMap_nil, List.append_nil, List.mem_append] at hb
          rcases hb with hb | hb
          · exact ⟨(1, Thing.cells qs [tptr pf, yv]), by simp, hb⟩
          · exact ⟨(1, Tn pf mf (takeGo s.data l b t l.length).2), by simp, hb⟩)
        obtain ⟨na, nc, rfl, _⟩ := (F.bufAt (v := nv)).form
        obtain ⟨ya, yc, rfl, _⟩ := (F.bytes (v := yv)).form
        obtain ⟨O, F⟩ := F.frzBuf (v := .slice na l.length nc)
        rw [List.take_length] at F
        have hIfit : (takeIno s l).fit := ⟨f2, f3, f4, f5, by show s.data.length < _; omega, f6, f7, f8, fun x hx => by have := hl1 x hx; omega, by show l.length ≤ _; omega⟩
        rw [← hdl]
        obtain ⟨b1, hb1⟩ : ∃ b1, (takeGo s.data l b t l.length).1 = b1 := ⟨_, rfl⟩
        obtain ⟨t1, ht1⟩ : ∃ t1, (takeGo s.data l b t l.length).2 = t1 := ⟨_, rfl⟩
        rw [hb1, ht1] at F
        rw [hb1, ht1]
        clear hb1 ht1
        refine go_on ?_
        refine f_call F rfl rfl (inoPut_c (n := takeIno s l) (v := .slice na l.length nc)) ?_ (hp := hIfit)
        clear F; rintro r O w T Φ ⟨u, rfl, rfl, rfl⟩ F0
        refine tidy F0 (fun F => ?_); clear F0
        obtain ⟨ua, uc, rfl, _⟩ := (F.bytes (v := u)).form
        by_cases g2 : (takeIno s l).may
        · rw [show volPutI t1 b1 s.ino (takeIno s l) = (t1.putE (11 + (s.ino : Int)) (if (takeIno s l).may ∧ ¬ (takeIno s l).none then (takeIno s l).bytes else []), b1, t1.put1 (11 + (s.ino : Int)) (if (takeIno s l).may ∧ ¬ (takeIno s l).none then (takeIno s l).bytes else [])) from if_pos g2]
          generalize (if (takeIno s l).may ∧ ¬ (takeIno s l).none then (takeIno s l).bytes else []) = ob at F ⊢
          rw [if_pos g2]
          refine go_on ?_
          refine f_draw [(1, Thing.cells q2 _), (1, Thing.cells qs _), (1, Thing.cells q3 _)] F [9, 10] [(0, true), (1, true), (2, true), (3, true), (4, true), (5, true), (6, true), (7, true), (8, true), (9, false), (10, false)] (by kernel_rfl) (by kernel_rfl) (fun w F hS => ?_); refine go_look ?_
          refine rd_do rfl ?_; (try refine r_go rfl rfl ?_)
          refine f_call F rfl rfl (txnPut_c (p := pf) (m := mf) (t := t1) (i := 11 + (s.ino : Int)) (xs := ob)) ?_ (hp := trivial)
          clear F; rintro r O w T Φ ⟨rfl, rfl, rfl⟩ F0
          refine tidy F0 (fun F => ?_); clear F0
          (try refine r_nil ?_); refine e_after (fun h => by cases h) ?_; refine go_look ?_
          refine rd_do rfl ?_; (try refine r_go rfl rfl ?_)
          refine go_on ?_
          (try refine r_nil ?_); refine e_after (fun h => by cases h) ?_; refine go_look ?_
          refine rd_done ?_; refine go_on ?_
          refine g_ret ?_
          (repeat (first | refine e_then_ret ?_ | refine e_block_ret ?_))
          refine e_leave1 (.inl rfl) F (by (repeat (first | exact Sel.here | apply Sel.there))) (fun w F => ?_)
          refine go_back ?_
          exact F.fin ⟨_, rfl, rfl, rfl⟩
        · rw [show volPutI t1 b1 s.ino (takeIno s l) = (1, b1, t1) from if_neg g2, if_neg g2]
          refine go_on ?_
          refine g_ret ?_
          (repeat (first | refine e_then_ret ?_ | refine e_block_ret ?_))
          refine e_leave1 (.inl rfl) F (by (repeat (first | exact Sel.here | apply Sel.there))) (fun w F => ?_)
          refine go_back ?_
          exact F.fin ⟨_, rfl, rfl, rfl⟩
      · exact hf.elim
  · rw [if_neg g1]
    refine go_on ?_
    refine g_ret ?_
    (repeat (first | refine e_then_ret ?_ | refine e_block_ret ?_))
    refine e_leave (.inl rfl) ?_
    refine go_back ?_
    exact F.fin ⟨_, rfl, rfl, rfl⟩
end Go.Proofs.YtcfpnghkkkphhaaGreat
