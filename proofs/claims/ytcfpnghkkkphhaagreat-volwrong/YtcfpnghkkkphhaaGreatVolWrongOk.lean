/- VolWrong answers true. -/
import Derived.Test.YtcfpnghkkkphhaaGreatVmore
namespace Go.Proofs.YtcfpnghkkkphhaaGreat
open Gk Go
set_option linter.unusedVariables false
set_option maxHeartbeats 1600000
set_option maxRecDepth 4000
set_option linter.unusedSimpArgs false
attribute [local irreducible] Int.decLt Int.decLe Int.decEq Int.instDecidableEq Gk.Rnds Gk.E Gk.G Gk.R Gk.RD Gk.RX Gk.RO Gk.Y Gk.Ent Gk.Sat Gk.Round Gk.After Gk.Cell Gk.Sl Gk.SlA Gk.CB Gk.OK Gk.FnC Gk.Bytes Gk.BytesL Gk.StrL Gk.Buf Gk.MapI
theorem own_sum {t : Tx} {k : Nat} (hk : k < t.was.length - 35) : ∀ n, (t.own n).getD k 0 = sumN (fun i => (t.ino i).1.blocks.count k) n
  | 0 => by rw [Tx.own, sumN, List.getD_eq_getElem?_getD, List.getElem?_replicate, if_pos hk]; rfl
  | n + 1 => by rw [Tx.own, sumN, ownFold _ _ (by rw [Tx.own_len]; exact hk), own_sum hk n]
theorem own_congr {t t' : Tx} (hw : t'.was.length = t.was.length) (hi : ∀ i, i < 24 → t'.ino i = t.ino i) {k : Nat} (hk : k < t.was.length - 35) : (t'.own 24).getD k 0 = (t.own 24).getD k 0 := by
  rw [own_sum (by rw [hw]; exact hk), own_sum hk]
  exact sumN_congr _ fun i hi' => by rw [hi i hi']
theorem sumN_le {f : Nat → Nat} {i : Nat} : ∀ n, i < n → f i ≤ sumN f n
  | 0, h => absurd h (Nat.not_lt_zero _)
  | n + 1, h => by
    rw [sumN]
    by_cases e : i = n
    · subst e; omega
    · have := sumN_le (f := f) n (show i < n by omega); omega
theorem sumN_le2 {f : Nat → Nat} {i j : Nat} (hij : i < j) : ∀ n, j < n → f i + f j ≤ sumN f n
  | 0, h => absurd h (Nat.not_lt_zero _)
  | n + 1, h => by
    rw [sumN]
    by_cases e : j = n
    · subst e
      have := sumN_le (f := f) j hij
      omega
    · have := sumN_le2 (f := f) hij n (by omega); omega
theorem freeB_nil : ∀ n, freeB [] n = List.range n
  | 0 => rfl
  | n + 1 => by
    rw [freeB, freeB_nil n, hasB_out (Nat.zero_le _), List.range_succ]
    rfl
/-- What is taken first on a new volume. -/
theorem first_ino {n : Nat} {s : Slt} (hok : s.ok) (hf : s.fit) (hn : n ≤ 803) (h35 : 35 < n) (hroom : needN (s.data.length : Nat) ≤ n - 35) : (volSave (tx0 n) [s]).2.ino s.ino = (takeIno s (List.range (needN (s.data.length : Nat))), 0) := by
  have hG := Good.new (n := n) ⟨h35, hn⟩
  have hw : (tx0 n).was.length = n := List.length_replicate
  have hi : s.ino < 24 := hok.1.1
  have hd : s.data.length ≤ 768 := hok.1.2.2
  have hne : needN (s.data.length : Nat) = (s.data.length + 95) / 96 := needN_nat _
  have h0 : (tx0 n).ino s.ino = (.zero, 0) := by unfold Tx.ino; rw [tx0_get, inoGet_nil]
  have hg : volGive (tx0 n) [] s.ino = (0, [], tx0 n) := by unfold volGive; rw [h0]; rfl
  have hD : drawB [] (n - 35) (needN (s.data.length : Nat)) = List.range (needN (s.data.length : Nat)) := by
    unfold drawB
    rw [freeB_nil, List.length_range, if_neg (by omega), List.take_range, Nat.min_eq_left hroom]
  have hE : drawE [] (n - 35) (needN (s.data.length : Nat)) = 0 := by unfold drawE; rw [freeB_nil, List.length_range, if_neg (by omega)]
  obtain ⟨l, hl⟩ : ∃ l, List.range (needN (s.data.length : Nat)) = l := ⟨_, rfl⟩
  have hll : l.length = needN (s.data.length : Nat) := by rw [← hl, List.length_range]
  have hlt : ∀ x, x ∈ l → x < n - 35 := fun x hx => by rw [← hl, List.mem_range] at hx; omega
  have hnod : l.Nodup := by rw [← hl]; exact List.nodup_range
  have hmay := takeIno_may hok hll hnod
  have hifit : (takeIno s l).fit := takeIno_fit hf hd (fun x hx => by have := hlt x hx; omega) (by omega)
  have hbl : (takeIno s l).bytes.length ≤ 96 := by
    rw [Ino.bytes_len]
    show 48 + 4 * l.length ≤ 96
    omega
  have hob : ∃ ob, (if (takeIno s l).may ∧ ¬ (takeIno s l).none then (takeIno s l).bytes else []) = ob ∧ ob.length ≤ 96 ∧ inoGet ob = (takeIno s l, 0) := by
    refine ⟨_, rfl, ?_, ?_⟩
    · split
      · exact hbl
      · exact Nat.zero_le _
    · by_cases g0 : (takeIno s l).none
      · rw [if_neg (fun k => k.2 g0), inoGet_nil, ← Ino.zero_of g0]
      · rw [if_pos ⟨hmay, g0⟩, inoGet_bytes hifit hmay g0]
  obtain ⟨ob, hob1, hob2, hob3⟩ := hob
  rw [hl] at hD
  have hT : volTake (tx0 n) [] s = ((takeGo s.data l [] (tx0 n) l.length).2.putE (11 + (s.ino : Int)) ob, (takeGo s.data l [] (tx0 n) l.length).1, (takeGo s.data l [] (tx0 n) l.length).2.put1 (11 + (s.ino : Int)) ob) := by
    unfold volTake volPutI
    rw [hw, if_pos hE, hD, ← hll, if_pos hmay, hob1]
  have hws := takeGo_was s.data l [] (tx0 n) l.length
  have hpe : (takeGo s.data l [] (tx0 n) l.length).2.putE (11 + (s.ino : Int)) ob = 0 := by
    unfold Tx.putE
    rw [hws, hw, if_pos (by omega), if_neg (by omega)]
  have hbig := takeGo_big (d := s.data) (b := []) (t := tx0 n) (l := l) (fun x hx => by have := hlt x hx; omega) (Nat.zero_le _) l.length
  generalize (takeGo s.data l [] (tx0 n) l.length).2 = t2 at hT hws hpe
  generalize (takeGo s.data l [] (tx0 n) l.length).1 = b2 at hT hbig
  rw [hpe] at hT
  have hS : volSave (tx0 n) [s] = (0, ⟨(tx0 n).was, ((t2.put1 (11 + (s.ino : Int)) ob).put1 9 b2).put⟩) := by
    have e1 : volSave (tx0 n) [s] = if (giveAll [s] (tx0 n) ((tx0 n).get 9)).1 = 0 then saveEnd (tx0 n) (takeAll [s] (giveAll [s] (tx0 n) ((tx0 n).get 9)).2.2 (giveAll [s] (tx0 n) ((tx0 n).get 9)).2.1) else ((giveAll [s] (tx0 n) ((tx0 n).get 9)).1, tx0 n) := if_pos ⟨hG.1.right, mayS_one hok⟩
    have e2 : giveAll [s] (tx0 n) ((tx0 n).get 9) = (0, [], tx0 n) := by
      rw [tx0_get, giveAll, hg]
      rfl
    rw [e1, e2]
    dsimp only
    rw [if_pos rfl, takeAll, hT]
    dsimp only
    rw [if_pos rfl, takeAll]
    unfold saveEnd
    rw [if_pos rfl]
    dsimp only
    have hp9 : (t2.put1 (11 + (s.ino : Int)) ob).putE 9 b2 = 0 := by
      unfold Tx.putE
      rw [Tx.put_was, hws, hw, if_pos (by omega), if_neg (by omega)]
    rw [hp9, if_pos rfl]
  have e3 : (⟨(tx0 n).was, ((t2.put1 (11 + (s.ino : Int)) ob).put1 9 b2).put⟩ : Tx) = (t2.put1 (11 + (s.ino : Int)) ob).put1 9 b2 := by
    have : (tx0 n).was = ((t2.put1 (11 + (s.ino : Int)) ob).put1 9 b2).was := by rw [Tx.put_was, Tx.put_was, hws]
    rw [this]
  rw [hS, e3, hl]
  dsimp only
  unfold Tx.ino
  rw [Tx.get_put, if_neg (by omega), Tx.get_put, if_pos ⟨rfl, by omega, by rw [hws, hw]; omega, hob2⟩]
  exact hob3
/-- A bit that is turned over. -/
theorem hasB_flip {m : List UInt8} {k : Nat} (hk : k / 8 < m.length) : hasB (m.set (k / 8) (UInt8.ofNat ((m.getD (k / 8) 0).toNat ^^^ maskN k))) k = !hasB m k := by
  have hx := (m.getD (k / 8) 0).toNat_lt
  have hm := maskN_lt k
  have hj : 7 - k % 8 < 8 := by omega
  unfold hasB
  rw [List.getD_eq_getElem?_getD, List.getElem?_set_self hk, Option.getD_some, UInt8.toNat_ofNat_of_lt' (Nat.xor_lt_two_pow (n := 8) hx hm), Nat.testBit_xor]
  unfold maskN
  rw [bitPow (7 - k % 8) hj (7 - k % 8) hj]
  simp
attribute [local irreducible] Tx.slotsE
theorem slotsE_bad {t : Tx} {k : Nat} (hk : k < 24) (h : (volLoad t (k : Nat)).2 ≠ 0) : (volAll t).2 ≠ 0 := by
  have h1 : t.slotsE (k + 1) ≠ 0 := by
    rw [Tx.slotsE]
    split
    · exact h
    · assumption
  have h2 := Tx.slotsE_up h1 24 (by omega)
  have h24 : t.slotsE 24 ≠ 0 := by rw [h2]; exact h1
  unfold volAll
  rw [if_neg h24]
  exact h24
/-- A block of another length stops what is loaded. -/
theorem ld_bad {t : Tx} {l : List Nat} {d : List UInt8} {x : Nat} (hlow : ∀ y, y ∈ l → y < t.was.length - 35) (hx : x < l.length) (hd : ∀ j, j < x → t.get (35 + ((l.getD j 0 : Nat) : Int)) = (d.drop (96 * j)).take 96) (hlen : l.length = needN (d.length : Nat))
    (hb : (t.get (35 + ((l.getD x 0 : Nat) : Int))).length ≠ (if d.length - 96 * x ≤ 96 then d.length - 96 * x else 96)) : ∀ n j, j + n = x → ∀ acc, ldGo t (l.drop j) (d.length - 96 * j) acc = none
  | 0, j, h, acc => by
    obtain rfl : j = x := by omega
    have hg : l.getD j 0 = l[j] := by rw [List.getD_eq_getElem?_getD, List.getElem?_eq_getElem hx]; rfl
    rw [hg] at hb
    rw [List.drop_eq_getElem_cons hx, ldGo, if_neg (fun k => hb k.2)]
  | n + 1, j, h, acc => by
    have hj : j < l.length := by omega
    have hne : needN (d.length : Nat) = (d.length + 95) / 96 := needN_nat _
    have hg : l.getD j 0 = l[j] := by rw [List.getD_eq_getElem?_getD, List.getElem?_eq_getElem hj]; rfl
    have hx2 := hd j (by omega)
    rw [hg] at hx2
    have hlen2 : ((d.drop (96 * j)).take 96).length = if d.length - 96 * j ≤ 96 then d.length - 96 * j else 96 := by
      rw [List.length_take, List.length_drop]
      split <;> omega
    rw [List.drop_eq_getElem_cons hj, ldGo, hx2, if_pos ⟨hlow _ (List.getElem_mem hj), hlen2⟩]
    have ih := ld_bad hlow hx hd hlen hb n (j + 1) (by omega)
    rw [show d.length - 96 * j - ((d.drop (96 * j)).take 96).length = d.length - 96 * (j + 1) from by rw [hlen2]; split <;> omega]
    exact ih _
section
variable {M O0 O : List Nat} {w0 w : World} {L L' : List KT} {Φ Φ' : List Fact}
/-- The first ones of what one has. -/
theorem bufPre (F : Fr M O0 w0 O w L Φ) {k m n c : Nat} {a : Option Addr} {xs : List UInt8} (hk : k ≤ n) (hn : xs.length = n) (h : Sel L (m, Thing.buf 1 (.slice a n c) n (bytesV xs)) L' := by (repeat (first | exact Sel.here | apply Sel.there))) :
    Fr M O0 w0 O w ((m, Thing.buf 1 (.slice a k c) k (bytesV (xs.take k))) :: L') Φ := by
  refine F.as h (fun hb _ => ?_) (fun b hb => by cases a <;> exact hb)
  have hb : Gk.Buf _ _ _ _ _ _ := hb
  show Gk.Buf _ _ _ _ _ _
  unfold Gk.Buf at hb ⊢
  obtain ⟨h1, h2⟩ := hb
  have hl : (bytesV (xs.take k)).length = k * 1 := by simp [bytesV]; omega
  refine ⟨hl, ?_⟩
  rcases h2 with ⟨h3, h4⟩ | ⟨q, cap, rest, a1, a2, a3, a4, a5, a6⟩
  · injection h3 with h5 h6 h7
    have : k = 0 := by omega
    subst this
    exact .inl ⟨by rw [h5, h7], rfl⟩
  · injection a1 with b1 b2 b3
    subst b1 b3
    refine .inr ⟨q, c, bytesV (xs.drop k) ++ rest, rfl, by omega, a3, ?_, ?_, trivial⟩
    · rw [← List.append_assoc, show bytesV (xs.take k) ++ bytesV (xs.drop k) = bytesV xs from by unfold bytesV; rw [← List.map_append, List.take_append_drop]]
      exact a4
    · rw [← List.append_assoc, show bytesV (xs.take k) ++ bytesV (xs.drop k) = bytesV xs from by unfold bytesV; rw [← List.map_append, List.take_append_drop]]
      exact a5
end
theorem cutV0 (a : Option Addr) (k c : Nat) : cutV a 1 0 k c = .slice a k c := by
  unfold cutV
  cases a with
  | none => simp
  | some x => simp; intro; rfl
theorem VolWrong_ok {w0 : World} {sz a kd : Nat} (ha : a < 256) (hkd : kd < 256) (F : Fr [] [] w0 [] w0 [] []) :
    FnC Tryz.prog 5 [.int .u16 sz, .int .u8 a, .int .u8 kd] [] [] w0 fun r O' w' => r = .bool true := by
  have hG := Good.new (n := 55) (by decide)
  have hw : (tx0 55).was.length = 55 := List.length_replicate
  obtain ⟨n, hn⟩ : ∃ n, n = sz % 700 + 1 := ⟨_, rfl⟩
  have hn1 : 1 ≤ n ∧ n ≤ 700 := by omega
  obtain ⟨k, hk⟩ : ∃ k, k = a % 20 := ⟨_, rfl⟩
  have hk1 : k < 20 := by omega
  obtain ⟨u, hu⟩ : ∃ u, u = (n + 95) / 96 := ⟨_, rfl⟩
  obtain ⟨hok, hfit⟩ := sOne_ok (i := 1) (d := List.replicate n 0) (by decide) (by rw [List.length_replicate]; omega)
  have hdl : (sOne 1 (List.replicate n 0)).data.length = n := List.length_replicate
  have hnd : needN ((sOne 1 (List.replicate n 0)).data.length : Nat) = u := by rw [hdl, needN_nat, hu]
  have hs := hG.save_one hok hfit
  rw [hnd, used0, need0, hw, if_pos (by omega)] at hs
  obtain ⟨hs1, hs2, ⟨I, hG2⟩, _⟩ := hs
  have hfi := first_ino (n := 55) hok hfit (by decide) (by decide) (by rw [hnd]; omega)
  rw [hnd] at hfi
  have hw2 : (volSave (tx0 55) [sOne 1 (List.replicate n 0)]).2.was.length = 55 := by rw [hs2, hw]
  refine fn_of _ Tryz.func5 rfl (by kernel_rfl) Tryz.ntmps5 rfl ?_
  refine go_on ?_
  refine f_call F rfl rfl awake12_c ?_ (hp := trivial)
  clear F; rintro r O w T Φ ⟨rfl, rfl, rfl⟩ F0
  refine tidy F0 (fun F => ?_); clear F0
  refine go_on ?_
  refine r_y (y_remN (b := 700) rfl rfl (by decide)) rfl ?_
  refine go_on ?_
  rw [show (((sz % 700 : Nat) : Int) + 1) = ((n : Nat) : Int) from by omega]
  refine go_on ?_
  refine f_make (l := 55) (c := 55) F rfl rfl rfl (fun q w F => ?_)
  obtain ⟨O, F⟩ := F.frzSl (Nat.le_refl 55)
  have F := F.fact (f := Fact.bytesL (.slice (some ⟨q, 0, none⟩) 55 55) (List.replicate 55 [])) (nil_bytesL (F.sl (v := .slice (some ⟨q, 0, none⟩) 55 55) (cs := List.replicate 55 (.slice none 0 0))))
  refine go_on ?_
  refine f_call F rfl rfl (txnNew_c (l := List.replicate 55 [])) ?_ (hp := ⟨by rw [List.length_replicate]; omega, fun b hb => by rw [List.eq_of_mem_replicate hb]; exact Nat.zero_le _⟩)
  clear F; rintro r O w T Φ ⟨p, m, rfl, rfl, rfl⟩ F0
  refine tidy F0 (fun F => ?_); clear F0
  change Fr _ _ _ _ _ ((2, Tn p m (tx0 55)) :: _) _ at F
  refine go_on ?_
  refine f_make (l := n) (c := n) F rfl rfl rfl (fun qb w F => ?_)
  rw [bytesV_rep] at F
  obtain ⟨O, F⟩ := F.frzSl (q := qb) (cs := bytesV (List.replicate n 0)) (Nat.le_refl n)
  have F := F.factB (v := .slice (some ⟨qb, 0, none⟩) n n) (xs := List.replicate n 0) (by have := F.sl (v := .slice (some ⟨qb, 0, none⟩) n n) (cs := bytesV (List.replicate n 0)); exact Sl.bytes (by rw [List.length_replicate]; exact this))
  refine go_on ?_
  refine f_buildSlice (cs := [.int .u32 1, .int .u32 1, .int .u32 0, .int .u32 1, .int .u32 0, .int .u64 0, .int .u64 0, .int .u64 0, .slice (some ⟨qb, 0, none⟩) n n]) F rfl rfl rfl rfl (fun qs w F => ?_)
  obtain ⟨O, F⟩ := frzSlts F (q := qs) (n := 1) (rows := [sltC (sOne 1 (List.replicate n 0)) (.slice (some ⟨qb, 0, none⟩) n n)]) (l := [sOne 1 (List.replicate n 0)]) rfl (by decide) ⟨⟨_, rfl, F.bytes⟩, trivial⟩ (fun row hr => by rw [List.mem_singleton.1 hr]; rfl)
  refine go_on ?_
  refine f_call F rfl rfl (vsave_c (t := tx0 55) (l := [sOne 1 (List.replicate n 0)])) ?_ (hp := ⟨by simp, hG.low, hG.nine, fun s hs => by rw [List.mem_singleton.1 hs]; exact hfit⟩)
  clear F; rintro r O w T Φ ⟨m2, rfl, rfl, rfl⟩ F0
  refine tidy F0 (fun F => ?_); clear F0
  rw [hs1]
  change Good _ (upI slt0 1 (sOne 1 (List.replicate n 0))) _ at hG2
  change (volSave (tx0 55) [sOne 1 (List.replicate n 0)]).2.ino 1 = _ at hfi
  generalize (volSave (tx0 55) [sOne 1 (List.replicate n 0)]).2 = t at F hs2 hG2 hfi hw2
  have hS1 : upI slt0 1 (sOne 1 (List.replicate n 0)) 1 = sOne 1 (List.replicate n 0) := upI_at ..
  have hI1 : I 1 = List.range u := by
    have h1 := hG2.1.ino 1 (by decide) trivial
    rw [hS1, hfi] at h1
    injection h1 with h1 _
    exact (congrArg Ino.blocks h1).symm
  have hI0 : ∀ i, i < 24 → i ≠ 1 → I i = [] := fun i hi hne => by
    have h1 := hG2.1.len i hi trivial
    rw [upI_ne _ hne, need0] at h1
    exact List.length_eq_zero_iff.1 h1
  generalize upI slt0 1 (sOne 1 (List.replicate n 0)) = S at hG2 hS1
  have hfine := hG2.fine
  clear hs1 hs2 hG
  refine go_on ?_
  refine f_call F rfl rfl (vwrong_c (t := t)) ?_ (hp := trivial)
  clear F; rintro r O w T Φ ⟨ws, rfl, rfl, rfl, hws⟩ F0
  refine tidy F0 (fun F => ?_); clear F0
  obtain rfl := hws.2 hfine
  refine go_on ?_
  refine r_y (y_quo64 rfl rfl ⟨by omega, by omega, by omega⟩) rfl ?_
  rw [show (((n : Int) + 95) / 96) = ((u : Nat) : Int) from by omega]
  refine go_on ?_
  refine r_y (y_remN (b := 20) rfl rfl (by decide)) rfl ?_
  rw [← hk]
  refine go_on ?_
  refine r_y (y_andN (k := .u8) (a := kd) (b := 3) rfl rfl hkd (by decide) (by have := @Nat.and_le_left kd 3; simp only [lim]; omega)) rfl ?_
  obtain ⟨kk, hkk⟩ : ∃ kk, kd &&& 3 = kk := ⟨_, rfl⟩
  rw [hkk]
  have hblk : ∀ j, j < 20 → blkFine t j := fun j hj => hfine.2.2.2.1 j (by omega)
  have hnine : (t.get 9).length ≤ 96 := hG2.1.big
  apply r_join (X := Nat × Tx) (fun y => [(9, tptr p), (107, tptr p)])
    (fun y w => ∃ O, Fr [] [] w0 O w [(2, Tn p y.1 y.2)] [] ∧ ¬ volFine y.2)
  · intro K
    have F := F
    have hino : ∀ (x : Int) (ys : List UInt8), (x < 11 ∨ 35 ≤ x) → ∀ i, i < 24 → (t.put1 x ys).ino i = t.ino i := fun x ys hx i hi => by
      unfold Tx.ino
      rw [Tx.get_put, if_neg (by omega)]
    have hown : ∀ (x : Int) (ys : List UInt8), (x < 11 ∨ 35 ≤ x) → ((t.put1 x ys).own 24).getD k 0 = (t.own 24).getD k 0 := fun x ys hx => own_congr (by rw [Tx.put_was]) (hino x ys hx) (by omega)
    by_cases c0 : kk = 0
    · refine go_on ?_
      refine f_call F rfl rfl (txnGet_c (t := t) (i := 9)) ?_ (hp := trivial)
      clear F; rintro r O w T Φ ⟨rfl, rfl⟩ F0
      refine tidy F0 (fun F => ?_); clear F0
      have hbk := hblk k hk1
      obtain ⟨b9, hb9⟩ : ∃ b9, t.get 9 = b9 := ⟨_, rfl⟩
      unfold blkFine at hbk
      rw [hb9] at F hnine hbk
      obtain ⟨ba, bc, rfl, _⟩ := (F.bytes (xs := b9)).form
      refine go_on ?_
      refine f_str_bytes F rfl rfl (fun r w O F => ?_)
      refine go_on ?_
      refine g_loop (X := Nat × Value) (fun y => [(9, tptr p), (11, .int .i64 k), (12, y.2)])
        (fun y wr => ∃ O, Fr [] [] w0 O wr [(2, Thing.buf 1 y.2 (b9.length + y.1) (bytesV (b9 ++ List.replicate y.1 0))), (2, Tn p m2 t)] [] ∧ (0 < y.1 → b9.length + y.1 ≤ 3)) (fun y => 3 - (b9.length + y.1)) (0, r) (sub_cons rfl rfl (sub_cons rfl rfl (sub_cons rfl rfl (sub_nil)))) ⟨_, by simpa using F.wk, fun h => absurd h (Nat.lt_irrefl 0)⟩ ?_
      clear F
      rintro ⟨j, v⟩ w ⟨O, F, hj⟩
      dsimp only at F hj ⊢
      obtain ⟨va, vc, rfl, _⟩ := (F.bufAt (v := v)).form
      refine go_on ?_
      refine g_dec rfl (fun g => ?_) (fun g => ?_)
      · refine go_on ?_
        refine f_buildSlice (cs := [.int .u8 0]) F rfl rfl rfl rfl (fun q8 w F => ?_)
        refine go_on ?_
        refine f_append F rfl rfl rfl (F.srcOne) (fun r w O F => ?_); refine go_on ?_
        have eb : bytesV (b9 ++ List.replicate j 0) ++ [Value.int .u8 0] = bytesV (b9 ++ List.replicate (j + 1) 0) := by
          rw [List.replicate_succ', ← List.append_assoc]
          simp [bytesV]
          rfl
        rw [eb] at F
        exact e_round (j + 1, _) (sub_cons rfl rfl (sub_cons rfl rfl (sub_cons rfl rfl (sub_nil)))) ⟨_, F.wk, fun _ => by omega⟩ (by simp only; omega)
      · have hjj : j = 3 - b9.length := by
          rcases Nat.eq_zero_or_pos j with h0 | h0
          · omega
          · have := hj h0; omega
        have hp : b9 ++ List.replicate j 0 = padB b9 3 := by unfold padB; rw [hjj]
        have hpl := padB_len b9 3
        have hlk : b9.length + j = (padB b9 3).length := by rw [← hp, List.length_append, List.length_replicate]
        have hph := hasB_pad b9 3 k
        rw [hp, hlk] at F
        rw [hlk]
        have hil : k / 8 < (padB b9 3).length := by omega
        have hpm : (padB b9 3).length ≤ 96 := by rw [hpl]; split <;> omega
        have hfl := hasB_flip hil
        generalize padB b9 3 = pb at F hil hlk hpm hph hfl ⊢
        have hcell : (bytesV pb)[k / 8]? = some (.int .u8 ((pb.getD (k / 8) 0).toNat : Nat)) := by simp [bytesV, byteV, List.getD_eq_getElem?_getD, hil]
        have hx8 := (pb.getD (k / 8) 0).toNat_lt
        generalize (pb.getD (k / 8) 0).toNat = x8 at hcell hx8 hfl
        have hxl : x8 ^^^ maskN k < 256 := Nat.xor_lt_two_pow (n := 8) hx8 (maskN_lt k)
        obtain ⟨qq, cap, rest, hv, hcap, hlen, F2⟩ := F.openBuf (n := pb.length) (by omega)
        injection hv with hv1 hv2 hv3
        subst hv1 hv3
        clear F
        have F := F2
        clear F2
        have hcell2 : (bytesV pb ++ rest)[k / 8]? = some (.int .u8 (x8 : Nat)) := by rw [List.getElem?_append_left (by simp [bytesV]; exact hil)]; exact hcell
        refine go_on ?_
        refine r_y (y_quo64 rfl rfl ⟨by omega, by omega, by omega⟩) rfl ?_
        rw [show ((k : Int) / 8) = ((k / 8 : Nat) : Int) from by omega]
        refine go_on ?_
        refine r_y (y_loadF rfl F Sel.here hcell2) rfl ?_
        refine go_on ?_
        refine r_y (y_rem64 rfl rfl (by omega)) rfl ?_
        rw [show ((k : Int) % 8) = ((k % 8 : Nat) : Int) from by omega]
        refine go_on ?_
        refine r_y (y_shrN (a := 128) (c := k % 8) rfl rfl (by show k % 8 ≤ 8; omega)) rfl ?_
        rw [mask_shr (Nat.mod_lt _ (by omega))]
        refine r_y (y_xorN (k := .u8) (a := x8) (b := maskN k) rfl rfl hx8 (maskN_lt k) hxl) rfl ?_
        refine go_on ?_
        refine f_store1 (cs := bytesV pb ++ rest) (i := k / 8) F rfl rfl rfl (fun w F => ?_) (hc := .any) (hi := by rw [List.length_append]; simp [bytesV]; omega)
        have es : (bytesV pb ++ rest).set (k / 8) (.int .u8 (x8 ^^^ maskN k : Nat)) = bytesV (pb.set (k / 8) (UInt8.ofNat (x8 ^^^ maskN k))) ++ rest := by
          rw [List.set_append_left _ _ (by simp [bytesV]; exact hil)]
          unfold bytesV
          rw [List.map_set]
          congr 2
          show _ = byteV _
          unfold byteV
          rw [UInt8.toNat_ofNat_of_lt' hxl]
        have F : Fr _ _ _ _ _ ((2, Thing.cells qq ((bytesV pb ++ rest).set (k / 8) (.int .u8 (x8 ^^^ maskN k : Nat)))) :: _) _ := F
        rw [es] at F
        obtain ⟨O, F⟩ := F.frzPre (q := qq) (n := pb.length) (cap := vc) (bytesV (pb.set (k / 8) (UInt8.ofNat (x8 ^^^ maskN k)))) hcap ⟨rest, rfl⟩
        obtain ⟨p2, hp2⟩ : ∃ p2, pb.set (k / 8) (UInt8.ofNat (x8 ^^^ maskN k)) = p2 := ⟨_, rfl⟩
        have hp2l : p2.length = pb.length := by rw [← hp2, List.length_set]
        rw [hp2] at F hfl
        have F := F.factB (v := .slice (some ⟨qq, 0, none⟩) pb.length vc) (xs := p2) (by have := F.sl (v := .slice (some ⟨qq, 0, none⟩) pb.length vc) (cs := bytesV p2); exact Sl.bytes (by rw [hp2l]; exact this))
        refine go_on ?_
        refine f_call F rfl rfl (txnPut_c (t := t) (i := 9) (xs := p2)) ?_ (hp := trivial)
        clear F; rintro r O w T Φ ⟨rfl, rfl, rfl⟩ F0
        refine tidy F0 (fun F => ?_); clear F0
        refine go_on ?_
        refine K (m2, t.put1 9 p2) _ _ ⟨_, F.wk, fun hf => ?_⟩ (sub_cons rfl rfl (sub_cons rfl rfl (sub_nil)))
        have h1 := (hf.2.2.2.1 k (by rw [Tx.put_was]; omega)).2.1
        rw [Tx.get_put, if_pos ⟨rfl, by omega, by omega, by omega⟩, hown 9 p2 (.inl (by omega)), hfl, hph, hbk.2.1] at h1
        cases hd : decide ((t.own 24).getD k 0 = 1) <;> rw [hd] at h1 <;> cases h1
    · by_cases c1 : kk = 1
      · refine go_on ?_
        refine f_call F rfl rfl (txnGet_c (t := t) (i := 12)) ?_ (hp := trivial)
        clear F; rintro r O w T Φ ⟨rfl, rfl⟩ F0
        refine tidy F0 (fun F => ?_); clear F0
        have hl12 : (t.get 12).length ≤ 96 := by
          have h1 : inoGet (t.get 12) = (takeIno (sOne 1 (List.replicate n 0)) (List.range u), 0) := hfi
          have h2 := inoGet_inv (b := t.get 12) (by rw [h1])
          rw [h1] at h2
          rcases h2 with ⟨h3, _⟩ | ⟨_, _, h3⟩
          · rw [h3]; exact Nat.zero_le _
          · rw [h3, Ino.bytes_len]
            show 48 + 4 * (List.range u).length ≤ 96
            rw [List.length_range]
            omega
        refine go_on ?_
        refine f_call F rfl rfl (txnPut_c (t := t) (i := 13) (xs := t.get 12)) ?_ (hp := trivial)
        clear F; rintro r O w T Φ ⟨rfl, rfl, rfl⟩ F0
        refine tidy F0 (fun F => ?_); clear F0
        refine go_on ?_
        refine K (m2, t.put1 13 (t.get 12)) _ _ ⟨_, F.wk, fun hf => ?_⟩ (sub_cons rfl rfl (sub_cons rfl rfl (sub_nil)))
        have h1 := (hf.2.2.2.1 0 (by rw [Tx.put_was]; omega)).1
        rw [own_sum (by rw [Tx.put_was]; omega)] at h1
        have h2 := sumN_le2 (f := fun i => ((t.put1 13 (t.get 12)).ino i).1.blocks.count 0) (i := 1) (j := 2) (by decide) 24 (by decide)
        have h3 : (t.put1 13 (t.get 12)).ino 1 = t.ino 1 := by unfold Tx.ino; rw [Tx.get_put, if_neg (by omega)]
        have h4 : (t.put1 13 (t.get 12)).ino 2 = t.ino 1 := by unfold Tx.ino; rw [Tx.get_put, if_pos ⟨by omega, by omega, by omega, hl12⟩]; rfl
        have h5 : (t.ino 1).1.blocks.count 0 = 1 := by
          rw [hfi]
          show (List.range u).count 0 = 1
          rw [nodup_count 0 List.nodup_range, if_pos (List.mem_range.2 (by omega))]
        rw [h3, h4, h5] at h2
        dsimp only at h1
        omega
      · by_cases c2 : kk = 2
        · refine go_on ?_
          refine f_call F rfl rfl (txnGetO_c (t := t) (i := 35 + (k : Int))) ?_ (hp := trivial)
          clear F; rintro r O w T Φ ⟨rfl, rfl⟩ F0
          refine tidy F0 (fun F => ?_); clear F0
          obtain ⟨b, hb⟩ : ∃ b, t.get (35 + (k : Int)) = b := ⟨_, rfl⟩
          rw [hb] at F
          obtain ⟨ba, bc, rfl, hbc⟩ := (F.bufAt (v := r)).form
          refine go_on ?_
          by_cases g : k < u
          · have hgD : ∀ j, j < u → (List.range u).getD j 0 = j := fun j hj => by rw [List.getD_eq_getElem?_getD, List.getElem?_range hj]; rfl
            have hdat : ∀ j, j < u → t.get (35 + (j : Int)) = ((List.replicate n (0 : UInt8)).drop (96 * j)).take 96 := fun j hj => by
              have h1 := hG2.1.dat 1 (by decide) trivial j (by rw [hI1, List.length_range]; exact hj)
              rw [hI1, hgD j hj, hS1] at h1
              exact h1
            have hbl : b.length = if n - 96 * k ≤ 96 then n - 96 * k else 96 := by
              rw [← hb, hdat k g, List.length_take, List.length_drop, List.length_replicate]
              split <;> omega
            have hbl1 : 1 ≤ b.length ∧ b.length ≤ 96 := by rw [hbl]; split <;> omega
            obtain ⟨e, he⟩ : ∃ e, e = b.length - 1 := ⟨_, rfl⟩
            refine go_on ?_
            rw [show ((b.length : Int) - 1) = ((e : Nat) : Int) from by omega]
            refine go_on ?_
            refine r_y (y_slice (li := 0) (hi' := (e : Nat)) (mi := (bc : Nat)) rfl rfl rfl rfl (by simp) (by omega)) rfl ?_
            rw [show cutV ba 1 (0 : Int).toNat ((e : Nat) : Int).toNat ((bc : Nat) : Int).toNat = .slice ba e bc from by rw [Int.toNat_natCast, Int.toNat_natCast]; exact cutV0 ba e bc]
            have F := bufPre F (k := e) (n := b.length) (c := bc) (a := ba) (xs := b) (by omega) rfl
            refine go_on ?_
            refine f_buildSlice (cs := [.int .u8 1, .int .u8 2]) F rfl rfl rfl rfl (fun q9 w F => ?_)
            refine go_on ?_
            refine f_append F rfl rfl rfl (src_cb (q := q9) (m := 2) (cap := 2) (news := [.int .u8 1, .int .u8 2]) (rest := []) (by rw [List.append_nil]; exact F.thing Sel.here) rfl (fun v hv => by
              rcases List.mem_cons.1 hv with rfl | hv
              · rfl
              · rw [List.mem_singleton.1 hv]; rfl)) (fun r w O F => ?_)
            obtain ⟨ra, rc, rfl, hrc⟩ := (F.bufAt (v := r)).form
            refine go_on ?_
            rw [show ((b.length : Int) - 1) = ((e : Nat) : Int) from by omega]
            refine go_on ?_
            refine r_y (y_slice (li := 0) (hi' := (e : Nat)) (mi := (rc : Nat)) rfl rfl rfl rfl (by simp) (by omega)) rfl ?_
            rw [show cutV ra 1 (0 : Int).toNat ((e : Nat) : Int).toNat ((rc : Nat) : Int).toNat = .slice ra e rc from by rw [Int.toNat_natCast, Int.toNat_natCast]; exact cutV0 ra e rc]
            have hte : (b.take e).length = e := by rw [List.length_take]; omega
            rw [show bytesV (b.take e) ++ [Value.int .u8 1, Value.int .u8 2] = bytesV (b.take e ++ [1, 2]) from by unfold bytesV; rw [List.map_append]; rfl] at F
            have F := bufPre F (k := e) (n := e + 2) (c := rc) (a := ra) (xs := b.take e ++ [1, 2]) (by omega) (by rw [List.length_append, hte]; rfl)
            rw [show List.take e (b.take e ++ ([1, 2] : List UInt8)) = b.take e from by rw [List.take_append_of_le_length (show e ≤ (b.take e).length by omega), List.take_take, Nat.min_self]] at F
            obtain ⟨x, hx⟩ : ∃ x, b.take e = x := ⟨_, rfl⟩
            rw [hx] at F
            rw [hx] at hte
            subst hte
            obtain ⟨O, F⟩ := F.frzB
            refine go_on ?_
            refine f_call F rfl rfl (txnPut_c (t := t) (i := 35 + (k : Int)) (xs := x)) ?_ (hp := trivial)
            clear F; rintro r O w T Φ ⟨rfl, rfl, rfl⟩ F0
            refine tidy F0 (fun F => ?_); clear F0
            refine go_on ?_
            refine K (m2, t.put1 (35 + (k : Int)) x) _ _ ⟨_, F.wk, fun hf => ?_⟩ (sub_cons rfl rfl (sub_cons rfl rfl (sub_nil)))
            refine slotsE_bad (t := t.put1 (35 + (k : Int)) x) (k := 1) (by decide) ?_ hf.2.1
            have h1 : (t.put1 (35 + (k : Int)) x).ino 1 = (takeIno (sOne 1 (List.replicate n 0)) (List.range u), 0) := (hino _ _ (.inr (by omega)) 1 (by decide)).trans hfi
            have hgx : (t.put1 (35 + (k : Int)) x).get (35 + (k : Int)) = x := by rw [Tx.get_put, if_pos ⟨rfl, by omega, by omega, by omega⟩]
            have hld := ld_bad (t := t.put1 (35 + (k : Int)) x) (l := List.range u) (d := List.replicate n (0 : UInt8)) (x := k) (fun y hy => by rw [Tx.put_was]; have := List.mem_range.1 hy; omega) (by rw [List.length_range]; exact g) (fun j hj => by
              rw [hgD j (by omega), Tx.get_put, if_neg (by omega)]
              exact hdat j (by omega)) (by rw [List.length_range, List.length_replicate, needN_nat]; exact hu) (by rw [hgD k g, hgx, List.length_replicate, ← hbl]; omega) k 0 (Nat.zero_add _) []
            rw [List.drop_zero, Nat.mul_zero, Nat.sub_zero, List.length_replicate] at hld
            have hv : volLoad (t.put1 (35 + (k : Int)) x) ((1 : Nat) : Int) = (.zero, 11) := by
              unfold volLoad
              rw [if_pos (by unfold Tx.right; rw [Tx.put_was]; omega), if_neg (by omega)]
              show volLd (t.put1 (35 + (k : Int)) x) 1 = _
              unfold volLd
              rw [h1]
              show (if (0 : Nat) = 0 then _ else _) = _
              rw [if_pos rfl]
              show (match ldGo (t.put1 (35 + (k : Int)) x) (List.range u) ((List.replicate n (0 : UInt8)).length) [] with | none => _ | some b => _) = _
              rw [List.length_replicate, hld]
            rw [hv]
            decide
          · refine go_on ?_
            refine f_buildSlice (cs := [.int .u8 1]) F rfl rfl rfl rfl (fun q9 w F => ?_)
            obtain ⟨O, F⟩ := F.frzSl (q := q9) (Nat.le_refl 1)
            have F := F.fact (f := Fact.bytes (.slice (some ⟨q9, 0, none⟩) 1 1) [1]) (Sl.bytes (xs := [1]) (F.sl (v := .slice (some ⟨q9, 0, none⟩) 1 1) (cs := [.int .u8 1])))
            refine go_on ?_
            refine f_call F rfl rfl (txnPut_c (t := t) (i := 35 + (k : Int)) (xs := [1])) ?_ (hp := trivial)
            clear F; rintro r O w T Φ ⟨rfl, rfl, rfl⟩ F0
            refine tidy F0 (fun F => ?_); clear F0
            refine go_on ?_
            refine K (m2, t.put1 (35 + (k : Int)) [1]) _ _ ⟨_, F.wk, fun hf => ?_⟩ (sub_cons rfl rfl (sub_cons rfl rfl (sub_nil)))
            have h1 := (hf.2.2.2.1 k (by rw [Tx.put_was]; omega)).2.2
            have hz : (t.own 24).getD k 0 = 0 := by
              rw [hG2.own (by omega) 24 (Nat.le_refl _)]
              rw [List.count_eq_zero]
              intro hm
              obtain ⟨i, hi, hmi⟩ := (allI_mem I k 24).1 hm
              by_cases e : i = 1
              · subst e; rw [hI1, List.mem_range] at hmi; omega
              · rw [hI0 i hi e] at hmi; cases hmi
            rw [hown _ _ (.inr (by omega)), Tx.get_put, if_pos ⟨rfl, by omega, by omega, by simp⟩] at h1
            cases h1 hz
        · refine go_on ?_
          refine f_buildSlice (cs := [.int .u8 1]) F rfl rfl rfl rfl (fun q9 w F => ?_)
          obtain ⟨O, F⟩ := F.frzSl (q := q9) (Nat.le_refl 1)
          have F := F.fact (f := Fact.bytes (.slice (some ⟨q9, 0, none⟩) 1 1) [1]) (Sl.bytes (xs := [1]) (F.sl (v := .slice (some ⟨q9, 0, none⟩) 1 1) (cs := [.int .u8 1])))
          refine go_on ?_
          refine f_call F rfl rfl (txnPut_c (t := t) (i := 10) (xs := [1])) ?_ (hp := trivial)
          clear F; rintro r O w T Φ ⟨rfl, rfl, rfl⟩ F0
          refine tidy F0 (fun F => ?_); clear F0
          refine go_on ?_
          refine K (m2, t.put1 10 [1]) _ _ ⟨_, F.wk, fun hf => ?_⟩ (sub_cons rfl rfl (sub_cons rfl rfl (sub_nil)))
          have h1 := hf.2.2.1
          unfold volChange at h1
          rw [if_pos hf.1, Tx.get_put, if_pos ⟨rfl, by omega, by omega, by simp⟩] at h1
          exact absurd h1 (by decide)
  rintro ⟨m3, t'⟩ w ⟨O, F, hbad⟩
  dsimp only at F hbad ⊢
  refine go_on ?_
  refine f_call F rfl rfl (vwrong_c (t := t')) ?_ (hp := trivial)
  clear F; rintro r O w T Φ ⟨ws, rfl, rfl, rfl, hws⟩ F0
  refine tidy F0 (fun F => ?_); clear F0
  have hne : ws ≠ [] := fun e => hbad (hws.1 e)
  refine go_on ?_
  rw [decide_eq_false hne]
  refine go_back ?_
  exact F.lawb (by simp)
theorem VolWrong_true {w : World} {v0 v1 v2 : Value} (r0 : Reads Tryz.prog w 46 [v0]) (r1 : Reads Tryz.prog w 5 [v1]) (r2 : Reads Tryz.prog w 5 [v2]) :
    FnC Tryz.prog 5 [v0, v1, v2] [] [] w fun r O' w' => r = .bool true := by
  obtain ⟨a, h1, _⟩ := reads_nat (k := .u16) rfl r0
  obtain ⟨b, h2, hb⟩ := reads_nat (k := .u8) rfl r1
  obtain ⟨c, h3, hc⟩ := reads_nat (k := .u8) rfl r2
  injection h1 with h1
  injection h2 with h2
  injection h3 with h3
  subst h1 h2 h3
  exact VolWrong_ok hb hc (Fr.start OK_nil)
end Go.Proofs.YtcfpnghkkkphhaaGreat
