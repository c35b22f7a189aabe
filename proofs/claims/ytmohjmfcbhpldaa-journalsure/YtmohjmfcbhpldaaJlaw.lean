/- What the journal's laws call. -/
import Derived.Test.YtmohjmfcbhpldaaJcomlaw
import Derived.Test.YtmohjmfcbhpldaaJread
namespace Go.Proofs.Ytmohjmfcbhpldaa
open Gk Go
set_option linter.unusedVariables false
set_option maxHeartbeats 4000000
set_option maxRecDepth 4000
set_option linter.unusedSimpArgs false
attribute [local irreducible] Int.decLt Int.decLe Int.decEq Int.instDecidableEq Gk.Rnds Gk.E Gk.G Gk.R Gk.RD Gk.RX Gk.RO Gk.Y Gk.Ent Gk.Sat Gk.Round Gk.After Gk.Cell Gk.Sl Gk.SlA Gk.CB Gk.OK Gk.FnC Gk.Bytes Gk.BytesL Gk.StrL Gk.Buf Gk.MapI
theorem dnewK_c {n : Nat} (h : 1 ≤ n ∧ n ≤ 65536) : Con Try.prog 10 [.int .i64 n] [] [] [] fun r T Φ => ∃ p m, r = .tuple #[dptr p, .int .i64 0] ∧ T = [Dn p m (.slice none 0 0) ⟨n, [], [], -1, false⟩] ∧ Φ = [] := by
  have := dnew_c (n := (n : Int)) trivial
  intro O w h1 h2 h3 h4 h5 h6 h7
  refine FnC.mono (this O w h1 h2 h3 h4 h5 h6 h7) ?_
  rintro r O' w' s ⟨T, Φ, hK, hL⟩
  rw [if_pos (by omega)] at hK
  rw [Int.toNat_natCast] at hK
  exact ⟨T, Φ, hK, hL⟩
theorem zero_rec {n K N : Nat} (hK : 0 < K) : ∀ c, Choice ⟨n, [], [], -1, false⟩ c → RecW K N c 0 (List.replicate N []) 0 0 [] := by
  intro c hc
  have hz : ∀ i, c i = sec0 := fun i => by
    rcases hc i with h | h
    · rw [h]; rfl
    · cases h
  have hs : (secGet sec0).2 ≠ 0 := secGet_zero
  exact {
    sup := by rw [hz]; unfold supOf; exact if_neg (fun h => hs h.1)
    place := hK
    seqs := rfl
    may := fun _ h => by cases h
    fits := Nat.zero_le _
    stand := trivial
    com := fun i hi h => by rw [hz] at h; exact absurd h hs
    len := by simp
    home := fun b hb _ => by
      rw [hz]
      unfold homOf
      rw [if_neg (fun h => hs h.1)]
      simp [List.getD_eq_getElem?_getD, hb]
    last := fun b hb h => by cases h }
/-- What an opening asks. -/
structure Rdy (K N : Nat) (d : Dk) (sq : Nat) (B : List (List UInt8)) (u : Nat) : Prop where
  up : d.up
  left : d.left = -1
  n : 1 + K + N ≤ d.n
  K4 : 4 ≤ K
  K2 : K ≤ 200
  N1 : 1 ≤ N
  N4 : N ≤ 400
  w : d.waits.length ≤ 900000
  small : sq < 1000000000
  inv : ∃ s0 p0 H, (∀ c, Choice d c → RecW K N c sq B s0 p0 H) ∧ usedH H = u
theorem usedH0 {H : List Chg} (h : usedH H = 0) : H = [] := by
  cases H with
  | nil => rfl
  | cons l H => unfold usedH at h; omega
theorem jopenL_c {q m K N sq u : Nat} {v0 : Value} {d : Dk} {B : List (List UInt8)} (h : Rdy K N d sq B u) : Con Try.prog 11 [dptr q, .int .i64 K, .int .i64 N] [Dn q m v0 d] [] [] fun r T Φ =>
    ∃ p bq v' j' d', (Alive K N j' d' ∧ d'.left = -1 ∧ j'.B = B ∧ j'.seq = sq ∧ j'.used = u ∧ d'.waits.length ≤ d.waits.length + 200 ∧ (u = 0 → d' = d)) ∧ r = .tuple #[dptr p, .int .i64 0] ∧ T = [Jt p q bq j', Dn q m v' d'] ∧ Φ = [] := by
  obtain ⟨h1, h2, h3, h4, h5, h6, h7, h8, h9, s0, p0, H, h10, h11⟩ := h
  have := jopen_c (q := q) (m := m) (v0 := v0) (d := d) (log := K) (n := N) ⟨⟨by omega, by omega, by omega, by omega, by omega⟩, h1, h8⟩
  intro O w g1 g2 g3 g4 g5 g6 g7
  refine FnC.mono (this O w g1 g2 g3 g4 g5 g6 g7) ?_
  rintro r O' w' s ⟨T, Φ, ⟨p, bq, v', ss, jr, ks, hr, hss, hsl, e1, e2, e3⟩, hL⟩
  obtain ⟨a1, a2, a3, a4⟩ := open_alive h1 h2 h3 h4 h5 h7 h9 h10 hr hss
  have hks : ks.length ≤ 200 := by
    have := (open_found h1 h3 h4 h5 h7 h9 (h10 _ (get_choice d))).1
    rw [hr] at this
    injection this with _ hk
    rw [hk]
    have hu := (h10 _ (get_choice d)).fits
    have : ∀ H : List Chg, (atsH H).length ≤ usedH H := by
      intro H
      induction H with
      | nil => exact Nat.zero_le _
      | cons l H ih =>
        have e : (atsH (l :: H)).length = l.length + (atsH H).length := by unfold atsH; simp
        rw [e]
        unfold usedH
        omega
    have := this H
    omega
  have hw := homeAll_waits ss (jr, d)
  dsimp only at hw
  refine ⟨T, Φ, ⟨p, bq, v', (homeAll ss (jr, d)).1, (homeAll ss (jr, d)).2, ⟨a1, a2, by rw [a3], by rw [a3], by rw [a3]; exact h11, by omega, fun hu => a4 (usedH0 (by omega))⟩, e1, e2, e3⟩, hL⟩
theorem rdy_zero {n K N : Nat} (h : 4 ≤ K ∧ K ≤ 200 ∧ 1 ≤ N ∧ N ≤ 400 ∧ 1 + K + N ≤ n) : Rdy K N ⟨n, [], [], -1, false⟩ 0 (List.replicate N []) 0 :=
  ⟨rfl, rfl, h.2.2.2.2, h.1, h.2.1, h.2.2.1, h.2.2.2.1, Nat.zero_le _, by decide, 0, 0, [], zero_rec (by omega), rfl⟩
theorem rdy_crash {K N : Nat} {j : Jr} {d : Dk} (A : Alive K N j d) (hN : 1 ≤ N) (pick : List UInt8) : Rdy K N (d.crash pick) j.seq j.B j.used := by
  obtain ⟨s0, p0, H, U, _⟩ := A
  refine ⟨rfl, rfl, U.n, U.K4, U.K2, hN, U.N4, Nat.zero_le _, U.small, s0, p0, H, fun c hc => ?_, U.used.symm⟩
  rw [choice_none rfl hc]
  exact U.inv _ (crash_choice d pick)
theorem rdy_same {K N : Nat} {j : Jr} {d : Dk} (A : Alive K N j d) (hN : 1 ≤ N) (hl : d.left = -1) (hw : d.waits.length ≤ 900000) : Rdy K N d j.seq j.B j.used := by
  obtain ⟨s0, p0, H, U, _⟩ := A
  exact ⟨U.up, hl, U.n, U.K4, U.K2, hN, U.N4, hw, U.small, s0, p0, H, U.inv, U.used.symm⟩
theorem rdy_rec {K N sq : Nat} {d : Dk} {B : List (List UInt8)} {pick : List UInt8} (hn : 1 + K + N ≤ d.n) (hK : 4 ≤ K ∧ K ≤ 200 ∧ 1 ≤ N ∧ N ≤ 400) (hs : sq < 1000000000) (h : Rec K N (d.crash pick).get sq B) : ∃ u, Rdy K N (d.crash pick) sq B u := by
  obtain ⟨s0, p0, H, R⟩ := h
  exact ⟨usedH H, rfl, rfl, hn, hK.1, hK.2.1, hK.2.2.1, hK.2.2.2, Nat.zero_le _, hs, s0, p0, H, fun c hc => by rw [choice_none rfl hc]; exact R, rfl⟩
theorem write_waits (j : Jr) (d : Dk) (l : Chg) : (j.write d l).2.waits.length ≤ d.waits.length + (l.length + 1) := by
  have h1 := puts_waits j l (j, d) (l.length + 1)
  have h2 := flush_waits (j.puts l (j, d) (l.length + 1)).1 (j.puts l (j, d) (l.length + 1)).2
  exact Nat.le_trans h2 h1
theorem commit_waits (j : Jr) (d : Dk) (l : Chg) : (j.commit d l).1.2.waits.length ≤ d.waits.length + 300 := by
  unfold Jr.commit
  split
  · exact Nat.le_add_right _ _
  · split
    · exact Nat.le_add_right _ _
    · rename_i hm
      have hm : mayW j.B.length l := Classical.not_not.1 hm
      have hl := hm.2.2
      split
      · exact Nat.le_add_right _ _
      · dsimp only
        have hr : (j.room d l).2.waits.length ≤ d.waits.length + 1 := by
          unfold Jr.room
          split
          · exact check_waits j d
          · exact Nat.le_succ _
        have hw := write_waits (j.room d l).1 (j.room d l).2 l
        have hh := homes_waits l (((j.room d l).1.write (j.room d l).2 l).1.on l, ((j.room d l).1.write (j.room d l).2 l).2) l.length
        split
        · dsimp only; omega
        · split
          · dsimp only; omega
          · unfold Jr.done
            dsimp only at hh ⊢
            omega
theorem rdB_nat {j : Jr} {k : Nat} (h : k < j.B.length) : j.rdB (k : Int) = j.B.getD k [] := by
  unfold Jr.rdB
  rw [if_pos (by omega)]
  simp
section
variable {w w0 : World} {M O0 O : List Nat} {L L' : List KT} {Φ : List Fact}
theorem frzBy {q : Nat} (xs : List UInt8) (F : Fr M O0 w0 O w L Φ) (h : Sel L (2, Thing.cells q (bytesV xs)) L') (hm : xs.length ≤ 1000000 := by decide) : ∃ O', Fr M O0 w0 O' w L' (Fact.bytes (.slice (some ⟨q, 0, none⟩) xs.length xs.length) xs :: Φ) :=
  (F.asBuf (sz := 1) (m := xs.length) h (by simp [bytesV]) (by show xs.length ≤ 9223372036854775807; omega)).frzB Sel.here
theorem frzW2 {q : Nat} {a b : Int} {u v : Value} {xs ys : List UInt8} (F : Fr M O0 w0 O w L Φ) (h : Sel L (2, Thing.cells q [.int .i64 a, u, .int .i64 b, v]) L') (hu : Bytes O w u xs) (hv : Bytes O w v ys) : ∃ O', Fr M O0 w0 O' w L' (Fact.rel 2 WrR (.slice (some ⟨q, 0, none⟩) 2 2) [(a, xs), (b, ys)] :: Φ) := by
  have F := F.asBuf (sz := 2) (m := 2) h rfl (by decide)
  have F := ((F.all0 2 WrR).allSnoc (R := WrR) (y := (a, xs)) (row := [.int .i64 a, u]) ⟨_, rfl, hu⟩ rfl).allSnoc (R := WrR) (y := (b, ys)) (row := [.int .i64 b, v]) ⟨_, rfl, hv⟩ rfl
  obtain ⟨O', F⟩ := F.frzRel (R := WrR) (rows := [] ++ [[Value.int .i64 a, u]] ++ [[Value.int .i64 b, v]]) (ys := [] ++ [(a, xs)] ++ [(b, ys)]) rfl
  exact ⟨O', F.wkF (fun f hf => by
    rcases List.mem_cons.1 hf with rfl | hf
    · exact List.mem_cons_self
    · simp [hf])⟩
end
theorem may2 {N : Nat} {a b : Int} {xs ys : List UInt8} (h1 : 0 ≤ a) (h2 : a < b) (h3 : b < N) (h4 : xs.length ≤ 96) (h5 : ys.length ≤ 96) : mayW N [(a, xs), (b, ys)] := by
  refine ⟨fun i hi => ?_, by show 1 ≤ 2; omega, by show 2 ≤ 100; omega⟩
  have hi : i < 2 := hi
  have e0 : wAt [(a, xs), (b, ys)] 0 = (a, xs) := rfl
  have e1 : wAt [(a, xs), (b, ys)] 1 = (b, ys) := rfl
  rcases i with _ | _ | i
  · unfold goodAt
    rw [e0]
    dsimp only
    omega
  · unfold goodAt
    rw [show 0 + 1 - 1 = 0 from rfl, e0, show 0 + 1 = 1 from rfl, e1]
    dsimp only
    omega
  · omega
/-- A commit where the disk doesn't stop. -/
theorem commit_goes {K N : Nat} {j : Jr} {d : Dk} (A : Alive K N j d) (l : Chg) (hs : j.seq + 1 < 1000000000) (hl : d.left = -1) (hm : mayW N l) (hK : l.length < K) :
    (j.commit d l).2 = 0 ∧ Alive K N (j.commit d l).1.1 (j.commit d l).1.2 ∧ (j.commit d l).1.2.left = -1 ∧ (j.commit d l).1.1.B = setAll j.B l ∧ (j.commit d l).1.1.seq = j.seq + 1 ∧ (j.commit d l).1.1.used ≤ K ∧ (j.used + l.length < K → (j.commit d l).1.1.used = j.used + (l.length + 1)) ∧ (j.commit d l).1.2.waits.length ≤ d.waits.length + 300 := by
  rcases commit_alive A l hs with ⟨h, _⟩ | ⟨_, h, _⟩ | ⟨h1, h2, h3, h4, h5, ⟨h6, h7⟩, h8, _⟩ | ⟨_, _, _, h, _⟩
  · exact absurd hm h
  · omega
  · exact ⟨h3, (h8 hl).1, (h8 hl).2, h4, h5, h6, h7, commit_waits j d l⟩
  · exact absurd hl h
theorem awake_c (h : True) : Con Try.prog 9 [] [] [] [] fun r T Φ => r = .bool true ∧ T = [] ∧ Φ = [] := by
  refine con_of (fun O0 w0 F => ?_)
  refine tidy F (fun F => ?_)
  refine fn_of _ Try.func9 rfl (by kernel_rfl) Try.ntmps9 rfl ?_
  refine go_on ?_
  refine f_call F rfl rfl (dnewK_c (n := 20)) ?_ (hp := ⟨by omega, by omega⟩)
  clear F; rintro r O w T Φ ⟨q, m, rfl, rfl, rfl⟩ F0
  refine tidy F0 (fun F => ?_); clear F0
  refine go_on ?_
  refine f_call F rfl rfl (jopenL_c (q := q) (m := m) (K := 8) (N := 5) (d := ⟨20, [], [], -1, false⟩)) ?_ (hp := (rdy_zero (by omega)))
  clear F; rintro r O w T Φ ⟨p, bq, v1, j1, d1, ⟨a1, a2, a3, a4, a5, a6, a7⟩, rfl, rfl, rfl⟩ F0
  refine tidy F0 (fun F => ?_); clear F0
  refine go_on ?_
  refine f_buildSlice (cs := bytesV [120]) F rfl rfl rfl rfl (fun qa w F => ?_)
  refine f_mark F rfl rfl (fun w F => ?_)
  obtain ⟨O, F⟩ := frzBy [120] F Sel.here
  refine go_on ?_
  refine f_buildSlice (cs := bytesV [121]) F rfl rfl rfl rfl (fun qb w F => ?_)
  refine f_mark F rfl rfl (fun w F => ?_)
  obtain ⟨O, F⟩ := frzBy [121] F Sel.here
  refine go_on ?_
  refine f_buildSlice (cs := [.int .i64 1, .slice (some ⟨qa, 0, none⟩) 1 1, .int .i64 3, .slice (some ⟨qb, 0, none⟩) 1 1]) F rfl rfl rfl rfl (fun qc w F => ?_)
  obtain ⟨O, F⟩ := frzW2 (xs := [120]) (ys := [121]) F Sel.here (F.bytes (v := .slice (some ⟨qa, 0, none⟩) 1 1) (xs := [120])) (F.bytes (v := .slice (some ⟨qb, 0, none⟩) 1 1) (xs := [121]))
  refine go_on ?_
  refine f_call F rfl rfl (jcommit_c (p := p) (q := q) (bq := bq) (m := m) (v0 := v1) (j := j1) (d := d1) (l := [(1, [120]), (3, [121])])) ?_ (hp := ⟨by rw [a7 rfl]; exact Nat.zero_le _, by decide⟩)
  clear F; rintro r O w T Φ ⟨v2, rfl, rfl, rfl⟩ F0
  refine tidy F0 (fun F => ?_); clear F0
  have hc := commit_goes a1 [(1, [120]), (3, [121])] (by rw [a4]; decide) a2 (may2 (by omega) (by omega) (by omega) (by decide) (by decide)) (by decide)
  rw [a3, a4, a5] at hc
  obtain ⟨⟨⟨j2, d2⟩, e2⟩, hx⟩ : ∃ x, j1.commit d1 [(1, [120]), (3, [121])] = x := ⟨_, rfl⟩
  rw [hx] at hc F ⊢
  dsimp only at hc F ⊢
  obtain ⟨rfl, b1, b2, b3, b4, b5, b6, b7⟩ := hc
  have b6 := b6 (by decide)
  have F := F.factB (xs := []) Bytes.nil
  refine go_on ?_
  refine f_call F rfl rfl (dcrash_c (p := q) (m := m) (v := v2) (d := d2) (pick := [])) ?_ (hp := ⟨by rw [a7 rfl] at b7; exact Nat.le_trans b7 (by decide), by decide⟩)
  clear F; rintro r O w T Φ ⟨rfl, rfl⟩ F0
  refine tidy F0 (fun F => ?_); clear F0
  refine go_on ?_
  refine f_call F rfl rfl (jopenL_c (q := q) (m := m) (K := 8) (N := 5) (d := d2.crash [])) ?_ (hp := (rdy_crash b1 (by omega) []))
  clear F; rintro r O w T Φ ⟨p3, bq3, v3, j3, d3, ⟨c1, c2, c3, c4, c5, c6, c7⟩, rfl, rfl, rfl⟩ F0
  refine tidy F0 (fun F => ?_); clear F0
  rw [b3] at c3
  rw [b4] at c4
  rw [b6] at c5
  have r0 : j3.rdB ((0 : Nat) : Int) = [] := by rw [rdB_nat (by rw [c3]; decide), c3]; rfl
  have r1 : j3.rdB ((1 : Nat) : Int) = [120] := by rw [rdB_nat (by rw [c3]; decide), c3]; rfl
  have r3 : j3.rdB ((3 : Nat) : Int) = [121] := by rw [rdB_nat (by rw [c3]; decide), c3]; rfl
  refine go_on ?_
  refine f_call F rfl rfl (jused_c (p := p) (q := q) (bq := bq) (j := j2)) ?_ (hp := trivial)
  clear F; rintro r O w T Φ ⟨rfl, rfl, rfl⟩ F0
  refine tidy F0 (fun F => ?_); clear F0
  rw [b6]
  refine go_on ?_
  refine f_call F rfl rfl (jread_c (p := p3) (q := q) (bq := bq3) (j := j3) (i := ((3 : Nat) : Int))) ?_ (hp := trivial)
  clear F; rintro r O w T Φ ⟨rfl, rfl⟩ F0
  refine tidy F0 (fun F => ?_); clear F0
  rw [r3] at F
  obtain ⟨O, F⟩ := F.frzB
  refine go_on ?_
  refine f_call F rfl rfl (jread_c (p := p3) (q := q) (bq := bq3) (j := j3) (i := ((1 : Nat) : Int))) ?_ (hp := trivial)
  clear F; rintro r O w T Φ ⟨rfl, rfl⟩ F0
  refine tidy F0 (fun F => ?_); clear F0
  rw [r1] at F
  obtain ⟨O, F⟩ := F.frzB
  refine go_on ?_
  refine f_call F rfl rfl (jread_c (p := p3) (q := q) (bq := bq3) (j := j3) (i := ((0 : Nat) : Int))) ?_ (hp := trivial)
  clear F; rintro r O w T Φ ⟨rfl, rfl⟩ F0
  refine tidy F0 (fun F => ?_); clear F0
  rw [r0] at F
  obtain ⟨O, F⟩ := F.frzB
  obtain ⟨ya, yc, rfl, _⟩ := (F.bytes (v := r) (xs := [])).form
  refine go_on ?_
  refine f_call F rfl rfl (jseq_c (p := p3) (q := q) (bq := bq3) (j := j3)) ?_ (hp := trivial)
  clear F; rintro r O w T Φ ⟨rfl, rfl, rfl⟩ F0
  refine tidy F0 (fun F => ?_); clear F0
  rw [c4]
  refine go_on ?_
  refine f_call F rfl rfl (jused_c (p := p3) (q := q) (bq := bq3) (j := j3)) ?_ (hp := trivial)
  clear F; rintro r O w T Φ ⟨rfl, rfl, rfl⟩ F0
  refine tidy F0 (fun F => ?_); clear F0
  rw [c5]
  refine go_on ?_
  refine f_call F rfl rfl (jerr_c (p := p3) (q := q) (bq := bq3) (j := j3)) ?_ (hp := trivial)
  clear F; rintro r O w T Φ ⟨rfl, rfl, rfl⟩ F0
  refine tidy F0 (fun F => ?_); clear F0
  have he : j3.e = 0 := by obtain ⟨_, _, _, U, _⟩ := c1; exact U.e
  rw [he]
  refine go_on ?_
  refine go_back ?_
  exact F.fin ⟨by simp, rfl, rfl⟩
theorem few_c {lv : Value} {l : Chg} (h : l.length ≤ 9223372036854775807) : Con Try.prog 18 [lv] [] [] [Fact.rel 2 WrR lv l] fun r T Φ => ∃ b, (b = true → l.length ≤ 20 ∧ ∀ x ∈ l, x.2.length ≤ 120) ∧ r = .bool b ∧ T = [] ∧ Φ = [] := by
  refine con_of (fun O0 w0 F => ?_)
  refine tidy F (fun F => ?_)
  refine fn_of _ Try.func18 rfl (by kernel_rfl) Try.ntmps18 rfl ?_
  obtain ⟨la, lc, rfl, _⟩ := (F.rel (v := lv) (R := WrR) (ys := l)).form
  refine go_on ?_
  refine g_loop (X := Nat) (fun i => [(0, .slice la l.length lc), (3, .int .i64 i)])
    (fun i wr => ∃ O, Fr [] O0 w0 O wr [] [Fact.rel 2 WrR (.slice la l.length lc) l] ∧ i ≤ l.length ∧ ∀ x ∈ l.take i, x.2.length ≤ 120) (fun i => l.length - i) 0 (sub_cons rfl rfl (sub_cons rfl rfl (sub_nil))) ⟨_, F.wk, Nat.zero_le _, by simp⟩ ?_
  clear F
  rintro i w ⟨O, F, hi, hx⟩
  refine go_on ?_
  refine g_dec rfl (fun g => ?_) (fun g => ?_)
  · have hi' : i < l.length := by omega
    obtain ⟨x, row, rfl, hrl, ⟨bv, rfl, hbv⟩, hrow⟩ := (F.rel (R := WrR) (ys := l)).elem hi'
    obtain ⟨va, vc, rfl, _⟩ := hbv.form
    have F := (F.factB hbv).fact hrow
    refine go_on ?_
    refine g_dec rfl (fun g2 => ?_) (fun g2 => ?_)
    · refine go_on ?_
      refine go_back ?_
      exact F.fin ⟨false, (fun h => by cases h), rfl, rfl, rfl⟩
    · refine go_on ?_
      refine e_round (i + 1) (sub_cons rfl rfl (sub_cons rfl rfl (sub_nil))) ⟨_, F.wk, by omega, fun y hy => ?_⟩ (by omega)
      rw [List.take_succ_eq_append_getElem hi'] at hy
      rcases List.mem_append.1 hy with hy | hy
      · exact hx y hy
      · rw [List.mem_singleton.1 hy]; omega
  · have hi' : i = l.length := by omega
    subst hi'
    rw [List.take_length] at hx
    refine go_on ?_
    refine go_back ?_
    exact F.fin ⟨_, fun h => ⟨by have := of_decide_eq_true h; omega, hx⟩, rfl, rfl, rfl⟩
end Go.Proofs.Ytmohjmfcbhpldaa
