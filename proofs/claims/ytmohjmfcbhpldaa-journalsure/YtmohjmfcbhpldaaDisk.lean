/- What the functions of disk do. -/
import Derived.Test.YtmohjmfcbhpldaaXdrp
import Derived.Test.YtmohjmfcbhpldaaGkArr
namespace Go.Proofs.Ytmohjmfcbhpldaa
open Gk Go
set_option linter.unusedVariables false
set_option maxHeartbeats 4000000
set_option maxRecDepth 4000
set_option linter.unusedSimpArgs false
attribute [local irreducible] Int.decLt Int.decLe Int.decEq Int.instDecidableEq Gk.Rnds Gk.E Gk.G Gk.R Gk.RD Gk.RX Gk.RO Gk.Y Gk.Ent Gk.Sat Gk.Round Gk.After Gk.Cell Gk.Sl Gk.SlA Gk.CB Gk.OK Gk.FnC Gk.Bytes Gk.BytesL Gk.StrL Gk.Buf Gk.MapI
/-- Sectors, and writes that wait. -/
structure Dk where
  n : Nat
  l : List (Int × List UInt8)
  waits : List (Int × List UInt8)
  left : Int
  down : Bool

def secV (b : List UInt8) : Value := .agg (bytesV b).toArray
def mapV (l : List (Int × List UInt8)) : KV := l.map fun x => (x.1, secV x.2)
def wtRow (x : Int × List UInt8) : List Value := .int .i64 x.1 :: bytesV x.2
def wts (l : List (Int × List UInt8)) : List Value := (l.map wtRow).flatten
def sec0 : List UInt8 := List.replicate 128 0
def Dk.ok (d : Dk) : Prop := d.n ≤ 65536 ∧ (∀ x ∈ d.l, x.2.length = 128) ∧ (∀ x ∈ d.waits, x.2.length = 128) ∧ -1 ≤ d.left ∧ d.left ≤ 9223372036854775807
def dptr (p : Nat) : Value := .pointer (some ⟨p, 0, none⟩)
def Dn (p m : Nat) (v : Value) (d : Dk) : Thing := Thing.if d.ok (Thing.both (Thing.cells p [.int .i64 d.n, .map (some m), v, .int .i64 d.left, .bool d.down]) (Thing.both (Thing.map m .i64 (mapV d.l)) (Thing.buf 129 v d.waits.length (wts d.waits))))

/-- The error of a call, of a sector. -/
def Dk.upE (d : Dk) (i : Int) : Nat := if d.down = true then 20 else if 0 ≤ i ∧ i < d.n then 0 else 15
def Dk.cnt (d : Dk) : Dk := if d.left = 0 then { d with down := true } else if 0 < d.left then { d with left := d.left - 1 } else d
def Dk.cntE (d : Dk) : Nat := if d.left = 0 then 20 else 0
/-- What a sector holds, with what waits. -/
def look (l : List (Int × List UInt8)) (i : Int) : List UInt8 := (lookI l i).getD sec0
def lastW (b : List UInt8) (i : Int) : List (Int × List UInt8) → List UInt8
  | [] => b
  | x :: xs => lastW (if x.1 = i then x.2 else b) i xs
def Dk.get (d : Dk) (i : Int) : List UInt8 := lastW (look d.l i) i d.waits
def sure (l : List (Int × List UInt8)) : List (Int × List UInt8) → List (Int × List UInt8)
  | [] => l
  | x :: xs => sure (updI l x.1 x.2) xs

theorem look_len {d : Dk} (h : d.ok) (i : Int) : (look d.l i).length = 128 := by
  unfold look
  cases hl : lookI d.l i with
  | none => rfl
  | some b =>
    have : ∀ (l : List (Int × List UInt8)), lookI l i = some b → ∃ x ∈ l, x.2 = b := by
      intro l
      induction l with
      | nil => intro h; cases h
      | cons x xs ih =>
        intro h
        unfold lookI at h
        split at h
        · exact ⟨x, by simp, by simpa using h⟩
        · obtain ⟨y, h1, h2⟩ := ih h
          exact ⟨y, by simp [h1], h2⟩
    obtain ⟨x, h1, h2⟩ := this _ hl
    rw [← h2]; exact h.2.1 x h1
theorem lastW_len {i : Int} : ∀ (l : List (Int × List UInt8)) (b : List UInt8), b.length = 128 → (∀ x ∈ l, x.2.length = 128) → (lastW b i l).length = 128
  | [], b, h, _ => h
  | x :: xs, b, h, hx => by
    unfold lastW
    refine lastW_len xs _ ?_ (fun y hy => hx y (by simp [hy]))
    split
    · exact hx x (by simp)
    · exact h
theorem get_len {d : Dk} (h : d.ok) (i : Int) : (d.get i).length = 128 := lastW_len _ _ (look_len h i) h.2.2.1

theorem wtRow_len {l : List (Int × List UInt8)} (h : ∀ x ∈ l, x.2.length = 128) : ∀ r ∈ l.map wtRow, r.length = 129 := by
  intro r hr
  obtain ⟨x, hx, rfl⟩ := List.mem_map.1 hr
  simp [wtRow, bytesV, h x hx]
theorem one_wt (x : Int × List UInt8) : ∀ u ∈ wtRow x, u.oneCell' = true := by
  intro u hu
  rcases List.mem_cons.1 hu with rfl | hu
  · rfl
  · exact one_bytes u hu

theorem dnew_c {n : Int} (h : True) : Con Try.prog 10 [.int .i64 n] [] [] [] fun r T Φ => if 1 ≤ n ∧ n ≤ 65536 then ∃ p m, r = .tuple #[dptr p, .int .i64 0] ∧ T = [Dn p m (.slice none 0 0) ⟨n.toNat, [], [], -1, false⟩] ∧ Φ = [] else r = .tuple #[.pointer none, .int .i64 1] ∧ T = [] ∧ Φ = [] := by
  refine con_of (fun O0 w0 F => ?_)
  refine tidy F (fun F => ?_)
  refine fn_of _ Try.func10 rfl (by kernel_rfl) Try.ntmps10 rfl ?_
  by_cases g1 : n < 1
  · (refine go_on ?_; repeat (first | (refine f_store1 F rfl rfl rfl (fun w F => ?_); refine go_on ?_) | (refine f_storeAll F rfl rfl rfl (fun w F => ?_); refine go_on ?_) | (refine f_box1 F rfl rfl (fun q w F => ?_); refine go_on ?_) | (refine f_boxN F rfl rfl (fun q w F => ?_); refine go_on ?_) | (refine f_alloc1 F rfl (fun q w F => ?_); refine go_on ?_) | (refine f_allocN F rfl (fun q w F => ?_); refine go_on ?_)))
    refine go_back ?_
    refine F.fin (T := []) (Φ' := []) ?_
    rw [if_neg (by omega)]
    exact ⟨rfl, rfl, rfl⟩
  · by_cases g2 : 65536 < n
    · (refine go_on ?_; repeat (first | (refine f_store1 F rfl rfl rfl (fun w F => ?_); refine go_on ?_) | (refine f_storeAll F rfl rfl rfl (fun w F => ?_); refine go_on ?_) | (refine f_box1 F rfl rfl (fun q w F => ?_); refine go_on ?_) | (refine f_boxN F rfl rfl (fun q w F => ?_); refine go_on ?_) | (refine f_alloc1 F rfl (fun q w F => ?_); refine go_on ?_) | (refine f_allocN F rfl (fun q w F => ?_); refine go_on ?_)))
      refine go_back ?_
      refine F.fin (T := []) (Φ' := []) ?_
      rw [if_neg (by omega)]
      exact ⟨rfl, rfl, rfl⟩
    · obtain ⟨k, rfl⟩ := Int.eq_ofNat_of_zero_le (show 0 ≤ n by omega)
      refine go_on ?_
      refine f_makeMap .i64 F rfl (fun m w F => ?_)
      (refine go_on ?_; repeat (first | (refine f_store1 F rfl rfl rfl (fun w F => ?_); refine go_on ?_) | (refine f_storeAll F rfl rfl rfl (fun w F => ?_); refine go_on ?_) | (refine f_box1 F rfl rfl (fun q w F => ?_); refine go_on ?_) | (refine f_boxN F rfl rfl (fun q w F => ?_); refine go_on ?_) | (refine f_alloc1 F rfl (fun q w F => ?_); refine go_on ?_) | (refine f_allocN F rfl (fun q w F => ?_); refine go_on ?_)))
      have F := F.nilbuf 129
      (refine go_on ?_; repeat (first | (refine f_store1 F rfl rfl rfl (fun w F => ?_); refine go_on ?_) | (refine f_storeAll F rfl rfl rfl (fun w F => ?_); refine go_on ?_) | (refine f_box1 F rfl rfl (fun q w F => ?_); refine go_on ?_) | (refine f_boxN F rfl rfl (fun q w F => ?_); refine go_on ?_) | (refine f_alloc1 F rfl (fun q w F => ?_); refine go_on ?_) | (refine f_allocN F rfl (fun q w F => ?_); refine go_on ?_)))
      have F := F.close2 (s := Thing.map m .i64 []) (t := Thing.buf 129 (.slice none 0 0) 0 [])
      have hok : Dk.ok ⟨((k : Nat) : Int).toNat, [], [], -1, false⟩ := ⟨by show k ≤ 65536; omega, by simp, by simp, by show (-1 : Int) ≤ -1; omega, by show (-1 : Int) ≤ 9223372036854775807; omega⟩
      have F := (F.close2 (s := Thing.cells q _)).mkif hok
      refine go_back ?_
      refine F.fin (T := [Dn q m (.slice none 0 0) ⟨((k : Nat) : Int).toNat, [], [], -1, false⟩]) (Φ' := []) ?_
      rw [if_pos (by omega)]
      exact ⟨q, m, rfl, rfl, rfl⟩

theorem dlen_c {p m : Nat} {v : Value} {d : Dk} (h : True) : Con Try.prog 23 [dptr p] [] [Dn p m v d] [] fun r T Φ => r = .int .i64 d.n ∧ T = [] ∧ Φ = [] := by
  refine con_of (fun O0 w0 F => ?_)
  refine tidy F (fun F => ?_)
  refine fn_of _ Try.func23 rfl (by kernel_rfl) Try.ntmps23 rfl ?_
  obtain ⟨hok, F⟩ := F.unif
  have F := F.open
  (refine go_on ?_; repeat (first | (refine f_store1 F rfl rfl rfl (fun w F => ?_); refine go_on ?_) | (refine f_storeAll F rfl rfl rfl (fun w F => ?_); refine go_on ?_) | (refine f_box1 F rfl rfl (fun q w F => ?_); refine go_on ?_) | (refine f_boxN F rfl rfl (fun q w F => ?_); refine go_on ?_) | (refine f_alloc1 F rfl (fun q w F => ?_); refine go_on ?_) | (refine f_allocN F rfl (fun q w F => ?_); refine go_on ?_)))
  refine go_back ?_
  exact F.fin ⟨rfl, rfl, rfl⟩

theorem up_c {p m : Nat} {v : Value} {d : Dk} {i : Int} (h : True) : Con Try.prog 44 [dptr p, .int .i64 i] [] [Dn p m v d] [] fun r T Φ => r = .int .i64 (d.upE i) ∧ T = [] ∧ Φ = [] := by
  refine con_of (fun O0 w0 F => ?_)
  refine tidy F (fun F => ?_)
  refine fn_of _ Try.func44 rfl (by kernel_rfl) Try.ntmps44 rfl ?_
  obtain ⟨hok, F⟩ := F.unif
  have F := F.open
  unfold Dk.upE
  by_cases g1 : d.down = true
  · rw [if_pos g1]
    rw [g1] at F
    (refine go_on ?_; repeat (first | (refine f_store1 F rfl rfl rfl (fun w F => ?_); refine go_on ?_) | (refine f_storeAll F rfl rfl rfl (fun w F => ?_); refine go_on ?_) | (refine f_box1 F rfl rfl (fun q w F => ?_); refine go_on ?_) | (refine f_boxN F rfl rfl (fun q w F => ?_); refine go_on ?_) | (refine f_alloc1 F rfl (fun q w F => ?_); refine go_on ?_) | (refine f_allocN F rfl (fun q w F => ?_); refine go_on ?_)))
    refine go_back ?_
    exact F.fin ⟨rfl, rfl, rfl⟩
  · have g1' : d.down = false := by cases hh : d.down <;> simp_all
    rw [if_neg g1]
    rw [g1'] at F
    by_cases g2 : i < 0
    · rw [if_neg (by omega)]
      (refine go_on ?_; repeat (first | (refine f_store1 F rfl rfl rfl (fun w F => ?_); refine go_on ?_) | (refine f_storeAll F rfl rfl rfl (fun w F => ?_); refine go_on ?_) | (refine f_box1 F rfl rfl (fun q w F => ?_); refine go_on ?_) | (refine f_boxN F rfl rfl (fun q w F => ?_); refine go_on ?_) | (refine f_alloc1 F rfl (fun q w F => ?_); refine go_on ?_) | (refine f_allocN F rfl (fun q w F => ?_); refine go_on ?_)))
      refine go_back ?_
      exact F.fin ⟨rfl, rfl, rfl⟩
    · by_cases g3 : i < d.n
      · rw [if_pos (by omega)]
        (refine go_on ?_; repeat (first | (refine f_store1 F rfl rfl rfl (fun w F => ?_); refine go_on ?_) | (refine f_storeAll F rfl rfl rfl (fun w F => ?_); refine go_on ?_) | (refine f_box1 F rfl rfl (fun q w F => ?_); refine go_on ?_) | (refine f_boxN F rfl rfl (fun q w F => ?_); refine go_on ?_) | (refine f_alloc1 F rfl (fun q w F => ?_); refine go_on ?_) | (refine f_allocN F rfl (fun q w F => ?_); refine go_on ?_)))
        refine go_back ?_
        exact F.fin ⟨rfl, rfl, rfl⟩
      · rw [if_neg (by omega)]
        (refine go_on ?_; repeat (first | (refine f_store1 F rfl rfl rfl (fun w F => ?_); refine go_on ?_) | (refine f_storeAll F rfl rfl rfl (fun w F => ?_); refine go_on ?_) | (refine f_box1 F rfl rfl (fun q w F => ?_); refine go_on ?_) | (refine f_boxN F rfl rfl (fun q w F => ?_); refine go_on ?_) | (refine f_alloc1 F rfl (fun q w F => ?_); refine go_on ?_) | (refine f_allocN F rfl (fun q w F => ?_); refine go_on ?_)))
        refine go_back ?_
        exact F.fin ⟨rfl, rfl, rfl⟩

theorem cnt_ok {d : Dk} (h : d.ok) : d.cnt.ok := by
  obtain ⟨h1, h2, h3, h4, h5⟩ := h
  unfold Dk.cnt
  split
  · exact ⟨h1, h2, h3, h4, h5⟩
  · split
    · exact ⟨h1, h2, h3, by show -1 ≤ d.left - 1; omega, by show d.left - 1 ≤ _; omega⟩
    · exact ⟨h1, h2, h3, h4, h5⟩

theorem counts_c {p m : Nat} {v : Value} {d : Dk} (h : True) : Con Try.prog 45 [dptr p] [Dn p m v d] [] [] fun r T Φ => r = .int .i64 d.cntE ∧ T = [Dn p m v d.cnt] ∧ Φ = [] := by
  refine con_of (fun O0 w0 F => ?_)
  refine tidy F (fun F => ?_)
  refine fn_of _ Try.func45 rfl (by kernel_rfl) Try.ntmps45 rfl ?_
  obtain ⟨hok, F⟩ := F.unif
  have hok2 := cnt_ok hok
  have F := F.open
  unfold Dk.cntE
  by_cases g1 : d.left = 0
  · rw [if_pos g1]
    have e : d.cnt = { d with down := true } := by unfold Dk.cnt; rw [if_pos g1]
    rw [e] at hok2 ⊢
    (refine go_on ?_; repeat (first | (refine f_store1 F rfl rfl rfl (fun w F => ?_); refine go_on ?_) | (refine f_storeAll F rfl rfl rfl (fun w F => ?_); refine go_on ?_) | (refine f_box1 F rfl rfl (fun q w F => ?_); refine go_on ?_) | (refine f_boxN F rfl rfl (fun q w F => ?_); refine go_on ?_) | (refine f_alloc1 F rfl (fun q w F => ?_); refine go_on ?_) | (refine f_allocN F rfl (fun q w F => ?_); refine go_on ?_)))
    have F := (F.close2 (s := Thing.cells p _)).mkif hok2
    refine go_back ?_
    exact F.fin ⟨rfl, rfl, rfl⟩
  · rw [if_neg g1]
    by_cases g2 : 0 < d.left
    · have e : d.cnt = { d with left := d.left - 1 } := by unfold Dk.cnt; rw [if_neg g1, if_pos g2]
      rw [e] at hok2 ⊢
      obtain ⟨_, _, _, h4, h5⟩ := hok
      (refine go_on ?_; repeat (first | (refine f_store1 F rfl rfl rfl (fun w F => ?_); refine go_on ?_) | (refine f_storeAll F rfl rfl rfl (fun w F => ?_); refine go_on ?_) | (refine f_box1 F rfl rfl (fun q w F => ?_); refine go_on ?_) | (refine f_boxN F rfl rfl (fun q w F => ?_); refine go_on ?_) | (refine f_alloc1 F rfl (fun q w F => ?_); refine go_on ?_) | (refine f_allocN F rfl (fun q w F => ?_); refine go_on ?_)))
      have F := (F.close2 (s := Thing.cells p _)).mkif hok2
      refine go_back ?_
      exact F.fin ⟨rfl, rfl, rfl⟩
    · have e : d.cnt = d := by unfold Dk.cnt; rw [if_neg g1, if_neg g2]
      rw [e] at hok2 ⊢
      (refine go_on ?_; repeat (first | (refine f_store1 F rfl rfl rfl (fun w F => ?_); refine go_on ?_) | (refine f_storeAll F rfl rfl rfl (fun w F => ?_); refine go_on ?_) | (refine f_box1 F rfl rfl (fun q w F => ?_); refine go_on ?_) | (refine f_boxN F rfl rfl (fun q w F => ?_); refine go_on ?_) | (refine f_alloc1 F rfl (fun q w F => ?_); refine go_on ?_) | (refine f_allocN F rfl (fun q w F => ?_); refine go_on ?_)))
      have F := (F.close2 (s := Thing.cells p _)).mkif hok2
      refine go_back ?_
      exact F.fin ⟨rfl, rfl, rfl⟩

theorem dwaits_c {p m : Nat} {v : Value} {d : Dk} (h : True) : Con Try.prog 21 [dptr p] [] [Dn p m v d] [] fun r T Φ => r = .int .i64 d.waits.length ∧ T = [] ∧ Φ = [] := by
  refine con_of (fun O0 w0 F => ?_)
  refine tidy F (fun F => ?_)
  refine fn_of _ Try.func21 rfl (by kernel_rfl) Try.ntmps21 rfl ?_
  obtain ⟨hok, F⟩ := F.unif
  have F := F.open
  have F := F.open (s := Thing.map m .i64 (mapV d.l))
  obtain ⟨a, c, rfl, _⟩ := (F.bufAt (v := v)).form
  (refine go_on ?_; repeat (first | (refine f_store1 F rfl rfl rfl (fun w F => ?_); refine go_on ?_) | (refine f_storeAll F rfl rfl rfl (fun w F => ?_); refine go_on ?_) | (refine f_box1 F rfl rfl (fun q w F => ?_); refine go_on ?_) | (refine f_boxN F rfl rfl (fun q w F => ?_); refine go_on ?_) | (refine f_alloc1 F rfl (fun q w F => ?_); refine go_on ?_) | (refine f_allocN F rfl (fun q w F => ?_); refine go_on ?_)))
  refine go_back ?_
  exact F.fin ⟨rfl, rfl, rfl⟩

theorem ddown_c {p m : Nat} {v : Value} {d : Dk} (h : True) : Con Try.prog 24 [dptr p] [] [Dn p m v d] [] fun r T Φ => r = .bool d.down ∧ T = [] ∧ Φ = [] := by
  refine con_of (fun O0 w0 F => ?_)
  refine tidy F (fun F => ?_)
  refine fn_of _ Try.func24 rfl (by kernel_rfl) Try.ntmps24 rfl ?_
  obtain ⟨hok, F⟩ := F.unif
  have F := F.open
  (refine go_on ?_; repeat (first | (refine f_store1 F rfl rfl rfl (fun w F => ?_); refine go_on ?_) | (refine f_storeAll F rfl rfl rfl (fun w F => ?_); refine go_on ?_) | (refine f_box1 F rfl rfl (fun q w F => ?_); refine go_on ?_) | (refine f_boxN F rfl rfl (fun q w F => ?_); refine go_on ?_) | (refine f_alloc1 F rfl (fun q w F => ?_); refine go_on ?_) | (refine f_allocN F rfl (fun q w F => ?_); refine go_on ?_)))
  refine go_back ?_
  exact F.fin ⟨rfl, rfl, rfl⟩

def Dk.stop (d : Dk) (a : Int) : Dk := { d with left := if -1 > a then -1 else a }
theorem dstop_c {p m : Nat} {v : Value} {d : Dk} {a : Int} (h : a ≤ 9223372036854775807) : Con Try.prog 19 [dptr p, .int .i64 a] [Dn p m v d] [] [] fun r T Φ => T = [Dn p m v (d.stop a)] ∧ Φ = [] := by
  refine con_of (fun O0 w0 F => ?_)
  refine tidy F (fun F => ?_)
  refine fn_of _ Try.func19 rfl (by kernel_rfl) Try.ntmps19 rfl ?_
  obtain ⟨hok, F⟩ := F.unif
  have hok2 : (d.stop a).ok := by
    obtain ⟨h1, h2, h3, h4, h5⟩ := hok
    refine ⟨h1, h2, h3, ?_, ?_⟩
    · show -1 ≤ (if -1 > a then -1 else a)
      split <;> omega
    · show (if -1 > a then -1 else a) ≤ _
      split <;> omega
  have F := F.open
  refine go_on ?_
  refine r_y (y_max2 rfl rfl) rfl ?_
  (refine go_on ?_; repeat (first | (refine f_store1 F rfl rfl rfl (fun w F => ?_); refine go_on ?_) | (refine f_storeAll F rfl rfl rfl (fun w F => ?_); refine go_on ?_) | (refine f_box1 F rfl rfl (fun q w F => ?_); refine go_on ?_) | (refine f_boxN F rfl rfl (fun q w F => ?_); refine go_on ?_) | (refine f_alloc1 F rfl (fun q w F => ?_); refine go_on ?_) | (refine f_allocN F rfl (fun q w F => ?_); refine go_on ?_)))
  have F := (F.close2 (s := Thing.cells p _)).mkif hok2
  refine go_back ?_
  exact F.fin ⟨rfl, rfl⟩

theorem look_map (l : List (Int × List UInt8)) (i : Int) : ((lookI (mapV l) i).getD (secV sec0)) = secV (look l i) := by
  unfold look
  induction l with
  | nil => rfl
  | cons x xs ih =>
    unfold mapV at *
    simp only [List.map_cons, lookI]
    split
    · rfl
    · exact ih
theorem upd_map (l : List (Int × List UInt8)) (i : Int) (b : List UInt8) : updI (mapV l) i (secV b) = mapV (updI l i b) := by
  unfold mapV
  induction l with
  | nil => rfl
  | cons x xs ih =>
    simp only [List.map_cons, updI]
    split
    · rfl
    · simp only [List.map_cons, ih]
theorem wts_row (l : List (Int × List UInt8)) {j : Nat} (h : j < (l.map wtRow).length) : (l.map wtRow)[j] = wtRow (l[j]'(by simpa using h)) := by simp

theorem upd_len : ∀ (l : List (Int × List UInt8)) (i : Int) (b : List UInt8), (∀ x ∈ l, x.2.length = 128) → b.length = 128 → ∀ x ∈ updI l i b, x.2.length = 128
  | [], i, b, _, hb, x, hx => by simp [updI] at hx; subst hx; exact hb
  | y :: ys, i, b, h, hb, x, hx => by
    unfold updI at hx
    split at hx
    · rcases List.mem_cons.1 hx with rfl | hx
      · exact hb
      · exact h x (by simp [hx])
    · rcases List.mem_cons.1 hx with rfl | hx
      · exact h _ (by simp)
      · exact upd_len ys i b (fun z hz => h z (by simp [hz])) hb x hx
theorem sure_len : ∀ (ws l : List (Int × List UInt8)), (∀ x ∈ l, x.2.length = 128) → (∀ x ∈ ws, x.2.length = 128) → ∀ x ∈ sure l ws, x.2.length = 128
  | [], l, h, _ => h
  | y :: ys, l, h, hw => sure_len ys _ (upd_len l y.1 y.2 h (hw y (by simp))) (fun z hz => hw z (by simp [hz]))

theorem dread_c {p m : Nat} {v : Value} {d : Dk} {i : Int} (h : d.waits.length ≤ 1000000) : Con Try.prog 38 [dptr p, .int .i64 i] [] [Dn p m v d] [] fun r T Φ => ∃ u, r = .tuple #[u, .int .i64 (d.upE i)] ∧ T = [Thing.buf 1 u (if d.upE i = 0 then d.get i else []).length (bytesV (if d.upE i = 0 then d.get i else []))] ∧ Φ = [] := by
  refine con_of (fun O0 w0 F => ?_)
  refine tidy F (fun F => ?_)
  refine fn_of _ Try.func38 rfl (by kernel_rfl) Try.ntmps38 rfl ?_
  refine go_on ?_
  refine f_call F rfl rfl (up_c (d := d) (i := i)) ?_
  clear F; rintro r O w T Φ ⟨rfl, rfl, rfl⟩ F0
  refine tidy F0 (fun F => ?_); clear F0
  refine go_on ?_
  by_cases g : d.upE i = 0
  · rw [if_pos g, g]
    obtain ⟨hok, F⟩ := F.unif
    have F := F.open
    have F := F.open (s := Thing.map m .i64 (mapV d.l))
    obtain ⟨a, c, rfl, _⟩ := (F.bufAt (v := v)).form
    have hlk := look_len hok i
    refine go_on ?_
    refine r_y (y_lookup (z := secV sec0) (hz := ⟨TZero.at_⟩) rfl rfl (F.th _ Sel.here.mem : MapI _ _ _ _)) rfl ?_
    rw [look_map]
    refine f_decl F rfl (vs := bytesV (look d.l i)) rfl (by simp [bytesV, hlk]) one_bytes ⟨_, rfl, rfl⟩ (fun q w F => ?_)
    refine go_on ?_
    refine g_loop (X := Nat × List UInt8) (fun y => [(1, .int .i64 i), (7, dptr q), (25, .slice a d.waits.length c), (26, .int .i64 d.waits.length), (27, .int .i64 y.1)])
      (fun y wr => ∃ O, Fr [] O0 w0 O wr [(2, Thing.cells q (bytesV y.2)), (0, Thing.buf 129 (.slice a d.waits.length c) d.waits.length (wts d.waits))] [] ∧ y.1 ≤ d.waits.length ∧ y.2.length = 128 ∧ lastW y.2 i (d.waits.drop y.1) = d.get i) (fun y => d.waits.length - y.1)
      (0, look d.l i) (sub_cons rfl rfl (sub_cons rfl rfl (sub_cons rfl rfl (sub_cons rfl rfl (sub_cons rfl rfl (sub_nil)))))) ⟨_, F.wk, Nat.zero_le _, hlk, rfl⟩ ?_
    clear F
    rintro ⟨j, b⟩ w ⟨O, F, hj, hb, hg⟩
    dsimp only at F hj hb hg ⊢
    refine go_on ?_
    refine g_dec rfl (fun g2 => ?_) (fun g2 => ?_)
    · have hj' : j < d.waits.length := by omega
      obtain ⟨qb, rfl, hrow⟩ := F.bufRow (rows := d.waits.map wtRow) (i := j) (m := d.waits.length) (sz := 129) (wtRow_len hok.2.2.1) (by simpa using hj') (by omega)
      rw [wts_row] at hrow
      have hx128 : (d.waits[j]).2.length = 128 := hok.2.2.1 _ (List.getElem_mem hj')
      rw [List.drop_eq_getElem_cons hj'] at hg
      generalize d.waits[j] = x at hrow hx128 hg
      have hg : lastW (if x.1 = i then x.2 else b) i (d.waits.drop (j + 1)) = d.get i := hg
      refine go_on ?_
      refine r_y (hrow rfl) rfl ?_
      refine f_decl F rfl (vs := wtRow x) rfl (by simp [wtRow, bytesV, hx128]) (one_wt x) ⟨_, rfl, rfl⟩ (fun q9 w F => ?_)
      refine go_on ?_
      by_cases g3 : x.1 = i
      · rw [if_pos g3] at hg
        refine go_on ?_
        refine r_y (y_loadTail (pre := [.int .i64 x.1]) (vs := bytesV x.2) rfl F Sel.here (by simp [bytesV, hx128])) rfl ?_
        refine f_storeAll F rfl rfl (vs := bytesV x.2) rfl (fun w F => ?_) (hv := List.all_eq_true.2 one_bytes) (hm := by simp [bytesV, hx128]) (hi := by simp [bytesV, hx128, hb])
        refine go_on ?_
        exact e_round (j + 1, x.2) (sub_cons rfl rfl (sub_cons rfl rfl (sub_cons rfl rfl (sub_cons rfl rfl (sub_cons rfl rfl (sub_nil)))))) ⟨_, F.wk, by simp only; omega, hx128, hg⟩ (by simp only; omega)
      · rw [if_neg g3] at hg
        refine go_on ?_
        exact e_round (j + 1, b) (sub_cons rfl rfl (sub_cons rfl rfl (sub_cons rfl rfl (sub_cons rfl rfl (sub_cons rfl rfl (sub_nil)))))) ⟨_, F.wk, by simp only; omega, hb, hg⟩ (by simp only; omega)
    · have hj' : j = d.waits.length := by omega
      subst hj'
      rw [List.drop_length] at hg
      have hg : b = d.get i := hg
      subst hg
      refine go_on ?_
      refine f_buildSlice (cs := []) F rfl rfl rfl rfl (fun q2 w F => ?_)
      have F := F.asBuf (sz := 1) (m := 0) Sel.here rfl (by decide)
      refine go_on ?_
      refine r_y (y_arrAll rfl) rfl ?_
      refine f_append F rfl rfl rfl (src_cb (q := q) (m := 128) (cap := 128) (news := bytesV (d.get i)) (rest := []) (by rw [List.append_nil]; exact F.thing (Sel.there Sel.here)) (by simp [bytesV, hb]) one_bytes) (fun r w O F => ?_)
      rw [List.nil_append, Nat.zero_add, ← hb] at F
      refine go_on ?_
      refine go_back ?_
      exact F.fin ⟨_, rfl, rfl, rfl⟩
  · rw [if_neg g]
    have F := F.nilbuf 1
    (refine go_on ?_; repeat (first | (refine f_store1 F rfl rfl rfl (fun w F => ?_); refine go_on ?_) | (refine f_storeAll F rfl rfl rfl (fun w F => ?_); refine go_on ?_) | (refine f_box1 F rfl rfl (fun q w F => ?_); refine go_on ?_) | (refine f_boxN F rfl rfl (fun q w F => ?_); refine go_on ?_) | (refine f_alloc1 F rfl (fun q w F => ?_); refine go_on ?_) | (refine f_allocN F rfl (fun q w F => ?_); refine go_on ?_) | (refine f_call F rfl rfl up_c ?_; clear F; rintro r O w T Φ ⟨rfl, rfl, rfl⟩ F0; refine tidy F0 (fun F => ?_); clear F0; refine go_on ?_)))
    refine go_back ?_
    exact F.fin ⟨_, rfl, rfl, rfl⟩

theorem dwrite_c {p m : Nat} {v : Value} {d : Dk} {i : Int} {u : Value} {b : List UInt8} (h : d.waits.length ≤ 1000000) : Con Try.prog 48 [dptr p, .int .i64 i, u] [Dn p m v d] [] [Fact.bytes u b] fun r T Φ => ∃ v', r = .int .i64 (if d.upE i ≠ 0 then d.upE i else if b.length ≠ 128 then 1 else d.cntE) ∧ T = [Dn p m v' (if d.upE i ≠ 0 ∨ b.length ≠ 128 then d else if d.left = 0 then d.cnt else { d.cnt with waits := d.waits ++ [(i, b)] })] ∧ Φ = [] := by
  refine con_of (fun O0 w0 F => ?_)
  refine tidy F (fun F => ?_)
  refine fn_of _ Try.func48 rfl (by kernel_rfl) Try.ntmps48 rfl ?_
  refine go_on ?_
  refine f_call F rfl rfl (up_c (d := d) (i := i)) ?_
  clear F; rintro r O w T Φ ⟨rfl, rfl, rfl⟩ F0
  refine tidy F0 (fun F => ?_); clear F0
  refine go_on ?_
  obtain ⟨ua, uc, rfl, _⟩ := (F.bytes (v := u)).form
  by_cases g : d.upE i = 0
  · by_cases gb : b.length = 128
    · have e1 : (if d.upE i ≠ 0 then (d.upE i : Int) else if b.length ≠ 128 then 1 else (d.cntE : Int)) = d.cntE := by simp [g, gb]
      have e2 : ∀ x : Dk, (if d.upE i ≠ 0 ∨ b.length ≠ 128 then d else x) = x := fun x => by simp [g, gb]
      rw [e1, e2, g]
      refine go_on ?_
      refine f_call F rfl rfl (counts_c (d := d)) ?_
      clear F; rintro r O w T Φ ⟨rfl, rfl, rfl⟩ F0
      refine tidy F0 (fun F => ?_); clear F0
      refine go_on ?_
      unfold Dk.cntE
      by_cases gl : d.left = 0
      · rw [if_pos gl, if_pos gl]
        refine go_on ?_
        refine go_back ?_
        exact F.fin ⟨_, rfl, rfl, rfl⟩
      · rw [if_neg gl, if_neg gl]
        obtain ⟨hok, F⟩ := F.unif
        have F := F.open
        have F := F.open (s := Thing.map m .i64 (mapV d.cnt.l))
        have ew : d.cnt.waits = d.waits := by unfold Dk.cnt; rw [if_neg gl]; split <;> rfl
        rw [ew] at F
        obtain ⟨va, vc, rfl, _⟩ := (F.bufAt (v := v)).form
        refine go_on ?_
        refine f_draw [(1, Thing.cells p _)] F [14] [(0, true), (1, true), (2, true), (3, true), (4, true), (5, true), (6, true), (7, true), (8, true), (9, true), (10, false), (11, false), (12, true), (13, true), (14, false)] (by kernel_rfl) (by kernel_rfl) (fun w F hS => ?_); refine go_look ?_
        refine rd_open rfl ?_; (first | refine ro_n ?_ | refine ro_g rfl rfl ?_); refine rx_y rfl (fun _ hw => y_toArr rfl (by omega)) (by assumption) ?_; refine go_look ?_
        obtain ⟨ub, rfl⟩ := bytes_some (F.bytes (v := .slice ua b.length uc) (xs := b)) (by omega)
        refine rd_open rfl ?_; (first | refine ro_n ?_ | refine ro_g rfl rfl ?_); refine rx_y rfl (fun _ hw => y_loadBytes rfl (FS.bytes' hw Sel.here) gb) (by assumption) ?_; refine go_look ?_
        refine rd_open rfl ?_; (first | refine ro_n ?_ | refine ro_g rfl rfl ?_); refine rx_y rfl (fun _ hw => y_buildPair rfl rfl rfl rfl (by simp [bytesV, gb])) (by assumption) ?_; refine go_look ?_
        refine rd_do rfl ?_; (try refine r_go rfl rfl ?_)
        have hfr := fill_row (sz := 129) (zs := cellsOf (.agg (([.int .i64 0] ++ List.replicate 128 (.int .u8 0) : List Value)).toArray)) (vs := wtRow (i, b)) rfl (by simp [wtRow, bytesV, gb])
        refine f_buildSlice (sz := 129) (cs := wtRow (i, b)) F rfl rfl rfl hfr (fun q w F => ?_)
        (try refine r_nil ?_); refine e_afterF F (fun hS => ?_); refine go_look ?_
        refine rd_do rfl ?_; (try refine r_go rfl rfl ?_)
        refine f_append F rfl rfl rfl (src_cb (q := q) (m := 1) (cap := 1) (news := wtRow (i, b)) (rest := []) (by rw [List.append_nil]; exact F.thing Sel.here) (by simp [wtRow, bytesV, gb]) (one_wt (i, b))) (fun r w O F => ?_)
        have ew2 : wts d.waits ++ wtRow (i, b) = wts (d.waits ++ [(i, b)]) := by simp [wts]
        rw [ew2] at F
        obtain ⟨ra, rc, rfl, _⟩ := (F.bufAt (v := r)).form
        (try refine r_nil ?_); refine e_afterF F (fun hS => ?_); refine go_look ?_
        refine rd_do rfl ?_; (try refine r_go rfl rfl ?_)
        refine f_store1 F rfl rfl rfl (fun w F => ?_)
        (try refine r_nil ?_); refine e_after (fun h => by cases h) ?_; refine go_look ?_
        refine rd_done ?_; refine go_on ?_
        have F := F.close2 (s := Thing.map m .i64 (mapV d.cnt.l)) (t := Thing.buf 129 _ _ _)
        have hok2 : Dk.ok { d.cnt with waits := d.waits ++ [(i, b)] } := by
          obtain ⟨k1, k2, k3, k4, k5⟩ := hok
          refine ⟨k1, k2, fun x hx => ?_, k4, k5⟩
          rcases List.mem_append.1 hx with hx | hx
          · exact k3 x (by rw [ew]; exact hx)
          · simp at hx; subst hx; exact gb
        have el2 : d.waits.length + 1 = (d.waits ++ [(i, b)]).length := by simp
        rw [el2] at F
        have F := (F.close2 (s := Thing.cells p _)).mkif hok2
        refine go_back ?_
        exact F.fin ⟨_, rfl, rfl, rfl⟩
    · have e1 : (if d.upE i ≠ 0 then (d.upE i : Int) else if b.length ≠ 128 then 1 else (d.cntE : Int)) = 1 := by simp [g, gb]
      have e2 : ∀ x : Dk, (if d.upE i ≠ 0 ∨ b.length ≠ 128 then d else x) = d := fun x => by simp [g, gb]
      rw [e1, e2, g]
      refine go_on ?_
      refine go_back ?_
      exact F.fin ⟨_, rfl, rfl, rfl⟩
  · have e1 : (if d.upE i ≠ 0 then (d.upE i : Int) else if b.length ≠ 128 then 1 else (d.cntE : Int)) = d.upE i := by simp [g]
    have e2 : ∀ x : Dk, (if d.upE i ≠ 0 ∨ b.length ≠ 128 then d else x) = d := fun x => by simp [g]
    rw [e1, e2]
    refine go_on ?_
    refine go_back ?_
    exact F.fin ⟨_, rfl, rfl, rfl⟩

theorem dflush_c {p m : Nat} {v : Value} {d : Dk} (h : d.waits.length ≤ 1000000) : Con Try.prog 34 [dptr p] [Dn p m v d] [] [] fun r T Φ => ∃ v', r = .int .i64 (if d.upE 0 ≠ 0 then d.upE 0 else d.cntE) ∧ T = [Dn p m v' (if d.upE 0 ≠ 0 then d else if d.left = 0 then d.cnt else { d.cnt with l := sure d.l d.waits, waits := [] })] ∧ Φ = [] := by
  refine con_of (fun O0 w0 F => ?_)
  refine tidy F (fun F => ?_)
  refine fn_of _ Try.func34 rfl (by kernel_rfl) Try.ntmps34 rfl ?_
  refine go_on ?_
  refine f_call F rfl rfl (up_c (d := d) (i := 0)) ?_
  clear F; rintro r O w T Φ ⟨rfl, rfl, rfl⟩ F0
  refine tidy F0 (fun F => ?_); clear F0
  refine go_on ?_
  by_cases g : d.upE 0 = 0
  · have e1 : (if d.upE 0 ≠ 0 then (d.upE 0 : Int) else (d.cntE : Int)) = d.cntE := by simp [g]
    have e2 : ∀ x : Dk, (if d.upE 0 ≠ 0 then d else x) = x := fun x => by simp [g]
    rw [e1, e2, g]
    refine go_on ?_
    refine f_call F rfl rfl (counts_c (d := d)) ?_
    clear F; rintro r O w T Φ ⟨rfl, rfl, rfl⟩ F0
    refine tidy F0 (fun F => ?_); clear F0
    refine go_on ?_
    unfold Dk.cntE
    by_cases gl : d.left = 0
    · rw [if_pos gl, if_pos gl]
      refine go_on ?_
      refine go_back ?_
      exact F.fin ⟨_, rfl, rfl, rfl⟩
    · rw [if_neg gl, if_neg gl]
      obtain ⟨hok, F⟩ := F.unif
      have F := F.open
      have F := F.open (s := Thing.map m .i64 (mapV d.cnt.l))
      have ew : d.cnt.waits = d.waits := by unfold Dk.cnt; rw [if_neg gl]; split <;> rfl
      have el : d.cnt.l = d.l := by unfold Dk.cnt; rw [if_neg gl]; split <;> rfl
      rw [ew, el] at F
      obtain ⟨va, vc, rfl, _⟩ := (F.bufAt (v := v)).form
      refine go_on ?_
      refine g_loop (X := Nat × List (Int × List UInt8)) (fun y => [(0, dptr p), (20, .slice va d.waits.length vc), (21, .int .i64 d.waits.length), (22, .int .i64 y.1)])
        (fun y wr => ∃ O, Fr ([Dn p m (.slice va d.waits.length vc) d].flatMap (·.bs)) O0 w0 O wr [(1, Thing.map m .i64 (mapV y.2)), (1, Thing.buf 129 (.slice va d.waits.length vc) d.waits.length (wts d.waits)), (1, Thing.cells p [.int .i64 d.cnt.n, .map (some m), .slice va d.waits.length vc, .int .i64 d.cnt.left, .bool d.cnt.down])] [] ∧ y.1 ≤ d.waits.length ∧ sure y.2 (d.waits.drop y.1) = sure d.l d.waits) (fun y => d.waits.length - y.1)
        (0, d.l) (sub_cons rfl rfl (sub_cons rfl rfl (sub_cons rfl rfl (sub_cons rfl rfl (sub_nil))))) ⟨_, F.wk, Nat.zero_le _, rfl⟩ ?_
      clear F
      rintro ⟨j, l⟩ w ⟨O, F, hj, hg⟩
      dsimp only at F hj hg ⊢
      refine go_on ?_
      refine g_dec rfl (fun g2 => ?_) (fun g2 => ?_)
      · have hj' : j < d.waits.length := by omega
        obtain ⟨qb, rfl, hrow⟩ := F.bufRow (rows := d.waits.map wtRow) (i := j) (m := d.waits.length) (sz := 129) (wtRow_len (by rw [← ew]; exact hok.2.2.1)) (by simpa using hj') (by omega)
        rw [wts_row] at hrow
        have hx128 : (d.waits[j]).2.length = 128 := by
          have := hok.2.2.1
          rw [ew] at this
          exact this _ (List.getElem_mem hj')
        rw [List.drop_eq_getElem_cons hj'] at hg
        generalize d.waits[j] = x at hrow hx128 hg
        have hg : sure (updI l x.1 x.2) (d.waits.drop (j + 1)) = sure d.l d.waits := hg
        refine go_on ?_
        refine r_y (hrow rfl) rfl ?_
        refine f_decl F rfl (vs := wtRow x) rfl (by simp [wtRow, bytesV, hx128]) (one_wt x) ⟨_, rfl, rfl⟩ (fun q9 w F => ?_)
        refine go_on ?_
        refine f_draw [(1, Thing.cells p _), (2, Thing.cells q9 _)] F [] [(0, true), (1, true), (2, true), (3, true), (4, true), (5, true), (6, true), (7, true), (8, false)] (by kernel_rfl) (by kernel_rfl) (fun w F hS => ?_); refine go_look ?_
        refine rd_open rfl ?_; (first | refine ro_n ?_ | refine ro_g rfl rfl ?_); refine rx_y rfl (fun _ hw => y_loadTailS (pre := [.int .i64 x.1]) (vs := bytesV x.2) rfl hw (Sel.there Sel.here) (by simp [bytesV, hx128])) (by assumption) ?_; refine go_look ?_
        refine rd_do rfl ?_; (try refine r_go rfl rfl ?_)
        refine f_mapUpdate F rfl rfl rfl rfl (fun w F => ?_)
        have eu : updI (mapV l) x.1 (.agg (bytesV x.2).toArray) = mapV (updI l x.1 x.2) := upd_map l x.1 x.2
        rw [eu] at F
        (try refine r_nil ?_); refine e_afterF F (fun hS => ?_); refine go_look ?_
        refine rd_done ?_; refine go_on ?_
        exact e_round (j + 1, updI l x.1 x.2) (sub_cons rfl rfl (sub_cons rfl rfl (sub_cons rfl rfl (sub_cons rfl rfl (sub_nil))))) ⟨_, F.wk, by simp only; omega, hg⟩ (by simp only; omega)
      · have hj' : j = d.waits.length := by omega
        subst hj'
        rw [List.drop_length] at hg
        have hg : l = sure d.l d.waits := hg
        subst hg
        (refine go_on ?_; repeat (first | (refine f_store1 F rfl rfl rfl (fun w F => ?_); refine go_on ?_) | (refine f_storeAll F rfl rfl rfl (fun w F => ?_); refine go_on ?_) | (refine f_box1 F rfl rfl (fun q w F => ?_); refine go_on ?_) | (refine f_boxN F rfl rfl (fun q w F => ?_); refine go_on ?_) | (refine f_alloc1 F rfl (fun q w F => ?_); refine go_on ?_) | (refine f_allocN F rfl (fun q w F => ?_); refine go_on ?_) | (refine f_call F rfl rfl up_c ?_; clear F; rintro r O w T Φ ⟨rfl, rfl, rfl⟩ F0; refine tidy F0 (fun F => ?_); clear F0; refine go_on ?_) | (refine f_call F rfl rfl counts_c ?_; clear F; rintro r O w T Φ ⟨rfl, rfl, rfl⟩ F0; refine tidy F0 (fun F => ?_); clear F0; refine go_on ?_)))
        have F := (F.nilbuf 129).demote
        have F := F.close2 (s := Thing.map m .i64 _) (t := Thing.buf 129 (.slice none 0 0) 0 [])
        have hok2 : Dk.ok { d.cnt with l := sure d.l d.waits, waits := [] } := by
          obtain ⟨k1, k2, k3, k4, k5⟩ := hok
          rw [ew] at k3
          rw [el] at k2
          exact ⟨k1, sure_len _ _ k2 k3, by simp, k4, k5⟩
        have F := (F.close2 (s := Thing.cells p _)).mkif hok2
        refine go_back ?_
        exact F.fin ⟨_, rfl, rfl, rfl⟩
  · have e1 : (if d.upE 0 ≠ 0 then (d.upE 0 : Int) else (d.cntE : Int)) = d.upE 0 := by simp [g]
    have e2 : ∀ x : Dk, (if d.upE 0 ≠ 0 then d else x) = d := fun x => by simp [g]
    rw [e1, e2]
    refine go_on ?_
    refine go_back ?_
    exact F.fin ⟨_, rfl, rfl, rfl⟩
end Go.Proofs.Ytmohjmfcbhpldaa
