/- A frame is put into a sector, and got. -/
import Derived.Test.YtmohjmfcbhpldaaSector
import Derived.Test.YtmohjmfcbhpldaaGkMore
namespace Go.Proofs.Ytmohjmfcbhpldaa
open Gk Go
set_option linter.unusedVariables false
set_option maxHeartbeats 4000000
set_option maxRecDepth 4000
set_option linter.unusedSimpArgs false
attribute [local irreducible] Int.decLt Int.decLe Int.decEq Int.instDecidableEq Gk.Rnds Gk.E Gk.G Gk.R Gk.RD Gk.RX Gk.RO Gk.Y Gk.Ent Gk.Sat Gk.Round Gk.After Gk.Cell Gk.Sl Gk.SlA Gk.CB Gk.OK Gk.FnC Gk.Bytes Gk.BytesL Gk.StrL Gk.Buf Gk.MapI
structure Fm where
  kind : Nat
  index : Nat
  count : Nat
  seq : Nat
  adr : Nat
  body : List UInt8
def fmV (f : Fm) (bv : Value) : Value := .agg #[.int .i64 f.kind, .int .i64 f.index, .int .i64 f.count, .int .u64 f.seq, .int .u32 f.adr, bv]
def Fm.zero : Fm := ⟨0, 0, 0, 0, 0, []⟩
def Fm.may (f : Fm) : Prop := 1 ≤ f.kind ∧ f.kind ≤ 4 ∧ f.index ≤ 255 ∧ f.count ≤ 255 ∧ f.body.length ≤ 108
instance Fm.mayDec (f : Fm) : Decidable f.may := by unfold Fm.may; infer_instance
def Fm.fit (f : Fm) : Prop := f.seq < 18446744073709551616 ∧ f.adr < 4294967296 ∧ f.kind ≤ 1000000 ∧ f.index ≤ 1000000 ∧ f.count ≤ 1000000 ∧ f.body.length ≤ 1000000
def Fm.h4 (f : Fm) : List UInt8 := [UInt8.ofNat f.kind, UInt8.ofNat f.index, UInt8.ofNat f.count, UInt8.ofNat f.body.length]
def Fm.h12 (f : Fm) : List UInt8 := f.h4 ++ be 8 f.seq
def Fm.head (f : Fm) : List UInt8 := f.h12 ++ be 4 f.adr
def Fm.sum (f : Fm) : List UInt8 := f.head ++ f.body ++ List.replicate (108 - f.body.length) 0
def Fm.bytes (f : Fm) : List UInt8 := sealB f.sum
def Fm.out (f : Fm) : List UInt8 := if f.may then f.bytes else []

theorem set_bytesV (zs : List UInt8) (i : Nat) (c : UInt8) : (bytesV zs).set i (byteV c) = bytesV (zs.set i c) := by
  unfold bytesV
  rw [List.map_set]
theorem rep_bytesV (n : Nat) : List.replicate n (Value.int .u8 0) = bytesV (List.replicate n 0) := by
  unfold bytesV
  rw [List.map_replicate]; rfl
theorem layC_bytes (zs b : List UInt8) (off : Nat) : layC (bytesV zs) off b b.length = bytesV (zs.take off ++ b ++ zs.drop (off + b.length)) := by
  unfold layC bytesV
  simp

theorem cut_in {xs ys : List UInt8} {n m : Nat} (h : xs.length = n) (hm : ys.length ≤ m) : (xs ++ List.replicate m (0 : UInt8)).take n ++ ys ++ (xs ++ List.replicate m 0).drop (n + ys.length) = xs ++ ys ++ List.replicate (m - ys.length) 0 := by
  subst h
  rw [List.take_left, List.drop_append, List.drop_eq_nil_of_le (by omega)]
  simp
theorem lay_in {hd b : List UInt8} {n m k : Nat} (h1 : hd.length = n) (h2 : b.length = k) (h3 : k ≤ m) : layC (bytesV (hd ++ List.replicate m 0)) n b k = bytesV (hd ++ b ++ List.replicate (m - k) 0) := by
  subst h2
  rw [layC_bytes, cut_in h1 h3]
theorem copy_in {hd b : List UInt8} {n m : Nat} (h1 : hd.length = n) (h3 : b.length ≤ m) : (bytesV (hd ++ List.replicate m 0)).take n ++ bytesV b ++ (bytesV (hd ++ List.replicate m 0)).drop (n + b.length) = bytesV (hd ++ b ++ List.replicate (m - b.length) 0) := by
  rw [← cut_in h1 h3]
  simp [bytesV]
theorem h4_len (f : Fm) : f.h4.length = 4 := rfl
theorem h12_len (f : Fm) : f.h12.length = 12 := by simp [Fm.h12, h4_len]
theorem head_len (f : Fm) : f.head.length = 16 := by simp [Fm.head, h12_len]
theorem sum_1 (f : Fm) : ((((List.replicate 124 (0 : UInt8)).set 0 (UInt8.ofNat f.kind)).set 1 (UInt8.ofNat f.index)).set 2 (UInt8.ofNat f.count)).set 3 (UInt8.ofNat f.body.length) = f.h4 ++ List.replicate 120 0 := rfl
theorem sum_2 (f : Fm) : layC (bytesV (f.h4 ++ List.replicate 120 0)) 4 (be 8 f.seq) 8 = bytesV (f.h12 ++ List.replicate 112 0) := lay_in (h4_len f) (be_length 8 f.seq) (by decide)
theorem sum_3 (f : Fm) : layC (bytesV (f.h12 ++ List.replicate 112 0)) 12 (be 4 f.adr) 4 = bytesV (f.head ++ List.replicate 108 0) := lay_in (h12_len f) (be_length 4 f.adr) (by decide)
theorem sum_4 (f : Fm) (h : f.body.length ≤ 108) : (bytesV (f.head ++ List.replicate 108 0)).take 16 ++ bytesV f.body ++ (bytesV (f.head ++ List.replicate 108 0)).drop (16 + f.body.length) = bytesV f.sum := copy_in (head_len f) h
theorem sum_len (f : Fm) (h : f.body.length ≤ 108) : f.sum.length = 124 := by simp [Fm.sum, head_len]; omega

theorem sput_c {f : Fm} {bv : Value} (h : f.fit) : Con Try.prog 47 [fmV f bv] [] [] [Fact.bytes bv f.body] fun r T Φ => ∃ u, r = .tuple #[u, .int .i64 (if f.may then 0 else 1)] ∧ T = [Thing.buf 1 u f.out.length (bytesV f.out)] ∧ Φ = [] := by
  obtain ⟨h1, h2, h3, h4, h5, h6⟩ := h
  refine con_of (fun O0 w0 F => ?_)
  refine tidy F (fun F => ?_)
  refine fn_of _ Try.func47 rfl (by kernel_rfl) Try.ntmps47 rfl ?_
  obtain ⟨ba, bc, rfl, _⟩ := (F.bytes (v := bv)).form
  refine go_on ?_
  (first | refine f_box1 F rfl rfl (fun q0 w F => ?_) | refine f_boxN F rfl rfl (fun q0 w F => ?_)); refine go_on ?_
  refine go_on ?_
  by_cases g1 : 1 ≤ f.kind ∧ f.kind ≤ 4
  · refine go_on ?_
    refine f_buildSlice (cs := [_, _]) F rfl rfl rfl rfl (fun q w F => ?_); refine go_on ?_
    refine f_call F rfl rfl (byteful2_c (x := f.index) (y := f.count)) ?_
    clear F; rintro r O w T Φ ⟨rfl, rfl, rfl⟩ F0
    refine tidy F0 (fun F => ?_); clear F0
    by_cases g2 : f.index ≤ 255 ∧ f.count ≤ 255
    · rw [decide_eq_true (show 0 ≤ (f.index : Int) ∧ (f.index : Int) ≤ 255 ∧ 0 ≤ (f.count : Int) ∧ (f.count : Int) ≤ 255 from ⟨by omega, by omega, by omega, by omega⟩)]
      by_cases g3 : f.body.length ≤ 108
      · have hm : f.may := ⟨g1.1, g1.2, g2.1, g2.2, g3⟩
        have ho : f.out = f.bytes := if_pos hm
        rw [if_pos hm, ho]
        refine go_on ?_
        (first | refine f_alloc1 F rfl (fun q w F => ?_) | refine f_allocN F rfl (fun q w F => ?_)); refine go_on ?_
        rw [rep_bytesV] at F
        refine f_draw [(2, Thing.cells q0 _)] F [] [(0, true), (1, true), (2, true), (3, true), (4, true), (5, true), (6, true), (7, true), (8, true), (9, true), (10, true), (11, true), (12, true), (13, true), (14, false), (15, true), (16, false), (17, true), (18, false), (19, true), (20, false)] (by kernel_rfl) (by kernel_rfl) (fun w F hS => ?_); refine go_look ?_
        refine rd_open rfl ?_; (first | refine ro_n ?_ | refine ro_g rfl rfl ?_); refine rx_y rfl (fun _ hw => y_indexArr (i := 0) rfl rfl (by decide)) (by assumption) ?_; refine go_look ?_
        refine rd_do rfl ?_; (try refine r_go rfl rfl ?_)
        refine f_store1 (i := 0) F rfl rfl rfl (fun w F => ?_) (hc := .any) (hi := by simp [bytesV])
        have e := set_bytesV (List.replicate 124 (0 : UInt8)) 0 (UInt8.ofNat f.kind)
        change Fr _ _ _ _ _ ((2, Thing.cells q ((bytesV (List.replicate 124 (0 : UInt8))).set 0 (byteV (UInt8.ofNat f.kind)))) :: _) _ at F
        rw [e] at F
        clear e
        (try refine r_nil ?_); refine e_afterF F (fun hS => ?_); refine go_look ?_
        refine rd_open rfl ?_; (first | refine ro_n ?_ | refine ro_g rfl rfl ?_); refine rx_y rfl (fun _ hw => y_indexArr (i := 1) rfl rfl (by decide)) (by assumption) ?_; refine go_look ?_
        refine rd_do rfl ?_; (try refine r_go rfl rfl ?_)
        refine f_store1 (i := 1) F rfl rfl rfl (fun w F => ?_) (hc := .any) (hi := by simp [bytesV])
        have e := set_bytesV ((List.replicate 124 (0 : UInt8)).set 0 (UInt8.ofNat f.kind)) 1 (UInt8.ofNat f.index)
        change Fr _ _ _ _ _ ((2, Thing.cells q ((bytesV ((List.replicate 124 (0 : UInt8)).set 0 (UInt8.ofNat f.kind))).set 1 (byteV (UInt8.ofNat f.index)))) :: _) _ at F
        rw [e] at F
        clear e
        (try refine r_nil ?_); refine e_afterF F (fun hS => ?_); refine go_look ?_
        refine rd_open rfl ?_; (first | refine ro_n ?_ | refine ro_g rfl rfl ?_); refine rx_y rfl (fun _ hw => y_indexArr (i := 2) rfl rfl (by decide)) (by assumption) ?_; refine go_look ?_
        refine rd_do rfl ?_; (try refine r_go rfl rfl ?_)
        refine f_store1 (i := 2) F rfl rfl rfl (fun w F => ?_) (hc := .any) (hi := by simp [bytesV])
        have e := set_bytesV (((List.replicate 124 (0 : UInt8)).set 0 (UInt8.ofNat f.kind)).set 1 (UInt8.ofNat f.index)) 2 (UInt8.ofNat f.count)
        change Fr _ _ _ _ _ ((2, Thing.cells q ((bytesV (((List.replicate 124 (0 : UInt8)).set 0 (UInt8.ofNat f.kind)).set 1 (UInt8.ofNat f.index))).set 2 (byteV (UInt8.ofNat f.count)))) :: _) _ at F
        rw [e] at F
        clear e
        (try refine r_nil ?_); refine e_afterF F (fun hS => ?_); refine go_look ?_
        refine rd_open rfl ?_; (first | refine ro_n ?_ | refine ro_g rfl rfl ?_); refine rx_y rfl (fun _ hw => y_indexArr (i := 3) rfl rfl (by decide)) (by assumption) ?_; refine go_look ?_
        refine rd_do rfl ?_; (try refine r_go rfl rfl ?_)
        refine f_store1 (i := 3) F rfl rfl rfl (fun w F => ?_) (hc := .any) (hi := by simp [bytesV])
        have e := set_bytesV ((((List.replicate 124 (0 : UInt8)).set 0 (UInt8.ofNat f.kind)).set 1 (UInt8.ofNat f.index)).set 2 (UInt8.ofNat f.count)) 3 (UInt8.ofNat f.body.length)
        change Fr _ _ _ _ _ ((2, Thing.cells q ((bytesV ((((List.replicate 124 (0 : UInt8)).set 0 (UInt8.ofNat f.kind)).set 1 (UInt8.ofNat f.index)).set 2 (UInt8.ofNat f.count))).set 3 (byteV (UInt8.ofNat f.body.length)))) :: _) _ at F
        rw [e] at F
        clear e
        (try refine r_nil ?_); refine e_afterF F (fun hS => ?_); refine go_look ?_
        refine rd_done ?_; refine go_on ?_
        rw [sum_1] at F
        refine f_draw [(2, Thing.cells q0 _)] F [] [(0, true), (1, true), (2, true), (3, false)] (by kernel_rfl) (by kernel_rfl) (fun w F hS => ?_); refine go_look ?_
        refine rd_open rfl ?_; (first | refine ro_n ?_ | refine ro_g rfl rfl ?_); refine rx_y rfl (fun _ hw => y_arrPart 4 12 rfl rfl rfl (by decide)) (by assumption) ?_; refine go_look ?_
        refine rd_do rfl ?_
        (try refine r_go rfl rfl ?_)
        refine f_call F rfl rfl (lay_c (off := 4) (k := 8) (x := f.seq)) ?_ (hp := ⟨by simp [bytesV, h4_len], by decide, h1, by simp [bytesV, h4_len]⟩)
        clear F; rintro r O w T Φ ⟨rfl, rfl⟩ F0
        refine tidy F0 (fun F => ?_); clear F0
        refine r_nil ?_; refine e_afterF F (fun hS => ?_); refine go_look ?_
        refine rd_done ?_; refine go_on ?_
        rw [sum_2] at F
        refine f_draw [(2, Thing.cells q0 _)] F [] [(0, true), (1, true), (2, true), (3, true), (4, false)] (by kernel_rfl) (by kernel_rfl) (fun w F hS => ?_); refine go_look ?_
        refine rd_open rfl ?_; (first | refine ro_n ?_ | refine ro_g rfl rfl ?_); refine rx_y rfl (fun _ hw => y_arrPart 12 16 rfl rfl rfl (by decide)) (by assumption) ?_; refine go_look ?_
        refine rd_do rfl ?_
        (try refine r_go rfl rfl ?_)
        refine f_call F rfl rfl (lay_c (off := 12) (k := 4) (x := f.adr)) ?_ (hp := ⟨by simp [bytesV, h12_len], by decide, by omega, by simp [bytesV, h12_len]⟩)
        clear F; rintro r O w T Φ ⟨rfl, rfl⟩ F0
        refine tidy F0 (fun F => ?_); clear F0
        refine r_nil ?_; refine e_afterF F (fun hS => ?_); refine go_look ?_
        refine rd_done ?_; refine go_on ?_
        rw [sum_3] at F
        refine f_draw [(2, Thing.cells q0 _)] F [] [(0, true), (1, true), (2, true), (3, false)] (by kernel_rfl) (by kernel_rfl) (fun w F hS => ?_); refine go_look ?_
        refine rd_open rfl ?_; (first | refine ro_n ?_ | refine ro_g rfl rfl ?_); refine rx_y rfl (fun _ hw => y_arrPart 16 124 rfl rfl rfl (by decide)) (by assumption) ?_; refine go_look ?_
        refine rd_do rfl ?_; (try refine r_go rfl rfl ?_)
        refine f_copy F rfl rfl rfl (F.bytes (v := .slice ba f.body.length bc) (xs := f.body)) (fun w F => ?_) (ho := by simp [bytesV, head_len]; omega)
        rw [sum_4 f g3] at F
        (try refine r_nil ?_); refine e_afterF F (fun hS => ?_); refine go_look ?_
        refine rd_done ?_; refine go_on ?_
        have hl : f.sum.length = 124 := sum_len f g3
        obtain ⟨O, F⟩ := F.frzSl (n := 124) (cap := 124) (Nat.le_refl _)
        have hsl := F.sl (v := .slice (some ⟨q, 0, none⟩) 124 124) (cs := bytesV f.sum) (m := 124)
        have F := F.factB (v := .slice (some ⟨q, 0, none⟩) 124 124) (xs := f.sum) (Sl.bytes (by rw [hl]; exact hsl))
        refine go_on ?_
        refine r_y (y_arrAll rfl) rfl ?_
        refine f_call F rfl rfl (sealed_c (b := f.sum)) ?_
        clear F; rintro r O w T Φ ⟨rfl, rfl⟩ F0
        refine tidy F0 (fun F => ?_); clear F0
        refine go_on ?_
        refine go_back ?_
        exact F.fin ⟨_, rfl, rfl, rfl⟩
      · have hm : ¬ f.may := fun h => g3 h.2.2.2.2
        have ho : f.out = [] := if_neg hm
        rw [if_neg hm, ho]
        have F := F.nilbuf 1
        refine go_on ?_
        refine go_back ?_
        exact F.fin ⟨_, rfl, rfl, rfl⟩
    · have hm : ¬ f.may := fun h => g2 ⟨h.2.2.1, h.2.2.2.1⟩
      have ho : f.out = [] := if_neg hm
      rw [decide_eq_false (show ¬ (0 ≤ (f.index : Int) ∧ (f.index : Int) ≤ 255 ∧ 0 ≤ (f.count : Int) ∧ (f.count : Int) ≤ 255) from fun h => g2 ⟨by omega, by omega⟩), if_neg hm, ho]
      have F := F.nilbuf 1
      refine go_on ?_
      refine go_back ?_
      exact F.fin ⟨_, rfl, rfl, rfl⟩
  · have hm : ¬ f.may := fun h => g1 ⟨h.1, h.2.1⟩
    have ho : f.out = [] := if_neg hm
    rw [if_neg hm, ho]
    have F := F.nilbuf 1
    by_cases g4 : f.kind < 1
    · refine go_on ?_
      refine go_back ?_
      exact F.fin ⟨_, rfl, rfl, rfl⟩
    · refine go_on ?_
      refine go_back ?_
      exact F.fin ⟨_, rfl, rfl, rfl⟩
end Go.Proofs.Ytmohjmfcbhpldaa
