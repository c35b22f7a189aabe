/- A set of numbers, and its numbers in order. -/
import Derived.Test.YtmohjmfcbhpldaaDisk
import Derived.Test.YtmohjmfcbhpldaaGkScope
import Derived.Shelf.SlIterI.Nil
import Derived.Shelf.SortM.Plain
import Derived.Shelf.SortM.SortNone
namespace Go.Proofs.Ytmohjmfcbhpldaa
open Gk Go
set_option linter.unusedVariables false
set_option maxHeartbeats 4000000
set_option maxRecDepth 4000
set_option linter.unusedSimpArgs false
attribute [local irreducible] Int.decLt Int.decLe Int.decEq Int.instDecidableEq Gk.Rnds Gk.E Gk.G Gk.R Gk.RD Gk.RX Gk.RO Gk.Y Gk.Ent Gk.Sat Gk.Round Gk.After Gk.Cell Gk.Sl Gk.SlA Gk.CB Gk.OK Gk.FnC Gk.Bytes Gk.BytesL Gk.StrL Gk.Buf Gk.MapI
open Go.Shelf Go.RowKit Go.Maps Go.Sort
def keysA_ren : Go.Shelf.Ren := ⟨fun | 7 => 29 | 10 => 42 | n => n, fun | 23 => 65 | 26 => 3 | 3 => 4 | 28 => 71 | 0 => 0 | 27 => 70 | 33 => 89 | 4 => 4 | n => n, fun | n => n⟩
theorem keysA : Go.Proofs.SlLaysZI.n7 Try.prog keysA_ren := {
  mixed := by kernel_rfl
  f7 := ⟨Try.f29.name, by decide, Try.func29.trans (congrArg some (by kernel_rfl))⟩
  f10 := ⟨Try.f42.name, by decide, Try.func42.trans (congrArg some (by kernel_rfl))⟩
  t0 := Try.underlying0
  a0 := Try.isAgg0
  z0 := Try.sizeOf0
  v0 := Try.zeroValue0
  t4 := Try.underlying4
  a4 := Try.isAgg4
  z4 := Try.sizeOf4
  v4 := Try.zeroValue4
  t23 := Try.underlying65
  a23 := Try.isAgg65
  z23 := Try.sizeOf65
  v23 := Try.zeroValue65
  t26 := Try.underlying3
  a26 := Try.isAgg3
  z26 := Try.sizeOf3
  v26 := Try.zeroValue3
  t27 := Try.underlying70
  a27 := Try.isAgg70
  z27 := Try.sizeOf70
  v27 := Try.zeroValue70
  t28 := Try.underlying71
  a28 := Try.isAgg71
  z28 := Try.sizeOf71
  v28 := Try.zeroValue71
  t33 := Try.underlying89
  a33 := Try.isAgg89
  z33 := Try.sizeOf89
  v33 := Try.zeroValue89 }
def sortedA_ren : Go.Shelf.Ren := ⟨fun | 6 => 28 | 8 => 40 | 9 => 41 | 11 => 53 | 13 => 55 | 12 => 54 | 23 => 69 | 24 => 70 | 14 => 60 | 15 => 61 | 16 => 62 | 17 => 63 | 18 => 64 | 19 => 65 | 20 => 66 | 21 => 67 | 22 => 68 | 25 => 72 | 26 => 73 | 27 => 74 | 28 => 75 | 29 => 76 | 30 => 77 | 31 => 79 | n => n, fun | 26 => 3 | 28 => 71 | 24 => 40 | 0 => 0 | 3 => 3 | 37 => 99 | 48 => 60 | 50 => 31 | 4 => 4 | 40 => 106 | 39 => 105 | 45 => 110 | 5 => 5 | 9 => 9 | 51 => 115 | 55 => 118 | 57 => 121 | 58 => 122 | 33 => 89 | n => n, fun | n => n⟩
theorem sortedA : Go.Proofs.SlLaysZI.n6 Try.prog sortedA_ren := {
  mixed := by kernel_rfl
  f6 := ⟨Try.f28.name, by decide, Try.func28.trans (congrArg some (by kernel_rfl))⟩
  f8 := ⟨Try.f40.name, by decide, Try.func40.trans (congrArg some (by kernel_rfl))⟩
  f11 := ⟨Try.f53.name, by decide, Try.func53.trans (congrArg some (by kernel_rfl))⟩
  t0 := Try.underlying0
  a0 := Try.isAgg0
  z0 := Try.sizeOf0
  v0 := Try.zeroValue0
  t24 := Try.underlying40
  a24 := Try.isAgg40
  z24 := Try.sizeOf40
  v24 := Try.zeroValue40
  t26 := Try.underlying3
  a26 := Try.isAgg3
  z26 := Try.sizeOf3
  v26 := Try.zeroValue3
  t28 := Try.underlying71
  a28 := Try.isAgg71
  z28 := Try.sizeOf71
  v28 := Try.zeroValue71
  i26 := by kernel_rfl }
def sortA_ren : Go.Shelf.Ren := ⟨fun | 5 => 41 | 8 => 55 | 7 => 54 | 19 => 69 | 20 => 70 | 10 => 60 | 11 => 61 | 12 => 62 | 13 => 63 | 14 => 64 | 15 => 65 | 16 => 66 | 17 => 67 | 18 => 68 | 30 => 72 | 31 => 73 | 32 => 74 | 33 => 75 | 34 => 76 | 35 => 77 | 40 => 79 | n => n, fun | 23 => 40 | 25 => 3 | 3 => 3 | 32 => 99 | 22 => 40 | 0 => 0 | 44 => 60 | 46 => 31 | 4 => 4 | 36 => 106 | 35 => 105 | 41 => 110 | 5 => 5 | 9 => 9 | 53 => 115 | 57 => 118 | 63 => 121 | 64 => 122 | n => n, fun | n => n⟩
theorem sortA : Go.Proofs.SlLaysM.n5 Try.prog sortA_ren := {
  mixed := by kernel_rfl
  f5 := ⟨Try.f41.name, by decide, Try.func41.trans (congrArg some (by kernel_rfl))⟩
  f7 := ⟨Try.f54.name, by decide, Try.func54.trans (congrArg some (by kernel_rfl))⟩
  f8 := Try.func55.trans (congrArg some (by kernel_rfl))
  f10 := ⟨Try.f60.name, by decide, Try.func60.trans (congrArg some (by kernel_rfl))⟩
  f11 := ⟨Try.f61.name, by decide, Try.func61.trans (congrArg some (by kernel_rfl))⟩
  f12 := ⟨Try.f62.name, by decide, Try.func62.trans (congrArg some (by kernel_rfl))⟩
  f13 := ⟨Try.f63.name, by decide, Try.func63.trans (congrArg some (by kernel_rfl))⟩
  f14 := ⟨Try.f64.name, by decide, Try.func64.trans (congrArg some (by kernel_rfl))⟩
  f15 := ⟨Try.f65.name, by decide, Try.func65.trans (congrArg some (by kernel_rfl))⟩
  f16 := ⟨Try.f66.name, by decide, Try.func66.trans (congrArg some (by kernel_rfl))⟩
  f17 := ⟨Try.f67.name, by decide, Try.func67.trans (congrArg some (by kernel_rfl))⟩
  f18 := ⟨Try.f68.name, by decide, Try.func68.trans (congrArg some (by kernel_rfl))⟩
  f19 := Try.func69.trans (congrArg some (by kernel_rfl))
  f20 := Try.func70.trans (congrArg some (by kernel_rfl))
  f30 := ⟨Try.f72.name, by decide, Try.func72.trans (congrArg some (by kernel_rfl))⟩
  f31 := Try.func73.trans (congrArg some (by kernel_rfl))
  f32 := Try.func74.trans (congrArg some (by kernel_rfl))
  f33 := ⟨Try.f75.name, by decide, Try.func75.trans (congrArg some (by kernel_rfl))⟩
  f34 := ⟨Try.f76.name, by decide, Try.func76.trans (congrArg some (by kernel_rfl))⟩
  f35 := ⟨Try.f77.name, by decide, Try.func77.trans (congrArg some (by kernel_rfl))⟩
  f40 := ⟨Try.f79.name, by decide, Try.func79.trans (congrArg some (by kernel_rfl))⟩
  t0 := Try.underlying0
  a0 := Try.isAgg0
  z0 := Try.sizeOf0
  v0 := Try.zeroValue0
  t3 := Try.underlying3
  a3 := Try.isAgg3
  z3 := Try.sizeOf3
  v3 := Try.zeroValue3
  t4 := Try.underlying4
  a4 := Try.isAgg4
  z4 := Try.sizeOf4
  v4 := Try.zeroValue4
  t5 := Try.underlying5
  a5 := Try.isAgg5
  z5 := Try.sizeOf5
  v5 := Try.zeroValue5
  t9 := Try.underlying9
  a9 := Try.isAgg9
  z9 := Try.sizeOf9
  v9 := Try.zeroValue9
  t22 := Try.underlying40
  a22 := Try.isAgg40
  z22 := Try.sizeOf40
  v22 := Try.zeroValue40
  t23 := Try.underlying40
  a23 := Try.isAgg40
  z23 := Try.sizeOf40
  v23 := Try.zeroValue40
  t25 := Try.underlying3
  a25 := Try.isAgg3
  z25 := Try.sizeOf3
  v25 := Try.zeroValue3
  t32 := Try.underlying99
  a32 := Try.isAgg99
  z32 := Try.sizeOf99
  v32 := Try.zeroValue99
  t35 := Try.underlying105
  a35 := Try.isAgg105
  z35 := Try.sizeOf105
  v35 := Try.zeroValue105
  t36 := Try.underlying106
  a36 := Try.isAgg106
  z36 := Try.sizeOf106
  v36 := Try.zeroValue106
  t41 := Try.underlying110
  a41 := Try.isAgg110
  z41 := Try.sizeOf110
  v41 := Try.zeroValue110
  t44 := Try.underlying60
  a44 := Try.isAgg60
  z44 := Try.sizeOf60
  v44 := Try.zeroValue60
  t46 := Try.underlying31
  a46 := Try.isAgg31
  z46 := Try.sizeOf31
  v46 := Try.zeroValue31
  t53 := Try.underlying115
  a53 := Try.isAgg115
  z53 := Try.sizeOf115
  v53 := Try.zeroValue115
  t57 := Try.underlying118
  a57 := Try.isAgg118
  z57 := Try.sizeOf118
  v57 := Try.zeroValue118
  t63 := Try.underlying121
  a63 := Try.isAgg121
  z63 := Try.sizeOf121
  v63 := Try.zeroValue121
  t64 := Try.underlying122
  a64 := Try.isAgg122
  z64 := Try.sizeOf122
  v64 := Try.zeroValue122 }

theorem mem_insert {H : Type} (x p : Lit × DataW H) : ∀ l : List (Lit × DataW H), p ∈ DataW.insert x l ↔ p = x ∨ p ∈ l
  | [] => by simp [DataW.insert]
  | y :: r => by
    unfold DataW.insert
    split
    · simp
    · simp only [List.mem_cons, mem_insert x p r]
      constructor
      · rintro (h | h | h)
        · exact .inr (.inl h)
        · exact .inl h
        · exact .inr (.inr h)
      · rintro (h | h | h)
        · exact .inr (.inl h)
        · exact .inl h
        · exact .inr (.inr h)
theorem intKeys_put {H : Type} {D : DataW H} (hD : ∃ es, D = .map es) (x y : Int) (d : DataW H) : y ∈ intKeys (D.put (.int .i64 x) d) ↔ y = x ∨ y ∈ intKeys D := by
  obtain ⟨es, rfl⟩ := hD
  show y ∈ (DataW.insert (Lit.int .i64 x, d) (es.filter fun p => !p.1.sameKey (.int .i64 x))).map (fun p => Go.intOf p.1) ↔ y = x ∨ y ∈ es.map (fun p => Go.intOf p.1)
  simp only [List.mem_map, mem_insert]
  constructor
  · rintro ⟨p, rfl | hp, rfl⟩
    · exact .inl rfl
    · exact .inr ⟨p, (List.mem_filter.1 hp).1, rfl⟩
  · rintro (rfl | ⟨p, hp, rfl⟩)
    · exact ⟨_, .inl rfl, rfl⟩
    · by_cases h : p.1.sameKey (.int .i64 x) = true
      · refine ⟨_, .inl rfl, ?_⟩
        rw [WideAt.sameKey_eq h]
      · exact ⟨p, .inr (List.mem_filter.2 ⟨hp, by simp [h]⟩), rfl⟩

def ToldI (w : World) (m : Nat) (ks : List Int) : Prop := ∃ n D, w.ownsMap Try.prog 3 (plainElem Try.prog 4 : Value → Option (DataW Unit × List MemPlace)) m n D ∧ n ≤ ks.length ∧ ∀ x, x ∈ intKeys D ↔ x ∈ ks
def Thing.told (m : Nat) (ks : List Int) : Thing := ⟨[m], fun _ w => ToldI w m ks, fun s hn ⟨n, D, ⟨es, clock, hb, F, hs, hD⟩, h2, h3⟩ => ⟨n, D, ⟨es, clock, (s.block hb (hn m (by simp))), F, hs, hD⟩, h2, h3⟩, fun _ _ h => h⟩
theorem told0_ {w : World} {m : Nat} (h : MapI w m .i64 []) : ToldI w m [] := by
  unfold MapI at h
  obtain ⟨ents, clock, h1, h2⟩ := h
  have e : ents = #[] := by
    have : ents.toList = [] := by simpa [Gk.encI] using h2
    exact Array.toList_eq_nil_iff.1 this
  subst e
  exact ⟨0, _, ⟨#[], clock, h1, ⟨by simp, ⟨by simp, by simp, by simp⟩, by simp⟩, by simp, rfl⟩, by simp, by intro x; simp [intKeys]⟩
section
variable {n : Nat} {all : Array Oper} {os : List Oper} {ρ : Env} {D : Dr} {w w0 : World} {Q : Exit → Act → World → Prop}
variable {d : Option Nat} {ty : TypeId} {pos : String} {af : Array Edge} {M O0 O : List Nat} {L L' : List KT} {Φ : List Fact}
theorem Fr.told0 {k m : Nat} (F : Fr M O0 w0 O w L Φ) (h : Sel L (k, Thing.map m .i64 []) L' := by (repeat (first | exact Sel.here | apply Sel.there))) : Fr M O0 w0 O w ((k, Thing.told m []) :: L') Φ :=
  F.as (t' := Thing.told m []) h (fun h _ => told0_ h) (fun b hb => hb)
theorem f_toldPut {x y v : Operand} {m j : Nat} {ks : List Int} {k : Int} {b : Bool} (F : Fr M O0 w0 O w L Φ) (hd : okO n d = true)
    (hx : evo ρ x = some (.map (some m))) (hy : evo ρ y = some (.int .i64 k)) (hv : evo ρ v = some (.bool b)) (hk : -9223372036854775808 ≤ k ∧ k ≤ 9223372036854775807) (hn : ks.length ≤ 1000000)
    (h : ∀ w', Fr M O0 w0 O w' ((j, Thing.told m (ks ++ [k])) :: L') Φ → R Try.prog n all os (upO ρ d undef) D w' Q)
    (hs : Sel L (j, Thing.told m ks) L' := by (repeat (first | exact Sel.here | apply Sel.there))) (hj : j = 1 ∨ j = 2 := by decide) :
    R Try.prog n all (⟨d, .mapUpdate 65 x y v, ty, pos, af, none⟩ :: os) ρ D w Q := by
  have G := F.pull hs
  have hp := (G.ow _ List.mem_cons_self m (by simp [Thing.told])).1
  obtain ⟨nn, D0, hown, h2, h3⟩ : ToldI w m ks := F.th _ hs.mem
  have K : Keyed Try.prog 3 := int_keyed (q := .i64) (by kernel_rfl : Try.prog.underlying 3 = some (.int .i64))
  have ht : Try.prog.underlying 65 = some (.map 3 4) := by kernel_rfl
  have hki : Try.prog.underlying 3 = some (.int .i64) := by kernel_rfl
  have hw : (Lit.int .i64 k).wf = true := by
    have h1 : IntKind.min .i64 ≤ k := hk.1
    have h2 : k ≤ IntKind.max .i64 := hk.2
    show (decide _ && decide _) = true
    rw [decide_eq_true h1, decide_eq_true h2]
    rfl
  have hkey : keyOf Try.prog 3 (.int .i64 k) = some (.int .i64 k) := keyOf_int_mk hki hw
  have hbo : Try.prog.underlying 4 = some .bool := by kernel_rfl
  have hvv : (plainElem Try.prog 4 : Value → Option (DataW Unit × List MemPlace)) (.bool b) = some (.lit (.bool b), []) := by
    simp only [plainElem, hbo]
  obtain ⟨w', hrun, hown', es, clock, es', clock', hb, rfl⟩ := hown.store K ht (by show nn < 9223372036854775807; omega) hkey hvv
  refine r_do (w' := ChangeMaps.setBlock w m (.map es' clock')) hd (fun a hs => by simp [execOp, eval_of hs hx, eval_of hs hy, eval_of hs hv, hrun]) ?_
  refine h _ (Fr.turn (t' := Thing.told m (ks ++ [k])) G hj (step_putO (o := .map es' clock') F.ok hp) ?_ (fun b hb => ?_))
  · refine ⟨nn + 1, _, hown', by simp; omega, fun x => ?_⟩
    rw [intKeys_put (World.ownsMap.isMap hown), h3]
    simp [or_comm]
  · exact ⟨by simp [Thing.told] at hb; subst hb; exact hp, .inl hb⟩
end
theorem keys_c {m : Nat} (h : True) : Con Try.prog 29 [.map (some m)] [] [] [] fun r T Φ => ∃ b, r = .func (.func 42) #[] #[dptr b] ∧ T = [Thing.cells b [.map (some m)]] ∧ Φ = [] := by
  refine con_of (fun O0 w0 F => ?_)
  refine tidy F (fun F => ?_)
  refine fn_of _ Try.func29 rfl (by kernel_rfl) Try.ntmps29 rfl ?_
  (refine go_on ?_; repeat (first | (refine f_store1 F rfl rfl rfl (fun w F => ?_); refine go_on ?_) | (refine f_storeAll F rfl rfl rfl (fun w F => ?_); refine go_on ?_) | (refine f_box1 F rfl rfl (fun q w F => ?_); refine go_on ?_) | (refine f_boxN F rfl rfl (fun q w F => ?_); refine go_on ?_) | (refine f_alloc1 F rfl (fun q w F => ?_); refine go_on ?_) | (refine f_allocN F rfl (fun q w F => ?_); refine go_on ?_)))
  refine go_back ?_
  exact F.fin ⟨_, rfl, rfl, rfl⟩
theorem step_below {O : List Nat} {w w' : World} (h : Below w.heap.size w w') (hO : OK O w) : Step [] O O w w' := by
  unfold OK at hO
  exact ⟨h.os, h.tape, h.output, h.size, fun k hk _ => h.block k hk, fun _ h => (by cases h), fun _ h => .inl h, fun _ h => h, fun k hk => Nat.lt_of_lt_of_le (hO k hk) h.size⟩
theorem sorts_A (m : Nat) : AnyZI.SortsIn Try.prog sortedA_ren Fence.wide m :=
  ⟨fun blk off cap ss W hH hblk hsz => callsIn_wide.2 (AnyM.slices_Sort_int sortA blk off cap ss W hH hblk hsz),
   fun p cap W => callsIn_wide.2 (AnyM.slices_Sort_int_none sortA p cap W)⟩
theorem sorted_c {m b : Nat} {ks : List Int} (h : ks.length ≤ 1000000) : Con Try.prog 28 [.func (.func 42) #[] #[dptr b]] [] [Thing.cells b [.map (some m)], Thing.told m ks] [] fun r T Φ => ∃ ss : List Int, (∀ x, x ∈ ss ↔ x ∈ ks) ∧ ss.length ≤ ks.length ∧ T = [Thing.buf 1 r ss.length (ss.map fun x => .int .i64 x)] ∧ Φ = [] := by
  intro O w hO _ hB _ _ _ hF
  have hb : CB w b [.map (some m)] := hB (Thing.cells b [.map (some m)]) (by simp)
  obtain ⟨nn, D0, hown, h2, h3⟩ : ToldI w m ks := hB (Thing.told m ks) (by simp)
  have hm : w.cell? ⟨b, 0, none⟩ = some (.map (some m)) := hb.cell? rfl
  have hsz : Maps.size D0 ≤ ks.length := Nat.le_trans hown.size_le h2
  have hbl : b < w.heap.size := by
    unfold CB at hb
    obtain ⟨T, fz, h1, _⟩ := hb
    exact (Array.getElem?_eq_some_iff.1 h1).1
  have hseq : SeqGives Fence.wide 2 Try.prog 42 #[.pointer (some ⟨b, 0, none⟩)] encZ (fun ss => ss.Perm (intKeys D0)) (Maps.size D0) w :=
    AnyZI.keys_gives (ρ := keysA_ren) { keysA with } Fence.wide _ trivial rfl (by omega) b m nn D0 w hbl hm hown
  have cS := AnyZI.sorted_in sortedA Fence.wide 5 trivial trivial trivial trivial rfl (by omega) (sorts_A _) (enters_of Try.func41 (by kernel_rfl) rfl) 42 #[.pointer (some ⟨b, 0, none⟩)] trivial (enters_of Try.func42 (by kernel_rfl) rfl) _ (Maps.size D0) (by show Maps.size D0 ≤ 9223372036854775807; omega) (by omega) w hseq
  unfold FnC Ent
  refine ⟨⟨_, Try.func28, by decide, rfl⟩, Calls.mono (callsIn_wide.1 cS) ?_⟩
  rintro e w' ⟨v, ss, rfl, hp, hrow, _, hbe⟩
  have s := step_below hbe hO
  have hlen : ss.length ≤ ks.length := by
    obtain ⟨es, rfl⟩ := World.ownsMap.isMap hown
    rw [hp.length_eq]
    have : (intKeys (DataW.map es)).length = es.length := by show (es.map _).length = _; simp
    rw [this]
    exact hsz
  have hml : (ss.mergeSort (fun x y => decide (x ≤ y))).length = ss.length := List.length_mergeSort ss
  have hbuf : Buf (fun q => w.heap.size ≤ q) w' 1 v (ss.mergeSort (fun x y => decide (x ≤ y))).length ((ss.mergeSort (fun x y => decide (x ≤ y))).map fun x => .int .i64 x) := by
    unfold Buf
    obtain ⟨g1, g2⟩ := hrow
    rw [hml]
    refine ⟨by simp [hml], ?_⟩
    rcases g2 with ⟨rfl, h0⟩ | ⟨g, cap, cur, rfl, hb1, hb2, hb3, hb4, hb5, hb6⟩
    · exact .inl ⟨rfl, h0⟩
    · refine .inr ⟨g, cap, cur.toList.drop ss.length, rfl, hb3, hb4, ?_, ?_, hb1⟩
      · rw [Nat.mul_one] at hb6
        rw [show (ss.mergeSort (fun x y => decide (x ≤ y))).map (fun x => Value.int .i64 x) = cur.toList.take ss.length from hb6.symm, List.take_append_drop]
        simpa using hb5
      · rw [Nat.mul_one] at hb6
        rw [show (ss.mergeSort (fun x y => decide (x ≤ y))).map (fun x => Value.int .i64 x) = cur.toList.take ss.length from hb6.symm, List.take_append_drop]
        unfold CB
        exact ⟨_, _, hb2, .inr rfl⟩
  obtain ⟨s2, hfr⟩ := step_blk s hbuf
  refine ⟨v, _, rfl, s2, [Thing.buf 1 v (ss.mergeSort (fun x y => decide (x ≤ y))).length ((ss.mergeSort (fun x y => decide (x ≤ y))).map fun x => .int .i64 x)], [], ⟨ss.mergeSort (fun x y => decide (x ≤ y)), fun x => ?_, by rw [hml]; exact hlen, rfl, rfl⟩, left1 (t := Thing.buf 1 v _ _) (hbuf.mono fun _ _ => trivial) fun b hm => ⟨List.mem_append_left _ hm, .inr (hfr b hm)⟩⟩
  rw [List.mem_mergeSort, hp.mem_iff, h3]
end Go.Proofs.Ytmohjmfcbhpldaa
