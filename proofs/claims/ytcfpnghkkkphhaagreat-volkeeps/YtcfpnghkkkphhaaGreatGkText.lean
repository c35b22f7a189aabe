/- Ranges over texts. Nothing here speaks of one program. -/
import Derived.Test.YtcfpnghkkkphhaaGreatGkScope
import Derived.Laws.RangeAny
import Derived.Lib.OthersKept
import Derived.Lib.Bytealg
import Derived.Laws.Runes
namespace Gk
open Go
set_option linter.unusedVariables false

/-- How far a range over a text has come. -/
def Thing.txt (k : Nat) (s : List UInt8) (pos : Nat) : Thing := ⟨[k], fun _ w => w.heap[k]? = some (.stringIter ⟨s.toArray⟩ pos), fun st hn h => st.block h (hn k (by simp)), fun _ _ h => h⟩

section
variable {P : Program} {n : Nat} {all : Array Oper} {os : List Oper} {ρ : Env} {D : Dr} {w w0 : World} {Q : Exit → Act → World → Prop} {d : Option Nat} {ty : TypeId} {pos : String} {af : Array Edge} {M O0 O : List Nat} {L L' : List KT} {Φ : List Fact}

theorem f_rangeT {T : TypeId} [hT : TString P T] {x : Operand} {s : List UInt8} (F : Fr M O0 w0 O w L Φ) (hd : okO n d = true) (hx : evo ρ x = some (str s))
    (h : ∀ k w', Fr M O0 w0 (k :: O) w' ((2, Thing.txt k s 0) :: L) Φ → R P n all os (upO ρ d (.pointer (some ⟨k, 0, none⟩))) D w' Q) : R P n all (⟨d, .range T x, ty, pos, af, none⟩ :: os) ρ D w Q :=
  r_val (w' := w.alloc (.stringIter ⟨s.toArray⟩ 0)) hd (fun a h2 => by
    have hr := run_range_string (P := P) w T ⟨s.toArray⟩ hT.at_
    have hx2 : evo ρ x = some (.string ⟨s.toArray⟩) := hx
    simp [execOp, eval_of h2 hx2, hr, World.iter]) (h _ _ (F.new (t := Thing.txt w.heap.size s 0) ((step_alloc _ F.ok).take (q := w.heap.size) (Nat.le_refl _) (by rw [World.size_alloc]; exact Nat.lt_succ_self _)) (heap_alloc_new _ _) (fun b hb => by simp [Thing.txt] at hb; subst hb; exact ⟨by simp, Nat.le_refl _⟩)))

theorem f_nextT {x : Operand} {k i j : Nat} {s : List UInt8} (F : Fr M O0 w0 O w L Φ) (hd : okO n d = true) (hx : evo ρ x = some (.pointer (some ⟨k, 0, none⟩))) (hi : i < s.length)
    (h : ∀ w', Fr M O0 w0 O w' ((j, Thing.txt k s (i + (Utf8.decode ⟨s.toArray⟩ i).2)) :: L') Φ → R P n all os (upO ρ d (.tuple #[.bool true, .int .i64 i, .int .i32 (Utf8.decode ⟨s.toArray⟩ i).1])) D w' Q)
    (hs : Sel L (j, Thing.txt k s i) L' := by (repeat (first | exact Sel.here | apply Sel.there))) (hj : j = 1 ∨ j = 2 := by decide) : R P n all (⟨d, .next x true, ty, pos, af, none⟩ :: os) ρ D w Q := by
  have hk : w.heap[k]? = some (.stringIter ⟨s.toArray⟩ i) := F.th _ hs.mem
  have G := F.pull hs
  have hkO : k ∈ O := (G.ow _ List.mem_cons_self k (by simp [Thing.txt])).1
  have hsz : i < (⟨s.toArray⟩ : ByteArray).size := by show i < s.toArray.size; simpa using hi
  refine r_val (w' := w.putObj k (.stringIter ⟨s.toArray⟩ (i + (Utf8.decode ⟨s.toArray⟩ i).2))) hd (fun a h2 => ?_) (h _ (Fr.turn (t' := Thing.txt k s (i + (Utf8.decode ⟨s.toArray⟩ i).2)) G hj (step_putObj _ F.ok hkO) (World.putObj_heap_same (F.ok k hkO)) (fun b hb => ?_)))
  · have hr := Go.Lib.run_next_any_at (P := P) w k ⟨s.toArray⟩ i ty hk hsz
    have e : w.iterAt k ⟨s.toArray⟩ (i + (Utf8.decode ⟨s.toArray⟩ i).2) = w.putObj k (.stringIter ⟨s.toArray⟩ (i + (Utf8.decode ⟨s.toArray⟩ i).2)) := rfl
    rw [e] at hr
    simp [execOp, eval_of h2 hx, hr]
  · simp [Thing.txt] at hb
    subst hb
    exact ⟨hkO, .inl (by simp [Thing.txt])⟩

theorem f_endT {x : Operand} {k i j : Nat} {s : List UInt8} (F : Fr M O0 w0 O w L Φ) (hd : okO n d = true) (hx : evo ρ x = some (.pointer (some ⟨k, 0, none⟩))) (hi : s.length ≤ i)
    (h : R P n all os (upO ρ d (.tuple #[.bool false])) D w Q)
    (hs : Sel L (j, Thing.txt k s i) L' := by (repeat (first | exact Sel.here | apply Sel.there))) : R P n all (⟨d, .next x true, ty, pos, af, none⟩ :: os) ρ D w Q := by
  have hk : w.heap[k]? = some (.stringIter ⟨s.toArray⟩ i) := F.th _ hs.mem
  have hsz : ¬ i < (⟨s.toArray⟩ : ByteArray).size := by show ¬ i < s.toArray.size; simpa using hi
  refine r_val (w' := w) hd (fun a h2 => ?_) h
  have hr := Go.Lib.run_next_end_at (P := P) w k ⟨s.toArray⟩ i ty hk hsz
  simp [execOp, eval_of h2 hx, hr]

/-- The body-less IndexByteString. -/
theorem r_indexByte {f : FuncId} {fn : Func} {x y : Operand} {s : List UInt8} {c : Int} {ats : Array TypeId} (hf : P.funcs[f]? = some fn) (hname : (fn.name == "runtime.NumGoroutine") = false) (hb : fn.body.isNone = true) (hn : Extern.findNext fn = none) (he : Extern.find fn = some Extern.BytealgIndexByte.indexByte)
    (hd : okO n d = true) (hx : evs ρ [x, y] = some [str s, .int .u8 c]) (h : R P n all os (upO ρ d (.int .i64 (Lib.indexByte s c.toNat.toUInt8))) D w Q) :
    R P n all (⟨d, .call ⟨.value (.func f), #[x, y], ats⟩, ty, pos, af, none⟩ :: os) ρ D w Q := by
  have hr := Lib.run_indexByteString (P := P) ⟨s.toArray⟩ c w
  have hc : (callFunc f #[str s, .int .u8 c]).run P w = .ok (.value (.int .i64 (Lib.indexByte s c.toNat.toUInt8))) w := by
    rw [run_callFunc_extern hf hname hb hn he]
    show ((Extern.BytealgIndexByte.indexByte #[.string ⟨s.toArray⟩, .int .u8 c]).run P w).andThen _ = _
    rw [hr]
    rfl
  refine r_val hd (fun a hs => ?_) h
  have e1 := evals_of hs hx
  simp only [List.map_cons, List.map_nil, List.cons.injEq, and_true] at e1
  have e2 : a.eval (.func f) = .func (.func f) #[] #[] := rfl
  simp [execOp, resolve, invoke, Deferred.ofValue, e1, e2, hc]

/-- A rune's bytes. -/
theorem y_runeStr {S T : TypeId} {k : IntKind} [hS : TInt P S k] [hT : TString P T] {x : Operand} {c : Int} (hx : evo ρ x = some (.int k c)) : Y P ρ w (.convert S T x) (str (Utf8.encode c).data.toList) := by
  intro a hs d ty pos af
  have hr := run_convert_int_string (P := P) w S T k c (by rw [hS.at_]; rfl) hT.at_
  have e : str (Utf8.encode c).data.toList = .string (Utf8.encode c) := rfl
  rw [e]
  simp [execOp, eval_of hs hx, hr]
end
end Gk
