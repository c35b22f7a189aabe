/- Maps whose keys are numbers of one kind. Nothing here speaks of one program. -/
import Derived.Test.YtcfpnghkkkphhaaGreatGkDraw
namespace Gk
open Go
set_option linter.unusedVariables false

/-! ### what a map holds, as a list -/

abbrev KV := List (Int × Value)

def lookI {α : Type} : List (Int × α) → Int → Option α
  | [], _ => none
  | (a, v) :: es, k => if k = a then some v else lookI es k

def updI {α : Type} : List (Int × α) → Int → α → List (Int × α)
  | [], k, v => [(k, v)]
  | (a, u) :: es, k, v => if k = a then (k, v) :: es else (a, u) :: updI es k v

theorem lookI_upd {α : Type} : ∀ (es : List (Int × α)) (k j : Int) (v : α), lookI (updI es k v) j = if j = k then some v else lookI es j
  | [], k, j, v => by simp [updI, lookI]
  | (a, u) :: es, k, j, v => by
    simp only [updI]
    by_cases h : k = a
    · subst h
      simp only [if_true, lookI]
      split <;> rfl
    · rw [if_neg h]
      simp only [lookI, lookI_upd es]
      by_cases hj : j = a
      · subst hj; simp [Ne.symm h]
      · simp [hj]

def encI (K : IntKind) (es : KV) : List (Value × Value) := es.map fun p => (.int K p.1, p.2)

/-- Block 'm' is a map that holds just these. -/
def MapI (w : World) (m : Nat) (K : IntKind) (es : KV) : Prop :=
  ∃ ents clock, w.heap[m]? = some (.map ents clock) ∧ ents.toList.map (fun e => (e.key, e.val)) = encI K es

theorem MapI.step {M O O' : List Nat} {w w' : World} {m : Nat} {K : IntKind} {es : KV} (h : MapI w m K es) (s : Step M O O' w w') (hn : m ∉ M) : MapI w' m K es := by
  obtain ⟨ents, clock, h1, h2⟩ := h
  exact ⟨ents, clock, s.block h1 hn, h2⟩

theorem MapI.lt {w : World} {m : Nat} {K : IntKind} {es : KV} (h : MapI w m K es) : m < w.heap.size := by
  obtain ⟨ents, clock, h1, _⟩ := h
  rcases Nat.lt_or_ge m w.heap.size with h | h
  · exact h
  · simp [Array.getElem?_eq_none h] at h1

theorem MapI.ne_cb {w : World} {m p : Nat} {K : IntKind} {es : KV} {cs : List Value} (h : MapI w m K es) (k : CB w p cs) : p ≠ m := by
  rintro rfl
  obtain ⟨ents, clock, h1, _⟩ := h
  obtain ⟨T, fz, k1, _⟩ := k
  rw [h1] at k1
  cases k1

def putO (w : World) (m : Nat) (o : Obj) : World := { w with heap := w.heap.setIfInBounds m o }

theorem step_putO {O : List Nat} {w : World} {m : Nat} {o : Obj} (hO : OK O w) (hm : m ∈ O) : Step [m] O O w (putO w m o) :=
  ⟨rfl, rfl, rfl, by simp [putO], fun k _ hn => by simp [putO, Array.getElem?_setIfInBounds_ne (show m ≠ k from fun e => hn (by simp [e]))], fun k hk => by simp at hk; subst hk; exact hm,
   fun _ h => .inl h, fun _ h => h, fun k hk => by simp [putO]; exact hO k hk⟩

theorem putO_same {w : World} {m : Nat} {o : Obj} (h : m < w.heap.size) : (putO w m o).heap[m]? = some o := by simp [putO, h]

section
variable {P : Program} {w : World}

theorem run_getObj {m : Nat} {ents : Array MapEntry} {clock : Nat} (h : w.heap[m]? = some (.map ents clock)) : (getObj m).run P w = .ok (.map ents clock) w := by
  simp [getObj, Sem.run, h]

theorem run_setObj {m : Nat} {ents : Array MapEntry} {clock : Nat} (h : w.heap[m]? = some (.map ents clock)) (o : Obj) : (setObj m o).run P w = .ok () (putO w m o) := by
  simp [setObj, Sem.run, h, putO]

theorem run_checkKeyIn {b : Bool} {T : TypeId} {K : IntKind} [h : TInt P T K] {k : Int} (d : Nat) : (Instr.checkKey b (d + 1) T (.int K k)).run P w = .ok () w := by
  simp [Instr.checkKey, run_underlying h.at_]
theorem run_checkKey {b : Bool} {T : TypeId} {K : IntKind} [h : TInt P T K] {k : Int} : (Instr.checkKey b 10000 T (.int K k)).run P w = .ok () w := run_checkKeyIn 9999

/-- Where a key stands. -/
def atI : KV → Int → Nat → Option (Nat × Value)
  | [], _, _ => none
  | (a, v) :: es, k, i => if k = a then some (i, v) else atI es k (i + 1)

theorem findNow_eq {K : IntKind} {k : Int} : ∀ (ents : List MapEntry) (es : KV) (i : Nat), ents.map (fun e => (e.key, e.val)) = encI K es → Instr.findNow (.int K) (.int K k) ents i = some (atI es k i)
  | [], es, i, h => by
    have : es = [] := by cases es with | nil => rfl | cons a b => simp [encI] at h
    subst this; rfl
  | e :: ents, es, i, h => by
    cases es with
    | nil => simp [encI] at h
    | cons p es =>
      obtain ⟨a, v⟩ := p
      simp only [List.map_cons, encI, List.cons.injEq, Prod.mk.injEq] at h
      obtain ⟨⟨h1, h2⟩, h3⟩ := h
      simp only [Instr.findNow, h1, Instr.sameNow, if_true, atI]
      by_cases hk : k = a
      · subst hk; simp [h2]
      · have : (k == a) = false := by simpa using hk
        rw [this, if_neg hk]
        exact findNow_eq ents es (i + 1) h3

theorem atI_look : ∀ (es : KV) (k : Int) (i : Nat), (atI es k i).map (·.2) = lookI es k
  | [], _, _ => rfl
  | (a, v) :: es, k, i => by
    simp only [atI, lookI]
    split
    · rfl
    · exact atI_look es k (i + 1)

theorem atI_none : ∀ (es : KV) (k : Int) (i : Nat), atI es k i = none → updI es k = fun v => es ++ [(k, v)]
  | [], _, _, _ => rfl
  | (a, u) :: es, k, i, h => by
    simp only [atI] at h
    split at h
    · cases h
    · rename_i hk
      funext v
      simp only [updI, if_neg hk, atI_none es k (i + 1) h, List.cons_append]

theorem atI_some : ∀ (es : KV) (k : Int) (i j : Nat) (u : Value), atI es k i = some (j, u) → i ≤ j ∧ ∃ (h : j - i < es.length), es[j - i] = (k, u) ∧ ∀ v, updI es k v = es.set (j - i) (k, v)
  | [], _, _, _, _, h => by cases h
  | (a, x) :: es, k, i, j, u, h => by
    simp only [atI] at h
    split at h
    · rename_i hk
      subst hk
      simp only [Option.some.injEq, Prod.mk.injEq] at h
      obtain ⟨rfl, rfl⟩ := h
      refine ⟨Nat.le_refl _, by simp, by simp, fun v => by simp [updI]⟩
    · rename_i hk
      obtain ⟨h1, h2, h3, h4⟩ := atI_some es k (i + 1) j u h
      have e : j - i = (j - (i + 1)) + 1 := by omega
      refine ⟨by omega, by simp; omega, by simp only [e, List.getElem_cons_succ]; exact h3, fun v => ?_⟩
      rw [e]
      simp [updI, if_neg hk, h4 v]

theorem run_findKey {T : TypeId} {K : IntKind} [h : TInt P T K] {k : Int} {ents : List MapEntry} {es : KV} (he : ents.map (fun e => (e.key, e.val)) = encI K es) :
    (Instr.findKey T (.int K k) ents).run P w = .ok (atI es k 0) w := by
  simp [Instr.findKey, run_underlying h.at_, findNow_eq ents es 0 he]

/-- A look-up. -/
theorem run_lookup {T kt et : TypeId} {K : IntKind} {z : Value} [h : TMap P T kt et] [hk : TInt P kt K] [hz : TZero P et z] {m : Nat} {es : KV} {k : Int} (hm : MapI w m K es) (ok : Bool) :
    (Instr.lookup T (.map (some m)) (.int K k) ok).run P w = .ok (if ok then .tuple #[(lookI es k).getD z, .bool (lookI es k).isSome] else (lookI es k).getD z) w := by
  obtain ⟨ents, clock, h1, h2⟩ := hm
  unfold Instr.lookup
  simp only [Sem.run_bind, run_underlying h.at_, Result.andThen_ok, run_getObj h1, Sem.run_pure, run_checkKey (T := kt), run_findKey (T := kt) h2]
  have hl := atI_look es k 0
  cases ha : atI es k 0 with
  | none =>
    rw [ha] at hl
    have hl' : lookI es k = none := by simpa using hl.symm
    simp [hl', run_zero (T := et)]
  | some p =>
    rw [ha] at hl
    have hl' : lookI es k = some p.2 := by simpa using hl.symm
    simp [hl']

theorem run_lookup_nil {T kt et : TypeId} {K : IntKind} {z : Value} [h : TMap P T kt et] [hk : TInt P kt K] [hz : TZero P et z] {k : Int} (ok : Bool) :
    (Instr.lookup T (.map none) (.int K k) ok).run P w = .ok (if ok then .tuple #[z, .bool false] else z) w := by
  unfold Instr.lookup
  simp only [Sem.run_bind, run_underlying h.at_, Result.andThen_ok, Sem.run_pure, run_checkKey (T := kt), run_findKey (T := kt) (es := []) (ents := []) rfl]
  simp [atI, run_zero (T := et)]

/-- A store. -/
theorem run_mapUpdate {T kt et : TypeId} {K : IntKind} [h : TMap P T kt et] [hk : TInt P kt K] {m : Nat} {es : KV} {k : Int} {v : Value} (hm : MapI w m K es) :
    ∃ o, (Instr.mapUpdate T (.map (some m)) (.int K k) v).run P w = .ok () (putO w m o) ∧ MapI (putO w m o) m K (updI es k v) := by
  have hlt := hm.lt
  obtain ⟨ents, clock, h1, h2⟩ := hm
  unfold Instr.mapUpdate
  simp only [Sem.run_bind, run_underlying h.at_, Result.andThen_ok, run_getObj h1, run_checkKey (T := kt), run_findKey (T := kt) h2]
  cases ha : atI es k 0 with
  | none =>
    refine ⟨_, run_setObj h1 _, _, _, putO_same hlt, ?_⟩
    rw [atI_none es k 0 ha]
    simp [encI, h2]
  | some p =>
    obtain ⟨j, u⟩ := p
    obtain ⟨_, hj, he, hu⟩ := atI_some es k 0 j u ha
    simp only [Nat.sub_zero] at hj he hu
    have hlen : ents.toList.length = es.length := by have := congrArg List.length h2; simpa [encI] using this
    have hj' : j < ents.size := by rw [← hlen] at hj; simpa using hj
    have hkey : (ents[j]).key = .int K k := by
      have := congrArg (fun l => l[j]?) h2
      simp only [encI, List.getElem?_map, Array.getElem?_toList] at this
      rw [Array.getElem?_eq_getElem hj', List.getElem?_eq_getElem hj, he] at this
      simp at this
      exact this.1
    have hks : (Instr.keyThatStays (((ents[j]?).map (·.key)).getD (.int K k)) (.int K k)).run P w = .ok (.int K k) w := by
      have hsame : Instr.sameBits 10000 (.int K k) (.int K k) = true := by simp [Instr.sameBits]
      rw [Array.getElem?_eq_getElem hj']
      simp [Instr.keyThatStays, hkey, hsame]
    simp only [hks, Sem.run_bind, Result.andThen_ok]
    refine ⟨_, run_setObj h1 _, _, _, putO_same hlt, ?_⟩
    rw [hu v]
    apply List.ext_getElem?
    intro i
    simp only [encI, List.getElem?_map, Array.getElem?_toList, Array.getElem?_modify, List.getElem?_set]
    by_cases hi : j = i
    · subst hi
      rw [if_pos rfl, if_pos rfl, Array.getElem?_eq_getElem hj']
      simp [hj]
    · rw [if_neg hi, if_neg hi]
      have := congrArg (fun l => l[i]?) h2
      simpa [encI, List.getElem?_map] using this

end

section
variable {P : Program} {n : Nat} {all : Array Oper} {os : List Oper} {ρ : Env} {D : Dr} {w : World} {Q : Exit → Act → World → Prop}
variable {d : Option Nat} {ty : TypeId} {pos : String} {af : Array Edge} {O : List Nat}

theorem y_lookup {T kt et : TypeId} {K : IntKind} {z : Value} [h : TMap P T kt et] [hk : TInt P kt K] [hz : TZero P et z] {x y : Operand} {m : Nat} {es : KV} {k : Int}
    (hx : evo ρ x = some (.map (some m))) (hy : evo ρ y = some (.int K k)) (hm : MapI w m K es) : Y P ρ w (.lookup T x y false) ((lookI es k).getD z) := by
  intro a h2 d ty pos af
  simp [execOp, eval_of h2 hx, eval_of h2 hy, run_lookup (T := T) hm]

theorem y_lookup_ok {T kt et : TypeId} {K : IntKind} {z : Value} [h : TMap P T kt et] [hk : TInt P kt K] [hz : TZero P et z] {x y : Operand} {m : Nat} {es : KV} {k : Int}
    (hx : evo ρ x = some (.map (some m))) (hy : evo ρ y = some (.int K k)) (hm : MapI w m K es) : Y P ρ w (.lookup T x y true) (.tuple #[(lookI es k).getD z, .bool (lookI es k).isSome]) := by
  intro a h2 d ty pos af
  simp [execOp, eval_of h2 hx, eval_of h2 hy, run_lookup (T := T) hm]

theorem r_mapUpdate {T kt et : TypeId} {K : IntKind} [h : TMap P T kt et] [hk : TInt P kt K] {x y v : Operand} {m : Nat} {es : KV} {k : Int} {u : Value} (hO : OK O w) (hd : okO n d = true)
    (hx : evo ρ x = some (.map (some m))) (hy : evo ρ y = some (.int K k)) (hv : evo ρ v = some u) (hm : MapI w m K es) (hmO : m ∈ O)
    (hk : ∀ w', Step [m] O O w w' → MapI w' m K (updI es k u) → R P n all os (upO ρ d undef) D w' Q) :
    R P n all (⟨d, .mapUpdate T x y v, ty, pos, af, none⟩ :: os) ρ D w Q := by
  obtain ⟨o, h1, h2⟩ := run_mapUpdate (P := P) (T := T) (k := k) (v := u) hm
  exact r_do hd (fun a hs => by simp [execOp, eval_of hs hx, eval_of hs hy, eval_of hs hv, h1]) (hk _ (step_putO hO hmO) h2)

theorem r_makeMap {T : TypeId} (K : IntKind) (hO : OK O w) (hd : okO n d = true)
    (h : ∀ q w', q = w.heap.size → Step [] O O w w' → w.heap.size < w'.heap.size → MapI w' q K [] → R P n all os (upO ρ d (.map (some q))) D w' Q) :
    R P n all (⟨d, .makeMap T none, ty, pos, af, none⟩ :: os) ρ D w Q :=
  r_val hd (fun a h2 => by simp [execOp, Instr.makeMap]) (h _ _ rfl (step_alloc _ hO) (by rw [World.size_alloc]; exact Nat.lt_succ_self _) ⟨#[], 0, heap_alloc_new _ _, rfl⟩)

/-! ### maps.Clone -/

theorem y_makeInterface {T : TypeId} {x : Operand} {v : Value} (hx : evo ρ x = some v) (hT : (match P.underlying T with | some (.interface _) | none => false | _ => true) = true) :
    Y P ρ w (.makeInterface T x) (.iface T v) := by
  intro a h2 d ty pos af
  have : (Instr.makeInterface T v).run P w = .ok (.iface T v) w := by
    unfold Instr.makeInterface
    cases hu : P.underlying T with
    | none => rw [hu] at hT; cases hT
    | some t =>
      simp only [Sem.run_bind, run_underlying hu, Result.andThen_ok]
      rw [hu] at hT
      cases t <;> first | rfl | cases hT
  simp [execOp, eval_of h2 hx, this]

theorem y_typeAssert {S T : TypeId} {x : Operand} {v : Value} (hx : evo ρ x = some (.iface T v)) (hT : (match P.underlying T with | some (.interface _) | none => false | _ => true) = true) :
    Y P ρ w (.typeAssert x S T false) v := by
  intro a h2 d ty pos af
  have : (Instr.typeAssert (.iface T v) S T false).run P w = .ok v w := by
    unfold Instr.typeAssert
    cases hu : P.underlying T with
    | none => rw [hu] at hT; cases hT
    | some t =>
      simp only [Sem.run_bind, run_underlying hu, Result.andThen_ok]
      rw [hu] at hT
      cases t <;> first | (simp; done) | cases hT
  simp [execOp, eval_of h2 hx, this]

/-- The body-less 'maps.clone'. -/
def EntClone (P : Program) (f : FuncId) : Prop :=
  ∃ fn, P.funcs[f]? = some fn ∧ (fn.name == "runtime.NumGoroutine") = false ∧ fn.body.isNone = true ∧ (Extern.findNext fn).isNone = true ∧ Extern.find fn = some Extern.MapsClone.clone

theorem r_mapsClone {T : TypeId} {f : FuncId} {x : Operand} {K : IntKind} {m : Nat} {es : KV} {ats : Array TypeId} (hf : EntClone P f) (hO : OK O w) (hd : okO n d = true) (hx : evs ρ [x] = some [.iface T (.map (some m))]) (hm : MapI w m K es)
    (h : ∀ q w', q = w.heap.size → Step [] O O w w' → w.heap.size < w'.heap.size → MapI w' q K es → R P n all os (upO ρ d (.iface T (.map (some q)))) D w' Q) :
    R P n all (⟨d, .call ⟨.value (.func f), #[x], ats⟩, ty, pos, af, none⟩ :: os) ρ D w Q := by
  obtain ⟨fn, f1, f2, f3, f4, f5⟩ := hf
  obtain ⟨ents, clock, h1, h2⟩ := hm
  have hn : Extern.findNext fn = none := by simpa using f4
  have hc : (callFunc f #[.iface T (.map (some m))]).run P w = .ok (.value (.iface T (.map (some w.heap.size)))) (w.alloc (.map ents clock)) := by
    unfold callFunc
    simp only [Sem.run_bind, run_program, Result.andThen_ok, f1, f2, Bool.false_eq_true, if_false, f3, if_true, run_mark, hn, f5]
    have he : (Extern.MapsClone.clone #[.iface T (.map (some m))]).run P w = ((getObj m) >>= fun o => match o with
      | .map entries clock => (do pure (Value.iface T (.map (some (← newObj (.map entries clock))))))
      | _ => stuck "maps.clone: a map expected").run P w := rfl
    simp [he, run_getObj h1]
  refine r_val hd (fun a hs => ?_) (h _ _ rfl (step_alloc _ hO) (by rw [World.size_alloc]; exact Nat.lt_succ_self _) ⟨ents, clock, heap_alloc_new _ _, h2⟩)
  have e1 := evals_of hs hx
  simp only [List.map_cons, List.map_nil, List.cons.injEq, and_true] at e1
  have e2 : a.eval (.func f) = .func (.func f) #[] #[] := rfl
  simp [execOp, resolve, invoke, Deferred.ofValue, e1, e2, hc]

end
end Gk
