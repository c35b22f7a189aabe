/- Ranges over a function. Nothing here speaks of one program. -/
import Derived.Test.YtcfpnghkkkphhaaGreatGkGo
import Derived.RangeFuncSeq
import Derived.RangeFuncCalls
import Derived.RangeFuncLeaves
namespace Gk
open Go
set_option linter.unusedVariables false

/-- The record of a loop over a function. -/
def Thing.loop (l : Nat) (r : Loop) : Thing := ⟨[l], fun _ w => w.heap[l]? = some (.loop r), fun s hn h => s.block h (hn l (by simp)), fun _ _ h => h⟩
/-- The block for what its rounds defer. -/
def Thing.dfr (k : Nat) : Thing := ⟨[k], fun _ w => w.heap[k]? = some (.deferred (some [])), fun s hn h => s.block h (hn k (by simp)), fun _ _ h => h⟩

theorem step_putObj {O : List Nat} {w : World} {l : Nat} (o : Obj) (hO : OK O w) (hl : l ∈ O) : Step [l] O O w (w.putObj l o) :=
  ⟨rfl, rfl, rfl, by rw [World.putObj_size]; exact Nat.le_refl _, fun k _ hn => World.putObj_heap_other (fun e => hn (by simp [e])), fun k hk => by simp at hk; subst hk; exact hl, fun _ h => .inl h, fun _ h => h, fun k hk => by rw [World.putObj_size]; exact hO k hk⟩

/-- A call of yield. -/
def YFn (P : Program) (l : Nat) (args : List Value) (O M : List Nat) (w : World) (K : Value → List Nat → World → Prop) : Prop :=
  ∃ fn tmps assign body, (Instr.yield l args.toArray).run P w = .ok (.round l fn tmps assign body) w ∧
    RoundIn Fence.wide 0 P l fn tmps assign body w fun e w' => ∃ r O', e = .returned r ∧ Step M O O' w w' ∧ K r O' w'

theorem YFn.mono {P : Program} {l : Nat} {args : List Value} {O M : List Nat} {w : World} {K K' : Value → List Nat → World → Prop} (h : YFn P l args O M w K) (hk : ∀ r O' w', Step M O O' w w' → K r O' w' → K' r O' w') : YFn P l args O M w K' := by
  obtain ⟨fn, tmps, as, bo, h1, h2⟩ := h
  exact ⟨fn, tmps, as, bo, h1, RoundIn.mono h2 fun e w' ⟨r, O', g1, g2, g3⟩ => ⟨r, O', g1, g2, hk r O' w' g2 g3⟩⟩

/-- What a loop's body does, told to the iterator. -/
def YCon (P : Program) (l : Nat) (args : List Value) (A : List Thing) (Fs : List Fact) (K : Post) : Prop :=
  ∀ O w, OK O w → (∀ t, t ∈ A → t.φ O w) → (∀ t, t ∈ A → ∀ b, b ∈ t.bs → b ∈ O) → A.Pairwise (fun s t => ∀ b, b ∈ s.bs → b ∉ t.bs) → (∀ f, f ∈ Fs → f.φ O w) →
    YFn P l args O (A.flatMap (·.bs)) w fun r O' w' => ∃ T Φ, K r T Φ ∧ Left (A.flatMap (·.bs)) O' w w' T Φ

section
variable {P : Program} {n : Nat} {all : Array Oper} {os : List Oper} {ρ : Env} {D : Dr} {w w0 : World} {Q : Exit → Act → World → Prop}
variable {d : Option Nat} {ty : TypeId} {pos : String} {af : Array Edge} {M O0 O : List Nat} {L L1 L2 L' : List KT} {Φ : List Fact}

theorem YCon.use {l : Nat} {args : List Value} {A : List Thing} {Fs : List Fact} {K : Post} {own : List KT} (c : YCon P l args A Fs K) {k : Nat} (F : Fr M O0 w0 O w (own ++ A.map (fun t => (k, t))) Φ) (hk : k = 1 ∨ k = 2) (hF : ∀ f, f ∈ Fs → f ∈ Φ) :
    YFn P l args O (A.flatMap (·.bs)) w fun r O' w' => ∃ T Φ', K r T Φ' ∧ Fr M O0 w0 O' w' (own ++ T.map (fun t => (k, t))) (Φ' ++ Φ) := by
  have F1 : Fr M O0 w0 O w (A.map (fun t => (k, t)) ++ own) Φ := F.perm List.perm_append_comm
  have hm : ∀ t, t ∈ A → (k, t) ∈ A.map (fun t => (k, t)) ++ own := fun t ht => List.mem_append_left _ (List.mem_map.2 ⟨t, ht, rfl⟩)
  have hA : A.Pairwise (fun s t => ∀ b, b ∈ s.bs → b ∉ t.bs) := by
    have h := (List.pairwise_append.1 F1.ap).1
    have h2 := List.Pairwise.map (S := fun (s t : Thing) => ∀ b, b ∈ s.bs → b ∉ t.bs) (f := fun (x : KT) => x.2) (fun a b h => h) h
    rw [List.map_map] at h2
    have e : ((fun (x : KT) => x.2) ∘ fun t => (k, t)) = id := rfl
    rw [e, List.map_id] at h2
    exact h2
  refine (c O w F.ok (fun t ht => F1.th _ (hm t ht)) (fun t ht b hb => (F1.ow _ (hm t ht) b hb).1) hA (fun f hf => F.fa f (hF f hf))).mono ?_
  rintro r O' w' s ⟨T, Φ', hK, h1, h2, h3, h4⟩
  refine ⟨T, Φ', hK, ?_⟩
  have := Fr.next (T := T.map (fun t => (k, t))) (Φ' := Φ') F1 s (fun b hb => ?_) (fun t ht => ?_) (fun t ht b hb => ?_) ?_ h4
  · exact this.perm List.perm_append_comm
  · obtain ⟨t, ht, hb⟩ := List.mem_flatMap.1 hb
    exact ⟨_, List.mem_map.2 ⟨t, ht, rfl⟩, hb, hk⟩
  · obtain ⟨t, ht', rfl⟩ := List.mem_map.1 ht
    exact h1 t ht'
  · obtain ⟨t, ht', rfl⟩ := List.mem_map.1 ht
    obtain ⟨g1, g2⟩ := h2 t ht' b hb
    refine ⟨g1, g2.symm.imp id (fun g => ?_)⟩
    obtain ⟨s, hs, hb'⟩ := List.mem_flatMap.1 g
    exact ⟨_, List.mem_map.2 ⟨s, hs, rfl⟩, hb', fun _ => hk, fun h => h⟩
  · exact List.Pairwise.map (fun t => (k, t)) (fun a b h => h) h3

/-- The iterator calls yield. -/
theorem f_yield {l k : Nat} {x : Operand} {xs : List Operand} {vs : List Value} {ats : Array TypeId} {A : List Thing} {Fs : List Fact} {K : Post} (own : List KT) (F : Fr M O0 w0 O w (own ++ A.map (fun t => (k, t))) Φ) (hd : okO n d = true)
    (hf : evo ρ x = some (.func (.yield l) #[] #[])) (hx : evs ρ xs = some vs) (c : YCon P l vs A Fs K) (hF : ∀ f, f ∈ Fs → f ∈ Φ) (hk : k = 1 ∨ k = 2)
    (h : ∀ r O' w' T Φ', K r T Φ' → Fr M O0 w0 O' w' (own ++ T.map (fun t => (k, t))) (Φ' ++ Φ) → R P n all os (upO ρ d r) D w' Q) :
    R P n all (⟨d, .call ⟨.value x, xs.toArray, ats⟩, ty, pos, af, none⟩ :: os) ρ D w Q := by
  obtain ⟨fn, tmps, as, bo, hy, hr⟩ := c.use F hk hF
  intro a h1 h2 h3
  refine wpL_plain rfl ?_
  unfold opW
  have e1 := eval_of h2 hf
  have e2 := evals_of h2 hx
  have e3 : (execOp a.eval ⟨d, .call ⟨.value x, xs.toArray, ats⟩, ty, pos, af, none⟩).run P w = .ok (.round l fn tmps as bo) w := by
    simp [execOp, resolve, invoke, Deferred.ofValue, e1, e2, hy]
  rw [e3]
  refine ⟨fun h => (by cases h), RoundIn.mono hr ?_⟩
  rintro e w' ⟨r, O', rfl, s, T, Φ', hK, F'⟩
  exact h r O' w' T Φ' hK F' _ (by rw [put_size, h1]) (h2.putO h1 hd r) (by rw [put_defers, h3])

/-! ### a round -/

/-- The assignments are done: the round begins. -/
def BeginQ (P : Program) (l : Nat) (body : Code) (Qb : Exit → Act → World → Prop) : Exit → Act → World → Prop :=
  Exit.then (fun a w => ∃ w2, (Instr.beginRound l).run P w = .ok () w2 ∧ wpR (some l) P body Qb a w2) (fun _ _ _ => False)

theorem e_begin {l k : Nat} {r : Loop} {body : Code} {Qb : Exit → Act → World → Prop} (F : Fr M O0 w0 O w L Φ) (hs : Sel L (k, Thing.loop l r) L') (hk : k = 1 ∨ k = 2) (hr : r.state = .ready)
    (h : ∀ w', Fr M O0 w0 O w' ((k, Thing.loop l { r with state := .busy }) :: L') Φ → G P n body ρ ⟨[], some l⟩ w' Qb) : E n ρ ⟨[], some l⟩ w (BeginQ P l body Qb) .normal := by
  intro a h1 h2 h3
  have hl : w.heap[l]? = some (.loop r) := F.th _ hs.mem
  have G' := F.pull hs
  have hlO : l ∈ O := (G'.ow _ List.mem_cons_self l (by simp [Thing.loop])).1
  refine ⟨_, run_beginRound hl hr, h _ ?_ a h1 h2 h3⟩
  refine Fr.turn (t' := Thing.loop l { r with state := .busy }) G' hk (step_putObj _ F.ok hlO) ?_ (fun b hb => ?_)
  · exact World.putObj_heap_same (F.ok l hlO)
  · simp [Thing.loop] at hb; subst hb; exact ⟨hlO, .inl (by simp [Thing.loop])⟩

/-- What is behind a round, in a frame. -/
abbrev RPost (M O : List Nat) (w : World) (K : Post) : Ending → World → Prop := fun e w' => ∃ r O', e = .returned r ∧ Step M O O' w w' ∧ ∃ T Φ, K r T Φ ∧ Gk.Left M O' w w' T Φ

/-- The round goes on, or leaves by a jump. -/
theorem e_round_end {l k : Nat} {r : Loop} {R' : Ending → World → Prop} {e : Exit} (jump : Option Code) (he : (e = .normal ∧ jump = none) ∨ (e = .ret ∧ jump = some .ret) ∨ ∃ id, e = .exit id ∧ jump = some (.exit id))
    (F : Fr M O0 w0 O w L Φ) (hs : Sel L (k, Thing.loop l r) L') (hk : k = 1 ∨ k = 2)
    (h : ∀ w', Fr M O0 w0 O w' ((k, Thing.loop l { r with state := if jump.isNone then .ready else .done, pending := jump }) :: L') Φ → R' (.returned (.bool jump.isNone)) w') : E n ρ D w (roundPost P l R') e := by
  intro a h1 h2 h3
  have hl : w.heap[l]? = some (.loop r) := F.th _ hs.mem
  have G' := F.pull hs
  have hlO : l ∈ O := (G'.ow _ List.mem_cons_self l (by simp [Thing.loop])).1
  have F2 := Fr.turn (t' := Thing.loop l { r with state := if jump.isNone then .ready else .done, pending := jump }) G' hk (step_putObj (.loop { r with state := if jump.isNone then .ready else .done, pending := jump }) F.ok hlO)
    (World.putObj_heap_same (F.ok l hlO)) (fun b hb => by simp [Thing.loop] at hb; subst hb; exact ⟨hlO, .inl (by simp [Thing.loop])⟩)
  rcases he with ⟨rfl, rfl⟩ | ⟨rfl, rfl⟩ | ⟨id, rfl, rfl⟩
  · exact ⟨_, _, run_endRound none hl, h _ F2⟩
  · exact ⟨_, _, run_endRound (some .ret) hl, h _ F2⟩
  · exact ⟨_, _, run_endRound (some (.exit id)) hl, h _ F2⟩

def setP (ps : Array Tmp) (vs : Array Value) (tm : Array Value) : Array Value := (ps.zip vs).foldl (fun tmps (t, a) => tmps.setIfInBounds t a) tm

/-- The slots that yield's arguments go into. -/
def putP : List Nat → List Value → Env → Env
  | p :: ps, v :: vs, ρ => putP ps vs ((p, v) :: ρ)
  | _, _, ρ => ρ

theorem setP_sat : ∀ (ps : List Nat) (vs : List Value) (tm : Array Value) (ρ : Env), tm.size = n → ps.all (fun p => Nat.blt p n) = true → (∀ a : Act, a.tmps = tm → Sat ρ a) →
    ((ps.zip vs).foldl (fun (tmps : Array Value) (x : Nat × Value) => tmps.setIfInBounds x.1 x.2) tm).size = n ∧ ∀ a : Act, a.tmps = (ps.zip vs).foldl (fun (tmps : Array Value) (x : Nat × Value) => tmps.setIfInBounds x.1 x.2) tm → Sat (putP ps vs ρ) a
  | [], _, tm, ρ, h1, _, h3 => ⟨h1, h3⟩
  | p :: ps, [], tm, ρ, h1, _, h3 => ⟨h1, h3⟩
  | p :: ps, v :: vs, tm, ρ, h1, h2, h3 => by
    simp only [List.all_cons, Bool.and_eq_true] at h2
    simp only [List.zip_cons_cons, List.foldl_cons, putP]
    refine setP_sat ps vs _ _ (by simpa using h1) h2.2 (fun a ha => ?_)
    have h4 := Sat.put (a := ⟨tm, []⟩) (h3 ⟨tm, []⟩ rfl) h1 h2.1 v
    intro t u hu
    have := h4 t u hu
    rw [ha]
    exact this

/-- A loop's body is walked, once, for the iterator. -/
theorem ycon_of {l : Nat} {r : Loop} {vs : List Value} {A : List Thing} {Fs : List Fact} {K : Post} {ps : List Nat} (hps : r.params = ps.toArray) (hl : vs.length = ps.length) (hn : r.tmps.size = n) (hp : ps.all (fun p => Nat.blt p n) = true)
    (hρ : ∀ a : Act, a.tmps = r.tmps → Sat ρ a) (hA : Thing.loop l r ∈ A)
    (h : ∀ O w, Fr (A.flatMap (·.bs)) O w O w (A.map (fun t => (1, t))) Fs →
      G P n r.assign (putP ps vs ρ) ⟨[], some l⟩ w (BeginQ P l r.body (roundPost P l (RPost (A.flatMap (·.bs)) O w K)))) : YCon P l vs A Fs K := by
  intro O w hO hA' hbA hap hF
  have hlr : w.heap[l]? = some (.loop r) := hA' _ hA
  refine ⟨_, _, _, _, run_yield hlr (by rw [hps]; simpa using hl), roundIn_of_wpIn trivial ?_⟩
  have F : Fr (A.flatMap (·.bs)) O w O w (A.map (fun t => (1, t))) Fs := by
    refine ⟨(Step.refl hO).more (by simp) (fun b hb => ?_), hO, fun t ht => ?_, fun t ht => ?_, ?_, hF⟩
    · obtain ⟨t, ht, hb⟩ := List.mem_flatMap.1 hb
      exact hbA t ht b hb
    · obtain ⟨s, hs, rfl⟩ := List.mem_map.1 ht
      exact hA' s hs
    · obtain ⟨s, hs, rfl⟩ := List.mem_map.1 ht
      exact fun b hb => ⟨hbA s hs b hb, fun _ => .inl (List.mem_flatMap.2 ⟨s, hs, hb⟩), fun h => by cases h⟩
    · exact List.Pairwise.map _ (fun a b h => h) hap
  have e1 : (r.params.zip vs.toArray).foldl (fun tmps (x : Nat × Value) => tmps.setIfInBounds x.1 x.2) r.tmps = (ps.zip vs).foldl (fun (tmps : Array Value) (x : Nat × Value) => tmps.setIfInBounds x.1 x.2) r.tmps := by
    rw [hps, ← Array.foldl_toList]
    simp
  obtain ⟨g1, g2⟩ := setP_sat (n := n) ps vs r.tmps ρ hn hp hρ
  have := h O w F ⟨(r.params.zip vs.toArray).foldl (fun tmps (x : Nat × Value) => tmps.setIfInBounds x.1 x.2) r.tmps, []⟩ (by rw [e1]; exact g1) (g2 _ e1) rfl
  exact this

/-! ### the statement -/

abbrev mark (k : Nat) : Deferred := { target := .collected k, args := #[] }

/-- The iterator has come back. -/
def Back (P : Program) (n l k : Nat) (ρ : Env) (ds : List Deferred) (Q : Exit → Act → World → Prop) (w : World) : Prop :=
  ∃ r : Loop, w.heap[l]? = some (.loop r) ∧ r.state ≠ .busy ∧ (match r.pending with
    | none => E n ρ ⟨mark k :: ds, none⟩ (w.putObj l (.loop { r with state := .exhausted })) Q .normal
    | some c => G P n c ρ ⟨mark k :: ds, none⟩ (w.putObj l (.loop { r with state := .exhausted })) Q)

theorem putLoop {l k : Nat} {r : Loop} (r' : Loop) (F : Fr M O0 w0 O w ((k, Thing.loop l r) :: L) Φ) (hk : k = 1 ∨ k = 2) : Fr M O0 w0 O (w.putObj l (.loop r')) L Φ := by
  have hlO : l ∈ O := (F.ow _ List.mem_cons_self l (by simp [Thing.loop])).1
  exact (Fr.turn (t' := Thing.loop l r') F hk (step_putObj (.loop r') F.ok hlO) (World.putObj_heap_same (F.ok l hlO)) (fun b hb => by simp [Thing.loop] at hb; subst hb; exact ⟨hlO, .inl (by simp [Thing.loop])⟩)).drop Sel.here

theorem back_done {l k j : Nat} {r : Loop} {ds : List Deferred} (F : Fr M O0 w0 O w L Φ) (hs : Sel L (j, Thing.loop l r) L') (hj : j = 1 ∨ j = 2) (hb : r.state ≠ .busy) (hp : r.pending = none)
    (h : ∀ w', Fr M O0 w0 O w' L' Φ → E n ρ ⟨mark k :: ds, none⟩ w' Q .normal) : Back P n l k ρ ds Q w := by
  refine ⟨r, F.th _ hs.mem, hb, ?_⟩
  rw [hp]
  exact h _ (putLoop _ (F.pull hs) hj)
theorem back_jump {l k j : Nat} {r : Loop} {ds : List Deferred} {c : Code} (F : Fr M O0 w0 O w L Φ) (hs : Sel L (j, Thing.loop l r) L') (hj : j = 1 ∨ j = 2) (hb : r.state ≠ .busy) (hp : r.pending = some c)
    (h : ∀ w', Fr M O0 w0 O w' L' Φ → G P n c ρ ⟨mark k :: ds, none⟩ w' Q) : Back P n l k ρ ds Q w := by
  refine ⟨r, F.th _ hs.mem, hb, ?_⟩
  rw [hp]
  exact h _ (putLoop _ (F.pull hs) hj)

/-- A round has gone: the record is as it was. -/
theorem rdy {r : Loop} (h1 : r.state = .ready) (h2 : r.pending = none) : ({ ({ r with state := .busy } : Loop) with state := if (none : Option Code).isNone then .ready else .done, pending := none } : Loop) = r := by
  cases r
  simp only at h1 h2
  subst h1 h2
  rfl

theorem range_use {gf l k : Nat} {args : List Value} {ds : List Deferred} {A B : List Thing} {Fs : List Fact} {K : Post} {ka kb : List Nat} (c : Con P gf args A B Fs K) (F : Fr M O0 w0 O w L Φ)
    (h : ∀ r O' w' T Φ', K r T Φ' → Fr M O0 w0 O' w' (T.map (fun t => (1, t)) ++ L1) (Φ' ++ Φ) → Back P n l k ρ ds Q w')
    (hA : Sels L ka A L1 := by (repeat (first | exact Sels.nil | (apply Sels.cons; focus (repeat (first | exact Sel.here | apply Sel.there))))))
    (hB : Sels L1 kb B L2 := by (repeat (first | exact Sels.nil | (apply Sels.cons; focus (repeat (first | exact Sel.here | apply Sel.there))))))
    (hF : Known Φ Fs := by (repeat (first | exact Known.nil | (apply Known.cons; focus (repeat (first | exact Sel.here | apply Sel.there))))))
    (hk : ∀ x, x ∈ ka → x = 1 ∨ x = 2 := by decide) : ∃ M1, FnC P gf args O M1 w fun r O2 w2 => Back P n l k ρ ds Q w2 :=
  ⟨_, (c.use F 1 hA hB hF hk (fun x hx => ⟨fun _ => hk x hx, fun h => by cases h⟩)).mono (fun r O' w' _ ⟨T, Φ', h1, h2⟩ => h r O' w' T Φ' h1 h2)⟩

theorem g_range {g : Operand} {ps : Array Tmp} {assign body : Code} {gf : Nat} {lb : Array Value} {ds : List Deferred} (F : Fr M O0 w0 O w L Φ) (hg : evo ρ g = some (.func (.func gf) #[] lb))
    (h : ∀ l k w1 fn tm, tm.size = n → (∀ a : Act, a.tmps = tm → Sat ρ a) → Fr M O0 w0 (l :: k :: O) w1 ((2, Thing.loop l ⟨.ready, none, fn, tm, ps, assign, body, k⟩) :: (2, Thing.dfr k) :: L) Φ →
      ∃ M1, FnC P gf (.func (.yield l) #[] #[] :: lb.toList) (l :: k :: O) M1 w1 fun r O2 w2 => Back P n l k ρ ds Q w2) : G P n (.rangeFunc g ps assign body) ρ ⟨ds, none⟩ w Q := by
  intro a h1 h2 h3
  refine wpIn_rangeFunc (fun fn _ => ?_)
  have hs0 : (w.alloc (.deferred (some []))).heap.size = w.heap.size + 1 := World.size_alloc _ _
  have F1 : Fr M O0 w0 (w.heap.size :: O) (w.alloc (.deferred (some []))) ((2, Thing.dfr w.heap.size) :: L) Φ :=
    F.new (t := Thing.dfr w.heap.size) ((step_alloc _ F.ok).take (q := w.heap.size) (Nat.le_refl _) (by rw [hs0]; omega)) (World.alloc_heap_new w _) (fun b hb => by simp [Thing.dfr] at hb; subst hb; exact ⟨by simp, Nat.le_refl _⟩)
  obtain ⟨W1, hW1⟩ : ∃ W1, w.alloc (.deferred (some [])) = W1 := ⟨_, rfl⟩
  rw [hW1] at F1 hs0
  have F2 : Fr M O0 w0 ((w.heap.size + 1) :: w.heap.size :: O) (W1.alloc (.loop ⟨.ready, none, fn, a.tmps, ps, assign, body, w.heap.size⟩)) ((2, Thing.loop (w.heap.size + 1) ⟨.ready, none, fn, a.tmps, ps, assign, body, w.heap.size⟩) :: (2, Thing.dfr w.heap.size) :: L) Φ := by
    have hs1 := World.size_alloc W1 (.loop ⟨.ready, none, fn, a.tmps, ps, assign, body, w.heap.size⟩)
    have hn := World.alloc_heap_new W1 (.loop ⟨.ready, none, fn, a.tmps, ps, assign, body, w.heap.size⟩)
    rw [← hs0] at *
    exact F1.new (t := Thing.loop W1.heap.size ⟨.ready, none, fn, a.tmps, ps, assign, body, w.heap.size⟩) ((step_alloc _ F1.ok).take (q := W1.heap.size) (Nat.le_refl _) (by omega)) hn (fun b hb => by simp [Thing.loop] at hb; subst hb; exact ⟨by simp, Nat.le_refl _⟩)
  rw [← hW1] at F2
  have hen := run_enterLoop_outer (P := P) (w := w) fn a.tmps ps assign body
  obtain ⟨W2, hW2⟩ : ∃ W2, (w.alloc (.deferred (some []))).alloc (.loop ⟨.ready, none, fn, a.tmps, ps, assign, body, w.heap.size⟩) = W2 := ⟨_, rfl⟩
  rw [hW2] at F2 hen
  obtain ⟨M1, he, hc⟩ := h _ _ _ fn a.tmps h1 (fun b hb t v ht => by rw [hb]; exact h2 t v ht) F2
  refine ⟨w.heap.size + 1, [mark w.heap.size], W2, { target := .fn (.func gf) lb, args := #[.func (.yield (w.heap.size + 1)) #[] #[]] }, W2, gf, #[.func (.yield (w.heap.size + 1)) #[] #[]] ++ lb, W2, hen, ?_, fun _ _ => trivial, ?_, fun h => (by cases h), ?_⟩
  · simp only [resolve, eval_of h2 hg]
    simp [go_sem]
  · simp [invoke, run_callFunc he]
  · refine callsIn_wide.2 ?_
    have e : (Value.func (.yield (w.heap.size + 1)) #[] #[] :: lb.toList).toArray = #[.func (.yield (w.heap.size + 1)) #[] #[]] ++ lb := by apply Array.ext'; simp
    rw [e] at hc
    refine Calls.mono hc ?_
    rintro e' w2 ⟨v, O2, rfl, _, r, g1, g2, g3⟩
    refine ⟨_, _, run_endLoop g1 g2, ?_⟩
    cases hp : r.pending with
    | none => rw [hp] at g3; exact g3 _ h1 h2 (by rw [h3]; rfl)
    | some c => rw [hp] at g3; exact g3 _ h1 h2 (by rw [h3]; rfl)

/-- The same, with the record under a name. -/
theorem g_rangeC {g : Operand} {ps : Array Tmp} {assign body : Code} {gf : Nat} {lb : Array Value} {ds : List Deferred} (F : Fr M O0 w0 O w L Φ) (hg : evo ρ g = some (.func (.func gf) #[] lb))
    (h : ∀ l k w1 (r : Loop), r.state = .ready → r.pending = none → r.params = ps → r.assign = assign → r.body = body → r.tmps.size = n → (∀ a : Act, a.tmps = r.tmps → Sat ρ a) →
      Fr M O0 w0 (l :: k :: O) w1 ((2, Thing.loop l r) :: (2, Thing.dfr k) :: L) Φ → ∃ M1, FnC P gf (.func (.yield l) #[] #[] :: lb.toList) (l :: k :: O) M1 w1 fun r O2 w2 => Back P n l k ρ ds Q w2) : G P n (.rangeFunc g ps assign body) ρ ⟨ds, none⟩ w Q :=
  g_range F hg (fun l k w1 fn tm h1 h2 F => h l k w1 ⟨.ready, none, fn, tm, ps, assign, body, k⟩ rfl rfl rfl rfl rfl h1 h2 F)

/-! ### a function with such a loop -/

theorem fn_ofM {f : FuncId} {fn : Func} {c : Code} {args : List Value} {K : Value → List Nat → World → Prop} (n : Nat)
    (hf : P.funcs[f]? = some fn) (hb : fn.body = some c) (hname : (fn.name == "runtime.NumGoroutine") = false) (hn : fn.ntmps = n) (hargs : Nat.ble args.length n = true)
    (h : G P n c (mkEnv 0 args) Dr.none w (bodyPostM (Fn none) 0 P fn fun e w' => ∃ r O', e = .returned r ∧ Step M O O' w w' ∧ K r O' w')) : FnC P f args O M w K := by
  refine ⟨⟨fn, hf, hname, by simp [hb]⟩, ?_⟩
  have hle : args.length ≤ n := Nat.le_of_ble_eq_true hargs
  refine (callsIn_wide (n := 0)).1 (callsIn_of_wp_marks hf hb trivial (h _ ?_ ?_ rfl))
  · simp [hn]; omega
  · intro t v e
    obtain ⟨_, h2⟩ := mkEnv_get _ _ _ _ e
    have hlt : t < args.length := by
      rcases Nat.lt_or_ge t args.length with h | h
      · exact h
      · simp [List.getElem?_eq_none h] at h2
    rw [Array.getElem?_append_left (by simpa using hlt)]
    simpa using h2

/-- On the way out, without a mark. -/
theorem e_leave {e : Exit} {fn : Func} {K : Ending → World → Prop} (he : e = .ret ∨ e = .normal) (h : E n ρ Dr.none w (bodyPost P fn K) e) : E n ρ Dr.none w (bodyPostM (Fn none) 0 P fn K) e := by
  intro a h1 h2 h3
  have h4 := h a h1 h2 h3
  have hd : a.defers = [] := h3
  rcases he with rfl | rfl <;> (show LeavesInM _ _ _ _ _ _ a.defers _ _; rw [hd]; exact h4.2)
/-- On the way out, by one mark. -/
theorem e_leave1 {e : Exit} {fn : Func} {K : Ending → World → Prop} {k : Nat} (he : e = .ret ∨ e = .normal) (F : Fr M O0 w0 O w L Φ) (hs : Sel L (2, Thing.dfr k) L') (h : ∀ w', Fr M O0 w0 O w' L' Φ → E n ρ Dr.none w' (bodyPost P fn K) e) :
    E n ρ ⟨[mark k], none⟩ w (bodyPostM (Fn none) 0 P fn K) e := by
  intro a h1 h2 h3
  have hk : w.heap[k]? = some (.deferred (some [])) := F.th _ hs.mem
  have G' := F.pull hs
  have hkO : k ∈ O := (G'.ow _ List.mem_cons_self k (by simp [Thing.dfr])).1
  have hd : a.defers = [mark k] := h3
  have F2 : Fr M O0 w0 O (w.putObj k (.deferred none)) L' Φ := by
    have := Fr.turn (t' := (⟨[k], fun _ _ => True, fun _ _ h => h, fun _ _ h => h⟩ : Thing)) G' (.inr rfl) (step_putObj (.deferred none) F.ok hkO) trivial (fun b hb => by simp at hb; subst hb; exact ⟨hkO, .inl (by simp [Thing.dfr])⟩)
    exact this.drop Sel.here
  have h4 := h _ F2 { a with defers := [] } h1 (fun t v ht => h2 t v ht) rfl
  rcases he with rfl | rfl <;>
  · show LeavesInM _ _ _ _ _ _ a.defers _ _
    rw [hd]
    exact ⟨by simp, .inl ⟨k, _, rfl, run_takeDeferred hk, h4.2⟩⟩

/-- Fewer facts. -/
theorem Fr.wkF {Φ' : List Fact} (F : Fr M O0 w0 O w L Φ) (h : ∀ f, f ∈ Φ' → f ∈ Φ) : Fr M O0 w0 O w L Φ' := ⟨F.st, F.ok0, F.th, F.ow, F.ap, fun f hf => F.fa f (h f hf)⟩

/-- A frame's end, where things are left as they are named. -/
theorem Fr.finL {M O O' : List Nat} {w w' : World} {own : List KT} {Φ Φ' : List Fact} {K : Post} {r : Value} {T : List Thing} {k : Nat} (F : Fr M O w O' w' (own ++ T.map (fun t => (k, t))) Φ) (h : K r T Φ') (hΦ : ∀ f, f ∈ Φ' → f ∈ Φ) (hk : k = 1 ∨ k = 2) :
    ∃ r1 O1, Ending.returned r = Ending.returned r1 ∧ Step M O O1 w w' ∧ ∃ T Φ, K r1 T Φ ∧ Gk.Left M O1 w w' T Φ := by
  have hm : ∀ t, t ∈ T → (k, t) ∈ own ++ T.map (fun t => (k, t)) := fun t ht => List.mem_append_right _ (List.mem_map.2 ⟨t, ht, rfl⟩)
  refine ⟨r, O', rfl, F.st, T, Φ', h, fun t ht => F.th _ (hm t ht), fun t ht b hb => ?_, ?_, fun f hf => F.fa f (hΦ f hf)⟩
  · have := F.ow _ (hm t ht) b hb
    refine ⟨this.1, ?_⟩
    rcases hk with rfl | rfl
    · exact this.2.1 rfl
    · exact .inr (this.2.2 rfl)
  · have h1 := (List.pairwise_append.1 F.ap).2.1
    have h2 := List.Pairwise.map (S := fun (s t : Thing) => ∀ b, b ∈ s.bs → b ∉ t.bs) (f := fun (x : KT) => x.2) (fun a b h => h) h1
    rw [List.map_map] at h2
    have e : ((fun (x : KT) => x.2) ∘ fun t => (k, t)) = id := rfl
    rw [e, List.map_id] at h2
    exact h2
end
end Gk
