/- The engine: straight-line symbolic execution of the model's code by explicit rules, over an environment of temporaries. Nothing here speaks of one program. -/
import Derived.WalkKit
import Derived.CallsIn
import Derived.TacticsIn
import Derived.OrdersIn
import Derived.LoopNIn
namespace Gk
open Go
set_option linter.unusedVariables false

/-! ### environments -/

abbrev Env := List (Nat × Value)

def Env.get : Env → Nat → Option Value
  | [], _ => none
  | (d, v) :: ρ, t => bif Nat.beq d t then some v else Env.get ρ t

def Sat (ρ : Env) (a : Act) : Prop := ∀ t v, ρ.get t = some v → a.tmps[t]? = some v

def evo (ρ : Env) : Operand → Option Value
  | .tmp t => ρ.get t
  | .const v => some v
  | .global g => some (.pointer (some ⟨g, 0, none⟩))
  | .func f => some (.func (.func f) #[] #[])

def evs (ρ : Env) : List Operand → Option (List Value)
  | [] => some []
  | x :: xs => match evo ρ x, evs ρ xs with
    | some v, some vs => some (v :: vs)
    | _, _ => none

def evps (ρ : Env) : List (Nat × Operand) → Option (List (Nat × Value))
  | [] => some []
  | (i, x) :: xs => match evo ρ x, evps ρ xs with
    | some v, some vs => some ((i, v) :: vs)
    | _, _ => none

theorem eval_of {ρ : Env} {a : Act} (h : Sat ρ a) {x : Operand} {v : Value} (e : evo ρ x = some v) : a.eval x = v := by
  cases x with
  | tmp t => have := h t v e; simp [Act.eval, this]
  | const u => simpa [evo, Act.eval] using e
  | global g => simpa [evo, Act.eval] using e
  | func f => simpa [evo, Act.eval] using e

theorem evals_of {ρ : Env} {a : Act} (h : Sat ρ a) : ∀ {xs : List Operand} {vs : List Value}, evs ρ xs = some vs → xs.map a.eval = vs
  | [], vs, e => by simpa [evs] using e
  | x :: xs, vs, e => by
    unfold evs at e
    split at e
    · rename_i v us h1 h2
      simp only [Option.some.injEq] at e
      subst e
      simp [eval_of h h1, evals_of h h2]
    · cases e

theorem evalps_of {ρ : Env} {a : Act} (h : Sat ρ a) : ∀ {xs : List (Nat × Operand)} {vs : List (Nat × Value)}, evps ρ xs = some vs → xs.map (fun (i, x) => (i, a.eval x)) = vs
  | [], vs, e => by simpa [evps] using e
  | (i, x) :: xs, vs, e => by
    unfold evps at e
    split at e
    · rename_i v us h1 h2
      simp only [Option.some.injEq] at e
      subst e
      have := evalps_of h h2
      simp only [List.map_cons, eval_of h h1, this]
    · cases e

theorem Sat.put {ρ : Env} {a : Act} {n : Nat} (h : Sat ρ a) (hn : a.tmps.size = n) {d : Nat} (hd : Nat.blt d n = true) (v : Value) :
    Sat ((d, v) :: ρ) (a.put (some d) v) := by
  have hd' : d < n := by rw [Nat.blt_eq] at hd; exact hd
  intro t u e
  simp only [Env.get, Act.put] at *
  by_cases hdt : d = t
  · subst hdt
    simp at e
    subst e
    simp [hn, hd']
  · have : Nat.beq d t = false := by rw [← Bool.not_eq_true, Nat.beq_eq]; exact hdt
    rw [this] at e
    simp only [cond_false] at e
    rw [Array.getElem?_setIfInBounds_ne hdt]
    exact h t u e

theorem put_size (a : Act) (d : Option Tmp) (v : Value) : (a.put d v).tmps.size = a.tmps.size := by
  cases d <;> simp [Act.put]

theorem put_defers (a : Act) (d : Option Tmp) (v : Value) : (a.put d v).defers = a.defers := by
  cases d <;> rfl

/-- What a store of a result into a slot (or into none) does to the environment. -/
def upO (ρ : Env) (d : Option Nat) (v : Value) : Env :=
  match d with
  | some d => (d, v) :: ρ
  | none => ρ

def okO (n : Nat) (d : Option Nat) : Bool :=
  match d with
  | some d => Nat.blt d n
  | none => true

theorem Sat.putO {ρ : Env} {a : Act} {n : Nat} (h : Sat ρ a) (hn : a.tmps.size = n) {d : Option Nat} (hd : okO n d = true) (v : Value) :
    Sat (upO ρ d v) (a.put d v) := by
  cases d with
  | none => exact h
  | some d => exact h.put hn hd v

/-! ### where code runs -/

/-- What is deferred, and the round of a range over a function that it runs in, if it does. -/
structure Dr where
  ds : List Deferred
  rd : Option Nat
def Dr.none : Dr := ⟨[], .none⟩

/-- All functions may be called, as deep as may be. -/
def Fn (r : Option Nat) : Fence := { Fence.wide with round := r }

/-- What an operation does, if it is no 'defer'. -/
def opW (P : Program) (o : Oper) (a : Act) (w : World) (K : Act → World → Prop) (Q : Exit → Act → World → Prop) : Prop :=
  o.uponIn Fence.wide 0 P a K Q ((execOp a.eval o).run P w)

def nd (o : Oper) : Bool := match o.op with
  | .defer _ => false
  | _ => true
def nds : List Oper → Bool
  | [] => true
  | o :: os => nd o && nds os
theorem nd_ne {o : Oper} (h : nd o = true) (c : Call) : o.op ≠ .defer c := by
  intro e
  unfold nd at h
  rw [e] at h
  cases h

theorem opW_in {P : Program} {o : Oper} {a : Act} {w : World} {K : Act → World → Prop} {Q : Exit → Act → World → Prop} (r : Option Nat) (hn : nd o = true) (h : opW P o a w K Q) : o.wpIn (Fn r) 0 P a w K Q := by
  refine ⟨fun _ _ => trivial, ?_⟩
  rw [Oper.semAt_eq _ _ _ (fun c => nd_ne hn c)]
  exact h

/-- What a list of operations does. -/
def wpL (P : Program) (all : Array Oper) (Q : Exit → Act → World → Prop) : List Oper → Act → World → Prop
  | [], a, w => Q .normal a w
  | o :: os, a, w => if Region.wanted o (yielded all a.tmps) then opW P o a w (wpL P all Q os) Q else wpL P all Q os (a.put o.dst undef) w

theorem wpL_in {P : Program} {all : Array Oper} {Q : Exit → Act → World → Prop} (r : Option Nat) : ∀ (os : List Oper) (a : Act) (w : World), nds os = true → wpL P all Q os a w → wpListIn (Fn r) 0 P all Q os a w
  | [], _, _, _, h => h
  | o :: os, a, w, hn, h => by
    simp only [nds, Bool.and_eq_true] at hn
    unfold wpL at h
    unfold wpListIn
    split
    · rename_i hw
      simp only [hw, if_true] at h
      exact Oper.wpIn_mono (fun a w h => wpL_in r os a w hn.2 h) (opW_in r hn.1 h)
    · rename_i hw
      simp only [hw] at h
      exact ⟨fun _ _ => trivial, wpL_in r os _ _ hn.2 h⟩

theorem wpL_plain {P : Program} {all : Array Oper} {Q : Exit → Act → World → Prop} {o : Oper} {os : List Oper} {a : Act} {w : World} (hg : o.guard = none) (h : opW P o a w (wpL P all Q os) Q) : wpL P all Q (o :: os) a w := by
  unfold wpL
  simp only [Region.wanted, hg, if_true]
  exact h

/-- What code does, there. -/
abbrev wpR (r : Option Nat) (P : Program) (c : Code) (Q : Exit → Act → World → Prop) (a : Act) (w : World) : Prop := c.wpIn (Fn r) 0 P Q a w

/-! ### judgements -/

/-- At an exit. -/
def E (n : Nat) (ρ : Env) (D : Dr) (w : World) (Q : Exit → Act → World → Prop) (e : Exit) : Prop :=
  ∀ a : Act, a.tmps.size = n → Sat ρ a → a.defers = D.ds → Q e a w

/-- At a piece of code. -/
def G (P : Program) (n : Nat) (c : Code) (ρ : Env) (D : Dr) (w : World) (Q : Exit → Act → World → Prop) : Prop :=
  ∀ a : Act, a.tmps.size = n → Sat ρ a → a.defers = D.ds → wpR D.rd P c Q a w

/-- At a list of operations of a region. -/
def R (P : Program) (n : Nat) (all : Array Oper) (os : List Oper) (ρ : Env) (D : Dr) (w : World) (Q : Exit → Act → World → Prop) : Prop :=
  ∀ a : Act, a.tmps.size = n → Sat ρ a → a.defers = D.ds → wpL P all Q os a w

section
variable {P : Program} {n : Nat} {ρ : Env} {D : Dr} {w : World} {Q : Exit → Act → World → Prop}

/-! ### code -/

theorem g_seq {x y : Code} (h : G P n x ρ D w (Exit.then (wpR D.rd P y Q) Q)) : G P n (.seq x y) ρ D w Q :=
  fun a h1 h2 h3 => wpIn_seq (h a h1 h2 h3)

theorem e_then {y : Code} (h : G P n y ρ D w Q) : E n ρ D w (Exit.then (wpR D.rd P y Q) Q) .normal :=
  fun a h1 h2 h3 => h a h1 h2 h3

theorem e_then_ret {K : Act → World → Prop} (h : E n ρ D w Q .ret) : E n ρ D w (Exit.then K Q) .ret := h
theorem e_then_exit {K : Act → World → Prop} {id : Nat} (h : E n ρ D w Q (.exit id)) : E n ρ D w (Exit.then K Q) (.exit id) := h
theorem e_then_panic {K : Act → World → Prop} {c : List PanicEntry} (h : E n ρ D w Q (.panic c)) : E n ρ D w (Exit.then K Q) (.panic c) := h
theorem e_block_normal {id : Nat} (h : E n ρ D w Q .normal) : E n ρ D w (Exit.inBlock id Q) .normal := h
theorem e_block_ret {id : Nat} (h : E n ρ D w Q .ret) : E n ρ D w (Exit.inBlock id Q) .ret := h
theorem e_block_panic {id : Nat} {c : List PanicEntry} (h : E n ρ D w Q (.panic c)) : E n ρ D w (Exit.inBlock id Q) (.panic c) := h
theorem e_block_exit {id : Nat} (h : E n ρ D w Q .normal) : E n ρ D w (Exit.inBlock id Q) (.exit id) :=
  fun a h1 h2 h3 => by simp only [Exit.inBlock, if_true]; exact h a h1 h2 h3
theorem e_block_exit_ne {id id' : Nat} (hne : Nat.beq id' id = false) (h : E n ρ D w Q (.exit id')) : E n ρ D w (Exit.inBlock id Q) (.exit id') :=
  fun a h1 h2 h3 => by
    have : id' ≠ id := fun e => by subst e; simp at hne
    simp only [Exit.inBlock, this, if_false]; exact h a h1 h2 h3

theorem g_skip (h : E n ρ D w Q .normal) : G P n .skip ρ D w Q := fun a h1 h2 h3 => wpIn_skip (h a h1 h2 h3)
theorem g_label {l : Nat} (h : E n ρ D w Q .normal) : G P n (.label l) ρ D w Q := fun a h1 h2 h3 => wpIn_label (h a h1 h2 h3)
theorem g_exit {id : Nat} (h : E n ρ D w Q (.exit id)) : G P n (.exit id) ρ D w Q := fun a h1 h2 h3 => wpIn_exit (h a h1 h2 h3)
theorem g_ret (h : E n ρ D w Q .ret) : G P n .ret ρ D w Q := fun a h1 h2 h3 => wpIn_ret (h a h1 h2 h3)
theorem g_block {id : Nat} {c : Code} (h : G P n c ρ D w (Exit.inBlock id Q)) : G P n (.block id c) ρ D w Q :=
  fun a h1 h2 h3 => wpIn_block (h a h1 h2 h3)

theorem g_region {id : Nat} {l : List Oper} (h : R P n l.toArray l ρ D w Q) (hn : nds l = true := by rfl) : G P n (.region id l.toArray false) ρ D w Q :=
  fun a h1 h2 h3 => wpIn_region_lit (wpL_in D.rd l a w hn (h a h1 h2 h3))

theorem g_true {c : Operand} {x y : Code} (hc : evo ρ c = some (.bool true)) (h : G P n x ρ D w Q) : G P n (.cond c x y) ρ D w Q :=
  fun a h1 h2 h3 => wpIn_cond_true (eval_of h2 hc) (h a h1 h2 h3)
theorem g_false {c : Operand} {x y : Code} (hc : evo ρ c = some (.bool false)) (h : G P n y ρ D w Q) : G P n (.cond c x y) ρ D w Q :=
  fun a h1 h2 h3 => wpIn_cond_false (eval_of h2 hc) (h a h1 h2 h3)
theorem g_cond {c : Operand} {x y : Code} {b : Bool} (hc : evo ρ c = some (.bool b)) (ht : b = true → G P n x ρ D w Q) (hf : b = false → G P n y ρ D w Q) :
    G P n (.cond c x y) ρ D w Q :=
  fun a h1 h2 h3 => wpIn_cond_split (eval_of h2 hc) (fun e => ht e a h1 h2 h3) (fun e => hf e a h1 h2 h3)
theorem g_dec {c : Operand} {x y : Code} {p : Prop} {hp : Decidable p} (hc : evo ρ c = some (.bool (decide p))) (ht : p → G P n x ρ D w Q) (hf : ¬ p → G P n y ρ D w Q) :
    G P n (.cond c x y) ρ D w Q :=
  g_cond hc (fun e => ht (of_decide_eq_true e)) (fun e => hf (of_decide_eq_false e))
theorem g_ndec {c : Operand} {x y : Code} {p : Prop} {hp : Decidable p} (hc : evo ρ c = some (.bool (!decide p))) (ht : ¬ p → G P n x ρ D w Q) (hf : p → G P n y ρ D w Q) :
    G P n (.cond c x y) ρ D w Q :=
  g_cond hc (fun e => ht (of_decide_eq_false (by simpa using e))) (fun e => hf (of_decide_eq_true (by simpa using e)))

/-- All that is asked of 'ρI' is in 'ρ'. -/
def Env.Sub (ρI ρ : Env) : Prop := ∀ t v, ρI.get t = some v → ρ.get t = some v
theorem sub_nil {ρ : Env} : Env.Sub [] ρ := fun _ _ h => by cases h
theorem sub_cons {ρ ρI : Env} {t : Nat} {v v' : Value} (h : ρ.get t = some v') (e : v' = v) (hs : Env.Sub ρI ρ) : Env.Sub ((t, v) :: ρI) ρ := by
  intro s u hu
  simp only [Env.get] at hu
  by_cases hts : t = s
  · subst hts; simp at hu; subst hu; rw [h, e]
  · have : Nat.beq t s = false := by rw [← Bool.not_eq_true, Nat.beq_eq]; exact hts
    rw [this] at hu; exact hs s u hu
theorem Sat.sub {ρ ρI : Env} {a : Act} (h : Sat ρ a) (hs : Env.Sub ρI ρ) : Sat ρI a := fun t v e => h t v (hs t v e)

theorem g_weak {c : Code} {ρ' : Env} (hs : Env.Sub ρ' ρ) (h : G P n c ρ' D w Q) : G P n c ρ D w Q := fun a h1 h2 h3 => h a h1 (h2.sub hs) h3
theorem e_weak {e : Exit} {ρ' : Env} (hs : Env.Sub ρ' ρ) (h : E n ρ' D w Q e) : E n ρ D w Q e := fun a h1 h2 h3 => h a h1 (h2.sub hs) h3

/-- The post of a loop's round. -/
def Round {X : Type} (n : Nat) (ρI : X → Env) (D : Dr) (I : X → World → Prop) (m : Nat) (μ : X → Nat) (Q : Exit → Act → World → Prop) : Exit → Act → World → Prop :=
  Exit.then (fun a w => ∃ x, a.tmps.size = n ∧ Sat (ρI x) a ∧ a.defers = D.ds ∧ I x w ∧ μ x < m) Q

theorem e_round {X : Type} {ρI : X → Env} {I : X → World → Prop} {m : Nat} {μ : X → Nat} (x : X) (hs : Env.Sub (ρI x) ρ) (hI : I x w) (hm : μ x < m) :
    E n ρ D w (Round n ρI D I m μ Q) .normal :=
  fun a h1 h2 h3 => ⟨x, h1, h2.sub hs, h3, hI, hm⟩
theorem e_round_ret {X : Type} {ρI : X → Env} {I : X → World → Prop} {m : Nat} {μ : X → Nat} (h : E n ρ D w Q .ret) : E n ρ D w (Round n ρI D I m μ Q) .ret := h
theorem e_round_exit {X : Type} {ρI : X → Env} {I : X → World → Prop} {m : Nat} {μ : X → Nat} {id : Nat} (h : E n ρ D w Q (.exit id)) : E n ρ D w (Round n ρI D I m μ Q) (.exit id) := h
theorem e_round_panic {X : Type} {ρI : X → Env} {I : X → World → Prop} {m : Nat} {μ : X → Nat} {c : List PanicEntry} (h : E n ρ D w Q (.panic c)) : E n ρ D w (Round n ρI D I m μ Q) (.panic c) := h

/-- What is known between two parts. -/
theorem g_mid {X : Type} {c y : Code} (ρI : X → Env) (I : X → World → Prop) (h : G P n c ρ D w (Round n ρI D I 1 (fun _ => 0) Q)) (k : ∀ x w, I x w → G P n y (ρI x) D w Q) :
    G P n c ρ D w (Exit.then (wpR D.rd P y Q) Q) := by
  intro a h1 h2 h3
  refine wpIn_mono (h a h1 h2 h3) ?_
  intro e a' w' hq
  cases e with
  | normal =>
    obtain ⟨x, g1, g2, g3, g4, _⟩ := hq
    exact k x w' g4 a' g1 g2 g3
  | _ => exact hq

theorem least {p : Nat → Prop} (h : ∃ m, p m) : ∃ m, p m ∧ ∀ k, p k → m ≤ k := by
  obtain ⟨m, hm⟩ := h
  induction m using Nat.strongRecOn with
  | _ m ih =>
    by_cases h : ∃ k, k < m ∧ p k
    · obtain ⟨k, hk, hp⟩ := h; exact ih k hk hp
    · exact ⟨m, hm, fun k hk => Nat.le_of_not_lt fun hlt => h ⟨k, hlt, hk⟩⟩

/-- A loop: 'x' is the ghost state, 'ρI x' the slots at the head, 'I x w' what is known. -/
theorem g_loop {X : Type} {c : Code} (ρI : X → Env) (I : X → World → Prop) (μ : X → Nat) (x : X) (hs : Env.Sub (ρI x) ρ) (hI : I x w)
    (round : ∀ x w, I x w → G P n c (ρI x) D w (Round n ρI D I (μ x) μ Q)) : G P n (.loop c) ρ D w Q := by
  intro a h1 h2 h3
  let V : Act → World → X → Prop := fun a w x => a.tmps.size = n ∧ Sat (ρI x) a ∧ a.defers = D.ds ∧ I x w
  let M : Act → World → Nat := fun a w => Classical.epsilon fun m => (∃ x, V a w x ∧ μ x = m) ∧ ∀ k, (∃ x, V a w x ∧ μ x = k) → m ≤ k
  have hM : ∀ a w, (∃ x, V a w x) → (∃ x, V a w x ∧ μ x = M a w) ∧ ∀ k, (∃ x, V a w x ∧ μ x = k) → M a w ≤ k := fun a w ⟨x, hx⟩ =>
    Classical.epsilon_spec (least (p := fun m => ∃ x, V a w x ∧ μ x = m) ⟨_, x, hx, rfl⟩)
  refine wpIn_loop (fun a w => ∃ x, V a w x) M ⟨x, h1, h2.sub hs, h3, hI⟩ ?_
  intro a w hx
  obtain ⟨⟨y, hy, hm⟩, _⟩ := hM a w hx
  refine wpIn_mono (round y w hy.2.2.2 a hy.1 hy.2.1 hy.2.2.1) ?_
  intro e a' w' hq
  cases e with
  | normal =>
    obtain ⟨z, z1, z2, z3, z4, z5⟩ := hq
    have hz : V a' w' z := ⟨z1, z2, z3, z4⟩
    exact ⟨⟨z, hz⟩, by rw [← hm]; exact Nat.lt_of_le_of_lt ((hM a' w' ⟨z, hz⟩).2 _ ⟨z, hz, rfl⟩) z5⟩
  | _ => exact hq

end

/-! ### functions -/

def mkEnv : Nat → List Value → Env
  | _, [] => []
  | i, v :: vs => (i, v) :: mkEnv (i + 1) vs

theorem mkEnv_get : ∀ (vs : List Value) (i t : Nat) (v : Value), (mkEnv i vs).get t = some v → i ≤ t ∧ vs[t - i]? = some v
  | [], _, _, _, h => by cases h
  | u :: us, i, t, v, h => by
    simp only [mkEnv, Env.get] at h
    by_cases hit : i = t
    · subst hit; simp at h; subst h; simp
    · have : Nat.beq i t = false := by rw [← Bool.not_eq_true, Nat.beq_eq]; exact hit
      rw [this] at h
      obtain ⟨h1, h2⟩ := mkEnv_get us (i + 1) t v h
      refine ⟨by omega, ?_⟩
      have : t - i = (t - (i + 1)) + 1 := by omega
      rw [this]; simpa using h2

/-- May it be called as Go text? -/
def Ent (P : Program) (f : FuncId) : Prop := ∃ fn, P.funcs[f]? = some fn ∧ (fn.name == "runtime.NumGoroutine") = false ∧ fn.body.isNone = false

theorem enter {P : Program} {f : FuncId} {fn : Func} {c : Code} {args : List Value} {w : World} {K : Ending → World → Prop} (n : Nat)
    (hf : P.funcs[f]? = some fn) (hb : fn.body = some c) (hn : fn.ntmps = n) (hargs : Nat.ble args.length n = true)
    (h : G P n c (mkEnv 0 args) Dr.none w (bodyPost P fn K)) : Calls P f args.toArray w K := by
  have hle : args.length ≤ n := Nat.le_of_ble_eq_true hargs
  refine calls_of_wp hf hb (wpIn_wide.1 (h _ ?_ ?_ rfl))
  · simp [hn]; omega
  · intro t v e
    obtain ⟨_, h2⟩ := mkEnv_get _ _ _ _ e
    have hlt : t < args.length := by
      rcases Nat.lt_or_ge t args.length with h | h
      · exact h
      · simp [List.getElem?_eq_none h] at h2
    rw [Array.getElem?_append_left (by simpa using hlt)]
    simpa using h2

theorem ret1 {P : Program} {n : Nat} {ρ : Env} {w : World} {fn : Func} {K : Ending → World → Prop} {e : Exit} {t : Nat} {v : Value} (he : e = .ret ∨ e = .normal)
    (hr : fn.results = #[.tmp t]) (hv : ρ.get t = some v) (h : K (.returned v) w) : E n ρ Dr.none w (bodyPost P fn K) e := by
  intro a h1 h2 h3
  have hv' := h2 t v hv
  have : (results fn a.tmps).run P w = .ok v w := by rw [results_tmp hr]; simp [hv']
  rcases he with rfl | rfl <;> exact ⟨h3, v, this, h⟩

theorem ret2 {P : Program} {n : Nat} {ρ : Env} {w : World} {fn : Func} {K : Ending → World → Prop} {e : Exit} {t u : Nat} {v x : Value} (he : e = .ret ∨ e = .normal)
    (hr : fn.results = #[.tmp t, .tmp u]) (hv : ρ.get t = some v) (hx : ρ.get u = some x) (h : K (.returned (.tuple #[v, x])) w) : E n ρ Dr.none w (bodyPost P fn K) e := by
  intro a h1 h2 h3
  have hv' := h2 t v hv
  have hx' := h2 u x hx
  have : (results fn a.tmps).run P w = .ok (.tuple #[v, x]) w := by rw [results_tmp2 hr]; simp [hv', hx']
  rcases he with rfl | rfl <;> exact ⟨h3, _, this, h⟩

theorem ret3 {P : Program} {n : Nat} {ρ : Env} {w : World} {fn : Func} {K : Ending → World → Prop} {e : Exit} {t u s : Nat} {v x y : Value} (he : e = .ret ∨ e = .normal)
    (hr : fn.results = #[.tmp t, .tmp u, .tmp s]) (hv : ρ.get t = some v) (hx : ρ.get u = some x) (hy : ρ.get s = some y) (h : K (.returned (.tuple #[v, x, y])) w) :
    E n ρ Dr.none w (bodyPost P fn K) e := by
  intro a h1 h2 h3
  have hv' := h2 t v hv
  have hx' := h2 u x hx
  have hy' := h2 s y hy
  have : (results fn a.tmps).run P w = .ok (.tuple #[v, x, y]) w := by rw [results_tmp3 hr]; simp [hv', hx', hy']
  rcases he with rfl | rfl <;> exact ⟨h3, _, this, h⟩

theorem ret0 {P : Program} {n : Nat} {ρ : Env} {w : World} {fn : Func} {K : Ending → World → Prop} {e : Exit} (he : e = .ret ∨ e = .normal)
    (hr : fn.results = #[]) (h : K (.returned (.tuple #[])) w) : E n ρ Dr.none w (bodyPost P fn K) e := by
  intro a h1 h2 h3
  have : (results fn a.tmps).run P w = .ok (.tuple #[]) w := results_none hr _ _ _
  rcases he with rfl | rfl <;> exact ⟨h3, _, this, h⟩

/-! ### operations -/

section
variable {P : Program} {n : Nat} {all : Array Oper} {os : List Oper} {ρ : Env} {D : Dr} {w : World} {Q : Exit → Act → World → Prop}
variable {d : Option Nat} {ty : TypeId} {pos : String} {af : Array Edge}

theorem r_nil (h : E n ρ D w Q .normal) : R P n all [] ρ D w Q := fun a h1 h2 h3 => h a h1 h2 h3

theorem r_weak {ρ' : Env} (hs : Env.Sub ρ' ρ) (h : R P n all os ρ' D w Q) : R P n all os ρ D w Q := fun a h1 h2 h3 => h a h1 (h2.sub hs) h3

/-- Any operation that yields a value. -/
theorem r_val {op : Op} {v : Value} {w' : World} (hd : okO n d = true) (hx : ∀ a, Sat ρ a → (execOp a.eval ⟨d, op, ty, pos, af, none⟩).run P w = .ok (.value v) w')
    (h : R P n all os (upO ρ d v) D w' Q) : R P n all (⟨d, op, ty, pos, af, none⟩ :: os) ρ D w Q := by
  intro a h1 h2 h3
  refine wpL_plain rfl ?_
  unfold opW
  rw [hx a h2]
  exact (h _ (by rw [put_size, h1]) (h2.putO h1 hd v) (by rw [put_defers, h3]))

/-- Any operation that is done for its effect. -/
theorem r_do {op : Op} {w' : World} (hd : okO n d = true) (hx : ∀ a, Sat ρ a → (execOp a.eval ⟨d, op, ty, pos, af, none⟩).run P w = .ok .skip w')
    (h : R P n all os (upO ρ d undef) D w' Q) : R P n all (⟨d, op, ty, pos, af, none⟩ :: os) ρ D w Q := by
  intro a h1 h2 h3
  refine wpL_plain rfl ?_
  unfold opW
  rw [hx a h2]
  exact (h _ (by rw [put_size, h1]) (h2.putO h1 hd _) (by rw [put_defers, h3]))

/-- An operation that calls Go text. -/
theorem r_enter {op : Op} {f : FuncId} {args : Array Value} {w' : World} (hd : okO n d = true) (hx : ∀ a, Sat ρ a → (execOp a.eval ⟨d, op, ty, pos, af, none⟩).run P w = .ok (.enter f args) w')
    (h : Calls P f args w' fun e w'' => ∃ v, e = .returned v ∧ R P n all os (upO ρ d v) D w'' Q) : R P n all (⟨d, op, ty, pos, af, none⟩ :: os) ρ D w Q := by
  intro a h1 h2 h3
  refine wpL_plain rfl ?_
  unfold opW
  rw [hx a h2]
  refine ⟨fun h => (by cases h), callsIn_wide.2 (Calls.mono h ?_)⟩
  rintro e w'' ⟨v, rfl, hr⟩
  exact (hr _ (by rw [put_size, h1]) (h2.putO h1 hd v) (by rw [put_defers, h3]))

/-- The guard of an operation. -/
theorem r_go {op : Op} {j : Nat} {want : Bool} {t : Nat} (hj : (all[j]?).bind (·.dst) = some t) (hv : ρ.get t = some (.bool want))
    (h : R P n all (⟨d, op, ty, pos, af, none⟩ :: os) ρ D w Q) : R P n all (⟨d, op, ty, pos, af, some (j, want)⟩ :: os) ρ D w Q := by
  intro a h1 h2 h3
  have hy : yielded all a.tmps j = some want := by simp [yielded, hj, h2 t _ hv]
  have := h a h1 h2 h3
  unfold wpL at this ⊢
  simp only [Region.wanted, hy, beq_self_eq_true, if_true] at this ⊢
  exact this

theorem r_pass {op : Op} {j : Nat} {want : Bool} {t : Nat} (hj : (all[j]?).bind (·.dst) = some t) (hv : ρ.get t = some (.bool (!want))) (hd : okO n d = true)
    (h : R P n all os (upO ρ d undef) D w Q) : R P n all (⟨d, op, ty, pos, af, some (j, want)⟩ :: os) ρ D w Q := by
  intro a h1 h2 h3
  have hy : yielded all a.tmps j = some (!want) := by simp [yielded, hj, h2 t _ hv]
  have hne : ((some (!want)) == some want) = false := by cases want <;> rfl
  unfold wpL
  simp only [Region.wanted, hy, hne, Bool.false_eq_true, if_false]
  exact h _ (by rw [put_size, h1]) (h2.putO h1 hd _) (by rw [put_defers, h3])

/-- The guard was itself passed over. -/
theorem r_passu {op : Op} {j : Nat} {want : Bool} {t : Nat} (hj : (all[j]?).bind (·.dst) = some t) (hv : ρ.get t = some undef) (hd : okO n d = true)
    (h : R P n all os (upO ρ d undef) D w Q) : R P n all (⟨d, op, ty, pos, af, some (j, want)⟩ :: os) ρ D w Q := by
  intro a h1 h2 h3
  have hy : yielded all a.tmps j = none := by simp [yielded, hj, h2 t _ hv, undef]
  unfold wpL
  simp only [Region.wanted, hy]
  exact h _ (by rw [put_size, h1]) (h2.putO h1 hd _) (by rw [put_defers, h3])

theorem set_sat {ρ : Env} {a : Act} (h : Sat ρ a) {t : Nat} {v : Value} (hv : ρ.get t = some v) : Sat ((t, v) :: ρ) a := by
  intro s u e
  simp only [Env.get] at e
  by_cases hts : t = s
  · subst hts; simp at e; subst e; exact h _ _ hv
  · have : Nat.beq t s = false := by rw [← Bool.not_eq_true, Nat.beq_eq]; exact hts
    rw [this] at e; exact h s u e

/-- The guard is not decided: it is parted. -/
theorem r_part {op : Op} {j : Nat} {want : Bool} {t : Nat} {b : Bool} (hj : (all[j]?).bind (·.dst) = some t) (hv : ρ.get t = some (.bool b))
    (ht : b = true → R P n all (⟨d, op, ty, pos, af, some (j, want)⟩ :: os) ((t, .bool true) :: ρ) D w Q)
    (hf : b = false → R P n all (⟨d, op, ty, pos, af, some (j, want)⟩ :: os) ((t, .bool false) :: ρ) D w Q) :
    R P n all (⟨d, op, ty, pos, af, some (j, want)⟩ :: os) ρ D w Q := by
  intro a h1 h2 h3
  cases b
  · exact hf rfl a h1 (set_sat h2 hv) h3
  · exact ht rfl a h1 (set_sat h2 hv) h3

theorem r_partd {op : Op} {j : Nat} {want : Bool} {t : Nat} {p : Prop} {hp : Decidable p} (hj : (all[j]?).bind (·.dst) = some t) (hv : ρ.get t = some (.bool (decide p)))
    (ht : p → R P n all (⟨d, op, ty, pos, af, some (j, want)⟩ :: os) ((t, .bool true) :: ρ) D w Q)
    (hf : ¬ p → R P n all (⟨d, op, ty, pos, af, some (j, want)⟩ :: os) ((t, .bool false) :: ρ) D w Q) :
    R P n all (⟨d, op, ty, pos, af, some (j, want)⟩ :: os) ρ D w Q :=
  r_part hj hv (fun e => ht (of_decide_eq_true e)) (fun e => hf (of_decide_eq_false e))

theorem r_partn {op : Op} {j : Nat} {want : Bool} {t : Nat} {p : Prop} {hp : Decidable p} (hj : (all[j]?).bind (·.dst) = some t) (hv : ρ.get t = some (.bool (!decide p)))
    (ht : ¬ p → R P n all (⟨d, op, ty, pos, af, some (j, want)⟩ :: os) ((t, .bool true) :: ρ) D w Q)
    (hf : p → R P n all (⟨d, op, ty, pos, af, some (j, want)⟩ :: os) ((t, .bool false) :: ρ) D w Q) :
    R P n all (⟨d, op, ty, pos, af, some (j, want)⟩ :: os) ρ D w Q :=
  r_part hj hv (fun e => ht (of_decide_eq_false (by simpa using e))) (fun e => hf (of_decide_eq_true (by simpa using e)))

/-- A value under another name. -/
theorem r_as {t : Nat} {v v' : Value} (e : v = v') (h : R P n all os ((t, v') :: ρ) D w Q) : R P n all os ((t, v) :: ρ) D w Q := by subst e; exact h

/-! #### what needs no memory and no types -/

def cmpV (op : BinOp) (a b : Int) : Option Value :=
  match op with
  | .eql => some (.bool (decide (a = b)))
  | .neq => some (.bool (!decide (a = b)))
  | .lss => some (.bool (decide (a < b)))
  | .leq => some (.bool (decide (a ≤ b)))
  | .gtr => some (.bool (decide (b < a)))
  | .geq => some (.bool (decide (b ≤ a)))
  | _ => none

def kindEq : IntKind → IntKind → Bool
  | .i8, .i8 | .i16, .i16 | .i32, .i32 | .i64, .i64 | .u8, .u8 | .u16, .u16 | .u32, .u32 | .u64, .u64 => true
  | _, _ => false

theorem kindEq_eq {j k : IntKind} (h : kindEq j k = true) : j = k := by cases j <;> cases k <;> first | rfl | cases h

def strV (op : BinOp) (a b : ByteArray) : Option Value :=
  match op with
  | .eql => some (.bool (decide (a = b)))
  | .neq => some (.bool (!decide (a = b)))
  | _ => none

def pureV (ρ : Env) : Op → Option Value
  | .move x => evo ρ x
  | .assign x => evo ρ x
  | .pick c a b => match evo ρ c with
    | some (.bool true) => evo ρ a
    | some (.bool false) => evo ρ b
    | _ => none
  | .nilCheck x => match evo ρ x with
    | some (.pointer (some p)) => some (.pointer (some p))
    | some (.func (.func f) a b) => some (.func (.func f) a b)
    | _ => none
  | .extract x i => match evo ρ x with
    | some (.tuple vs) => vs[i]?
    | _ => none
  | .makeFunc fn xs ys => match evs ρ xs.toList, evs ρ ys.toList with
    | some us, some vs => some (.func fn us.toArray vs.toArray)
    | _, _ => none
  | .unOp .not _ x => match evo ρ x with
    | some (.bool b) => some (.bool (!b))
    | _ => none
  | .binOp op _ x y _ => match evo ρ x, evo ρ y with
    | some (.int k a), some (.int k' b) => bif kindEq k k' then cmpV op a b else none
    | some (.string a), some (.string b) => strV op a b
    | _, _ => none
  | _ => none

/-- The operation yields 'v' in the world 'w' and does nothing else. -/
def Y (P : Program) (ρ : Env) (w : World) (op : Op) (v : Value) : Prop :=
  ∀ a, Sat ρ a → ∀ d ty pos af, (execOp a.eval ⟨d, op, ty, pos, af, none⟩).run P w = .ok (.value v) w

theorem cmp_run {op : BinOp} {a b : Int} {v : Value} (h : cmpV op a b = some v) {k : IntKind} {T : TypeId} {x y : Operand} :
    (eqGuard op T x y (.int k a) (.int k b)).run P w = .ok () w ∧ (binOp op T (.int k a) (.int k b)).run P w = .ok v w := by
  cases op <;> simp only [cmpV, Option.some.injEq] at h <;> first
    | (cases h; done)
    | (subst h; refine ⟨by simp [eqGuard], ?_⟩; simp [binOp, Op.intCmp, bne]; done)
    | (subst h; refine ⟨by simp [eqGuard], ?_⟩; simp [binOp, Op.intCmp, bne]; rfl)

theorem bytes_beq (a b : ByteArray) : (a.toList == b.toList) = decide (a = b) := by
  rw [Bool.eq_iff_iff]
  simp only [beq_iff_eq, decide_eq_true_eq]
  constructor
  · intro h
    have h1 : ∀ x : ByteArray, x.toList = x.data.toList := fun x => ByteArray.toList_eq x
    rw [h1, h1] at h
    exact ByteArray.ext (Array.toList_inj.1 h)
  · rintro rfl; rfl

theorem str_run {op : BinOp} {a b : ByteArray} {v : Value} (h : strV op a b = some v) {T : TypeId} {x y : Operand} :
    (eqGuard op T x y (.string a) (.string b)).run P w = .ok () w ∧ (binOp op T (.string a) (.string b)).run P w = .ok v w := by
  cases op <;> simp only [strV, Option.some.injEq] at h <;> first
    | (cases h; done)
    | (subst h; refine ⟨by simp [eqGuard], ?_⟩; simp [binOp, Op.stringOp, bytes_beq]; done)

theorem y_pure {op : Op} {v : Value} (h : pureV ρ op = some v) : Y P ρ w op v := by
  intro a h2 d ty pos af
  cases op with
  | move x => simp only [execOp, eval_of h2 h]; rfl
  | assign x => simp only [execOp, eval_of h2 h]; rfl
  | pick c x y =>
    simp only [pureV] at h
    split at h
    · rename_i e; simp only [execOp, eval_of h2 e, eval_of h2 h]; rfl
    · rename_i e; simp only [execOp, eval_of h2 e, eval_of h2 h]; rfl
    · cases h
  | nilCheck x =>
    simp only [pureV] at h
    split at h
    · rename_i e; simp only [Option.some.injEq] at h; subst h; simp only [execOp, eval_of h2 e]; rfl
    · rename_i e; simp only [Option.some.injEq] at h; subst h; simp only [execOp, eval_of h2 e]; rfl
    · cases h
  | extract x i =>
    simp only [pureV] at h
    split at h
    · rename_i vs e; simp only [execOp, eval_of h2 e, Instr.extract, h]; rfl
    · cases h
  | makeFunc fn xs ys =>
    simp only [pureV] at h
    split at h
    · rename_i us vs e1 e2
      simp only [Option.some.injEq] at h; subst h
      have e1 := evals_of h2 e1
      have e2 := evals_of h2 e2
      have f1 : xs.map a.eval = us.toArray := by apply Array.ext'; simpa using e1
      have f2 : ys.map a.eval = vs.toArray := by apply Array.ext'; simpa using e2
      simp only [execOp, f1, f2]; rfl
    · cases h
  | unOp o T x =>
    cases o <;> simp only [pureV] at h <;> first | (cases h; done) | skip
    split at h
    · rename_i b e; simp only [Option.some.injEq] at h; subst h; simp only [execOp, eval_of h2 e]; rfl
    · cases h
  | binOp o T x y yT =>
    simp only [pureV] at h
    split at h
    · rename_i k p k' q e1 e2
      cases hk : kindEq k k' <;> rw [hk] at h <;> simp only [cond_false, cond_true] at h
      · cases h
      · have := kindEq_eq hk
        subst this
        have := cmp_run (P := P) (w := w) h (k := k) (T := T) (x := x) (y := y)
        simp [execOp, eval_of h2 e1, eval_of h2 e2, this.1, this.2]
    · rename_i p q e1 e2
      have := str_run (P := P) (w := w) h (T := T) (x := x) (y := y)
      simp [execOp, eval_of h2 e1, eval_of h2 e2, this.1, this.2]
    · cases h
  | _ => cases h

theorem r_y {op : Op} {v : Value} (hy : Y P ρ w op v) (hd : okO n d = true) (h : R P n all os (upO ρ d v) D w Q) :
    R P n all (⟨d, op, ty, pos, af, none⟩ :: os) ρ D w Q := r_val hd (fun a h2 => hy a h2 _ _ _ _) h

theorem r_pure {op : Op} {v : Value} (hv : pureV ρ op = some v) (hd : okO n d = true) (h : R P n all os (upO ρ d v) D w Q) :
    R P n all (⟨d, op, ty, pos, af, none⟩ :: os) ρ D w Q := r_y (y_pure hv) hd h

end

/-! ### what is known of types, as classes: a seat's own text lays the instances -/

def aggB (P : Program) (T : TypeId) : Option Bool := (P.underlying T).map fun | .struct _ | .array _ _ => true | _ => false
def sizeB (P : Program) (T : TypeId) : Option Nat := (P.info? T).map (·.size)
def bytesB (P : Program) (T : TypeId) : Option Nat := (P.info? T).map (·.bytes)
def zeroB (P : Program) (T : TypeId) : Option Value := (P.info? T).bind (·.zero)
def fieldB (P : Program) (T i : Nat) : Option (Nat × Nat) :=
  match P.underlying T with
  | some (.struct fs) => match fs[i]? with
    | some f => (sizeB P f.type).map fun s => (f.offset, s)
    | none => none
  | _ => none

/-- A type of one cell that is no struct and no array. -/
class TOne (P : Program) (T : TypeId) : Prop where
  agg : aggB P T = some false
  size : sizeB P T = some 1

/-- A struct or an array of so many cells. -/
class TAgg (P : Program) (T : TypeId) (k : outParam Nat) : Prop where
  agg : aggB P T = some true
  size : sizeB P T = some k

/-- Field 'i' of a struct type lies 'off' cells in, and takes 'sz' cells, at least one. -/
class TField (P : Program) (T : TypeId) (i : Nat) (off sz : outParam Nat) : Prop where
  at_ : fieldB P T i = some (off, sz)
  nz : Nat.beq sz 0 = false

/-- A slice type: its element's type, cells, bytes. -/
class TSlice (P : Program) (T : TypeId) (e sz by_ : outParam Nat) : Prop where
  at_ : P.underlying T = some (.slice e)
  size : sizeB P e = some sz
  bytes : bytesB P e = some by_
  zero : (zeroB P e).map (fun z => z.cells.size) = some sz
  pos : Nat.blt 0 sz = true

class TInt (P : Program) (T : TypeId) (k : outParam IntKind) : Prop where
  at_ : P.underlying T = some (.int k)

class TBool (P : Program) (T : TypeId) : Prop where
  at_ : P.underlying T = some .bool

class TString (P : Program) (T : TypeId) : Prop where
  at_ : P.underlying T = some .string

class TPointer (P : Program) (T : TypeId) (e : outParam Nat) : Prop where
  at_ : P.underlying T = some (.pointer e)

class TMap (P : Program) (T : TypeId) (k e : outParam Nat) : Prop where
  at_ : P.underlying T = some (.map k e)

/-- The zero value. -/
class TZero (P : Program) (T : TypeId) (v : outParam Value) : Prop where
  at_ : zeroB P T = some v

section
variable {P : Program} {w : World}

theorem run_underlying {T : TypeId} {t : TypeDesc} (h : P.underlying T = some t) : (underlying T).run P w = .ok t w := by
  simp [underlying, h]
theorem run_info {T : TypeId} {i : TypeInfo} (h : P.info? T = some i) : (typeInfo T).run P w = .ok i w := by
  simp [typeInfo, h]
theorem info_size {T k : Nat} (h : sizeB P T = some k) : ∃ i, P.info? T = some i ∧ i.size = k := by
  unfold sizeB at h
  cases hi : P.info? T with
  | none => rw [hi] at h; cases h
  | some i => rw [hi] at h; exact ⟨i, rfl, by simpa using h⟩
theorem run_size {T k : Nat} (h : sizeB P T = some k) : (Go.sizeOf T).run P w = .ok k w := by
  obtain ⟨i, h1, h2⟩ := info_size h
  simp [Go.sizeOf, run_info h1, h2]
theorem info_bytes {T k : Nat} (h : bytesB P T = some k) : ∃ i, P.info? T = some i ∧ i.bytes = k := by
  unfold bytesB at h
  cases hi : P.info? T with
  | none => rw [hi] at h; cases h
  | some i => rw [hi] at h; exact ⟨i, rfl, by simpa using h⟩
theorem run_zero {T : TypeId} {v : Value} [h : TZero P T v] : (zeroValue T).run P w = .ok v w := by
  have := h.at_
  unfold zeroB at this
  cases hi : P.info? T with
  | none => rw [hi] at this; cases this
  | some i => rw [hi] at this; simp at this; simp [zeroValue, run_info hi, this]
theorem agg_under {T : TypeId} {b : Bool} (h : aggB P T = some b) : (isAgg T).run P w = .ok b w := by
  unfold aggB at h
  cases hu : P.underlying T with
  | none => rw [hu] at h; cases h
  | some t =>
    rw [hu] at h
    simp only [Option.map_some, Option.some.injEq] at h
    unfold isAgg
    simp only [Sem.run_bind, run_underlying hu, Result.andThen_ok]
    cases t <;> simp_all
theorem run_isAgg_one {T : TypeId} [h : TOne P T] : (isAgg T).run P w = .ok false w := agg_under h.agg
theorem run_isAgg_agg {T : TypeId} {k : Nat} [h : TAgg P T k] : (isAgg T).run P w = .ok true w := agg_under h.agg

/-- A variable of a type of one cell is read. -/
theorem run_load1 {T : TypeId} [TOne P T] {a : Addr} {v : Value} (h : w.cell? a = some v) : (loadVar T a).run P w = .ok v w := by
  simp [loadVar, run_isAgg_one, h]

theorem loadCellsFrom_ok (a : Addr) : ∀ (m i : Nat) (acc : Array Value) (vs : List Value), vs.length = m → (∀ j v, vs[j]? = some v → w.cell? (a.add (i + j)) = some v) →
    (loadCellsFrom a i m acc).run P w = .ok (acc ++ vs.toArray) w
  | 0, i, acc, vs, hl, _ => by
    have : vs = [] := List.length_eq_zero_iff.1 hl
    subst this; simp [loadCellsFrom]
  | m + 1, i, acc, vs, hl, hc => by
    match vs, hl with
    | v :: vs, hl =>
      have h0 := hc 0 v rfl
      rw [Nat.add_zero] at h0
      simp only [loadCellsFrom, Sem.run_bind, run_load, h0, Result.andThen_ok]
      rw [loadCellsFrom_ok a m (i + 1) (acc.push v) vs (by simpa using hl) (fun j u hj => by
        have := hc (j + 1) u (by simpa using hj)
        rwa [show i + (j + 1) = i + 1 + j from by omega] at this)]
      simp

theorem run_loadCells {a : Addr} {vs : List Value} (hc : ∀ j v, vs[j]? = some v → w.cell? (a.add j) = some v) : (loadCells a vs.length).run P w = .ok vs.toArray w := by
  unfold loadCells
  rw [loadCellsFrom_ok a vs.length 0 #[] vs rfl (fun j v hj => by simpa using hc j v hj)]
  simp

theorem run_loadAgg {T : TypeId} {k : Nat} [h : TAgg P T k] {a : Addr} {vs : List Value} (hk : vs.length = k) (hc : ∀ j v, vs[j]? = some v → w.cell? (a.add j) = some v) :
    (loadVar T a).run P w = .ok (.agg vs.toArray) w := by
  have := run_loadCells (P := P) hc
  rw [hk] at this
  simp [loadVar, run_isAgg_agg, run_size h.size, this]

theorem run_fieldPlace {T i off sz : Nat} [h : TField P T i off sz] {p : Addr} : (Instr.fieldAt T (.pointer (some p)) i).run P w = .ok (.pointer (some (p.add off))) w := by
  have h1 := h.at_
  have h2 : sz ≠ 0 := fun e => by have := h.nz; subst e; cases this
  unfold fieldB at h1
  split at h1
  · rename_i fs hu
    split at h1
    · rename_i f hf
      obtain ⟨s, hs, he⟩ := Option.map_eq_some_iff.1 h1
      simp only [Prod.mk.injEq] at he
      obtain ⟨rfl, rfl⟩ := he
      simp [Instr.fieldAt, run_underlying hu, hf, Instr.sureAddr, fieldPlace, run_size hs, h2]
    · cases h1
  · cases h1

end

section
variable {P : Program} {n : Nat} {all : Array Oper} {os : List Oper} {ρ : Env} {D : Dr} {w : World} {Q : Exit → Act → World → Prop}
variable {d : Option Nat} {ty : TypeId} {pos : String} {af : Array Edge}

theorem r_fieldAddr {T i off sz : Nat} [TField P T i off sz] {x : Operand} {p : Addr} (hd : okO n d = true) (hx : evo ρ x = some (.pointer (some p)))
    (h : R P n all os (upO ρ d (.pointer (some (p.add off)))) D w Q) : R P n all (⟨d, .fieldAddr T x i, ty, pos, af, none⟩ :: os) ρ D w Q :=
  r_val hd (fun a h2 => by simp [execOp, eval_of h2 hx, run_fieldPlace (T := T) (i := i)]) h

theorem r_load {T : Nat} [TOne P T] {x : Operand} {p : Addr} {v : Value} (hd : okO n d = true) (hx : evo ρ x = some (.pointer (some p))) (hv : w.cell? p = some v)
    (h : R P n all os (upO ρ d v) D w Q) : R P n all (⟨d, .load T x, ty, pos, af, none⟩ :: os) ρ D w Q :=
  r_val hd (fun a h2 => by simp [execOp, eval_of h2 hx, Instr.loadAt, Instr.sureAddr, run_load1 hv]) h

theorem r_loadAgg {T k : Nat} [TAgg P T k] {x : Operand} {p : Addr} {vs : List Value} (hd : okO n d = true) (hx : evo ρ x = some (.pointer (some p))) (hk : vs.length = k)
    (hc : ∀ j v, vs[j]? = some v → w.cell? (p.add j) = some v) (h : R P n all os (upO ρ d (.agg vs.toArray)) D w Q) :
    R P n all (⟨d, .load T x, ty, pos, af, none⟩ :: os) ρ D w Q :=
  r_val hd (fun a h2 => by simp [execOp, eval_of h2 hx, Instr.loadAt, Instr.sureAddr, run_loadAgg (T := T) hk hc]) h

end
end Gk
