/- Regions that draw their order: one walk, in one order, serves all, if what only reads may be taken early. Nothing here speaks of one program. -/
import Derived.Test.YtcfpnghkkkphhaaGreatGkFx2
import Derived.OrdersHeld
import Derived.OrdersIn
namespace Gk
open Go
set_option linter.unusedVariables false

section
variable {P : Program} {ops : Array Oper} {Q : Exit → Act → World → Prop} {S : World → Prop} {tail : Nat → Bool}

/-- One operation of a region, by its number. -/
def wpO (P : Program) (ops : Array Oper) (Q : Exit → Act → World → Prop) (i : Nat) (K : Act → World → Prop) (a : Act) (w : World) : Prop :=
  match ops[i]? with
  | none => K a w
  | some o => if Region.wanted o (yielded ops a.tmps) then opW P o a w K Q else K (a.put o.dst undef) w

theorem upon_monoQ {o : Oper} {a : Act} {K K' : Act → World → Prop} {Q Q' : Exit → Act → World → Prop} (hk : ∀ a w, K a w → K' a w) (hp : ∀ c a w, Q (.panic c) a w → Q' (.panic c) a w) (hg : ∀ a w, Q .outgrown a w → Q' .outgrown a w) {r : Result Go.Next} (h : o.uponIn Fence.wide 0 P a K Q r) : o.uponIn Fence.wide 0 P a K' Q' r := by
  cases r with
  | ok n w' =>
    cases n <;> simp only [Oper.uponIn] at h ⊢ <;>
      first
        | exact hk _ _ h
        | exact ⟨h.1, CallsIn.mono h.2 (fun e w'' he => by
            cases e
            · exact hk _ _ he
            · exact hp _ _ _ he
            · obtain ⟨a, w, h⟩ := he; exact ⟨a, w, hg _ _ h⟩)⟩
        | exact ⟨h.1, RowsIn.mono h.2 (fun _ _ he => hk _ _ he)⟩
        | exact ⟨h.1, RoundIn.mono h.2 (fun e w'' he => by
            cases e
            · exact hk _ _ he
            · exact hp _ _ _ he
            · obtain ⟨a, w, h⟩ := he; exact ⟨a, w, hg _ _ h⟩)⟩
  | halt x w' => cases x <;> simp only [Oper.uponIn] at h ⊢ <;> exact hp _ _ _ h

theorem wpO_monoQ {i : Nat} {a : Act} {w : World} {K K' : Act → World → Prop} {Q Q' : Exit → Act → World → Prop} (hk : ∀ a w, K a w → K' a w) (hq : ∀ e a w, Q e a w → Q' e a w) (h : wpO P ops Q i K a w) : wpO P ops Q' i K' a w := by
  unfold wpO at *
  split
  · exact hk _ _ (by simpa [*] using h)
  · rename_i o ho
    simp only [ho] at h
    split
    · rename_i hw
      simp only [hw, if_true] at h
      exact upon_monoQ hk (fun c => hq (.panic c)) (hq .outgrown) h
    · rename_i hw; simp only [hw] at h; exact hk _ _ h
theorem wpO_mono {i : Nat} {a : Act} {w : World} {K K' : Act → World → Prop} (h : ∀ a w, K a w → K' a w) (hh : wpO P ops Q i K a w) : wpO P ops Q i K' a w := wpO_monoQ h (fun _ _ _ h => h) hh

theorem yieldsIf_wpO {i : Nat} {o : Oper} {v : Value} {a : Act} (hi : ops[i]? = some o) (hy : YieldsIf P ops S o v a) {K : Act → World → Prop} {w : World} (hS : S w) (h : K (a.put o.dst v) w) : wpO P ops Q i K a w := by
  unfold wpO
  simp only [hi]
  rcases hy with ⟨hw, hv⟩ | ⟨hw, rfl⟩
  · simp only [hw, if_true, opW, hv w hS, Oper.uponIn]; exact h
  · simp only [hw, Bool.false_eq_true, if_false]; exact h

theorem wpO_putIf {j : Nat} {oi oj : Oper} {v : Value} (hj : ops[j]? = some oj) (hap : oi.apart ops oj = true)
    (hsi : ∀ cs b, oi.op ≠ .select cs b) (hsj : ∀ cs b, oj.op ≠ .select cs b)
    (hQ : ∀ c a w, Q (.panic c) (a.put oi.dst v) w → Q (.panic c) a w) {K : Act → World → Prop} {a : Act} {w : World}
    (hy : YieldsIf P ops S oi v a) (h : wpO P ops Q j K (a.put oi.dst v) w) :
    wpO P ops Q j (fun a' w' => YieldsIf P ops S oi v a' ∧ K (a'.put oi.dst v) w') a w := by
  obtain ⟨h1, h2, h3⟩ := Oper.apart_spec hap
  have keep : ∀ (a : Act), YieldsIf P ops S oi v a → ∀ u, YieldsIf P ops S oi v (a.put oj.dst u) := fun a hy u =>
    hy.of_same (execOp_put oi hsi a oj.dst u h3) (wanted_put oi a oj.dst u h3)
  have keepD : ∀ d, YieldsIf P ops S oi v { a with defers := d :: a.defers } := fun d => hy.of_same rfl rfl
  unfold wpO at *
  simp only [hj] at *
  rw [wanted_put oj a oi.dst v h1] at h
  split
  · rename_i hw
    simp only [hw, if_true] at h
    unfold opW at *
    rw [execOp_put oj hsj a oi.dst v h1] at h
    generalize (execOp a.eval oj).run P w = r at *
    cases r with
    | ok n w' =>
      cases n <;> simp only [Oper.uponIn] at h ⊢
      case value u => exact ⟨keep a hy u, by rw [← Act.put_comm a v u h2]; exact h⟩
      case skip => exact ⟨keep a hy _, by rw [← Act.put_comm a v undef h2]; exact h⟩
      case defer d =>
        refine ⟨keep _ (keepD d) _, ?_⟩
        rw [← Act.put_comm _ v undef h2, ← Act.put_defers]
        exact h
      case enter f args =>
        refine ⟨h.1, CallsIn.mono h.2 fun e w'' he => ?_⟩
        cases e with
        | returned u => exact ⟨keep a hy u, by rw [← Act.put_comm a v u h2]; exact he⟩
        | panicked c => exact hQ _ _ _ he
        | outgrown => exact he
      case row row args => exact ⟨h.1, RowsIn.mono h.2 fun u w'' he => ⟨keep a hy u, by rw [← Act.put_comm a v u h2]; exact he⟩⟩
      case round l f tmps assign body =>
        refine ⟨h.1, RoundIn.mono h.2 fun e w'' he => ?_⟩
        cases e with
        | returned u => exact ⟨keep a hy u, by rw [← Act.put_comm a v u h2]; exact he⟩
        | panicked c => exact hQ _ _ _ he
        | outgrown => exact he
    | halt x w' =>
      cases x <;> simp only [Oper.uponIn] at h ⊢
      case panic u => exact hQ _ _ _ h
  · rename_i hw
    simp only [hw] at h
    exact ⟨keep a hy _, by rw [← Act.put_comm a v undef h2]; exact h⟩

/-- Whatever order is picked. -/
def wpY (P : Program) (ops : Array Oper) (Q : Exit → Act → World → Prop) : Nat → Array Bool → Act → World → Prop
  | 0, listed, a, w => Region.ready .any ops listed = [] ∧ Q .normal a w
  | fuel + 1, listed, a, w =>
    (Region.ready .any ops listed = [] → Q .normal a w) ∧
    ∀ i ∈ Region.ready .any ops listed, wpO P ops Q i (wpY P ops Q fuel (listed.setIfInBounds i true)) a w

theorem nds_mem {o : Oper} (l : List Oper) (h : nds l = true) (hm : o ∈ l) : nd o = true := by
  induction l with
  | nil => cases hm
  | cons x xs ih =>
    unfold nds at h
    rw [Bool.and_eq_true] at h
    rcases List.mem_cons.1 hm with e | hm
    · rw [e]; exact h.1
    · exact ih h.2 hm

theorem wpY_in (r : Option Nat) (hn : nds ops.toList = true) : ∀ (fuel : Nat) (listed : Array Bool) (a : Act) (w : World), wpY P ops Q fuel listed a w → wpAnyIn (Fn r) 0 P .any ops Q fuel listed a w
  | 0, _, _, _, h => h
  | fuel + 1, listed, a, w, h => by
    refine ⟨h.1, fun i hi => ?_⟩
    have h2 := h.2 i hi
    unfold wpO at h2
    unfold wpOpIn
    split
    · rename_i hx
      simp only [hx] at h2
      exact wpY_in r hn fuel _ _ _ h2
    · rename_i o ho
      simp only [ho] at h2
      have hno : nd o = true := nds_mem _ hn (by
        have := Array.mem_of_getElem? ho
        simpa using this)
      split
      · rename_i hw
        simp only [hw, if_true] at h2
        exact Oper.wpIn_mono (fun a w h => wpY_in r hn fuel _ a w h) (opW_in r hno h2)
      · rename_i hw
        simp only [hw] at h2
        exact ⟨fun _ _ => trivial, wpY_in r hn fuel _ _ _ h2⟩

/-- Whatever order is picked from here on; behind every operation that is not of the tail 'S' holds. -/
def wpT (P : Program) (ops : Array Oper) (Q : Exit → Act → World → Prop) (S : World → Prop) (tail : Nat → Bool) : Nat → Array Bool → Act → World → Prop
  | 0, listed, a, w => Region.ready .any ops listed = [] ∧ Q .normal a w
  | fuel + 1, listed, a, w =>
    (Region.ready .any ops listed = [] → Q .normal a w) ∧
    ∀ i ∈ Region.ready .any ops listed, wpO P ops Q i (fun a' w' => (tail i = false → S w') ∧ wpT P ops Q S tail fuel (listed.setIfInBounds i true) a' w') a w

theorem wpY_of_T : ∀ (fuel : Nat) (listed : Array Bool) (a : Act) (w : World), wpT P ops Q S tail fuel listed a w → wpY P ops Q fuel listed a w
  | 0, _, _, _, h => h
  | fuel + 1, _, _, _, h => ⟨h.1, fun i hi => wpO_mono (fun a' w' h' => wpY_of_T fuel _ a' w' h'.2) (h.2 i hi)⟩

/-- Nothing panics. -/
def NoPanic (Q : Exit → Act → World → Prop) : Prop := ∀ c a w, ¬ Q (.panic c) a w

/-! ### which operations wait for which -/

/-- Is 'i' ahead of 'j', by at most so many steps? -/
def anc (ops : Array Oper) : Nat → Nat → Nat → Bool
  | 0, _, _ => false
  | f + 1, i, j => match ops[j]? with
    | some o => (o.after.any fun e => Region.binds .any e && Nat.beq e.on i) || (Nat.blt i j && o.after.any fun e => Region.binds .any e && anc ops f i e.on)
    | none => false

/-- All that is listed has what it waits for listed. -/
def Closed (ops : Array Oper) (listed : Array Bool) : Prop :=
  ∀ j o, listed.getD j false = true → ops[j]? = some o → ∀ e ∈ o.after, Region.binds .any e = true → listed.getD e.on false = true

theorem closed_anc {listed : Array Bool} (h : Closed ops listed) : ∀ (f i j : Nat), listed.getD j false = true → anc ops f i j = true → listed.getD i false = true
  | 0, _, _, _, h2 => by cases h2
  | f + 1, i, j, hj, h2 => by
    unfold anc at h2
    split at h2
    · rename_i o ho
      simp only [Bool.or_eq_true, Bool.and_eq_true] at h2
      rcases h2 with h2 | ⟨_, h2⟩
      · obtain ⟨e, he, hb⟩ := Array.any_eq_true'.1 h2
        simp only [Bool.and_eq_true] at hb
        rw [← Nat.eq_of_beq_eq_true hb.2]; exact h j o hj ho e he hb.1
      · obtain ⟨e, he, hb⟩ := Array.any_eq_true'.1 h2
        simp only [Bool.and_eq_true] at hb
        exact closed_anc h f i e.on (h j o hj ho e he hb.1) hb.2
    · cases h2

theorem ready_anc {listed : Array Bool} (h : Closed ops listed) {i j f : Nat} (hj : j ∈ Region.ready .any ops listed) (h2 : anc ops f i j = true) : listed.getD i false = true := by
  cases f with
  | zero => cases h2
  | succ f =>
    unfold anc at h2
    obtain ⟨_, o, ho, hall⟩ := mem_ready.1 hj
    rw [ho] at h2
    simp only at h2
    simp only [Bool.or_eq_true, Bool.and_eq_true] at h2
    rcases h2 with h2 | ⟨_, h2⟩
    · obtain ⟨e, he, hb⟩ := Array.any_eq_true'.1 h2
      simp only [Bool.and_eq_true] at hb
      rw [← Nat.eq_of_beq_eq_true hb.2]; exact hall e he hb.1
    · obtain ⟨e, he, hb⟩ := Array.any_eq_true'.1 h2
      simp only [Bool.and_eq_true] at hb
      exact closed_anc h f i e.on (hall e he hb.1) hb.2

theorem Closed.add {listed : Array Bool} (h : Closed ops listed) {j : Nat} (hj : j ∈ Region.ready .any ops listed) : Closed ops (listed.setIfInBounds j true) := by
  intro k o hk ho e he hb
  obtain ⟨_, oj, hoj, hall⟩ := mem_ready.1 hj
  by_cases hjk : j = k
  · subst hjk
    rw [ho] at hoj
    injection hoj with hoj
    subst hoj
    exact getD_set_true (hall e he hb)
  · rw [getD_set_ne false hjk] at hk
    exact getD_set_true (h k o hk ho e he hb)

/-- The tail waits for all that is not of it. -/
def tailB (ops : Array Oper) (tail : Nat → Bool) : Bool :=
  (List.range ops.size).all fun j => !tail j || (List.range ops.size).all fun i => tail i || anc ops 20 i j

theorem tailB_spec (h : tailB ops tail = true) {i j : Nat} (hi : i < ops.size) (hj : j < ops.size) (ht : tail j = true) (hn : tail i = false) : anc ops 20 i j = true := by
  unfold tailB at h
  have h1 := List.all_eq_true.1 h j (List.mem_range.2 hj)
  rw [ht] at h1
  simp only [Bool.not_true, Bool.false_or] at h1
  have h2 := List.all_eq_true.1 h1 i (List.mem_range.2 hi)
  rw [hn] at h2
  simpa using h2

theorem getD_true_false {listed : Array Bool} {i : Nat} (h : listed.getD i true = false) : listed.getD i false = false := by
  simp only [Array.getD_eq_getD_getElem?] at *
  cases hx : listed[i]? with
  | none => rfl
  | some b => rw [hx] at h; simpa using h

/-- An operation that may come up now may be taken first. -/
theorem wpT_first {i : Nat} {oi : Oper} {v : Value} (hi : ops[i]? = some oi) (hsel : ∀ (j : Nat) (o : Oper) cs b, ops[j]? = some o → o.op ≠ .select cs b)
    (hQ : NoPanic Q) (htl : tailB ops tail = true) (hit : tail i = false) :
    ∀ (fuel : Nat) (listed : Array Bool) (a : Act) (w : World), Closed ops listed →
      (∀ j oj, ops[j]? = some oj → j ≠ i → listed.getD j true = false → (∀ e ∈ oj.after, Region.binds .any e = true → e.on ≠ i) → oi.apart ops oj = true) →
      i ∈ Region.ready .any ops listed → YieldsIf P ops S oi v a → S w →
      wpT P ops Q S tail fuel (listed.setIfInBounds i true) (a.put oi.dst v) w → wpT P ops Q S tail (fuel + 1) listed a w := by
  intro fuel
  induction fuel with
  | zero =>
    intro listed a w hcl _ hr hy hS H
    refine ⟨fun h => (by rw [h] at hr; cases hr), fun j hj => ?_⟩
    by_cases hji : j = i
    · subst hji; exact yieldsIf_wpO hi hy hS ⟨fun _ => hS, H⟩
    · have := ready_mono hj hji
      rw [H.1] at this
      cases this
  | succ fuel ih =>
    intro listed a w hcl hfree hr hy hS H
    refine ⟨fun h => (by rw [h] at hr; cases hr), fun j hj => ?_⟩
    by_cases hji : j = i
    · subst hji; exact yieldsIf_wpO hi hy hS ⟨fun _ => hS, H⟩
    · have h1 := H.2 j (ready_mono hj hji)
      obtain ⟨hjun, oj, hoj, hall⟩ := mem_ready.1 hj
      have h0 := (mem_ready.1 hr).1
      have hnot : ∀ e ∈ oj.after, Region.binds .any e = true → e.on ≠ i := fun e he hb heq => by
        have h1 := hall e he hb
        rw [heq] at h1
        rw [getD_true_false h0] at h1
        cases h1
      have hjt : tail j = false := by
        cases ht : tail j with
        | false => rfl
        | true =>
          have ha := tailB_spec htl (Array.getElem?_eq_some_iff.1 hi).1 (Array.getElem?_eq_some_iff.1 hoj).1 ht hit
          have := ready_anc hcl hj ha
          rw [getD_true_false h0] at this
          cases this
      have h2 := wpO_putIf hoj (hfree j oj hoj hji hjun hnot) (fun cs b => hsel i oi cs b hi) (fun cs b => hsel j oj cs b hoj) (fun c a w h => absurd h (hQ _ _ _)) hy h1
      have hfree' : ∀ k ok, ops[k]? = some ok → k ≠ i → (listed.setIfInBounds j true).getD k true = false →
          (∀ e ∈ ok.after, Region.binds .any e = true → e.on ≠ i) → oi.apart ops ok = true := fun k ok hk hki hun hno => by
        refine hfree k ok hk hki ?_ hno
        by_cases hjk : j = k
        · subst hjk; exact hjun
        · rw [getD_set_ne true hjk] at hun; exact hun
      refine wpO_mono (fun a' w' h3 => ⟨fun _ => h3.2.1 hjt, ih (listed.setIfInBounds j true) a' w' (hcl.add hj) hfree' (ready_mono hr (Ne.symm hji)) h3.1 (h3.2.1 hjt) ?_⟩) h2
      rw [Array.setIfInBounds_comm _ _ hji]
      exact h3.2.2

theorem wpY_monoQ {Q Q' : Exit → Act → World → Prop} (hq : ∀ e a w, Q e a w → Q' e a w) : ∀ (fuel : Nat) (listed : Array Bool) (a : Act) (w : World), wpY P ops Q fuel listed a w → wpY P ops Q' fuel listed a w
  | 0, _, _, _, h => ⟨h.1, hq _ _ _ h.2⟩
  | fuel + 1, _, _, _, h => ⟨fun h0 => hq _ _ _ (h.1 h0), fun i hi => wpO_monoQ (fun a' w' h' => wpY_monoQ hq fuel _ a' w' h') hq (h.2 i hi)⟩

/-! ### a plan -/

/-- Is this an order that serves? 'true': it only looks, and is taken as soon as it may come up; 'false': nothing else may come up. A number past the end: from there on it is told by hand (rd_fork). -/
def planOK (ops : Array Oper) (tail : Nat → Bool) : Array Bool → List (Nat × Bool) → Bool
  | listed, [] => (Region.ready .any ops listed).isEmpty
  | listed, (i, true) :: L => Nat.ble ops.size i || (Region.free .any ops listed i && (Region.ready .any ops listed).contains i && !tail i && planOK ops tail (listed.setIfInBounds i true) L)
  | listed, (i, false) :: L => (Region.ready .any ops listed == [i]) && planOK ops tail (listed.setIfInBounds i true) L

theorem planOK_light {ops : Array Oper} {tail : Nat → Bool} {listed : Array Bool} {i : Nat} {L : List (Nat × Bool)} {o : Oper} (ho : ops[i]? = some o) (h : planOK ops tail listed ((i, true) :: L) = true) :
    ((Region.free .any ops listed i = true ∧ (Region.ready .any ops listed).contains i = true) ∧ tail i = false) ∧ planOK ops tail (listed.setIfInBounds i true) L = true := by
  simp only [planOK, Bool.or_eq_true, Bool.and_eq_true, Bool.not_eq_true'] at h
  rcases h with h | h
  · have h1 := Nat.le_of_ble_eq_true h
    rw [Array.getElem?_eq_none h1] at ho
    cases ho
  · exact h

def regionB (ops : Array Oper) (tail : Nat → Bool) (L : List (Nat × Bool)) : Bool :=
  nds ops.toList && Region.noSelect ops && tailB ops tail && planOK ops tail (Array.replicate ops.size false) L && Nat.beq L.length ops.size

def inTail (l : List Nat) (i : Nat) : Bool := l.any (Nat.beq i)

/-- At a plan, some way through it. -/
def RD (P : Program) (n : Nat) (all : Array Oper) (S : World → Prop) (tl : List Nat) (listed : Array Bool) (L : List (Nat × Bool)) (ρ : Env) (D : Dr) (w : World) (Q : Exit → Act → World → Prop) : Prop :=
  Region.noSelect all = true → tailB all (inTail tl) = true → planOK all (inTail tl) listed L = true → Closed all listed → NoPanic Q →
    ∀ a : Act, a.tmps.size = n → Sat ρ a → a.defers = D.ds → wpT P all Q S (inTail tl) L.length listed a w

def QN (Q : Exit → Act → World → Prop) : Exit → Act → World → Prop := fun e a w => (match e with | .panic _ => False | _ => True) ∧ Q e a w

/-- What follows one operation of a plan. -/
def After (P : Program) (all : Array Oper) (S : World → Prop) (tl : List Nat) (i : Nat) (listed : Array Bool) (L : List (Nat × Bool)) (Q : Exit → Act → World → Prop) : Exit → Act → World → Prop :=
  Exit.then (fun a' w' => (inTail tl i = false → S w') ∧
    (Region.noSelect all = true → tailB all (inTail tl) = true → planOK all (inTail tl) listed L = true → Closed all listed → NoPanic Q → wpT P all Q S (inTail tl) L.length listed a' w')) Q
end

section
variable {P : Program} {n : Nat} {all : Array Oper} {os : List Oper} {ρ : Env} {D : Dr} {w : World} {Q : Exit → Act → World → Prop}
variable {d : Option Nat} {ty : TypeId} {pos : String} {af : Array Edge} {O : List Nat} {S : World → Prop} {tl : List Nat} {listed : Array Bool} {L : List (Nat × Bool)} {i : Nat}

theorem g_draw (S : World → Prop) (tl : List Nat) (L : List (Nat × Bool)) {id : Nat} {l : List Oper} (hm : P.follows .mixedOrders = true) (hr : regionB l.toArray (inTail tl) L = true)
    (h : RD P n l.toArray S tl (Array.replicate l.length false) L ρ D w.drew (QN Q)) : G P n (.region id l.toArray true) ρ D w Q := by
  intro a h1 h2 h3
  unfold regionB at hr
  simp only [Bool.and_eq_true] at hr
  obtain ⟨⟨⟨⟨r0, r1⟩, r2⟩, r3⟩, r4⟩ := hr
  have hsz : l.toArray.size = l.length := by simp
  rw [hsz] at r3 r4
  have hT := h r1 r2 r3 (fun j o hj => by
    simp only [Array.getD_eq_getD_getElem?, Array.getElem?_replicate] at hj
    split at hj <;> simp at hj) (fun c a w hq => hq.1) a h1 h2 h3
  rw [Nat.eq_of_beq_eq_true r4] at hT
  have := wpY_of_T _ _ _ _ hT
  refine wpIn_region_any hm (Q := Q) ?_
  rw [hsz]
  exact wpY_in D.rd r0 _ _ _ _ (wpY_monoQ (fun e a w h => h.2) _ _ _ _ this)

/-- What only looks is taken. -/
theorem rd_light {op : Op} {v : Value} {g : Option (Nat × Bool)} (ho : all[i]? = some ⟨d, op, ty, pos, af, g⟩) (hd : okO n d = true)
    (hg : ∀ a, Sat ρ a → Region.wanted ⟨d, op, ty, pos, af, g⟩ (yielded all a.tmps) = true) (hy : ∀ w', S w' → Y P ρ w' op v) (hS : S w)
    (h : RD P n all S tl (listed.setIfInBounds i true) L (upO ρ d v) D w Q) : RD P n all S tl listed ((i, true) :: L) ρ D w Q := by
  intro r1 r2 r3 hcl hq a h1 h2 h3
  have r3 := planOK_light ho r3
  obtain ⟨⟨⟨p1, p2⟩, p3⟩, p4⟩ := r3
  have hr : i ∈ Region.ready .any all listed := by simpa using p2
  exact wpT_first ho (Region.noSelect_spec r1) hq r2 p3 L.length listed a w hcl (Region.free_spec ho p1) hr (.inl ⟨hg a h2, fun w' hw' => hy w' hw' a h2 d ty pos af⟩) hS
    (h r1 r2 p4 (hcl.add hr) hq _ (by rw [put_size, h1]) (h2.putO h1 hd v) (by rw [put_defers, h3]))

theorem rd_y {op : Op} {v : Value} (ho : all[i]? = some ⟨d, op, ty, pos, af, none⟩) (hd : okO n d = true) (hy : ∀ w', S w' → Y P ρ w' op v) (hS : S w)
    (h : RD P n all S tl (listed.setIfInBounds i true) L (upO ρ d v) D w Q) : RD P n all S tl listed ((i, true) :: L) ρ D w Q :=
  rd_light ho hd (fun _ _ => rfl) hy hS h

theorem wanted_of {j t : Nat} {want b : Bool} {op : Op} {a : Act} (hj : (all[j]?).bind (·.dst) = some t) (hv : ρ.get t = some (.bool b)) (h2 : Sat ρ a) :
    Region.wanted ⟨d, op, ty, pos, af, some (j, want)⟩ (yielded all a.tmps) = (b == want) := by
  have hy : yielded all a.tmps j = some b := by simp [yielded, hj, h2 t _ hv]
  simp only [Region.wanted, hy]
  cases b <;> cases want <;> rfl

theorem rd_go {op : Op} {v : Value} {j t : Nat} {want : Bool} (ho : all[i]? = some ⟨d, op, ty, pos, af, some (j, want)⟩) (hd : okO n d = true) (hj : (all[j]?).bind (·.dst) = some t) (hv : ρ.get t = some (.bool want))
    (hy : ∀ w', S w' → Y P ρ w' op v) (hS : S w) (h : RD P n all S tl (listed.setIfInBounds i true) L (upO ρ d v) D w Q) : RD P n all S tl listed ((i, true) :: L) ρ D w Q :=
  rd_light ho hd (fun a h2 => by rw [wanted_of hj hv h2]; cases want <;> rfl) hy hS h

/-- What isn't wanted. -/
theorem rd_pass {op : Op} {j t : Nat} {want : Bool} (ho : all[i]? = some ⟨d, op, ty, pos, af, some (j, want)⟩) (hd : okO n d = true) (hj : (all[j]?).bind (·.dst) = some t) (hv : ρ.get t = some (.bool (!want)))
    (hS : S w) (h : RD P n all S tl (listed.setIfInBounds i true) L (upO ρ d undef) D w Q) : RD P n all S tl listed ((i, true) :: L) ρ D w Q := by
  intro r1 r2 r3 hcl hq a h1 h2 h3
  have r3 := planOK_light ho r3
  obtain ⟨⟨⟨p1, p2⟩, p3⟩, p4⟩ := r3
  have hr : i ∈ Region.ready .any all listed := by simpa using p2
  exact wpT_first ho (Region.noSelect_spec r1) hq r2 p3 L.length listed a w hcl (Region.free_spec ho p1) hr (.inr ⟨by rw [wanted_of hj hv h2]; cases want <;> rfl, rfl⟩) hS
    (h r1 r2 p4 (hcl.add hr) hq _ (by rw [put_size, h1]) (h2.putO h1 hd _) (by rw [put_defers, h3]))

theorem rd_passu {op : Op} {j t : Nat} {want : Bool} (ho : all[i]? = some ⟨d, op, ty, pos, af, some (j, want)⟩) (hd : okO n d = true) (hj : (all[j]?).bind (·.dst) = some t) (hv : ρ.get t = some undef)
    (hS : S w) (h : RD P n all S tl (listed.setIfInBounds i true) L (upO ρ d undef) D w Q) : RD P n all S tl listed ((i, true) :: L) ρ D w Q := by
  intro r1 r2 r3 hcl hq a h1 h2 h3
  have r3 := planOK_light ho r3
  obtain ⟨⟨⟨p1, p2⟩, p3⟩, p4⟩ := r3
  have hr : i ∈ Region.ready .any all listed := by simpa using p2
  have hy : yielded all a.tmps j = none := by simp [yielded, hj, h2 t _ hv, undef]
  exact wpT_first ho (Region.noSelect_spec r1) hq r2 p3 L.length listed a w hcl (Region.free_spec ho p1) hr (.inr ⟨by simp [Region.wanted, hy], rfl⟩) hS
    (h r1 r2 p4 (hcl.add hr) hq _ (by rw [put_size, h1]) (h2.putO h1 hd _) (by rw [put_defers, h3]))

theorem rd_part {t : Nat} {b : Bool} (hv : ρ.get t = some (.bool b)) (ht : b = true → RD P n all S tl listed L ((t, .bool true) :: ρ) D w Q) (hf : b = false → RD P n all S tl listed L ((t, .bool false) :: ρ) D w Q) :
    RD P n all S tl listed L ρ D w Q := by
  intro r1 r2 r3 hcl hq a h1 h2 h3
  cases b
  · exact hf rfl r1 r2 r3 hcl hq a h1 (set_sat h2 hv) h3
  · exact ht rfl r1 r2 r3 hcl hq a h1 (set_sat h2 hv) h3

/-- What does more: nothing else may come up. -/
theorem rd_do {o : Oper} (ho : all[i]? = some o) (h : R P n all [o] ρ D w (After P all S tl i (listed.setIfInBounds i true) L Q)) : RD P n all S tl listed ((i, false) :: L) ρ D w Q := by
  intro r1 r2 r3 hcl hq a h1 h2 h3
  simp only [planOK, Bool.and_eq_true, beq_iff_eq] at r3
  obtain ⟨p1, p2⟩ := r3
  have hr : i ∈ Region.ready .any all listed := by rw [p1]; exact List.mem_singleton_self _
  have hcl' := hcl.add hr
  refine ⟨fun h0 => (by rw [p1] at h0; cases h0), fun j hj => ?_⟩
  rw [p1] at hj
  simp only [List.mem_singleton] at hj
  subst hj
  have this := h a h1 h2 h3
  unfold wpL at this
  unfold wpO
  simp only [ho]
  split
  · rename_i hw
    simp only [hw, if_true] at this
    refine upon_monoQ (fun a' w' hk => ?_) (fun c a w h => h) (fun a w h => h) this
    exact ⟨hk.1, hk.2 r1 r2 p2 hcl' hq⟩
  · rename_i hw
    simp only [hw] at this
    exact ⟨this.1, this.2 r1 r2 p2 hcl' hq⟩

/-- Two may come up: both ways are walked. -/
theorem rd_fork {i j : Nat} {oi oj : Oper} {Li Lj L : List (Nat × Bool)} (hoi : all[i]? = some oi) (hoj : all[j]? = some oj) (hready : (Region.ready .any all listed == [i, j]) = true)
    (hli : Nat.beq (Li.length + 1) L.length = true) (hlj : Nat.beq (Lj.length + 1) L.length = true)
    (hpi : planOK all (inTail tl) (listed.setIfInBounds i true) Li = true) (hpj : planOK all (inTail tl) (listed.setIfInBounds j true) Lj = true)
    (h1 : R P n all [oi] ρ D w (After P all S tl i (listed.setIfInBounds i true) Li Q)) (h2 : R P n all [oj] ρ D w (After P all S tl j (listed.setIfInBounds j true) Lj Q)) : RD P n all S tl listed L ρ D w Q := by
  intro r1 r2 _ hcl hq a g1 g2 g3
  have e : Region.ready .any all listed = [i, j] := by simpa using hready
  have key : ∀ (k : Nat) (o : Oper) (Lk : List (Nat × Bool)), k ∈ Region.ready .any all listed → all[k]? = some o → planOK all (inTail tl) (listed.setIfInBounds k true) Lk = true →
      R P n all [o] ρ D w (After P all S tl k (listed.setIfInBounds k true) Lk Q) →
      wpO P all Q k (fun a' w' => (inTail tl k = false → S w') ∧ wpT P all Q S (inTail tl) Lk.length (listed.setIfInBounds k true) a' w') a w := by
    intro k o Lk hr ho hp hh
    have hcl' := hcl.add hr
    have this := hh a g1 g2 g3
    unfold wpL at this
    unfold wpO
    simp only [ho]
    split
    · rename_i hw
      simp only [hw, if_true] at this
      refine upon_monoQ (fun a' w' hk => ?_) (fun c a w h => h) (fun a w h => h) this
      exact ⟨hk.1, hk.2 r1 r2 hp hcl' hq⟩
    · rename_i hw
      simp only [hw] at this
      exact ⟨this.1, this.2 r1 r2 hp hcl' hq⟩
  cases L with
  | nil => cases hli
  | cons x L =>
    have eli : Li.length = L.length := Nat.succ.inj (Nat.eq_of_beq_eq_true hli)
    have elj : Lj.length = L.length := Nat.succ.inj (Nat.eq_of_beq_eq_true hlj)
    refine ⟨fun h0 => (by rw [e] at h0; cases h0), fun k hk => ?_⟩
    have hk' := hk
    rw [e] at hk'
    simp only [List.mem_cons, List.not_mem_nil, or_false] at hk'
    rcases hk' with rfl | rfl
    · have := key _ oi Li hk hoi hpi h1
      rw [eli] at this
      exact this
    · have := key _ oj Lj hk hoj hpj h2
      rw [elj] at this
      exact this

theorem e_after (hS : inTail tl i = false → S w) (h : RD P n all S tl listed L ρ D w Q) : E n ρ D w (After P all S tl i listed L Q) .normal :=
  fun a h1 h2 h3 => ⟨hS, fun r1 r2 r3 hcl hq => h r1 r2 r3 hcl hq a h1 h2 h3⟩

theorem rd_done (h : E n ρ D w Q .normal) : RD P n all S tl listed [] ρ D w (QN Q) := by
  intro r1 r2 r3 hcl hq a h1 h2 h3
  simp only [planOK] at r3
  exact ⟨by simpa using r3, trivial, h a h1 h2 h3⟩

end
theorem wpT_monoS {P : Program} {ops : Array Oper} {Q : Exit → Act → World → Prop} {S S' : World → Prop} {tail : Nat → Bool} (hSS : ∀ w, S' w → S w) :
    ∀ (fuel : Nat) (listed : Array Bool) (a : Act) (w : World), wpT P ops Q S' tail fuel listed a w → wpT P ops Q S tail fuel listed a w
  | 0, _, _, _, h => h
  | fuel + 1, _, _, _, h => ⟨h.1, fun i hi => wpO_mono (fun a' w' h' => ⟨fun ht => hSS _ (h'.1 ht), wpT_monoS hSS fuel _ a' w' h'.2⟩) (h.2 i hi)⟩

/-- More may be known from here on. -/
theorem rd_more {P : Program} {n : Nat} {all : Array Oper} {ρ : Env} {D : Dr} {w : World} {Q : Exit → Act → World → Prop} {S : World → Prop} {tl : List Nat} {listed : Array Bool} {L : List (Nat × Bool)}
    (S' : World → Prop) (hSS : ∀ w, S' w → S w) (h : RD P n all S' tl listed L ρ D w Q) : RD P n all S tl listed L ρ D w Q :=
  fun r1 r2 r3 hcl hq a h1 h2 h3 => wpT_monoS hSS _ _ _ _ (h r1 r2 r3 hcl hq a h1 h2 h3)

end Gk
