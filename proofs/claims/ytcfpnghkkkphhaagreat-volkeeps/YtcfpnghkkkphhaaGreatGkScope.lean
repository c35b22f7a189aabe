/- A scope of labels, walked without a jump. Nothing here speaks of one program. -/
import Derived.Test.YtcfpnghkkkphhaaGreatGkRound
namespace Gk
open Go
set_option linter.unusedVariables false

theorem stepR_scope {P : Program} {b : Frame} {a : Act} {k : List Item} {cs : List Frame} {w : World} {c : Code} :
    step P (lone (b.atR a (.code (.scope c) :: k)) cs w) = .next (lone (b.atR a (.code c :: .inScope c :: k)) cs w) :=
  step_lone_go (by simp [stepG, stepG.exec, Frame.atR])
theorem stepR_inScope {P : Program} {b : Frame} {a : Act} {k : List Item} {cs : List Frame} {w : World} {c : Code} :
    step P (lone (b.atR a (.inScope c :: k)) cs w) = .next (lone (b.atR a k) cs w) :=
  step_lone_go (by simp [stepG, stepG.exec, Frame.atR])

theorem wpIn_scope {F : Fence} {n : Nat} {P : Program} {c : Code} {Q : Exit → Act → World → Prop} {a : Act} {w : World} (hQ : ∀ l a w, Q (.goto l) a w → False)
    (h : c.wpIn F n P Q a w) : (Code.scope c).wpIn F n P Q a w := by
  intro b k cs hro hb hr
  have h0 : (lone (b.atR a (.code (.scope c) :: k)) cs w).fenced P F := fenced_calm hb hr rfl
  obtain ⟨e, a₁, w₁, hq, harr⟩ := h b (.inScope c :: k) cs hro hb hr
  cases e with
  | normal => exact ⟨.normal, a₁, w₁, hq, .head h0 stepR_scope (StepsIn.trans harr (.one (fenced_calm hb hr rfl) stepR_inScope))⟩
  | exit id' =>
    have hx : exitTo id' (.inScope c :: k) = exitTo id' k := by simp [exitTo]
    exact ⟨.exit id', a₁, w₁, hq, fun k' hk => .head h0 stepR_scope (harr.1 k' (by rw [hx]; exact hk)),
      fun hr' hk => let ⟨k₁, h1, h2⟩ := harr.2 hr' (by rw [hx]; exact hk); ⟨k₁, h1, .head h0 stepR_scope h2⟩⟩
  | goto l => exact (hQ l _ _ hq).elim
  | ret => exact ⟨_, a₁, w₁, hq, .of_steps (.one h0 stepR_scope) harr⟩
  | panic ch => exact ⟨_, a₁, w₁, hq, .of_steps (.one h0 stepR_scope) harr⟩
  | outgrown => exact ⟨_, a₁, w₁, hq, .of_steps (.one h0 stepR_scope) harr⟩

theorem g_scope {P : Program} {n : Nat} {ρ : Env} {D : Dr} {w : World} {Q : Exit → Act → World → Prop} {c : Code} (h : G P n c ρ D w Q) (hQ : ∀ l a w, Q (.goto l) a w → False := by intro l a w h; exact h) : G P n (.scope c) ρ D w Q :=
  fun a h1 h2 h3 => wpIn_scope hQ (h a h1 h2 h3)

/-- Several ways come to one place, which is walked once. -/
theorem e_join {X : Type} {n : Nat} {D : Dr} {Q : Exit → Act → World → Prop} {e : Exit} {goal : Prop} (ρ' : X → Env) (J : X → World → Prop)
    (h : (∀ x w ρ, J x w → Env.Sub (ρ' x) ρ → E n ρ D w Q e) → goal) (k : ∀ x w, J x w → E n (ρ' x) D w Q e) : goal := h (fun x w ρ hj hs => e_weak hs (k x w hj))

/-- Several ways come to one place within a region. -/
theorem r_join {X : Type} {P : Program} {n : Nat} {all : Array Oper} {os : List Oper} {D : Dr} {Q : Exit → Act → World → Prop} {goal : Prop} (ρ' : X → Env) (J : X → World → Prop)
    (h : (∀ x w ρ, J x w → Env.Sub (ρ' x) ρ → R P n all os ρ D w Q) → goal) (k : ∀ x w, J x w → R P n all os (ρ' x) D w Q) : goal := h (fun x w ρ hj hs => r_weak hs (k x w hj))
/-- Several ways come to one piece of code. -/
theorem g_join {X : Type} {P : Program} {n : Nat} {c : Code} {D : Dr} {Q : Exit → Act → World → Prop} {goal : Prop} (ρ' : X → Env) (J : X → World → Prop)
    (h : (∀ x w ρ, J x w → Env.Sub (ρ' x) ρ → G P n c ρ D w Q) → goal) (k : ∀ x w, J x w → G P n c (ρ' x) D w Q) : goal := h (fun x w ρ hj hs => g_weak hs (k x w hj))

/-- What isn't among the things that may be written is new. -/
theorem Fr.promote {M O0 O : List Nat} {w0 w : World} {L L' : List KT} {Φ : List Fact} {t : Thing} (F : Fr M O0 w0 O w L Φ) (h : Sel L (1, t) L') (hM : ∀ b, b ∈ M → ∃ s, s ∈ L' ∧ b ∈ s.2.bs) : Fr M O0 w0 O w ((2, t) :: L') Φ := by
  have G := F.pull h
  have hp := List.pairwise_cons.1 G.ap
  refine ⟨G.st, G.ok0, fun s hs => ?_, fun s hs b hb => ?_, ?_, G.fa⟩
  · rcases List.mem_cons.1 hs with rfl | hs
    · exact G.th (1, t) List.mem_cons_self
    · exact G.th s (List.mem_cons_of_mem _ hs)
  · rcases List.mem_cons.1 hs with rfl | hs
    · obtain ⟨g1, g2, _⟩ := G.ow (1, t) List.mem_cons_self b hb
      have hn : b ∉ M := fun hm => by
        obtain ⟨s, hs, hb'⟩ := hM b hm
        exact hp.1 s hs b hb hb'
      have hf : w0.heap.size ≤ b := (g2 rfl).resolve_left hn
      exact ⟨g1, ⟨fun h => absurd (show (2 : Nat) = 1 from h) (by decide), fun _ => hf⟩⟩
    · exact G.ow s (List.mem_cons_of_mem _ hs) b hb
  · exact List.pairwise_cons.2 ⟨fun s hs => hp.1 s hs, hp.2⟩

/-- A result that stands in a cell of one. -/
theorem res_oneF {P : Program} {w w0 : World} {M O0 O : List Nat} {L L' : List KT} {Φ : List Fact} {ρ : Env} {a T j p : Nat} {v : Value} [hT : TOne P T] (h : ρ.get a = some (.pointer (some ⟨p, 0, none⟩))) (F : Fr M O0 w0 O w L Φ)
    (hs : Sel L (j, Thing.cells p [v]) L' := by (repeat (first | exact Sel.here | apply Sel.there))) : ResIs P w ρ (.cell a T) v := res_one h (F.th _ hs.mem)
end Gk
