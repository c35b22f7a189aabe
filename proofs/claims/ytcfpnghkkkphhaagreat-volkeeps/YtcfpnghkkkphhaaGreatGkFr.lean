/- The frame: all that a walk holds in memory, under one name. Nothing here speaks of one program. -/
import Derived.Test.YtcfpnghkkkphhaaGreatGkData
namespace Gk
open Go
set_option linter.unusedVariables false

/-- Something in memory that only its holder writes. -/
structure Thing where
  bs : List Nat
  φ : List Nat → World → Prop
  st : ∀ {M O O' : List Nat} {w w' : World}, Step M O O' w w' → (∀ b, b ∈ bs → b ∉ M) → φ O w → φ O' w'
  sb : ∀ {O O' : List Nat} {w : World}, (∀ b, b ∈ O' → b ∈ O) → (∀ b, b ∈ bs → b ∈ O') → φ O w → φ O' w

/-- Something in memory that nobody writes. -/
structure Fact where
  φ : List Nat → World → Prop
  st : ∀ {M O O' : List Nat} {w w' : World}, Step M O O' w w' → φ O w → φ O' w'
  sb : ∀ {O O' : List Nat} {w : World}, (∀ b, b ∈ O' → b ∈ O) → φ O w → φ O' w

abbrev KT := Nat × Thing

/-- Blocks, from their first cell on. -/
def Thing.cells (p : Nat) (cs : List Value) : Thing := ⟨[p], fun _ w => CB w p cs, fun s hn h => h.step s (hn p (by simp)), fun _ _ h => h⟩
/-- A row that may grow. -/
def Thing.buf (sz : Nat) (v : Value) (n : Nat) (cs : List Value) : Thing :=
  ⟨blk v, fun _ w => Buf (fun _ => True) w sz v n cs, fun s hn h => (h.self.step s (fun q hq => hn q hq.2)).mono (fun _ _ => trivial), fun _ _ h => h⟩
/-- A map. -/
def Thing.map (m : Nat) (K : IntKind) (es : KV) : Thing := ⟨[m], fun _ w => MapI w m K es, fun s hn h => h.step s (hn m (by simp)), fun _ _ h => h⟩

def Fact.bytes (v : Value) (xs : List UInt8) : Fact := ⟨fun O w => Bytes O w v xs, fun s h => h.step s, fun hs h => h.sub hs⟩
def Fact.sl (v : Value) (n : Nat) (cs : List Value) : Fact := ⟨fun O w => Sl O w v n cs, fun s h => h.step s, fun hs h => h.sub hs⟩
def Fact.bytesL (v : Value) (xss : List (List UInt8)) : Fact := ⟨fun O w => BytesL O w v xss, fun s h => h.step s, fun hs h => h.sub hs⟩
def Fact.cell (a : Addr) (v : Value) : Fact := ⟨fun O w => Cell O w a v, fun s h => h.step s, fun hs h => h.sub hs⟩

/-- The walk's frame: from 'w0' on; 'L': what is held, each with how: 0 to look, 1 to write, 2 made by this very call. -/
structure Fr (M O0 : List Nat) (w0 : World) (O : List Nat) (w : World) (L : List KT) (Φ : List Fact) : Prop where
  st : Step M O0 O w0 w
  ok0 : OK O0 w0
  th : ∀ t, t ∈ L → t.2.φ O w
  ow : ∀ t, t ∈ L → ∀ b, b ∈ t.2.bs → b ∈ O ∧ (t.1 = 1 → b ∈ M ∨ w0.heap.size ≤ b) ∧ (t.1 = 2 → w0.heap.size ≤ b)
  ap : L.Pairwise (fun s t => ∀ b, b ∈ s.2.bs → b ∉ t.2.bs)
  fa : ∀ f, f ∈ Φ → f.φ O w

section
variable {M O0 O : List Nat} {w0 w : World} {L L' : List KT} {Φ : List Fact}

theorem Fr.ok (F : Fr M O0 w0 O w L Φ) : OK O w := F.st.ok
theorem Fr.size (F : Fr M O0 w0 O w L Φ) : w0.heap.size ≤ w.heap.size := F.st.size
theorem Fr.lt (F : Fr M O0 w0 O w L Φ) {b : Nat} (h : b ∈ O) : b < w.heap.size := F.st.lt b h

theorem Fr.start (hO : OK O w) : Fr [] O w O w [] [] :=
  ⟨Step.refl hO, hO, fun _ h => (by cases h), fun _ h => (by cases h), .nil, fun _ h => (by cases h)⟩

/-- A fact more. -/
theorem Fr.fact (F : Fr M O0 w0 O w L Φ) {f : Fact} (h : f.φ O w) : Fr M O0 w0 O w L (f :: Φ) :=
  ⟨F.st, F.ok0, F.th, F.ow, F.ap, fun g hg => by
    rcases List.mem_cons.1 hg with rfl | hg
    · exact h
    · exact F.fa g hg⟩

/-- A thing that is looked at. -/
theorem Fr.look (F : Fr M O0 w0 O w L Φ) {t : Thing} (h : t.φ O w) (hb : ∀ b, b ∈ t.bs → b ∈ O) (ha : ∀ s, s ∈ L → ∀ b, b ∈ t.bs → b ∉ s.2.bs) : Fr M O0 w0 O w ((0, t) :: L) Φ :=
  ⟨F.st, F.ok0, fun s hs => by
    rcases List.mem_cons.1 hs with rfl | hs
    · exact h
    · exact F.th s hs, fun s hs => by
    rcases List.mem_cons.1 hs with rfl | hs
    · exact fun b hb' => ⟨hb b hb', by simp, by simp⟩
    · exact F.ow s hs, List.Pairwise.cons ha F.ap, F.fa⟩

/-- A thing that is written. -/
theorem Fr.start1 {t : Thing} (hO : OK O w) (h : t.φ O w) (hb : ∀ b, b ∈ t.bs → b ∈ O) : Fr t.bs O w O w [(1, t)] [] :=
  ⟨(Step.refl hO).more (by simp) hb, hO, fun s hs => by simp at hs; subst hs; exact h, fun s hs => by
    simp at hs; subst hs; exact fun b hb' => ⟨hb b hb', fun _ => .inl hb', by simp⟩, .cons (by simp) .nil, fun _ h => by cases h⟩

/-- One of a list, and the others. -/
inductive Sel {α : Type} : List α → α → List α → Prop
  | here {a : α} {l : List α} : Sel (a :: l) a l
  | there {a b : α} {l l' : List α} : Sel l a l' → Sel (b :: l) a (b :: l')

theorem Sel.mem {α : Type} {l l' : List α} {a : α} (h : Sel l a l') : a ∈ l := by
  induction h with
  | here => simp
  | there _ ih => simp [ih]
theorem Sel.sub {α : Type} {l l' : List α} {a : α} (h : Sel l a l') : ∀ x, x ∈ l' → x ∈ l := by
  induction h with
  | here => intro x hx; simp [hx]
  | there _ ih =>
    intro x hx
    rcases List.mem_cons.1 hx with rfl | hx
    · simp
    · exact List.mem_cons_of_mem _ (ih x hx)
theorem Sel.perm {α : Type} {l l' : List α} {a : α} (h : Sel l a l') : List.Perm l (a :: l') := by
  induction h with
  | here => exact .refl _
  | there _ ih => exact (List.Perm.cons _ ih).trans (List.Perm.swap _ _ _)

theorem apart_symm {s t : KT} (h : ∀ b, b ∈ s.2.bs → b ∉ t.2.bs) : ∀ b, b ∈ t.2.bs → b ∉ s.2.bs := fun b h1 h2 => h b h2 h1

/-- The same things in another order. -/
theorem Fr.perm (F : Fr M O0 w0 O w L Φ) (h : List.Perm L L') : Fr M O0 w0 O w L' Φ :=
  ⟨F.st, F.ok0, fun t ht => F.th t (h.mem_iff.2 ht), fun t ht => F.ow t (h.mem_iff.2 ht), h.pairwise F.ap (fun h => apart_symm h), F.fa⟩

theorem Fr.pull (F : Fr M O0 w0 O w L Φ) {t : KT} (h : Sel L t L') : Fr M O0 w0 O w (t :: L') Φ := F.perm h.perm

/-- Without one of them. -/
theorem Fr.drop (F : Fr M O0 w0 O w L Φ) {t : KT} (h : Sel L t L') : Fr M O0 w0 O w L' Φ :=
  have G := F.pull h
  ⟨G.st, G.ok0, fun t ht => G.th t (List.mem_cons_of_mem _ ht), fun t ht => G.ow t (List.mem_cons_of_mem _ ht), (List.pairwise_cons.1 G.ap).2, G.fa⟩

theorem Fr.thing (F : Fr M O0 w0 O w L Φ) {k : Nat} {t : Thing} (h : Sel L (k, t) L') : t.φ O w := F.th _ h.mem
theorem Fr.has (F : Fr M O0 w0 O w L Φ) {f : Fact} {Φ' : List Fact} (h : Sel Φ f Φ') : f.φ O w := F.fa _ h.mem

/-- The general step: the things ahead turn into others. -/
theorem Fr.next {O' M' : List Nat} {w' : World} {A T : List KT} {Φ' : List Fact} (F : Fr M O0 w0 O w (A ++ L) Φ) (s : Step M' O O' w w')
    (hM : ∀ b, b ∈ M' → ∃ t, t ∈ A ∧ b ∈ t.2.bs ∧ (t.1 = 1 ∨ t.1 = 2))
    (hT : ∀ t, t ∈ T → t.2.φ O' w')
    (hb : ∀ t, t ∈ T → ∀ b, b ∈ t.2.bs → b ∈ O' ∧ (w.heap.size ≤ b ∨ ∃ s, s ∈ A ∧ b ∈ s.2.bs ∧ (t.1 = 1 → s.1 = 1 ∨ s.1 = 2) ∧ (t.1 = 2 → s.1 = 2)))
    (hap : T.Pairwise (fun s t => ∀ b, b ∈ s.2.bs → b ∉ t.2.bs))
    (hf : ∀ f, f ∈ Φ' → f.φ O' w') : Fr M O0 w0 O' w' (T ++ L) (Φ' ++ Φ) where
  st := F.st.trans s (fun b hb => by
    obtain ⟨t, h1, h2, h3⟩ := hM b hb
    have := F.ow t (by simp [h1]) b h2
    rcases h3 with h3 | h3
    · exact this.2.1 h3
    · exact .inr (this.2.2 h3))
  ok0 := F.ok0
  th := fun t ht => by
    rcases List.mem_append.1 ht with ht | ht
    · exact hT t ht
    · refine t.2.st s (fun b hb hbM => ?_) (F.th t (by simp [ht]))
      obtain ⟨u, h1, h2, h3⟩ := hM b hbM
      exact (List.pairwise_append.1 F.ap).2.2 u h1 t ht b h2 hb
  ow := fun t ht => by
    rcases List.mem_append.1 ht with ht | ht
    · intro b hb'
      obtain ⟨h1, h2⟩ := hb t ht b hb'
      refine ⟨h1, fun hk => ?_, fun hk => ?_⟩
      · rcases h2 with h2 | ⟨u, g1, g2, g3, _⟩
        · exact .inr (Nat.le_trans F.size h2)
        · have := F.ow u (by simp [g1]) b g2
          rcases g3 hk with g3 | g3
          · exact this.2.1 g3
          · exact .inr (this.2.2 g3)
      · rcases h2 with h2 | ⟨u, g1, g2, _, g3⟩
        · exact Nat.le_trans F.size h2
        · exact (F.ow u (by simp [g1]) b g2).2.2 (g3 hk)
    · intro b hb'
      have := F.ow t (by simp [ht]) b hb'
      exact ⟨s.keep _ this.1, this.2⟩
  ap := by
    refine List.pairwise_append.2 ⟨hap, (List.pairwise_append.1 F.ap).2.1, fun t ht u hu b hb' hbu => ?_⟩
    have hou := F.ow u (by simp [hu]) b hbu
    rcases (hb t ht b hb').2 with h2 | ⟨v, g1, g2, _⟩
    · exact absurd (F.lt hou.1) (Nat.not_lt.2 h2)
    · exact (List.pairwise_append.1 F.ap).2.2 v g1 u hu b g2 hbu
  fa := fun f hf' => by
    rcases List.mem_append.1 hf' with h | h
    · exact hf f h
    · exact f.st s (F.fa f h)

/-- Nothing that was there turns. -/
theorem Fr.step0 {O' : List Nat} {w' : World} (F : Fr M O0 w0 O w L Φ) (s : Step [] O O' w w') : Fr M O0 w0 O' w' L Φ :=
  Fr.next (A := []) (T := []) (Φ' := []) F s (fun _ h => by cases h) (fun _ h => by cases h) (fun _ h => by cases h) .nil (fun _ h => by cases h)

/-- A thing that was made. -/
theorem Fr.new {O' : List Nat} {w' : World} {t : Thing} (F : Fr M O0 w0 O w L Φ) (s : Step [] O O' w w') (h : t.φ O' w') (hb : ∀ b, b ∈ t.bs → b ∈ O' ∧ w.heap.size ≤ b) : Fr M O0 w0 O' w' ((2, t) :: L) Φ :=
  Fr.next (A := []) (T := [(2, t)]) (Φ' := []) F s (fun _ h => by cases h) (fun u hu => by simp at hu; subst hu; exact h) (fun u hu b hb' => by simp at hu; subst hu; exact ⟨(hb b hb').1, .inl (hb b hb').2⟩)
    (.cons (by simp) .nil) (fun _ h => by cases h)

/-- A thing of one's own that turns. -/
theorem Fr.turn {O' : List Nat} {w' : World} {k : Nat} {t t' : Thing} (F : Fr M O0 w0 O w ((k, t) :: L) Φ) (hk : k = 1 ∨ k = 2) (s : Step t.bs O O' w w') (h : t'.φ O' w') (hb : ∀ b, b ∈ t'.bs → b ∈ O' ∧ (b ∈ t.bs ∨ w.heap.size ≤ b)) : Fr M O0 w0 O' w' ((k, t') :: L) Φ :=
  Fr.next (A := [(k, t)]) (T := [(k, t')]) (Φ' := []) F s (fun b hb => ⟨_, List.mem_singleton_self _, hb, hk⟩) (fun u hu => by simp at hu; subst hu; exact h) (fun u hu b hb' => by
    simp at hu; subst hu
    refine ⟨(hb b hb').1, (hb b hb').2.symm.imp id (fun h => ⟨_, List.mem_singleton_self _, h, ?_, ?_⟩)⟩
    · intro hk; exact .inl hk
    · intro hk; exact hk)
    (.cons (by simp) .nil) (fun _ h => by cases h)

/-- A block that stays: what it holds is a fact from here on. -/
theorem Fr.freeze {t : Thing} {f : Fact} (F : Fr M O0 w0 O w L Φ) (h : Sel L (2, t) L') (hf : t.φ O w → ∀ O', (∀ b, b ∈ O' → b ∈ O) → (∀ b, b ∈ t.bs → b ∉ O') → f.φ O' w) :
    ∃ O', Fr M O0 w0 O' w L' (f :: Φ) := by
  have G := F.pull h
  have hsub : ∀ b, b ∈ O.filter (fun b => !t.bs.contains b) → b ∈ O := fun b hb => (List.mem_filter.1 hb).1
  have hkeep : ∀ s, s ∈ L' → ∀ b, b ∈ s.2.bs → b ∈ O.filter (fun b => !t.bs.contains b) := fun s hs b hb => by
    refine List.mem_filter.2 ⟨(G.ow s (List.mem_cons_of_mem _ hs) b hb).1, ?_⟩
    have := (List.pairwise_cons.1 G.ap).1 s hs
    simpa using fun h => this b h hb
  refine ⟨O.filter (fun b => !t.bs.contains b), ⟨G.st.less (fun b hb => ?_) hsub, G.ok0, fun s hs => ?_, fun s hs b hb => ?_, (List.pairwise_cons.1 G.ap).2, fun g hg => ?_⟩⟩
  · refine List.mem_filter.2 ⟨G.st.keep b hb, ?_⟩
    have : b < w0.heap.size := G.ok0 b hb
    simpa using fun h => absurd ((G.ow _ (List.mem_cons_self) b h).2.2 rfl) (Nat.not_le.2 this)
  · exact s.2.sb hsub (hkeep s hs) (G.th s (List.mem_cons_of_mem _ hs))
  · exact ⟨hkeep s hs b hb, (G.ow s (List.mem_cons_of_mem _ hs) b hb).2⟩
  · rcases List.mem_cons.1 hg with rfl | hg
    · exact hf (G.th _ List.mem_cons_self) _ hsub (fun b hb hm => by
        have := (List.mem_filter.1 hm).2
        simp at this; exact this hb)
    · exact g.sb hsub (G.fa g hg)

end

/-! ### contracts -/

/-- What a call leaves: its result, things that are the caller's, facts. -/
abbrev Post := Value → List Thing → List Fact → Prop

def Left (M O' : List Nat) (w w' : World) (T : List Thing) (Φ : List Fact) : Prop :=
  (∀ t, t ∈ T → t.φ O' w') ∧ (∀ t, t ∈ T → ∀ b, b ∈ t.bs → b ∈ O' ∧ (b ∈ M ∨ w.heap.size ≤ b)) ∧ T.Pairwise (fun s t => ∀ b, b ∈ s.bs → b ∉ t.bs) ∧ ∀ f, f ∈ Φ → f.φ O' w'

/-- A contract: 'A' is written, 'B' is looked at, 'Fs' is known. -/
def Con (P : Program) (f : FuncId) (args : List Value) (A B : List Thing) (Fs : List Fact) (K : Post) : Prop :=
  ∀ O w, OK O w → (∀ t, t ∈ A → t.φ O w) → (∀ t, t ∈ B → t.φ O w) → (∀ t, t ∈ A → ∀ b, b ∈ t.bs → b ∈ O) → (∀ t, t ∈ B → ∀ b, b ∈ t.bs → b ∈ O) → (A ++ B).Pairwise (fun s t => ∀ b, b ∈ s.bs → b ∉ t.bs) → (∀ f, f ∈ Fs → f.φ O w) →
    FnC P f args O (A.flatMap (·.bs)) w fun r O' w' => ∃ T Φ, K r T Φ ∧ Left (A.flatMap (·.bs)) O' w w' T Φ

/-- Which of the things are those. -/
inductive Sels : List KT → List Nat → List Thing → List KT → Prop
  | nil {l : List KT} : Sels l [] [] l
  | cons {l l1 l2 : List KT} {k : Nat} {ks : List Nat} {t : Thing} {ts : List Thing} : Sel l (k, t) l1 → Sels l1 ks ts l2 → Sels l (k :: ks) (t :: ts) l2

theorem Sels.perm {l l' : List KT} {ks : List Nat} {ts : List Thing} (h : Sels l ks ts l') : List.Perm l (ks.zip ts ++ l') ∧ ks.length = ts.length := by
  induction h with
  | nil => exact ⟨.refl _, rfl⟩
  | cons h1 _ ih => exact ⟨h1.perm.trans (List.Perm.cons _ ih.1), by simp [ih.2]⟩

inductive Known : List Fact → List Fact → Prop
  | nil {l : List Fact} : Known l []
  | cons {l l' fs : List Fact} {f : Fact} : Sel l f l' → Known l fs → Known l (f :: fs)

theorem Known.mem {l fs : List Fact} (h : Known l fs) : ∀ f, f ∈ fs → f ∈ l := by
  induction h with
  | nil => intro f hf; cases hf
  | cons h1 _ ih =>
    intro f hf
    rcases List.mem_cons.1 hf with rfl | hf
    · exact h1.mem
    · exact ih f hf

section
variable {P : Program} {n : Nat} {all : Array Oper} {os : List Oper} {ρ : Env} {D : Dr} {w w0 : World} {Q : Exit → Act → World → Prop}
variable {d : Option Nat} {ty : TypeId} {pos : String} {af : Array Edge} {M O0 O : List Nat} {L L1 L2 L' : List KT} {Φ : List Fact}

theorem mem_zip_right {ks : List Nat} {ts : List Thing} (hl : ks.length = ts.length) {t : Thing} (h : t ∈ ts) : ∃ k, (k, t) ∈ ks.zip ts := by
  obtain ⟨i, hi, rfl⟩ := List.getElem_of_mem h
  exact ⟨ks[i]'(by omega), List.mem_iff_getElem.2 ⟨i, by simp; omega, by simp⟩⟩

theorem zip_snd {ks : List Nat} {ts : List Thing} (hl : ks.length = ts.length) : (ks.zip ts).map (·.2) = ts := by
  apply List.map_snd_zip; omega

/-- The contract's use, at a frame. 'k': how the new things are held. -/
theorem Con.use {f : FuncId} {args : List Value} {A B : List Thing} {Fs : List Fact} {K : Post} (c : Con P f args A B Fs K) (F : Fr M O0 w0 O w L Φ) {ka kb : List Nat} (k : Nat)
    (hA : Sels L ka A L1) (hB : Sels L1 kb B L2) (hF : Known Φ Fs) (hk : ∀ x, x ∈ ka → x = 1 ∨ x = 2) (hk2 : ∀ x, x ∈ ka → (k = 1 → x = 1 ∨ x = 2) ∧ (k = 2 → x = 2)) :
    FnC P f args O (A.flatMap (·.bs)) w fun r O' w' => ∃ T Φ', K r T Φ' ∧ Fr M O0 w0 O' w' (T.map (fun t => (k, t)) ++ L1) (Φ' ++ Φ) := by
  have hp := hA.perm
  have F1 := F.perm hp.1
  have hpB := hB.perm
  have F2 : Fr M O0 w0 O w (ka.zip A ++ (kb.zip B ++ L2)) Φ := F1.perm (List.Perm.append_left _ hpB.1)
  have hAB : (A ++ B).Pairwise (fun s t => ∀ b, b ∈ s.bs → b ∉ t.bs) := by
    have := F2.ap
    rw [← List.append_assoc] at this
    have := (List.pairwise_append.1 this).1
    have h2 := List.Pairwise.map (S := fun (s t : Thing) => ∀ b, b ∈ s.bs → b ∉ t.bs) (f := fun (x : KT) => x.2) (fun a b h => h) this
    rw [List.map_append, zip_snd hp.2, zip_snd hpB.2] at h2
    exact h2
  refine (c O w F.ok (fun t ht => ?_) (fun t ht => ?_) (fun t ht b hb => ?_) (fun t ht b hb => ?_) hAB (fun f hf => F.fa f (hF.mem f hf))).mono ?_
  · obtain ⟨k, hk⟩ := mem_zip_right hp.2 ht
    exact F2.th _ (List.mem_append_left _ hk)
  · obtain ⟨k, hk⟩ := mem_zip_right hpB.2 ht
    exact F2.th _ (List.mem_append_right _ (List.mem_append_left _ hk))
  · obtain ⟨k, hk⟩ := mem_zip_right hp.2 ht
    exact (F2.ow _ (List.mem_append_left _ hk) b hb).1
  · obtain ⟨k, hk⟩ := mem_zip_right hpB.2 ht
    exact (F2.ow _ (List.mem_append_right _ (List.mem_append_left _ hk)) b hb).1
  · rintro r O' w' s ⟨T, Φ', hK, h1, h2, h3, h4⟩
    refine ⟨T, Φ', hK, Fr.next F1 s (fun b hb => ?_) (fun t ht => ?_) (fun t ht b hb => ?_) ?_ h4⟩
    · obtain ⟨t, ht, hb⟩ := List.mem_flatMap.1 hb
      obtain ⟨x, hx⟩ := mem_zip_right hp.2 ht
      exact ⟨_, hx, hb, hk x (List.of_mem_zip hx).1⟩
    · obtain ⟨t, ht', rfl⟩ := List.mem_map.1 ht
      exact h1 t ht'
    · obtain ⟨t, ht', rfl⟩ := List.mem_map.1 ht
      obtain ⟨g1, g2⟩ := h2 t ht' b hb
      refine ⟨g1, g2.symm.imp id (fun g => ?_)⟩
      obtain ⟨s, hs, hb'⟩ := List.mem_flatMap.1 g
      obtain ⟨x, hx⟩ := mem_zip_right hp.2 hs
      exact ⟨_, hx, hb', hk2 x (List.of_mem_zip hx).1⟩
    · exact List.Pairwise.map (fun t => (k, t)) (fun a b h => h) h3

end
end Gk
