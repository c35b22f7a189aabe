/- More. Nothing here speaks of one program. -/
import Derived.Test.YtmohjmfcbhpldaaGkArr
import Derived.Laws.IdiomCopy
namespace Gk
open Go
set_option linter.unusedVariables false
section
variable {P : Program} {n : Nat} {all : Array Oper} {os : List Oper} {ρ : Env} {D : Dr} {w w0 : World} {Q : Exit → Act → World → Prop}
variable {d : Option Nat} {ty : TypeId} {pos : String} {af : Array Edge} {M O0 O : List Nat} {L L1 L2 L' : List KT} {Φ Φ' : List Fact}

theorem one_size {T e by_ : Nat} (h : TSlice P T e 1 by_) : (P.info? e).map (·.size) = some 1 := by
  obtain ⟨i, z, h1, h2, h3, h4, h5⟩ := info_of_slice h
  rw [h1]; simp [h3]

/-- Bytes are copied over cells of one's own. -/
theorem f_copy {T sT e by_ q off m cap k : Nat} [hT : TSlice P T e 1 by_] {x y : Operand} {v : Value} {cs : List Value} {xs : List UInt8} (F : Fr M O0 w0 O w L Φ) (hd : okO n d = true)
    (hx : evo ρ x = some (.slice (some ⟨q, off, none⟩) m cap)) (hy : evo ρ y = some v) (hb : Bytes O w v xs)
    (h : ∀ w', Fr M O0 w0 O w' ((k, Thing.cells q (cs.take off ++ bytesV xs ++ cs.drop (off + xs.length))) :: L') Φ → R P n all os (upO ρ d (.int .i64 xs.length)) D w' Q)
    (hs : Sel L (k, Thing.cells q cs) L' := by (repeat (first | exact Sel.here | apply Sel.there))) (hm : xs.length ≤ m := by omega) (ho : off + xs.length ≤ cs.length := by (first | omega | (simp; omega))) (hk : k = 1 ∨ k = 2 := by decide) :
    R P n all (⟨d, .call ⟨.builtin .copy, #[x, y], #[T, sT]⟩, ty, pos, af, none⟩ :: os) ρ D w Q := by
  have G := F.pull hs
  have hq : q ∈ O := (G.ow _ List.mem_cons_self q (by simp [Thing.cells])).1
  have hcb : CB w q cs := F.th _ hs.mem
  obtain ⟨a, c, rfl, hc⟩ := hb.form
  have hmin : Nat.min xs.length m = xs.length := Nat.min_eq_left hm
  have hgi : ∀ i : Nat, goInt i = .int .i64 i := fun i => rfl
  by_cases hz : xs.length = 0
  · have hr := run_copy_none (P := P) w T sT ty e (some ⟨q, off, none⟩) a m cap xs.length c hT.at_ (one_size hT) (by rw [hmin]; exact hz)
    have hx0 : xs = [] := List.length_eq_zero_iff.1 hz
    refine r_val hd (fun b h2 => by simp [execOp, resolve, invoke, builtin, eval_of h2 hx, eval_of h2 hy, hr]; exact ⟨rfl, rfl⟩) ?_
    subst hx0
    refine h w (G.as (t' := Thing.cells q _) Sel.here (fun hh _ => ?_) (fun b hb => hb))
    simpa [bytesV] using hh
  · obtain ⟨y0, rfl⟩ : ∃ y, a = some y := bytes_some hb (by omega)
    have hl : (bytesV xs).length = xs.length := by simp [bytesV]
    have hcell : ∀ j v, (bytesV xs)[j]? = some v → w.cell? (y0.add j) = some v := fun j v hj => by
      rcases hb with ⟨e1, _, _⟩ | ⟨z, cap', e1, _, hcc⟩
      · injection e1 with e1; cases e1
      · injection e1 with e1
        injection e1 with e1
        subst e1
        exact (hcc j v hj).1
    have hr := run_copy_cells (P := P) w T sT ty e q off m cap y0 xs.length c (bytesV xs) hT.at_ (one_size hT) (by rw [hmin, hl]) hcell
      (fun j hj => cell?_set hcb (by rw [hl] at hj; omega)) (fun j hj => hcb.frozen? (by rw [hl] at hj; omega)) one_bytes
    rw [hl] at hr
    have hnew := hcb.setCells (i := off) (bytesV xs)
    rw [laid_eq _ _ _ (by rw [hl]; exact ho), hl] at hnew
    refine r_val hd (fun b h2 => by simp [execOp, resolve, invoke, builtin, eval_of h2 hx, eval_of h2 hy, hr]; exact ⟨rfl, rfl⟩) ?_
    refine h _ (Fr.turn (t' := Thing.cells q (cs.take off ++ bytesV xs ++ cs.drop (off + xs.length))) G hk (step_setCells F.ok hq) hnew (fun b hb => ?_))
    simp [Thing.cells] at hb; subst hb; exact ⟨hq, .inl (by simp [Thing.cells])⟩
/-- A part of an array, as a slice. -/
theorem y_arrPart {T m e q : Nat} [hT : TArr P T m e] [h1 : TOne P e] {x : Operand} {lo hi : Option Operand} (l h : Nat) (hx : evo ρ x = some (.pointer (some ⟨q, 0, none⟩))) (hl : bndI ρ lo 0 = some (l : Int)) (hh : bndI ρ hi m = some (h : Int)) (hb : l ≤ h ∧ h ≤ m ∧ l < m) :
    Y P ρ w (.slice T x lo hi none) (.slice (some ⟨q, l, none⟩) (h - l) (m - l)) := by
  have := y_arrSlice (P := P) (w := w) (ρ := ρ) (T := T) (sz := 1) h1.size (mx := none) (mi := m) hx hl hh rfl (by simp) (by omega)
  have e : cutV (some ⟨q, 0, none⟩) 1 ((l : Nat) : Int).toNat ((h : Nat) : Int).toNat ((m : Nat) : Int).toNat = .slice (some ⟨q, l, none⟩) (h - l) (m - l) := by
    unfold cutV
    have hne : ¬ m = l := by omega
    simp [hne, Addr.add_lit]
  rwa [e] at this

/-! ### things with something hidden -/

def Thing.ex {α : Type} (bs : List Nat) (t : α → Thing) (h : ∀ a, (t a).bs = bs) : Thing :=
  ⟨bs, fun O w => ∃ a, (t a).φ O w, fun st hn hx => hx.elim fun a ha => ⟨a, (t a).st st (by rw [h a]; exact hn) ha⟩, fun hs hb hx => hx.elim fun a ha => ⟨a, (t a).sb hs (by rw [h a]; exact hb) ha⟩⟩
def Thing.with (t : Thing) (f : Fact) : Thing :=
  ⟨t.bs, fun O w => t.φ O w ∧ f.φ O w, fun st hn h => ⟨t.st st hn h.1, f.st st h.2⟩, fun hs hb h => ⟨t.sb hs hb h.1, f.sb hs h.2⟩⟩
theorem Fr.exI {α : Type} {k : Nat} {bs : List Nat} {t : α → Thing} {hh : ∀ a, (t a).bs = bs} (F : Fr M O0 w0 O w L Φ) (h : Sel L (k, Thing.ex bs t hh) L' := by (repeat (first | exact Sel.here | apply Sel.there))) : ∃ a, Fr M O0 w0 O w ((k, t a) :: L') Φ := by
  obtain ⟨a, ha⟩ : ∃ a, (t a).φ O w := F.th _ h.mem
  exact ⟨a, F.as (t' := t a) h (fun _ _ => ha) (fun b hb => by rw [hh a] at hb; exact hb)⟩
theorem Fr.mkex {α : Type} {k : Nat} {bs : List Nat} {t : α → Thing} (hh : ∀ a, (t a).bs = bs) (a : α) (F : Fr M O0 w0 O w L Φ) (h : Sel L (k, t a) L' := by (repeat (first | exact Sel.here | apply Sel.there))) : Fr M O0 w0 O w ((k, Thing.ex bs t hh) :: L') Φ :=
  F.as (t' := Thing.ex bs t hh) h (fun h _ => ⟨a, h⟩) (fun b hb => by rw [hh a]; exact hb)
theorem Fr.getWith {k : Nat} {t : Thing} {f : Fact} (F : Fr M O0 w0 O w L Φ) (h : Sel L (k, Thing.with t f) L' := by (repeat (first | exact Sel.here | apply Sel.there))) : Fr M O0 w0 O w ((k, t) :: L') (f :: Φ) := by
  have hf : (Thing.with t f).φ O w := F.th _ h.mem
  exact (F.as (t' := t) h (fun h _ => h.1) (fun b hb => hb)).fact hf.2
theorem Fr.mkWith {k : Nat} {t : Thing} {f : Fact} (F : Fr M O0 w0 O w L Φ) (h : Sel L (k, t) L' := by (repeat (first | exact Sel.here | apply Sel.there))) (hf : Sel Φ f Φ' := by (repeat (first | exact Sel.here | apply Sel.there))) : Fr M O0 w0 O w ((k, Thing.with t f) :: L') Φ := by
  have h2 := F.fa _ hf.mem
  exact F.as (t' := Thing.with t f) h (fun h _ => ⟨h, h2⟩) (fun b hb => hb)
/-- Bytes, each one's. -/
def Fact.bodies (vs : List Value) (B : List (List UInt8)) : Fact := ⟨fun O w => All2 (Bytes O w) vs B, fun s h => h.mono fun _ _ h => h.step s, fun hs h => h.mono fun _ _ h => h.sub hs⟩
theorem All2.setAt {α β : Type} {r : α → β → Prop} : ∀ {xs : List α} {ys : List β}, All2 r xs ys → ∀ (i : Nat) {x : α} {y : β}, r x y → All2 r (xs.set i x) (ys.set i y)
  | [], [], _, _, _, _, _ => trivial
  | _ :: _, _ :: _, h, 0, _, _, hr => ⟨hr, h.2⟩
  | _ :: _, _ :: _, h, i + 1, _, _, hr => ⟨h.1, All2.setAt h.2 i hr⟩
theorem Fr.bodyAt {vs : List Value} {B : List (List UInt8)} (F : Fr M O0 w0 O w L Φ) (h : Sel Φ (Fact.bodies vs B) Φ' := by (repeat (first | exact Sel.here | apply Sel.there))) {i : Nat} (hi : i < B.length) : ∃ v, vs[i]? = some v ∧ Fr M O0 w0 O w L (Fact.bytes v B[i] :: Φ) := by
  have hb : All2 (Bytes O w) vs B := F.fa _ h.mem
  obtain ⟨v, h1, h2⟩ := hb.get i B[i] (List.getElem?_eq_getElem hi)
  exact ⟨v, h1, F.factB h2⟩
theorem Fr.bodySet {vs : List Value} {B : List (List UInt8)} {v : Value} {b : List UInt8} (i : Nat) (F : Fr M O0 w0 O w L Φ) (h : Sel Φ (Fact.bodies vs B) Φ' := by (repeat (first | exact Sel.here | apply Sel.there))) (hv : Bytes O w v b) : Fr M O0 w0 O w L (Fact.bodies (vs.set i v) (B.set i b) :: Φ) :=
  F.fact (f := Fact.bodies (vs.set i v) (B.set i b)) (All2.setAt (F.fa _ h.mem : All2 (Bytes O w) vs B) i hv)
end
end Gk
