/- Rows of structs, and what hangs on them. Nothing here speaks of one program. -/
import Derived.Test.YtipnelbpkekdkaaGkFw
namespace Gk
open Go
set_option linter.unusedVariables false

/-- What a row of cells means, in memory that nobody writes. -/
structure Rel (β : Type) where
  φ : List Nat → World → List Value → β → Prop
  st : ∀ {M O O' : List Nat} {w w' : World} {row : List Value} {y : β}, Step M O O' w w' → φ O w row y → φ O' w' row y
  sb : ∀ {O O' : List Nat} {w : World} {row : List Value} {y : β}, (∀ b, b ∈ O' → b ∈ O) → φ O w row y → φ O' w row y

/-- A row that is just these cells. -/
def Rel.pure {β : Type} (f : β → List Value) : Rel β := ⟨fun _ _ row y => row = f y, fun _ h => h, fun _ h => h⟩

def Fact.rel {β : Type} (sz : Nat) (R : Rel β) (v : Value) (ys : List β) : Fact :=
  ⟨fun O w => SlR sz (R.φ O w) O w v ys, fun s h => SlR.step h s (fun _ _ h => R.st s h), fun hs h => SlR.sub h hs (fun _ _ h => R.sb hs h)⟩
def Fact.all {β : Type} (sz : Nat) (R : Rel β) (rows : List (List Value)) (ys : List β) : Fact :=
  ⟨fun O w => All2 (R.φ O w) rows ys ∧ ∀ row, row ∈ rows → row.length = sz, fun s h => ⟨h.1.mono (fun _ _ h => R.st s h), h.2⟩, fun hs h => ⟨h.1.mono (fun _ _ h => R.sb hs h), h.2⟩⟩
def Fact.one {β : Type} (R : Rel β) (row : List Value) (y : β) : Fact := ⟨fun O w => R.φ O w row y, fun s h => R.st s h, fun hs h => R.sb hs h⟩
/-- Cells, one behind the other. -/
def Fact.row (a : Addr) (cs : List Value) : Fact :=
  ⟨fun O w => ∀ (j : Nat) (u : Value), cs[j]? = some u → Cell O w (a.add j) u, fun s h j u hj => (h j u hj).step s, fun hs h j u hj => (h j u hj).sub hs⟩

section
variable {P : Program} {ρ : Env} {w w0 : World} {M O0 O : List Nat} {L L' : List KT} {Φ Φ' : List Fact}

theorem Fr.rel {β : Type} {sz : Nat} {R : Rel β} {v : Value} {ys : List β} (F : Fr M O0 w0 O w L Φ) (h : Sel Φ (Fact.rel sz R v ys) Φ' := by (repeat (first | exact Sel.here | apply Sel.there))) : SlR sz (R.φ O w) O w v ys := F.fa _ h.mem
theorem Fr.all2 {β : Type} {sz : Nat} {R : Rel β} {rows : List (List Value)} {ys : List β} (F : Fr M O0 w0 O w L Φ) (h : Sel Φ (Fact.all sz R rows ys) Φ' := by (repeat (first | exact Sel.here | apply Sel.there))) : All2 (R.φ O w) rows ys ∧ ∀ row, row ∈ rows → row.length = sz := F.fa _ h.mem
theorem Fr.one {β : Type} {R : Rel β} {row : List Value} {y : β} (F : Fr M O0 w0 O w L Φ) (h : Sel Φ (Fact.one R row y) Φ' := by (repeat (first | exact Sel.here | apply Sel.there))) : R.φ O w row y := F.fa _ h.mem

/-- An element. -/
theorem SlR.elem {β : Type} {sz : Nat} {R : Rel β} {a : Option Addr} {n c : Nat} {ys : List β} (h : SlR sz (R.φ O w) O w (.slice a n c) ys) {i : Nat} (hi : i < ys.length) (hsz : 0 < sz := by decide) :
    ∃ x row, a = some x ∧ row.length = sz ∧ R.φ O w row ys[i] ∧ (Fact.row (x.add (i * sz)) row).φ O w := by
  obtain ⟨x, row, h1, h2, h3, h4⟩ := h.at hsz (List.getElem?_eq_getElem hi)
  exact ⟨x, row, h1, h4, h3, fun j u hj => by rw [Addr.add_add]; exact h2 j u hj⟩

theorem y_loadRow {T : Nat} [TOne P T] {x : Operand} {p : Addr} {j : Nat} {cs : List Value} {v : Value} (hx : evo ρ x = some (.pointer (some (p.add j)))) (F : Fr M O0 w0 O w L Φ) (hs : Sel Φ (Fact.row p cs) Φ') (hj : cs[j]? = some v) : Y P ρ w (.load T x) v :=
  y_load hx (F.fa _ hs.mem j v hj).1
theorem y_loadRowS {T : Nat} [TOne P T] {x : Operand} {p : Addr} {j : Nat} {cs : List Value} {v : Value} (hx : evo ρ x = some (.pointer (some (p.add j)))) (F : FS M O0 w0 L Φ w) (hs : Sel Φ (Fact.row p cs) Φ') (hj : cs[j]? = some v) : Y P ρ w (.load T x) v := by
  obtain ⟨O, F⟩ := F; exact y_loadRow hx F hs hj
theorem y_loadRows {T m : Nat} [TAgg P T m] {x : Operand} {p : Addr} {cs : List Value} (hx : evo ρ x = some (.pointer (some p))) (F : Fr M O0 w0 O w L Φ) (hs : Sel Φ (Fact.row p cs) Φ') (hm : cs.length = m) : Y P ρ w (.load T x) (.agg cs.toArray) :=
  y_loadAgg hx hm (fun j v hj => (F.fa _ hs.mem j v hj).1)
theorem y_loadRowsS {T m : Nat} [TAgg P T m] {x : Operand} {p : Addr} {cs : List Value} (hx : evo ρ x = some (.pointer (some p))) (F : FS M O0 w0 L Φ w) (hs : Sel Φ (Fact.row p cs) Φ') (hm : cs.length = m) : Y P ρ w (.load T x) (.agg cs.toArray) := by
  obtain ⟨O, F⟩ := F; exact y_loadRows hx F hs hm

/-- A block of several cells that is appended as one. -/
theorem Fr.srcRow {T e sz by_ : Nat} [h : TSlice P T e sz by_] (F : Fr M O0 w0 O w L Φ) {q k cap : Nat} {row : List Value} (hs : Sel L (k, Thing.cells q row) L' := by (repeat (first | exact Sel.here | apply Sel.there))) (hl : row.length = 1 * sz := by rfl) (hv : row.all (·.oneCell') = true := by rfl) :
    Src P sz T (.slice (some ⟨q, 0, none⟩) 1 cap) 1 row w :=
  src_cb (news := row) (rest := []) (by rw [List.append_nil]; exact F.th _ hs.mem) hl (fun u hu => List.all_eq_true.1 hv u hu)
/-- A row of one's own that is appended. -/
theorem Fr.srcSl {T e sz by_ : Nat} [h : TSlice P T e sz by_] (F : Fr M O0 w0 O w L Φ) {v : Value} {m : Nat} {cs : List Value} (hs : Sel Φ (Fact.sl v m cs) Φ' := by (repeat (first | exact Sel.here | apply Sel.there))) (hl : cs.length = m * sz) (hv : ∀ u ∈ cs, u.oneCell' = true) : Src P sz T v m cs w :=
  src_sl (F.fa _ hs.mem) hl hv

/-- What was built row by row stays. -/
theorem Fr.frzRel {β : Type} {sz : Nat} {R : Rel β} (F : Fr M O0 w0 O w L Φ) {n : Nat} {v : Value} {rows : List (List Value)} {ys : List β} (hn : n = ys.length)
    (h : Sel L (2, Thing.buf sz v n rows.flatten) L' := by (repeat (first | exact Sel.here | apply Sel.there))) (h2 : Sel Φ (Fact.all sz R rows ys) Φ' := by (repeat (first | exact Sel.here | apply Sel.there))) : ∃ O', Fr M O0 w0 O' w L' (Fact.rel sz R v ys :: Φ) := by
  have ha := F.fa _ h2.mem
  subst hn
  refine F.freeze (f := Fact.rel sz R v ys) h (fun hc O' hs hb => ?_)
  have hc : Buf (fun _ => True) w sz v ys.length rows.flatten := hc
  exact ⟨rows, hc.self.sl (fun q hq => hb q hq.2), ha.1.mono (fun _ _ h => R.sb hs h), ha.2⟩

theorem Fr.all0 {β : Type} (sz : Nat) (R : Rel β) (F : Fr M O0 w0 O w L Φ) : Fr M O0 w0 O w L (Fact.all sz R [] [] :: Φ) := F.fact (f := Fact.all sz R [] []) ⟨trivial, fun _ h => by cases h⟩
theorem Fr.allSnoc {β : Type} {sz : Nat} {R : Rel β} (F : Fr M O0 w0 O w L Φ) {rows : List (List Value)} {ys : List β} {row : List Value} {y : β} (hr : R.φ O w row y) (hl : row.length = sz) (h : Sel Φ (Fact.all sz R rows ys) Φ' := by (repeat (first | exact Sel.here | apply Sel.there))) :
    Fr M O0 w0 O w L (Fact.all sz R (rows ++ [row]) (ys ++ [y]) :: Φ) := by
  have ha := F.fa _ h.mem
  refine F.fact (f := Fact.all sz R (rows ++ [row]) (ys ++ [y])) ⟨All2.snoc ha.1 hr, fun r hr' => ?_⟩
  rcases List.mem_append.1 hr' with hr' | hr'
  · exact ha.2 r hr'
  · simp at hr'; subst hr'; exact hl
end

def andI (k : IntKind) (a b : Int) : Int := k.wrap (((BitVec.ofInt k.bits a &&& BitVec.ofInt k.bits b).toNat : Nat) : Int)
theorem y_andI {P : Program} {ρ : Env} {w : World} {T yT : TypeId} {x y : Operand} {k : IntKind} {a b : Int} (hx : evo ρ x = some (.int k a)) (hy : evo ρ y = some (.int k b)) : Y P ρ w (.binOp .and T x y yT) (.int k (andI k a b)) := by
  refine y_arith hx hy (by simp) ?_
  simp only [binOp, Op.intBits, BitVec.toNat_and, ne_eq, not_true_eq_false, if_false, andI]
  rfl

/-- An element of a list of bytes. -/
theorem Fr.bytesAt {w w0 : World} {M O0 O : List Nat} {L : List KT} {Φ Φ' : List Fact} (F : Fr M O0 w0 O w L Φ) {a : Option Addr} {n c i : Nat} {xss : List (List UInt8)} (hi : i < xss.length) (h : Sel Φ (Fact.bytesL (.slice a n c) xss) Φ' := by (repeat (first | exact Sel.here | apply Sel.there))) :
    ∃ x u, a = some x ∧ u.oneCell' = true ∧ Fr M O0 w0 O w L (Fact.cell (x.add i) u :: Fact.bytes u xss[i] :: Φ) := by
  have hl : BytesL O w (.slice a n c) xss := F.fa _ h.mem
  obtain ⟨x, u, h1, h2, h3⟩ := hl.at (List.getElem?_eq_getElem hi)
  exact ⟨x, u, h1, oneCell_bytes h3, (F.factB h3).fact (f := Fact.cell _ _) h2⟩

/-- A row of one's own, as a block. -/
theorem Fr.openBuf {w w0 : World} {M O0 O : List Nat} {L L' : List KT} {Φ : List Fact} (F : Fr M O0 w0 O w L Φ) {k n sz : Nat} {v : Value} {cs : List Value} (hn : n ≠ 0) (h : Sel L (k, Thing.buf sz v n cs) L' := by (repeat (first | exact Sel.here | apply Sel.there))) :
    ∃ q cap rest, v = .slice (some ⟨q, 0, none⟩) n cap ∧ n ≤ cap ∧ cs.length = n * sz ∧ Fr M O0 w0 O w ((k, Thing.cells q (cs ++ rest)) :: L') Φ := by
  have hb : Buf (fun _ => True) w sz v n cs := F.th _ h.mem
  obtain ⟨hl, h1⟩ := hb
  rcases h1 with ⟨rfl, h0⟩ | ⟨q, cap, rest, rfl, h1, h2, h3, h4, h5⟩
  · exact absurd h0 hn
  · exact ⟨q, cap, rest, rfl, h1, hl, F.as (t' := Thing.cells q (cs ++ rest)) h (fun _ _ => h4) (fun b hb => by simpa [Thing.cells, Thing.buf, blk] using hb)⟩
/-- What a block begins with stays. -/
theorem Fr.frzPre {w w0 : World} {M O0 O : List Nat} {L L' : List KT} {Φ : List Fact} (F : Fr M O0 w0 O w L Φ) {q n cap : Nat} {cs : List Value} (ds : List Value) (hn : n ≤ cap) (hd : ∃ rest, cs = ds ++ rest) (h : Sel L (2, Thing.cells q cs) L' := by (repeat (first | exact Sel.here | apply Sel.there))) : ∃ O', Fr M O0 w0 O' w L' (Fact.sl (.slice (some ⟨q, 0, none⟩) n cap) n ds :: Φ) :=
  F.freeze (f := Fact.sl (.slice (some ⟨q, 0, none⟩) n cap) n ds) h (fun hc O' _ hb => CB.sl hc (hb q (by simp [Thing.cells])) hn _ (fun i u hu => by
    obtain ⟨rest, rfl⟩ := hd
    rw [List.getElem?_append_left (List.getElem?_eq_some_iff.1 hu).1]; exact hu))

/-- More may be written. -/
theorem FnC.more {P : Program} {f : FuncId} {args : List Value} {O M M' : List Nat} {w : World} {K K' : Value → List Nat → World → Prop} (h : FnC P f args O M w K) (hM : ∀ b, b ∈ M → b ∈ M') (hO : ∀ b, b ∈ M' → b ∈ O) (hK : ∀ r O' w', Step M O O' w w' → K r O' w' → K' r O' w') : FnC P f args O M' w K' :=
  ⟨h.1, Calls.mono h.2 fun e w' ⟨r, O', h1, h2, h3⟩ => ⟨r, O', h1, h2.more hM hO, hK _ _ _ h2 h3⟩⟩

theorem step_blk {M O : List Nat} {w w' : World} {sz n : Nat} {r : Value} {cs : List Value} (s : Step M O O w w') (hb : Buf (fun q => w.heap.size ≤ q) w' sz r n cs) : Step M O (blk r ++ O) w w' ∧ ∀ b, b ∈ blk r → w.heap.size ≤ b := by
  have h1 := hb.blk
  have h2 := hb.lt
  cases r <;> first | exact ⟨by simpa [blk] using s, by simp [blk]⟩ | skip
  rename_i a l c
  cases a with
  | none => exact ⟨by simpa [blk] using s, by simp [blk]⟩
  | some x =>
    have e : blk (.slice (some x) l c) = [x.block] := rfl
    rw [e] at h1 h2 ⊢
    exact ⟨s.take (h1 _ (by simp)) (h2 _ (by simp)), h1⟩

/-- A row that was made is the caller's. -/
theorem con0_buf {P : Program} {f : FuncId} {args : List Value} {Fs : List Fact} {sz n : Nat} {cs : List Value} (h : ∀ O w, OK O w → (∀ g, g ∈ Fs → g.φ O w) → FnC P f args O [] w fun r O' w' => O = O' ∧ Buf (fun q => w.heap.size ≤ q) w' sz r n cs) :
    Con P f args [] [] Fs fun r T Φ => T = [Thing.buf sz r n cs] ∧ Φ = [] := by
  intro O w hO _ _ _ _ _ hF
  refine ⟨(h O w hO hF).1, Calls.mono (h O w hO hF).2 fun e w' ⟨r, O', h1, h2, h3, h4⟩ => ?_⟩
  subst h3
  obtain ⟨s, hb⟩ := step_blk h2 h4
  exact ⟨r, _, h1, s, _, _, ⟨rfl, rfl⟩, left1 (t := Thing.buf sz r n cs) (h4.mono fun _ _ => trivial) fun b hm => ⟨List.mem_append_left _ hm, .inr (hb b hm)⟩⟩
theorem conB_buf {P : Program} {f : FuncId} {args : List Value} {Fs : List Fact} {t : Thing} {sz n : Nat} {cs : List Value} (h : ∀ O w, OK O w → t.φ O w → (∀ g, g ∈ Fs → g.φ O w) → FnC P f args O [] w fun r O' w' => O = O' ∧ Buf (fun q => w.heap.size ≤ q) w' sz r n cs) :
    Con P f args [] [t] Fs fun r T Φ => T = [Thing.buf sz r n cs] ∧ Φ = [] := by
  intro O w hO _ hB _ _ _ hF
  have ht := hB t (by simp)
  refine ⟨(h O w hO ht hF).1, Calls.mono (h O w hO ht hF).2 fun e w' ⟨r, O', h1, h2, h3, h4⟩ => ?_⟩
  subst h3
  obtain ⟨s, hb⟩ := step_blk h2 h4
  exact ⟨r, _, h1, s, _, _, ⟨rfl, rfl⟩, left1 (t := Thing.buf sz r n cs) (h4.mono fun _ _ => trivial) fun b hm => ⟨List.mem_append_left _ hm, .inr (hb b hm)⟩⟩

/-- Rows of nils are rows of no bytes. -/
theorem nil_bytesL {O : List Nat} {w : World} {v : Value} {n : Nat} (h : Sl O w v n (List.replicate n (.slice none 0 0))) : BytesL O w v (List.replicate n []) := by
  refine BytesL.mk (by simpa using h) (All2.mk (by simp) (fun i x y hx hy => ?_))
  have e1 : x = .slice none 0 0 := by
    rw [List.getElem?_replicate] at hx; split at hx
    · injection hx with hx; exact hx.symm
    · cases hx
  have e2 : y = [] := by
    rw [List.getElem?_replicate] at hy; split at hy
    · injection hy with hy; exact hy.symm
    · cases hy
  subst e1 e2
  exact Bytes.nil

/-- The same step, whoever holds what. -/
theorem step_re {O O1 O2 : List Nat} {w w' : World} (s : Step [] O1 O2 w w') (hO : OK O w) : Step [] O O w w' :=
  ⟨s.os, s.tape, s.output, s.size, s.same, by simp, fun k h => .inl h, fun k h => h, fun k h => Nat.lt_of_lt_of_le (hO k h) s.size⟩

/-- A call that looks at one's own memory as at anyone's, and leaves nothing. -/
theorem f_lend {P : Program} {n : Nat} {all : Array Oper} {os : List Oper} {ρ : Env} {D : List Deferred} {w w0 : World} {Q : Exit → Act → World → Prop} {d : Option Nat} {ty : TypeId} {pos : String} {af : Array Edge} {M O0 O : List Nat} {L : List KT} {Φ : List Fact}
    {f : FuncId} {xs : List Operand} {vs : List Value} {ats : Array TypeId} {pre : Prop} {Fs : List Fact} {κ : Value → Prop} (F : Fr M O0 w0 O w L Φ) (hd : okO n d = true) (hx : evs ρ xs = some vs) (c : pre → Con P f vs [] [] Fs (fun r T Φ => κ r ∧ T = [] ∧ Φ = []))
    (hF : ∀ g, g ∈ Fs → g.φ [] w) (h : ∀ r w', κ r → Fr M O0 w0 O w' L Φ → R P n all os (upO ρ d r) D w' Q)
    (hp : pre := by (repeat (first | assumption | exact True.intro | refine And.intro ?_ ?_ | decide | omega | (focus (simp; done)) | (focus (simp; omega))))) :
    R P n all (⟨d, .call ⟨.value (.func f), xs.toArray, ats⟩, ty, pos, af, none⟩ :: os) ρ D w Q :=
  r_call hd hx (M := []) (O := []) (K := fun r _ _ => κ r) (((c hp) [] w OK_nil (by simp) (by simp) (by simp) (by simp) (by simp) hF).mono fun r O' w' s ⟨T, Φ', ⟨h1, _⟩, _⟩ => h1)
    (fun r O' w' s hk => h r w' hk (F.step0 (step_re s F.ok)))

theorem FS.bytesOwn {w w0 : World} {M O0 : List Nat} {L L' : List KT} {Φ : List Fact} (F : FS M O0 w0 L Φ w) {k m : Nat} {v : Value} {xs : List UInt8} (h : Sel L (k, Thing.buf 1 v m (bytesV xs)) L' := by (repeat (first | exact Sel.here | apply Sel.there))) : Bytes [] w v xs := by
  obtain ⟨O, F⟩ := F; exact F.bytesOwn h
end Gk
