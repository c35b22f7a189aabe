/- Rows of structs, and what hangs on them. Nothing here speaks of one program. -/
import Derived.Test.YtcfpnghkkkphhaaGreatGkFw
namespace Gk
open Go
set_option linter.unusedVariables false

/-- What a row of cells means, in memory that nobody writes. -/
structure Rel (β : Type) where
  φ : List Nat → World → List Value → β → Prop
  st : ∀ {M O O' : List Nat} {w w' : World} {row : List Value} {y : β}, Step M O O' w w' → φ O w row y → φ O' w' row y
  sb : ∀ {O O' : List Nat} {w : World} {row : List Value} {y : β}, (∀ b, b ∈ O' → b ∈ O) → φ O w row y → φ O' w row y

/-- A row that is just these cells. -/
def Rel.pure {β : Type} (f : β → List Value) : Rel β := ⟨fun _ _ row y => row = f y, fun _ h => h, fun _ h => h⟩

def Fact.rel {β : Type} (sz : Nat) (R : Rel β) (v : Value) (ys : List β) : Fact :=
  ⟨fun O w => SlR sz (R.φ O w) O w v ys, fun s h => SlR.step h s (fun _ _ h => R.st s h), fun hs h => SlR.sub h hs (fun _ _ h => R.sb hs h)⟩
def Fact.all {β : Type} (sz : Nat) (R : Rel β) (rows : List (List Value)) (ys : List β) : Fact :=
  ⟨fun O w => All2 (R.φ O w) rows ys ∧ ∀ row, row ∈ rows → row.length = sz, fun s h => ⟨h.1.mono (fun _ _ h => R.st s h), h.2⟩, fun hs h => ⟨h.1.mono (fun _ _ h => R.sb hs h), h.2⟩⟩
def Fact.one {β : Type} (R : Rel β) (row : List Value) (y : β) : Fact := ⟨fun O w => R.φ O w row y, fun s h => R.st s h, fun hs h => R.sb hs h⟩
/-- Cells, one behind the other. -/
def Fact.row (a : Addr) (cs : List Value) : Fact :=
  ⟨fun O w => ∀ (j : Nat) (u : Value), cs[j]? = some u → Cell O w (a.add j) u, fun s h j u hj => (h j u hj).step s, fun hs h j u hj => (h j u hj).sub hs⟩

section
variable {P : Program} {ρ : Env} {w w0 : World} {M O0 O : List Nat} {L L' : List KT} {Φ Φ' : List Fact}

theorem Fr.rel {β : Type} {sz : Nat} {R : Rel β} {v : Value} {ys : List β} (F : Fr M O0 w0 O w L Φ) (h : Sel Φ (Fact.rel sz R v ys) Φ' := by (repeat (first | exact Sel.here | apply Sel.there))) : SlR sz (R.φ O w) O w v ys := F.fa _ h.mem
theorem Fr.all2 {β : Type} {sz : Nat} {R : Rel β} {rows : List (List Value)} {ys : List β} (F : Fr M O0 w0 O w L Φ) (h : Sel Φ (Fact.all sz R rows ys) Φ' := by (repeat (first | exact Sel.here | apply Sel.there))) : All2 (R.φ O w) rows ys ∧ ∀ row, row ∈ rows → row.length = sz := F.fa _ h.mem
theorem Fr.one {β : Type} {R : Rel β} {row : List Value} {y : β} (F : Fr M O0 w0 O w L Φ) (h : Sel Φ (Fact.one R row y) Φ' := by (repeat (first | exact Sel.here | apply Sel.there))) : R.φ O w row y := F.fa _ h.mem

/-- An element. -/
theorem SlR.elem {β : Type} {sz : Nat} {R : Rel β} {a : Option Addr} {n c : Nat} {ys : List β} (h : SlR sz (R.φ O w) O w (.slice a n c) ys) {i : Nat} (hi : i < ys.length) (hsz : 0 < sz := by decide) :
    ∃ x row, a = some x ∧ row.length = sz ∧ R.φ O w row ys[i] ∧ (Fact.row (x.add (i * sz)) row).φ O w := by
  obtain ⟨x, row, h1, h2, h3, h4⟩ := h.at hsz (List.getElem?_eq_getElem hi)
  exact ⟨x, row, h1, h4, h3, fun j u hj => by rw [Addr.add_add]; exact h2 j u hj⟩

theorem y_loadRow {T : Nat} [TOne P T] {x : Operand} {p : Addr} {j : Nat} {cs : List Value} {v : Value} (hx : evo ρ x = some (.pointer (some (p.add j)))) (F : Fr M O0 w0 O w L Φ) (hs : Sel Φ (Fact.row p cs) Φ') (hj : cs[j]? = some v) : Y P ρ w (.load T x) v :=
  y_load hx (F.fa _ hs.mem j v hj).1
theorem y_loadRowS {T : Nat} [TOne P T] {x : Operand} {p : Addr} {j : Nat} {cs : List Value} {v : Value} (hx : evo ρ x = some (.pointer (some (p.add j)))) (F : FS M O0 w0 L Φ w) (hs : Sel Φ (Fact.row p cs) Φ') (hj : cs[j]? = some v) : Y P ρ w (.load T x) v := by
  obtain ⟨O, F⟩ := F; exact y_loadRow hx F hs hj
theorem y_loadRows {T m : Nat} [TAgg P T m] {x : Operand} {p : Addr} {cs : List Value} (hx : evo ρ x = some (.pointer (some p))) (F : Fr M O0 w0 O w L Φ) (hs : Sel Φ (Fact.row p cs) Φ') (hm : cs.length = m) : Y P ρ w (.load T x) (.agg cs.toArray) :=
  y_loadAgg hx hm (fun j v hj => (F.fa _ hs.mem j v hj).1)
theorem y_loadRowsS {T m : Nat} [TAgg P T m] {x : Operand} {p : Addr} {cs : List Value} (hx : evo ρ x = some (.pointer (some p))) (F : FS M O0 w0 L Φ w) (hs : Sel Φ (Fact.row p cs) Φ') (hm : cs.length = m) : Y P ρ w (.load T x) (.agg cs.toArray) := by
  obtain ⟨O, F⟩ := F; exact y_loadRows hx F hs hm

/-- A block of several cells that is appended as one. -/
theorem Fr.srcRow {T e sz by_ : Nat} [h : TSlice P T e sz by_] (F : Fr M O0 w0 O w L Φ) {q k cap : Nat} {row : List Value} (hs : Sel L (k, Thing.cells q row) L' := by (repeat (first | exact Sel.here | apply Sel.there))) (hl : row.length = 1 * sz := by rfl) (hv : row.all (·.oneCell') = true := by rfl) :
    Src P sz T (.slice (some ⟨q, 0, none⟩) 1 cap) 1 row w :=
  src_cb (news := row) (rest := []) (by rw [List.append_nil]; exact F.th _ hs.mem) hl (fun u hu => List.all_eq_true.1 hv u hu)
/-- A row of one's own that is appended. -/
theorem Fr.srcSl {T e sz by_ : Nat} [h : TSlice P T e sz by_] (F : Fr M O0 w0 O w L Φ) {v : Value} {m : Nat} {cs : List Value} (hs : Sel Φ (Fact.sl v m cs) Φ' := by (repeat (first | exact Sel.here | apply Sel.there))) (hl : cs.length = m * sz) (hv : ∀ u ∈ cs, u.oneCell' = true) : Src P sz T v m cs w :=
  src_sl (F.fa _ hs.mem) hl hv

/-- What was built row by row stays. -/
theorem Fr.frzRel {β : Type} {sz : Nat} {R : Rel β} (F : Fr M O0 w0 O w L Φ) {n : Nat} {v : Value} {rows : List (List Value)} {ys : List β} (hn : n = ys.length)
    (h : Sel L (2, Thing.buf sz v n rows.flatten) L' := by (repeat (first | exact Sel.here | apply Sel.there))) (h2 : Sel Φ (Fact.all sz R rows ys) Φ' := by (repeat (first | exact Sel.here | apply Sel.there))) : ∃ O', Fr M O0 w0 O' w L' (Fact.rel sz R v ys :: Φ) := by
  have ha := F.fa _ h2.mem
  subst hn
  refine F.freeze (f := Fact.rel sz R v ys) h (fun hc O' hs hb => ?_)
  have hc : Buf (fun _ => True) w sz v ys.length rows.flatten := hc
  exact ⟨rows, hc.self.sl (fun q hq => hb q hq.2), ha.1.mono (fun _ _ h => R.sb hs h), ha.2⟩

theorem Fr.all0 {β : Type} (sz : Nat) (R : Rel β) (F : Fr M O0 w0 O w L Φ) : Fr M O0 w0 O w L (Fact.all sz R [] [] :: Φ) := F.fact (f := Fact.all sz R [] []) ⟨trivial, fun _ h => by cases h⟩
theorem Fr.allSnoc {β : Type} {sz : Nat} {R : Rel β} (F : Fr M O0 w0 O w L Φ) {rows : List (List Value)} {ys : List β} {row : List Value} {y : β} (hr : R.φ O w row y) (hl : row.length = sz) (h : Sel Φ (Fact.all sz R rows ys) Φ' := by (repeat (first | exact Sel.here | apply Sel.there))) :
    Fr M O0 w0 O w L (Fact.all sz R (rows ++ [row]) (ys ++ [y]) :: Φ) := by
  have ha := F.fa _ h.mem
  refine F.fact (f := Fact.all sz R (rows ++ [row]) (ys ++ [y])) ⟨All2.snoc ha.1 hr, fun r hr' => ?_⟩
  rcases List.mem_append.1 hr' with hr' | hr'
  · exact ha.2 r hr'
  · simp at hr'; subst hr'; exact hl
end

def andI (k : IntKind) (a b : Int) : Int := k.wrap (((BitVec.ofInt k.bits a &&& BitVec.ofInt k.bits b).toNat : Nat) : Int)
theorem y_andI {P : Program} {ρ : Env} {w : World} {T yT : TypeId} {x y : Operand} {k : IntKind} {a b : Int} (hx : evo ρ x = some (.int k a)) (hy : evo ρ y = some (.int k b)) : Y P ρ w (.binOp .and T x y yT) (.int k (andI k a b)) := by
  refine y_arith hx hy (by simp) ?_
  simp only [binOp, Op.intBits, BitVec.toNat_and, ne_eq, not_true_eq_false, if_false, andI]
  rfl

/-- An element of a list of bytes. -/
theorem Fr.bytesAt {w w0 : World} {M O0 O : List Nat} {L : List KT} {Φ Φ' : List Fact} (F : Fr M O0 w0 O w L Φ) {a : Option Addr} {n c i : Nat} {xss : List (List UInt8)} (hi : i < xss.length) (h : Sel Φ (Fact.bytesL (.slice a n c) xss) Φ' := by (repeat (first | exact Sel.here | apply Sel.there))) :
    ∃ x u, a = some x ∧ u.oneCell' = true ∧ Fr M O0 w0 O w L (Fact.cell (x.add i) u :: Fact.bytes u xss[i] :: Φ) := by
  have hl : BytesL O w (.slice a n c) xss := F.fa _ h.mem
  obtain ⟨x, u, h1, h2, h3⟩ := hl.at (List.getElem?_eq_getElem hi)
  exact ⟨x, u, h1, oneCell_bytes h3, (F.factB h3).fact (f := Fact.cell _ _) h2⟩

/-- A row of one's own, as a block. -/
theorem Fr.openBuf {w w0 : World} {M O0 O : List Nat} {L L' : List KT} {Φ : List Fact} (F : Fr M O0 w0 O w L Φ) {k n sz : Nat} {v : Value} {cs : List Value} (hn : n ≠ 0) (h : Sel L (k, Thing.buf sz v n cs) L' := by (repeat (first | exact Sel.here | apply Sel.there))) :
    ∃ q cap rest, v = .slice (some ⟨q, 0, none⟩) n cap ∧ n ≤ cap ∧ cs.length = n * sz ∧ Fr M O0 w0 O w ((k, Thing.cells q (cs ++ rest)) :: L') Φ := by
  have hb : Buf (fun _ => True) w sz v n cs := F.th _ h.mem
  obtain ⟨hl, h1⟩ := hb
  rcases h1 with ⟨rfl, h0⟩ | ⟨q, cap, rest, rfl, h1, h2, h3, h4, h5⟩
  · exact absurd h0 hn
  · exact ⟨q, cap, rest, rfl, h1, hl, F.as (t' := Thing.cells q (cs ++ rest)) h (fun _ _ => h4) (fun b hb => by simpa [Thing.cells, Thing.buf, blk] using hb)⟩
/-- What a block begins with stays. -/
theorem Fr.frzPre {w w0 : World} {M O0 O : List Nat} {L L' : List KT} {Φ : List Fact} (F : Fr M O0 w0 O w L Φ) {q n cap : Nat} {cs : List Value} (ds : List Value) (hn : n ≤ cap) (hd : ∃ rest, cs = ds ++ rest) (h : Sel L (2, Thing.cells q cs) L' := by (repeat (first | exact Sel.here | apply Sel.there))) : ∃ O', Fr M O0 w0 O' w L' (Fact.sl (.slice (some ⟨q, 0, none⟩) n cap) n ds :: Φ) :=
  F.freeze (f := Fact.sl (.slice (some ⟨q, 0, none⟩) n cap) n ds) h (fun hc O' _ hb => CB.sl hc (hb q (by simp [Thing.cells])) hn _ (fun i u hu => by
    obtain ⟨rest, rfl⟩ := hd
    rw [List.getElem?_append_left (List.getElem?_eq_some_iff.1 hu).1]; exact hu))

/-- More may be written. -/
theorem FnC.more {P : Program} {f : FuncId} {args : List Value} {O M M' : List Nat} {w : World} {K K' : Value → List Nat → World → Prop} (h : FnC P f args O M w K) (hM : ∀ b, b ∈ M → b ∈ M') (hO : ∀ b, b ∈ M' → b ∈ O) (hK : ∀ r O' w', Step M O O' w w' → K r O' w' → K' r O' w') : FnC P f args O M' w K' :=
  ⟨h.1, Calls.mono h.2 fun e w' ⟨r, O', h1, h2, h3⟩ => ⟨r, O', h1, h2.more hM hO, hK _ _ _ h2 h3⟩⟩

theorem step_blk {M O : List Nat} {w w' : World} {sz n : Nat} {r : Value} {cs : List Value} (s : Step M O O w w') (hb : Buf (fun q => w.heap.size ≤ q) w' sz r n cs) : Step M O (blk r ++ O) w w' ∧ ∀ b, b ∈ blk r → w.heap.size ≤ b := by
  have h1 := hb.blk
  have h2 := hb.lt
  cases r <;> first | exact ⟨by simpa [blk] using s, by simp [blk]⟩ | skip
  rename_i a l c
  cases a with
  | none => exact ⟨by simpa [blk] using s, by simp [blk]⟩
  | some x =>
    have e : blk (.slice (some x) l c) = [x.block] := rfl
    rw [e] at h1 h2 ⊢
    exact ⟨s.take (h1 _ (by simp)) (h2 _ (by simp)), h1⟩

/-- A row that was made is the caller's. -/
theorem con0_buf {P : Program} {f : FuncId} {args : List Value} {Fs : List Fact} {sz n : Nat} {cs : List Value} (h : ∀ O w, OK O w → (∀ g, g ∈ Fs → g.φ O w) → FnC P f args O [] w fun r O' w' => O = O' ∧ Buf (fun q => w.heap.size ≤ q) w' sz r n cs) :
    Con P f args [] [] Fs fun r T Φ => T = [Thing.buf sz r n cs] ∧ Φ = [] := by
  intro O w hO _ _ _ _ _ hF
  refine ⟨(h O w hO hF).1, Calls.mono (h O w hO hF).2 fun e w' ⟨r, O', h1, h2, h3, h4⟩ => ?_⟩
  subst h3
  obtain ⟨s, hb⟩ := step_blk h2 h4
  exact ⟨r, _, h1, s, _, _, ⟨rfl, rfl⟩, left1 (t := Thing.buf sz r n cs) (h4.mono fun _ _ => trivial) fun b hm => ⟨List.mem_append_left _ hm, .inr (hb b hm)⟩⟩
theorem conB_buf {P : Program} {f : FuncId} {args : List Value} {Fs : List Fact} {t : Thing} {sz n : Nat} {cs : List Value} (h : ∀ O w, OK O w → t.φ O w → (∀ g, g ∈ Fs → g.φ O w) → FnC P f args O [] w fun r O' w' => O = O' ∧ Buf (fun q => w.heap.size ≤ q) w' sz r n cs) :
    Con P f args [] [t] Fs fun r T Φ => T = [Thing.buf sz r n cs] ∧ Φ = [] := by
  intro O w hO _ hB _ _ _ hF
  have ht := hB t (by simp)
  refine ⟨(h O w hO ht hF).1, Calls.mono (h O w hO ht hF).2 fun e w' ⟨r, O', h1, h2, h3, h4⟩ => ?_⟩
  subst h3
  obtain ⟨s, hb⟩ := step_blk h2 h4
  exact ⟨r, _, h1, s, _, _, ⟨rfl, rfl⟩, left1 (t := Thing.buf sz r n cs) (h4.mono fun _ _ => trivial) fun b hm => ⟨List.mem_append_left _ hm, .inr (hb b hm)⟩⟩

/-- Rows of nils are rows of no bytes. -/
theorem nil_bytesL {O : List Nat} {w : World} {v : Value} {n : Nat} (h : Sl O w v n (List.replicate n (.slice none 0 0))) : BytesL O w v (List.replicate n []) := by
  refine BytesL.mk (by simpa using h) (All2.mk (by simp) (fun i x y hx hy => ?_))
  have e1 : x = .slice none 0 0 := by
    rw [List.getElem?_replicate] at hx; split at hx
    · injection hx with hx; exact hx.symm
    · cases hx
  have e2 : y = [] := by
    rw [List.getElem?_replicate] at hy; split at hy
    · injection hy with hy; exact hy.symm
    · cases hy
  subst e1 e2
  exact Bytes.nil

/-- The same step, whoever holds what. -/
theorem step_re {O O1 O2 : List Nat} {w w' : World} (s : Step [] O1 O2 w w') (hO : OK O w) : Step [] O O w w' :=
  ⟨s.os, s.tape, s.output, s.size, s.same, by simp, fun k h => .inl h, fun k h => h, fun k h => Nat.lt_of_lt_of_le (hO k h) s.size⟩

/-- A call that looks at one's own memory as at anyone's, and leaves nothing. -/
theorem f_lend {P : Program} {n : Nat} {all : Array Oper} {os : List Oper} {ρ : Env} {D : Dr} {w w0 : World} {Q : Exit → Act → World → Prop} {d : Option Nat} {ty : TypeId} {pos : String} {af : Array Edge} {M O0 O : List Nat} {L : List KT} {Φ : List Fact}
    {f : FuncId} {xs : List Operand} {vs : List Value} {ats : Array TypeId} {pre : Prop} {Fs : List Fact} {κ : Value → Prop} (F : Fr M O0 w0 O w L Φ) (hd : okO n d = true) (hx : evs ρ xs = some vs) (c : pre → Con P f vs [] [] Fs (fun r T Φ => κ r ∧ T = [] ∧ Φ = []))
    (hF : ∀ g, g ∈ Fs → g.φ [] w) (h : ∀ r w', κ r → Fr M O0 w0 O w' L Φ → R P n all os (upO ρ d r) D w' Q)
    (hp : pre := by ((repeat (first | assumption | exact True.intro | refine And.intro ?_ ?_ | decide | omega | (focus (simp; done)) | (focus (simp; omega)))); first | done | fail "no")) :
    R P n all (⟨d, .call ⟨.value (.func f), xs.toArray, ats⟩, ty, pos, af, none⟩ :: os) ρ D w Q :=
  r_call hd hx (M := []) (O := []) (K := fun r _ _ => κ r) (((c hp) [] w OK_nil (by simp) (by simp) (by simp) (by simp) (by simp) hF).mono fun r O' w' s ⟨T, Φ', ⟨h1, _⟩, _⟩ => h1)
    (fun r O' w' s hk => h r w' hk (F.step0 (step_re s F.ok)))

theorem FS.bytesOwn {w w0 : World} {M O0 : List Nat} {L L' : List KT} {Φ : List Fact} (F : FS M O0 w0 L Φ w) {k m : Nat} {v : Value} {xs : List UInt8} (h : Sel L (k, Thing.buf 1 v m (bytesV xs)) L' := by (repeat (first | exact Sel.here | apply Sel.there))) : Bytes [] w v xs := by
  obtain ⟨O, F⟩ := F; exact F.bytesOwn h

/-- A slice of one's own is marked as bytes of a text. -/
theorem f_mark {P : Program} {n : Nat} {all : Array Oper} {os : List Oper} {ρ : Env} {D : Dr} {w w0 : World} {Q : Exit → Act → World → Prop} {d : Option Nat} {ty : TypeId} {pos : String} {af : Array Edge} {M O0 O : List Nat} {L L' : List KT} {Φ : List Fact}
    {S e by_ : Nat} [hS : TSlice P S e 1 by_] [he : TInt P e .u8] {x : Operand} {q m cap : Nat} {cs : List Value} (F : Fr M O0 w0 O w L Φ) (hd : okO n d = true) (hx : evo ρ x = some (.slice (some ⟨q, 0, none⟩) m cap))
    (h : ∀ w', Fr M O0 w0 O w' L Φ → R P n all os (upO ρ d (.slice (some ⟨q, 0, none⟩) m cap)) D w' Q)
    (hs : Sel L (2, Thing.cells q cs) L' := by (repeat (first | exact Sel.here | apply Sel.there))) :
    R P n all (⟨d, .convert S S x, ty, pos, af, none⟩ :: os) ρ D w Q := by
  have G := F.pull hs
  have hq : q ∈ O := (G.ow _ List.mem_cons_self q (by simp [Thing.cells])).1
  refine r_mark F.ok hd hx (F.thing hs) hq (fun w' s b => h w' ?_)
  exact (Fr.turn (t' := Thing.cells q cs) G (.inr rfl) s b (fun c hc => ⟨by simp [Thing.cells] at hc; subst hc; exact s.keep _ hq, .inl hc⟩)).perm hs.perm.symm

/-! ### an append behind which the row ahead is looked at, too -/

def Fact.and (f g : Fact) : Fact := ⟨fun O w => f.φ O w ∧ g.φ O w, fun s h => ⟨f.st s h.1, g.st s h.2⟩, fun hs h => ⟨f.sb hs h.1, g.sb hs h.2⟩⟩

/-- What a row begins with. -/
def Pre (w : World) (v : Value) (k : Nat) (cs : List Value) : Prop :=
  (v = .slice none 0 0 ∧ k = 0 ∧ cs = []) ∨ ∃ q cap rest, v = .slice (some ⟨q, 0, none⟩) k cap ∧ k ≤ cap ∧ CB w q (cs ++ rest)
theorem Pre.sl {O : List Nat} {w : World} {v : Value} {k : Nat} {cs : List Value} (h : Pre w v k cs) (hO : ∀ b, b ∈ blk v → b ∉ O) : Sl O w v k cs := by
  rcases h with ⟨rfl, rfl, rfl⟩ | ⟨q, cap, rest, rfl, hk, hc⟩
  · exact Sl.nil
  · exact CB.sl hc (hO q (by simp [blk])) hk _ (fun i u hu => by
      rw [List.getElem?_append_left (List.getElem?_eq_some_iff.1 hu).1]; exact hu)
theorem Pre.step {M O O' : List Nat} {w w' : World} {v : Value} {k : Nat} {cs : List Value} (h : Pre w v k cs) (s : Step M O O' w w') (hM : ∀ b, b ∈ blk v → b ∉ M) : Pre w' v k cs := by
  rcases h with h | ⟨q, cap, rest, rfl, hk, hc⟩
  · exact .inl h
  · exact .inr ⟨q, cap, rest, rfl, hk, hc.step s (hM q (by simp [blk]))⟩

theorem run_append_both {P : Program} {w : World} {O : List Nat} {T tx tyy e sz by_ : Nat} (hT : TSlice P T e sz by_) {p : Nat → Prop} {v x : Value} {k m : Nat} {cs news : List Value} (hO : OK O w) (hb : Buf p w sz v k cs) (hp : ∀ q, p q → q ∈ O)
    (hs : Src P sz tx x m news w) (h63 : k + m ≤ maxLen) (hfit : (k + m) * by_ ≤ 140737488355328) :
    ∃ r w' O', (Builtin.append_ #[T, tx] tyy #[v, x]).run P w = .ok r w' ∧ Step (blk v) O O' w w' ∧ Buf (fun q => q ∈ O' ∧ (p q ∨ w.heap.size ≤ q)) w' sz r (k + m) (cs ++ news) ∧ Pre w' v k cs := by
  obtain ⟨i, z, h1, h2, h3, h4, h5⟩ := info_of_slice hT
  have hpos : 0 < sz := by have := hT.pos; rw [Nat.blt_eq] at this; exact this
  have hlen : (cs ++ news).length = (k + m) * sz := by rw [List.length_append, hb.1, hs.newsLen, Nat.add_mul]
  subst h3 h4
  obtain ⟨hcl, hb2⟩ := hb
  rcases hb2 with ⟨rfl, rfl⟩ | ⟨q, cap, rest, rfl, hnc, hm, hl, hcb, hq⟩
  · have hcs : cs = [] := List.length_eq_zero_iff.1 (by simpa using hcl)
    subst hcs
    rcases Nat.eq_zero_or_pos m with rfl | hmp
    · have hn0 : news = [] := List.length_eq_zero_iff.1 (by simpa using hs.newsLen)
      subst hn0
      refine ⟨.slice none 0 0, w, O, ?_, Step.refl hO, Buf.nil, .inl ⟨rfl, rfl, rfl⟩⟩
      rcases hs.kind with ⟨e', hk⟩ | hk <;> simp [Builtin.append_, run_underlying hT.at_, run_underlying hk, Go.sizeOf, typeInfo, h1, hs.len, hs.cells]
    · have hr := run_append_grow_src (P := P) w T tx tyy e i z hT.at_ h1 h2 none 0 0 [] (run_firstCells_none w.drew i.size 0 0 0) x m news hs (by omega) (by simp only [maxLen] at h63; omega) (growslice_fits (by omega) hfit)
      obtain ⟨s1, b1, z1⟩ := grow_buf (e := e) (cap := 0) (need := 0 + m) hO h5 hlen h63
      refine ⟨_, _, _ :: O, hr, (s1.take (Nat.le_refl _) z1).more (fun _ h => by cases h) (fun _ h => by cases h), b1.mono ?_, .inl ⟨rfl, rfl, rfl⟩⟩
      rintro q rfl
      exact ⟨List.mem_cons_self, .inr (Nat.le_refl _)⟩
  · by_cases hroom : k + m ≤ cap
    · have hrl : rest.length = cap * i.size - k * i.size := by rw [List.length_append, hcl] at hl; omega
      have hmul : (k + m) * i.size ≤ cap * i.size := Nat.mul_le_mul_right _ hroom
      have hin : ∀ j, j < news.length → 0 + k * i.size + j < (cs ++ rest).length := fun j hj => by
        rw [hs.newsLen] at hj; rw [hl]; rw [Nat.add_mul] at hmul; omega
      have hr := run_append_room_src (P := P) w T tx tyy e i hT.at_ h1 q 0 k cap x m news hs hroom (fun j hj => cell?_set hcb (hin j hj)) (fun j hj => hcb.frozen? (hin j hj))
      have hnew := hcb.setCells (i := 0 + k * i.size) news
      rw [laid_eq] at hnew
      · rw [Nat.zero_add, ← hcl, List.take_left, List.drop_append, show cs.length + news.length - cs.length = news.length from by omega,
          List.drop_eq_nil_of_le (show cs.length ≤ cs.length + news.length by omega), List.nil_append] at hnew
        rw [hcl] at hnew
        refine ⟨_, _, O, hr, step_setCells hO (hp q hq), ⟨hlen, .inr ⟨q, cap, rest.drop news.length, rfl, hroom, hm, ?_, ?_, hp q hq, .inl hq⟩⟩, .inr ⟨q, cap, news ++ rest.drop news.length, rfl, hnc, ?_⟩⟩
        · rw [List.length_append, hlen, List.length_drop, hrl, hs.newsLen]
          rw [Nat.add_mul] at hmul ⊢; omega
        · rw [Nat.zero_add]
          exact hnew
        · rw [Nat.zero_add, ← List.append_assoc]
          exact hnew
      · rw [hl, hs.newsLen, Nat.zero_add]; rw [Nat.add_mul] at hmul; omega
    · have hr := run_append_grow_src (P := P) w T tx tyy e i z hT.at_ h1 h2 (some ⟨q, 0, none⟩) k cap cs
        (firstCells_sl hcl (fun a ha j u hj => by
          injection ha with ha; subst ha
          rw [Addr.add_lit, Nat.zero_add]
          exact hcb.cell? (by rw [List.getElem?_append_left (List.getElem?_eq_some_iff.1 hj).1]; exact hj)) (fun h => by cases h))
        x m news hs (by omega) (by simp only [maxLen] at h63; omega) (growslice_fits (by omega) hfit)
      obtain ⟨s1, b1, z1⟩ := grow_buf (e := e) (cap := cap) (need := k + m) hO h5 hlen h63
      refine ⟨_, _, _ :: O, hr, (s1.take (Nat.le_refl _) z1).more (fun _ h => by cases h) (fun b hb => ?_), b1.mono ?_, .inr ⟨q, cap, rest, rfl, hnc, hcb.step s1 (by simp)⟩⟩
      · simp [blk] at hb; subst hb; exact hp _ hq
      · rintro q rfl
        exact ⟨List.mem_cons_self, .inr (Nat.le_refl _)⟩

/-- An append onto one's own row; both rows stay. -/
theorem f_append2 {P : Program} {n : Nat} {all : Array Oper} {os : List Oper} {ρ : Env} {D : Dr} {w w0 : World} {Q : Exit → Act → World → Prop} {d : Option Nat} {ty : TypeId} {pos : String} {af : Array Edge} {M O0 O : List Nat} {L L' : List KT} {Φ : List Fact}
    {T tx e sz by_ : Nat} [hT : TSlice P T e sz by_] {x y : Operand} {v u : Value} {k m : Nat} {cs news : List Value} (F : Fr M O0 w0 O w L Φ) (hd : okO n d = true)
    (hx : evo ρ x = some v) (hy : evo ρ y = some u) (hS : Src P sz tx u m news w)
    (h : ∀ r w' O', Fr M O0 w0 O' w' L' (Fact.sl v k cs :: Fact.sl r (k + m) (cs ++ news) :: Φ) → R P n all os (upO ρ d r) D w' Q)
    (hs : Sel L (2, Thing.buf sz v k cs) L' := by (repeat (first | exact Sel.here | apply Sel.there))) (h63 : k + m ≤ maxLen := by (unfold maxLen; omega)) (hfit : (k + m) * by_ ≤ 140737488355328 := by omega) :
    R P n all (⟨d, .call ⟨.builtin .append, #[x, y], #[T, tx]⟩, ty, pos, af, none⟩ :: os) ρ D w Q := by
  have G := F.pull hs
  have hb : Buf (fun _ => True) w sz v k cs := F.th _ hs.mem
  obtain ⟨r, w', O', hr, s1, b1, p1⟩ := run_append_both (tyy := ty) hT F.ok hb.self (fun q hq => (G.ow _ List.mem_cons_self q hq.2).1) hS h63 hfit
  let t' : Thing := ⟨blk v ++ blk r, fun _ w => Pre w v k cs ∧ Buf (fun _ => True) w sz r (k + m) (cs ++ news), fun s hn h => ⟨h.1.step s (fun q hq => hn q (by simp [hq])), (h.2.self.step s (fun q hq => hn q (by simp [hq.2]))).mono (fun _ _ => trivial)⟩, fun _ _ h => h⟩
  have F1 := Fr.turn (t' := t') G (.inr rfl) s1 ⟨p1, b1.mono fun _ _ => trivial⟩ (fun q hq => by
    rcases List.mem_append.1 hq with hq | hq
    · exact ⟨s1.keep _ ((G.ow _ List.mem_cons_self q hq).1), .inl hq⟩
    · have := b1.blk q hq
      exact ⟨this.1, this.2.imp (fun h => h.2) id⟩)
  obtain ⟨O2, F2⟩ := F1.freeze (f := Fact.and (Fact.sl v k cs) (Fact.sl r (k + m) (cs ++ news))) Sel.here (fun hc O' _ hb => by
    have hc : Pre w' v k cs ∧ Buf (fun _ => True) w' sz r (k + m) (cs ++ news) := hc
    exact ⟨hc.1.sl (fun q hq => hb q (by show q ∈ blk v ++ blk r; simp [hq])), hc.2.self.sl (fun q hq => hb q (by show q ∈ blk v ++ blk r; simp [hq.2]))⟩)
  have h2 := F2.fa _ List.mem_cons_self
  have F3 : Fr M O0 w0 O2 w' L' Φ := ⟨F2.st, F2.ok0, F2.th, F2.ow, F2.ap, fun f hf => F2.fa f (List.mem_cons_of_mem _ hf)⟩
  exact r_val hd (fun a h2 => by simp [execOp, resolve, invoke, builtin, eval_of h2 hx, eval_of h2 hy, hr]) (h r w' O2 ((F3.fact (f := Fact.sl r (k + m) (cs ++ news)) h2.2).fact (f := Fact.sl v k cs) h2.1))
end Gk
