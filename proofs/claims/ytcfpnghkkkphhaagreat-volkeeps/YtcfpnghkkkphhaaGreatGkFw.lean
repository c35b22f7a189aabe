/- Walking with a frame. Nothing here speaks of one program. -/
import Derived.Test.YtcfpnghkkkphhaaGreatGkFr
import Derived.Test.YtcfpnghkkkphhaaGreatGkLit
import Derived.LoopN
import Derived.Test.YtcfpnghkkkphhaaGreatGkNum
namespace Gk
open Go
set_option linter.unusedVariables false

/-! ### texts -/

section
variable {P : Program} {ρ : Env} {w : World}

theorem y_str_add {T yT : TypeId} {x y : Operand} {a b : List UInt8} (hx : evo ρ x = some (str a)) (hy : evo ρ y = some (str b)) (h : a.length + b.length ≤ 9223372036854775807) :
    Y P ρ w (.binOp .add T x y yT) (str (a ++ b)) := by
  intro c h2 d ty pos af
  have e1 : (binOp .add T (str a) (str b)).run P w = .ok (str (a ++ b)) w := by
    have hs : ¬ (((⟨a.toArray⟩ : ByteArray).size + (⟨b.toArray⟩ : ByteArray).size : Nat) : Int) > IntKind.i64.max := by
      rw [str_size, str_size]
      simp only [IntKind.max, IntKind.signed, IntKind.bits]
      omega
    have ha : (⟨a.toArray⟩ : ByteArray) ++ (⟨b.toArray⟩ : ByteArray) = ⟨(a ++ b).toArray⟩ := by
      apply ByteArray.ext; simp
    simp only [str, binOp, Op.stringOp, hs, if_false, ha]
    rfl
  simp [execOp, eval_of h2 hx, eval_of h2 hy, eqGuard, e1]

theorem y_str_eq {T yT : TypeId} {x y : Operand} {a b : List UInt8} (hx : evo ρ x = some (str a)) (hy : evo ρ y = some (str b)) : Y P ρ w (.binOp .eql T x y yT) (.bool (decide (a = b))) := by
  have := y_pure (P := P) (w := w) (ρ := ρ) (op := .binOp .eql T x y yT) (v := .bool (decide ((⟨a.toArray⟩ : ByteArray) = ⟨b.toArray⟩))) (by simp only [pureV, hx, hy, str, strV])
  rwa [decide_eq_decide.2 (str_eq_iff a b)] at this

theorem y_str_ne {T yT : TypeId} {x y : Operand} {a b : List UInt8} (hx : evo ρ x = some (str a)) (hy : evo ρ y = some (str b)) : Y P ρ w (.binOp .neq T x y yT) (.bool (!decide (a = b))) := by
  have := y_pure (P := P) (w := w) (ρ := ρ) (op := .binOp .neq T x y yT) (v := .bool (!decide ((⟨a.toArray⟩ : ByteArray) = ⟨b.toArray⟩))) (by simp only [pureV, hx, hy, str, strV])
  rwa [decide_eq_decide.2 (str_eq_iff a b)] at this

theorem y_str_len {T : Nat} [h : TString P T] {x : Operand} {a : List UInt8} (hx : evo ρ x = some (str a)) : Y P ρ w (.call ⟨.builtin .len, #[x], #[T]⟩) (.int .i64 a.length) := by
  have := y_lenStr (P := P) (w := w) (T := T) hx
  rwa [str_size] at this

theorem y_str_at {T : Nat} [h : TString P T] {x y : Operand} {a : List UInt8} {k : IntKind} {i : Nat} {b : UInt8} (hx : evo ρ x = some (str a)) (hy : evo ρ y = some (.int k i)) (hi : a[i]? = some b) : Y P ρ w (.index T x y) (.int .u8 b.toNat) :=
  y_index_str hx hy (by omega) (by simpa using hi)

end

/-! ### what a frame tells -/

section
variable {P : Program} {n : Nat} {all : Array Oper} {os : List Oper} {ρ : Env} {D : Dr} {w w0 : World} {Q : Exit → Act → World → Prop}
variable {d : Option Nat} {ty : TypeId} {pos : String} {af : Array Edge} {M O0 O : List Nat} {L L1 L2 L' : List KT} {Φ Φ' : List Fact}

theorem Fr.cb (F : Fr M O0 w0 O w L Φ) {k p : Nat} {cs : List Value} (h : Sel L (k, Thing.cells p cs) L' := by (repeat (first | exact Sel.here | apply Sel.there))) : CB w p cs := F.th _ h.mem
theorem Fr.bufAt (F : Fr M O0 w0 O w L Φ) {k sz m : Nat} {v : Value} {cs : List Value} (h : Sel L (k, Thing.buf sz v m cs) L' := by (repeat (first | exact Sel.here | apply Sel.there))) : Buf (fun _ => True) w sz v m cs := F.th _ h.mem
theorem Fr.bytes (F : Fr M O0 w0 O w L Φ) {v : Value} {xs : List UInt8} (h : Sel Φ (Fact.bytes v xs) Φ' := by (repeat (first | exact Sel.here | apply Sel.there))) : Bytes O w v xs := F.fa _ h.mem
theorem Fr.sl (F : Fr M O0 w0 O w L Φ) {v : Value} {m : Nat} {cs : List Value} (h : Sel Φ (Fact.sl v m cs) Φ' := by (repeat (first | exact Sel.here | apply Sel.there))) : Sl O w v m cs := F.fa _ h.mem
theorem Fr.bytesL (F : Fr M O0 w0 O w L Φ) {v : Value} {xss : List (List UInt8)} (h : Sel Φ (Fact.bytesL v xss) Φ' := by (repeat (first | exact Sel.here | apply Sel.there))) : BytesL O w v xss := F.fa _ h.mem
theorem Fr.mapAt (F : Fr M O0 w0 O w L Φ) {k m : Nat} {K : IntKind} {es : KV} (h : Sel L (k, Thing.map m K es) L' := by (repeat (first | exact Sel.here | apply Sel.there))) : MapI w m K es := F.th _ h.mem
/-- Bytes of one's own row. -/
theorem Fr.bytesOwn (F : Fr M O0 w0 O w L Φ) {k m : Nat} {v : Value} {xs : List UInt8} (h : Sel L (k, Thing.buf 1 v m (bytesV xs)) L' := by (repeat (first | exact Sel.here | apply Sel.there))) : Bytes [] w v xs := by
  have hb : Buf (fun _ => True) w 1 v m (bytesV xs) := F.th _ h.mem
  have hm : m = xs.length := by simpa [bytesV] using hb.1.symm
  subst hm
  exact Sl.bytes (hb.sl (fun _ _ => by simp))

theorem y_loadF {T : Nat} [TOne P T] {x : Operand} {p i k : Nat} {cs : List Value} {v : Value} (hx : evo ρ x = some (.pointer (some ⟨p, i, none⟩))) (F : Fr M O0 w0 O w L Φ) (hs : Sel L (k, Thing.cells p cs) L') (hi : cs[i]? = some v) :
    Y P ρ w (.load T x) v := y_load hx (CB.cell? (F.th _ hs.mem) hi)

inductive TakeL : List Value → Nat → List Value → Prop
  | nil {l : List Value} : TakeL l 0 []
  | cons {a : Value} {l l' : List Value} {m : Nat} : TakeL l m l' → TakeL (a :: l) (m + 1) (a :: l')
inductive CutL : List Value → Nat → Nat → List Value → Prop
  | take {l l' : List Value} {m : Nat} : TakeL l m l' → CutL l 0 m l'
  | drop {a : Value} {l l' : List Value} {i m : Nat} : CutL l i m l' → CutL (a :: l) (i + 1) m l'

theorem TakeL.eq {l l' : List Value} {m : Nat} (h : TakeL l m l') : l' = l.take m ∧ l'.length = m := by
  induction h with
  | nil => simp
  | cons _ ih => simp [← ih.1, ih.2]
theorem CutL.eq {l l' : List Value} {i m : Nat} (h : CutL l i m l') : l' = (l.drop i).take m ∧ l'.length = m := by
  induction h with
  | take h => simpa using h.eq
  | drop _ ih => simpa using ih

theorem y_loadAggF {T m : Nat} [TAgg P T m] {x : Operand} {p i k : Nat} {cs vs : List Value} (hx : evo ρ x = some (.pointer (some ⟨p, i, none⟩))) (F : Fr M O0 w0 O w L Φ) (hs : Sel L (k, Thing.cells p cs) L') (hv : CutL cs i m vs) :
    Y P ρ w (.load T x) (.agg vs.toArray) := by
  have hc : CB w p cs := F.th _ hs.mem
  refine y_loadAgg hx hv.eq.2 (fun j v hj => ?_)
  rw [Addr.add_lit]
  refine hc.cell? ?_
  rw [hv.eq.1, List.getElem?_take] at hj
  split at hj
  · rwa [List.getElem?_drop] at hj
  · cases hj

/-- What a walk's looks need of a frame. -/
def FS (M O0 : List Nat) (w0 : World) (L : List KT) (Φ : List Fact) (w : World) : Prop := ∃ O, Fr M O0 w0 O w L Φ
theorem Fr.fs (F : Fr M O0 w0 O w L Φ) : FS M O0 w0 L Φ w := ⟨O, F⟩
theorem FS.bytes (F : FS M O0 w0 L Φ w) {v : Value} {xs : List UInt8} (h : Sel Φ (Fact.bytes v xs) Φ' := by (repeat (first | exact Sel.here | apply Sel.there))) : Bytes [] w v xs := by
  obtain ⟨O, F⟩ := F; exact (F.bytes h).sub (by simp)
theorem y_loadS {T : Nat} [TOne P T] {x : Operand} {p i k : Nat} {cs : List Value} {v : Value} (hx : evo ρ x = some (.pointer (some ⟨p, i, none⟩))) (F : FS M O0 w0 L Φ w) (hs : Sel L (k, Thing.cells p cs) L') (hi : cs[i]? = some v) :
    Y P ρ w (.load T x) v := by obtain ⟨O, F⟩ := F; exact y_loadF hx F hs hi
theorem y_loadAggS {T m : Nat} [TAgg P T m] {x : Operand} {p i k : Nat} {cs vs : List Value} (hx : evo ρ x = some (.pointer (some ⟨p, i, none⟩))) (F : FS M O0 w0 L Φ w) (hs : Sel L (k, Thing.cells p cs) L') (hv : CutL cs i m vs) :
    Y P ρ w (.load T x) (.agg vs.toArray) := by obtain ⟨O, F⟩ := F; exact y_loadAggF hx F hs hv

/-- All of these, in this order, are among those. -/
inductive Subl : List KT → List KT → Prop
  | nil {l : List KT} : Subl l []
  | cons {l l1 ts : List KT} {t : KT} : Sel l t l1 → Subl l1 ts → Subl l (t :: ts)

theorem Subl.perm {l ts : List KT} (h : Subl l ts) : ∃ r, List.Perm l (ts ++ r) := by
  induction h with
  | nil => exact ⟨_, .refl _⟩
  | cons h1 _ ih =>
    obtain ⟨r, hr⟩ := ih
    exact ⟨r, h1.perm.trans (List.Perm.cons _ hr)⟩

/-- Less is held. -/
theorem Fr.wk {L2 : List KT} {Φ2 : List Fact} (F : Fr M O0 w0 O w L Φ)
    (hL : Subl L L2 := by (repeat (first | exact Subl.nil | (apply Subl.cons; focus (repeat (first | exact Sel.here | apply Sel.there))))))
    (hΦ : Known Φ Φ2 := by (repeat (first | exact Known.nil | (apply Known.cons; focus (repeat (first | exact Sel.here | apply Sel.there)))))) : Fr M O0 w0 O w L2 Φ2 := by
  obtain ⟨r, hr⟩ := hL.perm
  have G := F.perm hr
  exact ⟨G.st, G.ok0, fun t ht => G.th t (List.mem_append_left _ ht), fun t ht => G.ow t (List.mem_append_left _ ht), (List.pairwise_append.1 G.ap).1, fun f hf => G.fa f (hΦ.mem f hf)⟩

theorem f_draw (L2 : List KT) (F : Fr M O0 w0 O w L Φ) (tl : List Nat) (pl : List (Nat × Bool)) {id : Nat} {l : List Oper} (hm : P.follows .mixedOrders = true) (hr : regionB l.toArray (inTail tl) pl = true)
    (h : ∀ w, Fr M O0 w0 O w L Φ → FS M O0 w0 L2 Φ w → RD P n l.toArray (FS M O0 w0 L2 Φ) tl (Array.replicate l.length false) pl ρ D w (QN Q))
    (hL : Subl L L2 := by (repeat (first | exact Subl.nil | (apply Subl.cons; focus (repeat (first | exact Sel.here | apply Sel.there)))))) : G P n (.region id l.toArray true) ρ D w Q := by
  have G := F.step0 (step_drew F.ok)
  refine g_draw _ tl pl hm hr (h _ G ⟨O, ?_⟩)
  obtain ⟨r, hr⟩ := hL.perm
  have G := G.perm hr
  exact ⟨G.st, G.ok0, fun t ht => G.th t (List.mem_append_left _ ht), fun t ht => G.ow t (List.mem_append_left _ ht), (List.pairwise_append.1 G.ap).1, G.fa⟩

theorem f_drawA (F : Fr M O0 w0 O w L Φ) (tl : List Nat) (pl : List (Nat × Bool)) {id : Nat} {l : List Oper} (hm : P.follows .mixedOrders = true) (hr : regionB l.toArray (inTail tl) pl = true)
    (h : ∀ w, Fr M O0 w0 O w L Φ → FS M O0 w0 L Φ w → RD P n l.toArray (FS M O0 w0 L Φ) tl (Array.replicate l.length false) pl ρ D w (QN Q)) : G P n (.region id l.toArray true) ρ D w Q :=
  g_draw _ tl pl hm hr (h _ (F.step0 (step_drew F.ok)) ⟨O, F.step0 (step_drew F.ok)⟩)

theorem e_afterS {S : World → Prop} {tl : List Nat} {i : Nat} {listed : Array Bool} {pl : List (Nat × Bool)} (hS : S w) (h : S w → RD P n all S tl listed pl ρ D w Q) : E n ρ D w (After P all S tl i listed pl Q) .normal :=
  e_after (fun _ => hS) (h hS)

theorem e_afterF {L2 : List KT} {Φ2 : List Fact} {tl : List Nat} {i : Nat} {listed : Array Bool} {pl : List (Nat × Bool)} (F : Fr M O0 w0 O w L Φ2)
    (h : FS M O0 w0 L2 Φ2 w → RD P n all (FS M O0 w0 L2 Φ2) tl listed pl ρ D w Q)
    (hL : Subl L L2 := by (repeat (first | exact Subl.nil | (apply Subl.cons; focus (repeat (first | exact Sel.here | apply Sel.there))))))
    (hΦ : Known Φ2 Φ := by (repeat (first | exact Known.nil | (apply Known.cons; focus (repeat (first | exact Sel.here | apply Sel.there)))))) : E n ρ D w (After P all (FS M O0 w0 L2 Φ) tl i listed pl Q) .normal := by
  have hSS : ∀ w, FS M O0 w0 L2 Φ2 w → FS M O0 w0 L2 Φ w := fun w ⟨O, G⟩ => ⟨O, G.st, G.ok0, G.th, G.ow, G.ap, fun f hf => G.fa f (hΦ.mem f hf)⟩
  have hS : FS M O0 w0 L2 Φ2 w := by
    obtain ⟨r, hr⟩ := hL.perm
    have G := F.perm hr
    exact ⟨O, G.st, G.ok0, fun t ht => G.th t (List.mem_append_left _ ht), fun t ht => G.ow t (List.mem_append_left _ ht), (List.pairwise_append.1 G.ap).1, G.fa⟩
  exact e_after (fun _ => hSS _ hS) (rd_more _ hSS (h hS))

/-! ### what turns memory -/

inductive SetL : List Value → Nat → Value → List Value → Prop
  | here {a v : Value} {l : List Value} : SetL (a :: l) 0 v (v :: l)
  | there {a v : Value} {i : Nat} {l l' : List Value} : SetL l i v l' → SetL (a :: l) (i + 1) v (a :: l')
  | any {v : Value} {i : Nat} {l : List Value} : SetL l i v (l.set i v)

theorem SetL.eq {l l' : List Value} {i : Nat} {v : Value} (h : SetL l i v l') : l.set i v = l' := by
  induction h with
  | here => rfl
  | there _ ih => simp [ih]
  | any => rfl

theorem f_store1 {T : TypeId} [hT : TOne P T] {x y : Operand} {p i k : Nat} {v : Value} {cs cs' : List Value} (F : Fr M O0 w0 O w L Φ) (hd : okO n d = true)
    (hx : evo ρ x = some (.pointer (some ⟨p, i, none⟩))) (hy : evo ρ y = some v)
    (h : ∀ w', Fr M O0 w0 O w' ((k, Thing.cells p cs') :: L') Φ → R P n all os (upO ρ d undef) D w' Q)
    (hs : Sel L (k, Thing.cells p cs) L' := by (repeat (first | exact Sel.here | apply Sel.there))) (hc : SetL cs i v cs' := by (repeat (first | apply SetL.there | exact SetL.here)))
    (hv : v.oneCell' = true := by rfl) (hi : i < cs.length := by (first | decide | (simp; done) | (simp; omega))) (hk : k = 1 ∨ k = 2 := by decide) :
    R P n all (⟨d, .store T x y, ty, pos, af, none⟩ :: os) ρ D w Q := by
  have G := F.pull hs
  have hp := (G.ow _ List.mem_cons_self p (by simp [Thing.cells])).1
  refine r_store1 F.ok hd hx hy hv (F.th _ hs.mem) hi hp (fun w' s hc' => ?_)
  refine h w' (Fr.turn (t' := Thing.cells p cs') G hk s (by rw [hc.eq] at hc'; exact hc') (fun b hb => ?_))
  exact ⟨by simp [Thing.cells] at hb; subst hb; exact hp, .inl hb⟩

theorem f_storeN {T m : TypeId} [hT : TAgg P T m] {x y : Operand} {p i k : Nat} {vs cs cs' : List Value} (F : Fr M O0 w0 O w L Φ) (hd : okO n d = true)
    (hx : evo ρ x = some (.pointer (some ⟨p, i, none⟩))) (hy : evo ρ y = some (.agg vs.toArray))
    (h : ∀ w', Fr M O0 w0 O w' ((k, Thing.cells p cs') :: L') Φ → R P n all os (upO ρ d undef) D w' Q)
    (hs : Sel L (k, Thing.cells p cs) L' := by (repeat (first | exact Sel.here | apply Sel.there))) (hc : cs.take i ++ vs ++ cs.drop (i + vs.length) = cs' := by rfl)
    (hv : vs.all (·.oneCell') = true := by rfl) (hm : vs.length = m := by rfl) (hi : i + vs.length ≤ cs.length := by (first | decide | (simp; done) | (simp; omega))) (hk : k = 1 ∨ k = 2 := by decide) :
    R P n all (⟨d, .store T x y, ty, pos, af, none⟩ :: os) ρ D w Q := by
  have G := F.pull hs
  have hp := (G.ow _ List.mem_cons_self p (by simp [Thing.cells])).1
  refine r_storeN F.ok hd hx hy hv hm (F.th _ hs.mem) hi hp (fun w' s hc' => ?_)
  refine h w' (Fr.turn (t' := Thing.cells p cs') G hk s (by rw [laid_eq _ _ _ hi, hc] at hc'; exact hc') (fun b hb => ?_))
  exact ⟨by simp [Thing.cells] at hb; subst hb; exact hp, .inl hb⟩

theorem new_cells {O' : List Nat} {w' : World} {cs : List Value} {q : Nat} (F : Fr M O0 w0 O w L Φ) (hq : q = w.heap.size) (s : Step [] O O w w') (z : w.heap.size < w'.heap.size) (b : CB w' q cs) :
    Fr M O0 w0 (q :: O) w' ((2, Thing.cells q cs) :: L) Φ :=
  F.new (s.take (q := q) (by omega) (by omega)) b (fun b hb => by simp [Thing.cells] at hb; subst hb; exact ⟨by simp, by omega⟩)

theorem f_boxN {T : TypeId} {x : Operand} {cs : List Value} (F : Fr M O0 w0 O w L Φ) (hd : okO n d = true) (hx : evo ρ x = some (.agg cs.toArray))
    (h : ∀ q w', Fr M O0 w0 (q :: O) w' ((2, Thing.cells q cs) :: L) Φ → R P n all os (upO ρ d (.pointer (some ⟨q, 0, none⟩))) D w' Q) :
    R P n all (⟨d, .box T x, ty, pos, af, none⟩ :: os) ρ D w Q :=
  r_boxN F.ok hd hx (fun q w' hq s z b => h q w' (new_cells (O' := O) F hq s z b))

theorem f_box1 {T : TypeId} {x : Operand} {v : Value} (F : Fr M O0 w0 O w L Φ) (hd : okO n d = true) (hx : evo ρ x = some v)
    (h : ∀ q w', Fr M O0 w0 (q :: O) w' ((2, Thing.cells q [v]) :: L) Φ → R P n all os (upO ρ d (.pointer (some ⟨q, 0, none⟩))) D w' Q) (hv : v.oneCell' = true := by rfl) :
    R P n all (⟨d, .box T x, ty, pos, af, none⟩ :: os) ρ D w Q :=
  r_box1 F.ok hd hx hv (fun q w' hq s z b => h q w' (new_cells (O' := O) F hq s z b))

theorem f_alloc1 {T : TypeId} {z : Value} [TZero P T z] (F : Fr M O0 w0 O w L Φ) (hd : okO n d = true)
    (h : ∀ q w', Fr M O0 w0 (q :: O) w' ((2, Thing.cells q [z]) :: L) Φ → R P n all os (upO ρ d (.pointer (some ⟨q, 0, none⟩))) D w' Q) (hz : z.oneCell' = true := by rfl) :
    R P n all (⟨d, .alloc T, ty, pos, af, none⟩ :: os) ρ D w Q :=
  r_alloc1 (T := T) (z := z) F.ok hd hz (fun q w' hq s z b => h q w' (new_cells (O' := O) F hq s z b))

theorem f_allocN {T : TypeId} {cs : List Value} [TZero P T (.agg cs.toArray)] (F : Fr M O0 w0 O w L Φ) (hd : okO n d = true)
    (h : ∀ q w', Fr M O0 w0 (q :: O) w' ((2, Thing.cells q cs) :: L) Φ → R P n all os (upO ρ d (.pointer (some ⟨q, 0, none⟩))) D w' Q) :
    R P n all (⟨d, .alloc T, ty, pos, af, none⟩ :: os) ρ D w Q :=
  r_allocN (T := T) (cs := cs) F.ok hd (fun q w' hq s z b => h q w' (new_cells (O' := O) F hq s z b))

theorem f_buildSlice {T e sz by_ : TypeId} [h : TSlice P T e sz by_] {z : Value} [hz : TZero P e z] {m : Nat} {ps : List (Nat × Operand)} {vs : List (Nat × Value)} {cs : List Value} (F : Fr M O0 w0 O w L Φ) (hd : okO n d = true)
    (hp : evps ρ ps = some vs) (hm : Nat.ble (m * sz) 16777216 = true) (hf : fillL (fun i => some (i * sz, sz)) ((List.replicate m (cellsOf z)).flatten) vs = some cs)
    (hk : ∀ q w', Fr M O0 w0 (q :: O) w' ((2, Thing.cells q cs) :: L) Φ → R P n all os (upO ρ d (.slice (some ⟨q, 0, none⟩) m m)) D w' Q) :
    R P n all (⟨d, .buildSlice T m ps.toArray, ty, pos, af, none⟩ :: os) ρ D w Q :=
  r_buildSlice F.ok hd hp hm hf (fun q w' hq s z b => hk q w' (new_cells (O' := O) F hq s z b))

theorem f_make {T e by_ : Nat} [h : TSlice P T e 1 by_] {z : Value} [hz : TZero P e z] {x y : Operand} {kl kc : IntKind} {l c : Nat} (F : Fr M O0 w0 O w L Φ) (hd : okO n d = true)
    (hx : evo ρ x = some (.int kl l)) (hy : evo ρ y = some (.int kc c))
    (hk : ∀ q w', Fr M O0 w0 (q :: O) w' ((2, Thing.cells q (List.replicate c z)) :: L) Φ → R P n all os (upO ρ d (.slice (some ⟨q, 0, none⟩) l c)) D w' Q)
    (h1 : z.oneCell' = true := by rfl) (hlc : l ≤ c := by omega) (hb : by_ * c ≤ 281474976710656 := by omega) (h63 : c ≤ 9223372036854775807 := by omega) :
    R P n all (⟨d, .makeSlice T x y, ty, pos, af, none⟩ :: os) ρ D w Q :=
  r_make F.ok hd hx hy h1 hlc hb h63 (fun q w' hq s z b => hk q w' (new_cells (O' := O) F hq s z b))

theorem f_makeMap {T : TypeId} (K : IntKind) (F : Fr M O0 w0 O w L Φ) (hd : okO n d = true)
    (h : ∀ q w', Fr M O0 w0 (q :: O) w' ((2, Thing.map q K []) :: L) Φ → R P n all os (upO ρ d (.map (some q))) D w' Q) :
    R P n all (⟨d, .makeMap T none, ty, pos, af, none⟩ :: os) ρ D w Q :=
  r_makeMap K F.ok hd (fun q w' hq s z b => h q w' (F.new (t := Thing.map q K []) (s.take (q := q) (by omega) (by omega)) b (fun b hb => by simp [Thing.map] at hb; subst hb; exact ⟨by simp, by omega⟩)))

theorem f_mapUpdate {T kt et : TypeId} {K : IntKind} [h : TMap P T kt et] [hk : TInt P kt K] {x y v : Operand} {m j : Nat} {es : KV} {k : Int} {u : Value} (F : Fr M O0 w0 O w L Φ) (hd : okO n d = true)
    (hx : evo ρ x = some (.map (some m))) (hy : evo ρ y = some (.int K k)) (hv : evo ρ v = some u)
    (h : ∀ w', Fr M O0 w0 O w' ((j, Thing.map m K (updI es k u)) :: L') Φ → R P n all os (upO ρ d undef) D w' Q)
    (hs : Sel L (j, Thing.map m K es) L' := by (repeat (first | exact Sel.here | apply Sel.there))) (hj : j = 1 ∨ j = 2 := by decide) :
    R P n all (⟨d, .mapUpdate T x y v, ty, pos, af, none⟩ :: os) ρ D w Q := by
  have G := F.pull hs
  have hp := (G.ow _ List.mem_cons_self m (by simp [Thing.map])).1
  refine r_mapUpdate F.ok hd hx hy hv (F.th _ hs.mem) hp (fun w' s hc' => ?_)
  refine h w' (Fr.turn (t' := Thing.map m K (updI es k u)) G hj s hc' (fun b hb => ?_))
  exact ⟨by simp [Thing.map] at hb; subst hb; exact hp, .inl hb⟩

/-- The empty row that a nil slice is. -/
theorem Fr.nilbuf (F : Fr M O0 w0 O w L Φ) (sz : Nat) : Fr M O0 w0 O w ((2, Thing.buf sz (.slice none 0 0) 0 []) :: L) Φ :=
  F.new (t := Thing.buf sz (.slice none 0 0) 0 []) (Step.refl F.ok) Buf.nil (fun b hb => by simp [Thing.buf, blk] at hb)

/-- A block as a row. -/
theorem Fr.asBuf (F : Fr M O0 w0 O w L Φ) {q k m sz : Nat} {cs : List Value} (h : Sel L (k, Thing.cells q cs) L') (hl : cs.length = m * sz) (hm : m ≤ maxLen) : Fr M O0 w0 O w ((k, Thing.buf sz (.slice (some ⟨q, 0, none⟩) m m) m cs) :: L') Φ := by
  have G := F.pull h
  refine ⟨G.st, G.ok0, fun t ht => ?_, fun t ht => ?_, List.Pairwise.cons (List.pairwise_cons.1 G.ap).1 (List.pairwise_cons.1 G.ap).2, G.fa⟩
  · rcases List.mem_cons.1 ht with rfl | ht
    · exact CB.buf (F.th _ h.mem) hl hm trivial
    · exact G.th t (List.mem_cons_of_mem _ ht)
  · rcases List.mem_cons.1 ht with rfl | ht
    · exact G.ow (k, Thing.cells q cs) List.mem_cons_self
    · exact G.ow t (List.mem_cons_of_mem _ ht)

theorem f_append {T tx e sz by_ : Nat} [hT : TSlice P T e sz by_] {x y : Operand} {v u : Value} {j k m : Nat} {cs news : List Value} (F : Fr M O0 w0 O w L Φ) (hd : okO n d = true)
    (hx : evo ρ x = some v) (hy : evo ρ y = some u) (hS : Src P sz tx u m news w)
    (h : ∀ r w' O', Fr M O0 w0 O' w' ((j, Thing.buf sz r (k + m) (cs ++ news)) :: L') Φ → R P n all os (upO ρ d r) D w' Q)
    (hs : Sel L (j, Thing.buf sz v k cs) L' := by (repeat (first | exact Sel.here | apply Sel.there))) (h63 : k + m ≤ maxLen := by (unfold maxLen; omega)) (hfit : (k + m) * by_ ≤ 140737488355328 := by omega) (hj : j = 1 ∨ j = 2 := by decide) :
    R P n all (⟨d, .call ⟨.builtin .append, #[x, y], #[T, tx]⟩, ty, pos, af, none⟩ :: os) ρ D w Q := by
  have G := F.pull hs
  have hb : Buf (fun _ => True) w sz v k cs := F.th _ hs.mem
  refine r_append F.ok hd hx hy hb.self (fun q hq => (G.ow _ List.mem_cons_self q hq.2).1) hS h63 hfit (fun r w' O' s b => ?_)
  refine h r w' O' (Fr.turn (t' := Thing.buf sz r (k + m) (cs ++ news)) G hj s (b.mono fun _ _ => trivial) (fun q hq => ?_))
  have := b.blk q hq
  exact ⟨this.1, this.2.imp (fun h => h.2) id⟩

theorem f_append_zeros {T tn e by_ : Nat} {kn kq : IntKind} {z : Value} [hT : TSlice P T e 1 by_] [hz : TZero P e z] [htn : TInt P tn kn] {x y : Operand} {v : Value} {j k m : Nat} {cs : List Value} (F : Fr M O0 w0 O w L Φ) (hd : okO n d = true)
    (hx : evo ρ x = some v) (hy : evo ρ y = some (.int kq m))
    (h : ∀ r w' O', Fr M O0 w0 O' w' ((j, Thing.buf 1 r (k + m) (cs ++ List.replicate m z)) :: L') Φ → R P n all os (upO ρ d r) D w' Q)
    (hs : Sel L (j, Thing.buf 1 v k cs) L' := by (repeat (first | exact Sel.here | apply Sel.there))) (h1 : z.oneCell' = true := by rfl) (h63 : k + m ≤ maxLen := by (unfold maxLen; omega)) (hfit : (k + m) * by_ ≤ 140737488355328 := by omega) (hj : j = 1 ∨ j = 2 := by decide) :
    R P n all (⟨d, .call ⟨.builtin .append, #[x, y], #[T, tn]⟩, ty, pos, af, none⟩ :: os) ρ D w Q := by
  have G := F.pull hs
  have hb : Buf (fun _ => True) w 1 v k cs := F.th _ hs.mem
  refine r_append_zeros F.ok hd hx hy h1 hb.self (fun q hq => (G.ow _ List.mem_cons_self q hq.2).1) h63 hfit (fun r w' O' s b => ?_)
  refine h r w' O' (Fr.turn (t' := Thing.buf 1 r (k + m) (cs ++ List.replicate m z)) G hj s (b.mono fun _ _ => trivial) (fun q hq => ?_))
  have := b.blk q hq
  exact ⟨this.1, this.2.imp (fun h => h.2) id⟩

theorem f_str_bytes {S T e by_ : Nat} [hS : TString P S] [hT : TSlice P T e 1 by_] [he : TInt P e .u8] {x : Operand} {xs : List UInt8} (F : Fr M O0 w0 O w L Φ) (hd : okO n d = true) (hx : evo ρ x = some (str xs))
    (h : ∀ r w' O', Fr M O0 w0 O' w' ((2, Thing.buf 1 r xs.length (bytesV xs)) :: L) Φ → R P n all os (upO ρ d r) D w' Q) (hl : xs.length ≤ maxLen := by (unfold maxLen; omega)) :
    R P n all (⟨d, .convert S T x, ty, pos, af, none⟩ :: os) ρ D w Q := by
  refine r_str_bytes F.ok hd hx (by rw [str_size]; exact hl) (fun v w' s z b => ?_)
  rw [str_size, str_toList] at b
  refine h v w' (w.heap.size :: O) (F.new (t := Thing.buf 1 v xs.length (bytesV xs)) (s.take (q := w.heap.size) (Nat.le_refl _) z) (b.mono fun _ _ => trivial) (fun q hq => ?_))
  have := b.blk q hq
  subst this
  exact ⟨by simp, Nat.le_refl _⟩

/-- '[]byte("..")' of a text that is given. -/
theorem f_lit {T e by_ : Nat} {ty' : TypeId} {pos' : String} {af' : Array Edge} [h : TSlice P T e 1 by_] [hi : TInt P e .u8] {z : Value} [hz : TZero P e z] {m d d' : Nat} {ps : List (Nat × Operand)} {vs : List (Nat × Value)} {cs : List Value} (F : Fr M O0 w0 O w L Φ) (hd : okO n (some d) = true) (hd' : okO n (some d') = true)
    (hp : evps ρ ps = some vs) (hm : Nat.ble (m * 1) 16777216 = true) (hf : fillL (fun i => some (i * 1, 1)) ((List.replicate m (cellsOf z)).flatten) vs = some cs)
    (hk : ∀ q w', Fr M O0 w0 (q :: O) w' ((2, Thing.cells q cs) :: L) Φ → R P n all os ((d', .slice (some ⟨q, 0, none⟩) m m) :: (d, .slice (some ⟨q, 0, none⟩) m m) :: ρ) D w' Q) :
    R P n all (⟨some d, .buildSlice T m ps.toArray, ty, pos, af, none⟩ :: ⟨some d', .convert T T (.tmp d), ty', pos', af', none⟩ :: os) ρ D w Q :=
  r_lit F.ok hd hd' hp hm hf (fun q w' hq s z b => hk q w' (new_cells (O' := O) F hq s z b))

/-! ### calls -/

def hold : List Nat → Nat
  | [] => 2
  | 2 :: l => hold l
  | _ :: _ => 1

theorem hold_ok {ka : List Nat} (hk : ∀ x, x ∈ ka → x = 1 ∨ x = 2) : ∀ x, x ∈ ka → (hold ka = 1 → x = 1 ∨ x = 2) ∧ (hold ka = 2 → x = 2) := by
  induction ka with
  | nil => simp
  | cons a l ih =>
    intro x hx
    refine ⟨fun _ => hk x hx, fun h2 => ?_⟩
    rcases hk a (by simp) with rfl | rfl
    · simp [hold] at h2
    · simp only [hold] at h2
      rcases List.mem_cons.1 hx with rfl | hx
      · rfl
      · exact (ih (fun y hy => hk y (List.mem_cons_of_mem _ hy)) x hx).2 h2

theorem f_call {f : FuncId} {xs : List Operand} {vs : List Value} {ats : Array TypeId} {pre : Prop} {A B : List Thing} {Fs : List Fact} {K : Post} {ka kb : List Nat} (F : Fr M O0 w0 O w L Φ) (hd : okO n d = true) (hx : evs ρ xs = some vs) (c : pre → Con P f vs A B Fs K)
    (h : ∀ r O' w' T Φ', K r T Φ' → Fr M O0 w0 O' w' (T.map (fun t => (hold ka, t)) ++ L1) (Φ' ++ Φ) → R P n all os (upO ρ d r) D w' Q)
    (hA : Sels L ka A L1 := by (repeat (first | exact Sels.nil | (apply Sels.cons; focus (repeat (first | exact Sel.here | apply Sel.there))))))
    (hB : Sels L1 kb B L2 := by (repeat (first | exact Sels.nil | (apply Sels.cons; focus (repeat (first | exact Sel.here | apply Sel.there))))))
    (hF : Known Φ Fs := by (repeat (first | exact Known.nil | (apply Known.cons; focus (repeat (first | exact Sel.here | apply Sel.there))))))
    (hk : ∀ x, x ∈ ka → x = 1 ∨ x = 2 := by decide)
    (hp : pre := by ((repeat (first | assumption | exact True.intro | refine And.intro ?_ ?_ | decide | omega | (focus (simp; done)) | (focus (simp; omega)) | (focus (simp only [List.mem_cons, List.not_mem_nil, or_false, forall_eq_or_imp, forall_eq]; omega)))); first | done | fail "no")) :
    R P n all (⟨d, .call ⟨.value (.func f), xs.toArray, ats⟩, ty, pos, af, none⟩ :: os) ρ D w Q :=
  r_call hd hx ((c hp).use F (hold ka) hA hB hF hk (hold_ok hk)) (fun r O' w' s ⟨T, Φ', h1, h2⟩ => h r O' w' T Φ' h1 h2)

theorem f_callv {f : FuncId} {x : Operand} {xs : List Operand} {first cap : Array Value} {vs vs' : List Value} {ats : Array TypeId} {pre : Prop} {A B : List Thing} {Fs : List Fact} {K : Post} {ka kb : List Nat} (F : Fr M O0 w0 O w L Φ) (hd : okO n d = true)
    (hf : evo ρ x = some (.func (.func f) first cap)) (hx : evs ρ xs = some vs) (hvs : first.toList ++ vs ++ cap.toList = vs') (c : pre → Con P f vs' A B Fs K)
    (h : ∀ r O' w' T Φ', K r T Φ' → Fr M O0 w0 O' w' (T.map (fun t => (hold ka, t)) ++ L1) (Φ' ++ Φ) → R P n all os (upO ρ d r) D w' Q)
    (hA : Sels L ka A L1 := by (repeat (first | exact Sels.nil | (apply Sels.cons; focus (repeat (first | exact Sel.here | apply Sel.there))))))
    (hB : Sels L1 kb B L2 := by (repeat (first | exact Sels.nil | (apply Sels.cons; focus (repeat (first | exact Sel.here | apply Sel.there))))))
    (hF : Known Φ Fs := by (repeat (first | exact Known.nil | (apply Known.cons; focus (repeat (first | exact Sel.here | apply Sel.there))))))
    (hk : ∀ x, x ∈ ka → x = 1 ∨ x = 2 := by decide)
    (hp : pre := by ((repeat (first | assumption | exact True.intro | refine And.intro ?_ ?_ | decide | omega | (focus (simp; done)) | (focus (simp; omega)) | (focus (simp only [List.mem_cons, List.not_mem_nil, or_false, forall_eq_or_imp, forall_eq]; omega)))); first | done | fail "no")) :
    R P n all (⟨d, .call ⟨.value x, xs.toArray, ats⟩, ty, pos, af, none⟩ :: os) ρ D w Q := by
  subst hvs
  exact r_callv hd hf hx ((c hp).use F (hold ka) hA hB hF hk (hold_ok hk)) (fun r O' w' s ⟨T, Φ', h1, h2⟩ => h r O' w' T Φ' h1 h2)

/-! ### contracts: how they are proved -/

theorem con_of {f : FuncId} {args : List Value} {A B : List Thing} {Fs : List Fact} {K : Post}
    (h : ∀ O w, Fr (A.flatMap (·.bs)) O w O w (A.map (fun t => (1, t)) ++ B.map (fun t => (0, t))) Fs → FnC P f args O (A.flatMap (·.bs)) w fun r O' w' => ∃ T Φ, K r T Φ ∧ Gk.Left (A.flatMap (·.bs)) O' w w' T Φ) : Con P f args A B Fs K := by
  intro O w hO hA hB hbA hbB hap hF
  refine h O w ⟨(Step.refl hO).more (by simp) (fun b hb => ?_), hO, fun t ht => ?_, fun t ht => ?_, ?_, hF⟩
  · obtain ⟨t, ht, hb⟩ := List.mem_flatMap.1 hb
    exact hbA t ht b hb
  · rcases List.mem_append.1 ht with ht | ht <;> obtain ⟨s, hs, rfl⟩ := List.mem_map.1 ht
    · exact hA s hs
    · exact hB s hs
  · rcases List.mem_append.1 ht with ht | ht <;> obtain ⟨s, hs, rfl⟩ := List.mem_map.1 ht <;> intro b hb
    · exact ⟨hbA s hs b hb, fun _ => .inl (List.mem_flatMap.2 ⟨s, hs, hb⟩), fun h => by cases h⟩
    · exact ⟨hbB s hs b hb, fun h => (by cases h), fun h => (by cases h)⟩
  · have h1 := List.pairwise_append.1 hap
    refine List.pairwise_append.2 ⟨List.Pairwise.map _ (fun a b h => h) h1.1, List.Pairwise.map _ (fun a b h => h) h1.2.1, fun s hs t ht => ?_⟩
    obtain ⟨s', hs', rfl⟩ := List.mem_map.1 hs
    obtain ⟨t', ht', rfl⟩ := List.mem_map.1 ht
    exact h1.2.2 s' hs' t' ht'

/-- A frame's end. -/
theorem Fr.fin {M O O' : List Nat} {w w' : World} {L L' : List KT} {Φ Φ' : List Fact} {K : Post} {r : Value} {T : List Thing} {ks : List Nat} (F : Fr M O w O' w' L Φ) (h : K r T Φ')
    (hT : Sels L ks T L' := by (repeat (first | exact Sels.nil | (apply Sels.cons; focus (repeat (first | exact Sel.here | apply Sel.there))))))
    (hΦ : Known Φ Φ' := by (repeat (first | exact Known.nil | (apply Known.cons; focus (repeat (first | exact Sel.here | apply Sel.there))))))
    (hk : ∀ x, x ∈ ks → x = 1 ∨ x = 2 := by decide) :
    ∃ r1 O1, Ending.returned r = Ending.returned r1 ∧ Step M O O1 w w' ∧ ∃ T Φ, K r1 T Φ ∧ Gk.Left M O1 w w' T Φ := by
  have hp := hT.perm
  have G := F.perm hp.1
  refine ⟨r, O', rfl, F.st, T, Φ', h, fun t ht => ?_, fun t ht b hb => ?_, ?_, fun f hf => F.fa f (hΦ.mem f hf)⟩
  · obtain ⟨k, hk⟩ := mem_zip_right hp.2 ht
    exact G.th _ (List.mem_append_left _ hk)
  · obtain ⟨k, hk'⟩ := mem_zip_right hp.2 ht
    have := G.ow _ (List.mem_append_left _ hk') b hb
    refine ⟨this.1, ?_⟩
    rcases hk k (List.of_mem_zip hk').1 with h | h
    · exact this.2.1 h
    · exact .inr (this.2.2 h)
  · have h2 := List.Pairwise.map (S := fun (s t : Thing) => ∀ b, b ∈ s.bs → b ∉ t.bs) (f := fun (x : KT) => x.2) (fun a b h => h) (List.pairwise_append.1 G.ap).1
    rw [zip_snd hp.2] at h2
    exact h2

/-- A law's end. -/
theorem Fr.law {O' : List Nat} {w w' : World} {L : List KT} {Φ : List Fact} (F : Fr [] [] w O' w' L Φ) : ∃ r1 O1, Ending.returned (Value.bool true) = Ending.returned r1 ∧ Step [] [] O1 w w' ∧ r1 = .bool true := ⟨_, _, rfl, F.st, rfl⟩

theorem Fr.lawb {O' : List Nat} {w w' : World} {L : List KT} {Φ : List Fact} {b : Bool} (F : Fr [] [] w O' w' L Φ) (h : b = true) : ∃ r1 O1, Ending.returned (Value.bool b) = Ending.returned r1 ∧ Step [] [] O1 w w' ∧ r1 = .bool true := by subst h; exact F.law

/-- Two things that are one. -/
theorem Fr.split {k : Nat} {t t1 t2 : Thing} (F : Fr M O0 w0 O w L Φ) (h : Sel L (k, t) L') (hφ : t.φ O w → t1.φ O w ∧ t2.φ O w) (hb : ∀ b, b ∈ t1.bs ∨ b ∈ t2.bs → b ∈ t.bs) (ha : ∀ b, b ∈ t1.bs → b ∉ t2.bs) :
    Fr M O0 w0 O w ((k, t1) :: (k, t2) :: L') Φ := by
  have G := F.pull h
  have h1 := hφ (F.th _ h.mem)
  have hg := List.pairwise_cons.1 G.ap
  refine ⟨G.st, G.ok0, fun s hs => ?_, fun s hs b hb' => ?_, List.Pairwise.cons (fun s hs b hb' => ?_) (List.Pairwise.cons (fun s hs b hb' => ?_) hg.2), G.fa⟩
  · rcases List.mem_cons.1 hs with rfl | hs
    · exact h1.1
    · rcases List.mem_cons.1 hs with rfl | hs
      · exact h1.2
      · exact G.th s (List.mem_cons_of_mem _ hs)
  · rcases List.mem_cons.1 hs with rfl | hs
    · exact G.ow (k, t) List.mem_cons_self b (hb b (.inl hb'))
    · rcases List.mem_cons.1 hs with rfl | hs
      · exact G.ow (k, t) List.mem_cons_self b (hb b (.inr hb'))
      · exact G.ow s (List.mem_cons_of_mem _ hs) b hb'
  · rcases List.mem_cons.1 hs with rfl | hs
    · exact ha b hb'
    · exact hg.1 s hs b (hb b (.inl hb'))
  · exact hg.1 s hs b (hb b (.inr hb'))

theorem Fr.join {k : Nat} {t t1 t2 : Thing} (F : Fr M O0 w0 O w L Φ) (h1 : Sel L (k, t1) L1) (h2 : Sel L1 (k, t2) L2) (hφ : t1.φ O w → t2.φ O w → (∀ b, b ∈ t1.bs → b ∈ O ∧ b ∉ t2.bs) → (∀ b, b ∈ t2.bs → b ∈ O) → t.φ O w) (hb : ∀ b, b ∈ t.bs → b ∈ t1.bs ∨ b ∈ t2.bs) :
    Fr M O0 w0 O w ((k, t) :: L2) Φ := by
  have G := F.perm (h1.perm.trans (List.Perm.cons _ h2.perm))
  have ha := List.pairwise_cons.1 G.ap
  have ha2 := List.pairwise_cons.1 ha.2
  have hw : ∀ b, b ∈ t.bs → b ∈ O ∧ (k = 1 → b ∈ M ∨ w0.heap.size ≤ b) ∧ (k = 2 → w0.heap.size ≤ b) := fun b hb' => by
    rcases hb b hb' with h | h
    · exact G.ow (k, t1) (by simp) b h
    · exact G.ow (k, t2) (by simp) b h
  refine ⟨G.st, G.ok0, fun s hs => ?_, fun s hs b hb' => ?_, List.Pairwise.cons (fun s hs b hb' => ?_) ha2.2, G.fa⟩
  · rcases List.mem_cons.1 hs with rfl | hs
    · exact hφ (G.th (k, t1) (by simp)) (G.th (k, t2) (by simp)) (fun b hb => ⟨(G.ow (k, t1) (by simp) b hb).1, ha.1 (k, t2) (by simp) b hb⟩) (fun b hb => (G.ow (k, t2) (by simp) b hb).1)
    · exact G.th s (by simp [hs])
  · rcases List.mem_cons.1 hs with rfl | hs
    · exact hw b hb'
    · exact G.ow s (by simp [hs]) b hb'
  · rcases hb b hb' with h | h
    · exact ha.1 s (by simp [hs]) b h
    · exact ha2.1 s hs b h

/-- A thing under another name. -/
theorem Fr.as {k : Nat} {t t' : Thing} (F : Fr M O0 w0 O w L Φ) (h : Sel L (k, t) L') (hφ : t.φ O w → (∀ b, b ∈ t.bs → b ∈ O) → t'.φ O w) (hb : ∀ b, b ∈ t'.bs → b ∈ t.bs) : Fr M O0 w0 O w ((k, t') :: L') Φ := by
  have G := F.pull h
  have ha := List.pairwise_cons.1 G.ap
  refine ⟨G.st, G.ok0, fun s hs => ?_, fun s hs b hb' => ?_, List.Pairwise.cons (fun s hs b hb' => ha.1 s hs b (hb b hb')) ha.2, G.fa⟩
  · rcases List.mem_cons.1 hs with rfl | hs
    · exact hφ (G.th (k, t) (by simp)) (fun b hb => (G.ow (k, t) (by simp) b hb).1)
    · exact G.th s (by simp [hs])
  · rcases List.mem_cons.1 hs with rfl | hs
    · exact G.ow (k, t) (by simp) b (hb b hb')
    · exact G.ow s (by simp [hs]) b hb'

end

/-! ### contracts out of elder ones -/

section
variable {P : Program} {f : FuncId} {args : List Value} {Fs : List Fact} {K : Post} {t : Thing} {M O' : List Nat} {w w' : World}

theorem left0 : Gk.Left M O' w w' [] [] := ⟨by simp, by simp, .nil, by simp⟩
theorem left1 (h : t.φ O' w') (hb : ∀ b, b ∈ t.bs → b ∈ O' ∧ (b ∈ M ∨ w.heap.size ≤ b)) : Gk.Left M O' w w' [t] [] :=
  ⟨by simpa using h, by simpa using hb, .cons (by simp) .nil, by simp⟩
theorem leftF {g : Fact} (h : g.φ O' w') : Gk.Left M O' w w' [] [g] := ⟨by simp, by simp, .nil, by simpa using h⟩
theorem leftTF {g : Fact} (h : t.φ O' w') (hb : ∀ b, b ∈ t.bs → b ∈ O' ∧ (b ∈ M ∨ w.heap.size ≤ b)) (hg : g.φ O' w') : Gk.Left M O' w w' [t] [g] :=
  ⟨by simpa using h, by simpa using hb, .cons (by simp) .nil, by simpa using hg⟩

theorem con0 {K' : List Nat → World → Value → List Nat → World → Prop} (h : ∀ O w, OK O w → (∀ g, g ∈ Fs → g.φ O w) → FnC P f args O [] w (K' O w))
    (hK : ∀ O w r O' w', OK O w → Step [] O O' w w' → K' O w r O' w' → ∃ T Φ, K r T Φ ∧ Gk.Left [] O' w w' T Φ) : Con P f args [] [] Fs K :=
  fun O w hO _ _ _ _ _ hF => (h O w hO hF).mono fun r O' w' s hk => hK O w r O' w' hO s hk

theorem con1 {K' : List Nat → World → Value → List Nat → World → Prop} (h : ∀ O w, OK O w → t.φ O w → (∀ g, g ∈ Fs → g.φ O w) → FnC P f args O t.bs w (K' O w))
    (hK : ∀ O w r O' w', OK O w → Step t.bs O O' w w' → (∀ b, b ∈ t.bs → b ∈ O) → K' O w r O' w' → ∃ T Φ, K r T Φ ∧ Gk.Left t.bs O' w w' T Φ) : Con P f args [t] [] Fs K := by
  intro O w hO hA _ hb _ _ hF
  have e : [t].flatMap (·.bs) = t.bs := by simp
  rw [e]
  exact (h O w hO (hA t (by simp)) hF).mono fun r O' w' s hk => hK O w r O' w' hO s (hb t (by simp)) hk

theorem conB {K' : List Nat → World → Value → List Nat → World → Prop} (h : ∀ O w, OK O w → t.φ O w → (∀ g, g ∈ Fs → g.φ O w) → FnC P f args O [] w (K' O w))
    (hK : ∀ O w r O' w', OK O w → Step [] O O' w w' → K' O w r O' w' → ∃ T Φ, K r T Φ ∧ Gk.Left [] O' w w' T Φ) : Con P f args [] [t] Fs K :=
  fun O w hO _ hB _ _ _ hF => (h O w hO (hB t (by simp)) hF).mono fun r O' w' s hk => hK O w r O' w' hO s hk

end

/-! ### elements -/

section
variable {P : Program} {ρ : Env} {w w0 : World} {M O0 O : List Nat} {L : List KT} {Φ Φ' : List Fact}

theorem y_index1 {T e by_ : Nat} [h : TSlice P T e 1 by_] {x y : Operand} {p : Addr} {m c : Nat} {k : IntKind} {i : Nat} (hx : evo ρ x = some (.slice (some p) m c)) (hy : evo ρ y = some (.int k (i : Nat))) (hi : i < m) :
    Y P ρ w (.indexAddr T x y) (.pointer (some (p.add i))) := by
  have := y_indexAddr (P := P) (w := w) (T := T) hx hy ⟨by omega, by omega⟩
  simpa using this

theorem y_indexR {T e sz by_ : Nat} [h : TSlice P T e sz by_] {x y : Operand} {p : Addr} {m c : Nat} {k : IntKind} {i : Nat} (hx : evo ρ x = some (.slice (some p) m c)) (hy : evo ρ y = some (.int k (i : Nat))) (hi : i < m) :
    Y P ρ w (.indexAddr T x y) (.pointer (some (p.add (i * sz)))) := by
  have := y_indexAddr (P := P) (w := w) (T := T) hx hy ⟨by omega, by omega⟩
  simpa using this

/-- In a row of one's own. -/
theorem y_indexO {T e by_ : Nat} [h : TSlice P T e 1 by_] {x y : Operand} {q m c : Nat} {k : IntKind} {i : Nat} (hx : evo ρ x = some (.slice (some ⟨q, 0, none⟩) m c)) (hy : evo ρ y = some (.int k (i : Nat))) (hi : i < m) :
    Y P ρ w (.indexAddr T x y) (.pointer (some ⟨q, i, none⟩)) := y_indexOwn hx hy hi

/-- At a place that comes out as a number. -/
theorem y_indexL {T e by_ : Nat} [h : TSlice P T e 1 by_] {x y : Operand} {q m c : Nat} {k : IntKind} {a : Int} {i : Nat} (hx : evo ρ x = some (.slice (some ⟨q, 0, none⟩) m c)) (hy : evo ρ y = some (.int k a)) (ha : a = Int.ofNat i) (hi : i < m) :
    Y P ρ w (.indexAddr T x y) (.pointer (some ⟨q, i, none⟩)) := by
  subst ha
  exact y_indexOwn hx hy hi
theorem y_index1L {T e by_ : Nat} [h : TSlice P T e 1 by_] {x y : Operand} {p : Addr} {m c : Nat} {k : IntKind} {a : Int} {i : Nat} (hx : evo ρ x = some (.slice (some p) m c)) (hy : evo ρ y = some (.int k a)) (ha : a = Int.ofNat i) (hi : i < m) :
    Y P ρ w (.indexAddr T x y) (.pointer (some (p.add i))) := by
  subst ha
  exact y_index1 hx hy hi

theorem y_loadC {T : Nat} [TOne P T] {x : Operand} {p : Addr} {v : Value} (hx : evo ρ x = some (.pointer (some p))) (F : Fr M O0 w0 O w L Φ) (hs : Sel Φ (Fact.cell p v) Φ') : Y P ρ w (.load T x) v :=
  y_load hx (F.fa _ hs.mem).1
theorem y_loadCS {T : Nat} [TOne P T] {x : Operand} {p : Addr} {v : Value} (hx : evo ρ x = some (.pointer (some p))) (F : FS M O0 w0 L Φ w) (hs : Sel Φ (Fact.cell p v) Φ') : Y P ρ w (.load T x) v := by
  obtain ⟨O, F⟩ := F; exact y_loadC hx F hs

theorem Sl.atm {β : Type} {f : β → Value} {O : List Nat} {w : World} {a : Option Addr} {n m cap : Nat} {ys : List β} (h : Sl O w (.slice a n cap) m (ys.map f)) {i : Nat} (hi : i < ys.length) :
    ∃ x, a = some x ∧ Cell O w (x.add i) (f ys[i]) := h.atf (List.getElem?_eq_getElem hi)
theorem Bytes.atm {O : List Nat} {w : World} {a : Option Addr} {n cap : Nat} {xs : List UInt8} (h : Bytes O w (.slice a n cap) xs) {i : Nat} (hi : i < xs.length) :
    ∃ x, a = some x ∧ Cell O w (x.add i) (byteV xs[i]) := h.at (List.getElem?_eq_getElem hi)
end

/-! ### parts of texts -/
section
variable {P : Program} {ρ : Env} {w : World}

theorem run_str_slice {T : TypeId} [h : TString P T] {s : List UInt8} {lo hi : Option Value} {l k : Nat} (hl : match lo with | none => l = 0 | some v => ∃ K, v = .int K (l : Nat)) (hk : match hi with | none => k = s.length | some v => ∃ K, v = .int K (k : Nat)) (h1 : l ≤ k) (h2 : k ≤ s.length) :
    (Instr.slice T (str s) lo hi none).run P w = .ok (str ((s.drop l).take (k - l))) w := by
  have hs : (⟨s.toArray⟩ : ByteArray).size = s.length := str_size s
  have hb : (Instr.sliceBounds false s.length s.length lo hi none).run P w = .ok (l, k, s.length) w := by
    unfold Instr.sliceBounds
    cases hi with
    | none =>
      simp only at hk
      subst hk
      cases lo with
      | none => simp only at hl; subst hl; simp
      | some v =>
        obtain ⟨K, rfl⟩ := hl
        simp only [Sem.run_bind, Sem.run_pure, Result.andThen_ok]
        rw [show (Instr.sliceBound (.int K (l : Nat)) s.length (if (none : Option Value).isSome = true then BoundsCode.slice3C else BoundsCode.sliceB)).run P w = .ok (Int.toNat (l : Int)) w from by simp [Instr.sliceBound, asIntOf, h1]]
        simp
    | some u =>
      obtain ⟨K', rfl⟩ := hk
      simp only [Sem.run_bind, Sem.run_pure, Result.andThen_ok]
      rw [show (Instr.sliceBound (.int K' (k : Nat)) s.length (if false = true then BoundsCode.sliceAcap else BoundsCode.sliceAlen)).run P w = .ok (Int.toNat (k : Int)) w from by simp [Instr.sliceBound, asIntOf, h2]]
      simp only [Result.andThen_ok, Int.toNat_natCast]
      cases lo with
      | none => simp only at hl; subst hl; simp
      | some v =>
        obtain ⟨K, rfl⟩ := hl
        simp only [Sem.run_bind, Sem.run_pure]
        rw [show (Instr.sliceBound (.int K (l : Nat)) k (if (none : Option Value).isSome = true then BoundsCode.slice3C else BoundsCode.sliceB)).run P w = .ok (Int.toNat (l : Int)) w from by simp [Instr.sliceBound, asIntOf, h1]]
        simp
  have he : (⟨s.toArray⟩ : ByteArray).extract l k = ⟨((s.drop l).take (k - l)).toArray⟩ := by
    apply ByteArray.ext
    simp [ByteArray.data_extract, List.extract_eq_take_drop]
  unfold Instr.slice
  simp only [str, Sem.run_bind, run_underlying h.at_, Result.andThen_ok, Option.isSome_none, Bool.false_eq_true, if_false, Sem.run_pure]
  rw [hs, hb]
  simp only [Result.andThen_ok, he]

theorem y_str_slice {T : TypeId} [h : TString P T] {x : Operand} {lo hi : Option Operand} {s : List UInt8} {l k : Nat} (hx : evo ρ x = some (str s)) (h1 : bndI ρ lo 0 = some (l : Int)) (h2 : bndI ρ hi s.length = some (k : Int)) (hlk : l ≤ k) (hk : k ≤ s.length) :
    Y P ρ w (.slice T x lo hi none) (str ((s.drop l).take (k - l))) := by
  intro a hs d ty pos af
  have e1 : (Instr.sliceAt T (str s) (lo.map a.eval) (hi.map a.eval) none).run P w = .ok (str ((s.drop l).take (k - l))) w := by
    unfold Instr.sliceAt
    simp only [Sem.run_bind, run_underlying h.at_, Result.andThen_ok]
    refine run_str_slice ?_ ?_ hlk hk
    · cases lo with
      | none => simp only [bndI, Option.some.injEq] at h1; simp; omega
      | some o => obtain ⟨K, hK⟩ := bndI_some hs h1; exact ⟨K, hK⟩
    · cases hi with
      | none => simp only [bndI, Option.some.injEq] at h2; simp; omega
      | some o => obtain ⟨K, hK⟩ := bndI_some hs h2; exact ⟨K, hK⟩
  simp [execOp, eval_of hs hx, e1]
end

/-- The whole of a struct is stored. -/
theorem f_storeAll {P : Program} {n : Nat} {all : Array Oper} {os : List Oper} {ρ : Env} {D : Dr} {w w0 : World} {Q : Exit → Act → World → Prop} {d : Option Nat} {ty : TypeId} {pos : String} {af : Array Edge} {M O0 O : List Nat} {L L' : List KT} {Φ : List Fact}
    {T m : TypeId} [hT : TAgg P T m] {x y : Operand} {p k : Nat} {vs cs : List Value} (F : Fr M O0 w0 O w L Φ) (hd : okO n d = true)
    (hx : evo ρ x = some (.pointer (some ⟨p, 0, none⟩))) (hy : evo ρ y = some (.agg vs.toArray))
    (h : ∀ w', Fr M O0 w0 O w' ((k, Thing.cells p vs) :: L') Φ → R P n all os (upO ρ d undef) D w' Q)
    (hs : Sel L (k, Thing.cells p cs) L' := by (repeat (first | exact Sel.here | apply Sel.there)))
    (hv : vs.all (·.oneCell') = true := by rfl) (hm : vs.length = m := by rfl) (hi : vs.length = cs.length := by rfl) (hk : k = 1 ∨ k = 2 := by decide) :
    R P n all (⟨d, .store T x y, ty, pos, af, none⟩ :: os) ρ D w Q :=
  f_storeN F hd hx hy (fun w' F => h w' F) hs (by simp [hi]) hv hm (by omega) hk

/-! ### what stays from here on -/
section
variable {w w0 : World} {M O0 O : List Nat} {L L' : List KT} {Φ : List Fact}

theorem Fr.frzSl (F : Fr M O0 w0 O w L Φ) {q n cap : Nat} {cs : List Value} (hn : n ≤ cap) (h : Sel L (2, Thing.cells q cs) L' := by (repeat (first | exact Sel.here | apply Sel.there))) : ∃ O', Fr M O0 w0 O' w L' (Fact.sl (.slice (some ⟨q, 0, none⟩) n cap) n cs :: Φ) :=
  F.freeze (f := Fact.sl (.slice (some ⟨q, 0, none⟩) n cap) n cs) h (fun hc O' _ hb => CB.sl hc (hb q (by simp [Thing.cells])) hn _ (fun _ _ h => h))
theorem Fr.frzB (F : Fr M O0 w0 O w L Φ) {n : Nat} {v : Value} {xs : List UInt8} (h : Sel L (2, Thing.buf 1 v n (bytesV xs)) L' := by (repeat (first | exact Sel.here | apply Sel.there))) : ∃ O', Fr M O0 w0 O' w L' (Fact.bytes v xs :: Φ) :=
  F.freeze (f := Fact.bytes v xs) h (fun hc O' _ hb => by
    have hc : Buf (fun _ => True) w 1 v n (bytesV xs) := hc
    have hm : n = xs.length := by simpa [bytesV] using hc.1.symm
    subst hm
    exact Sl.bytes (hc.self.sl (fun q hq => hb q hq.2)))
theorem Fr.frzBuf (F : Fr M O0 w0 O w L Φ) {n sz : Nat} {v : Value} {cs : List Value} (h : Sel L (2, Thing.buf sz v n cs) L' := by (repeat (first | exact Sel.here | apply Sel.there))) : ∃ O', Fr M O0 w0 O' w L' (Fact.sl v n cs :: Φ) :=
  F.freeze (f := Fact.sl v n cs) h (fun hc O' _ hb => by
    have hc : Buf (fun _ => True) w sz v n cs := hc
    exact hc.self.sl (fun q hq => hb q hq.2))
end

/-! ### loops that go round so often -/
section
variable {P : Program} {n : Nat} {ρ : Env} {D : Dr} {w : World} {Q : Exit → Act → World → Prop} {c : Code}
def Rnds (r : Option Nat) (P : Program) (c : Code) (Q : Exit → Act → World → Prop) (m : Nat) : Act → World → Prop := Code.roundsIn (Fn r) 0 P c Q m
theorem g_unroll (m : Nat) (h : G P n c ρ D w (Exit.then (Rnds D.rd P c Q m) Q)) : G P n (.loop c) ρ D w Q := fun a h1 h2 h3 => wpIn_loop_rounds (m + 1) (by
  rw [roundsIn_succ]; exact h a h1 h2 h3)
theorem e_unroll {m : Nat} (h : G P n c ρ D w (Exit.then (Rnds D.rd P c Q m) Q)) : E n ρ D w (Exit.then (Rnds D.rd P c Q (m + 1)) Q) .normal := fun a h1 h2 h3 => by
  show Rnds D.rd P c Q (m + 1) a w
  unfold Rnds
  rw [roundsIn_succ]; exact h a h1 h2 h3
end

/-! ### bools that are told -/
theorem y_beq {P : Program} {ρ : Env} {w : World} {T yT : TypeId} [h : TBool P T] {x y : Operand} {a b : Bool} (c : Bool) (hx : evo ρ x = some (.bool a)) (hy : evo ρ y = some (.bool b)) (hc : (a == b) = c) : Y P ρ w (.binOp .eql T x y yT) (.bool c) := by
  subst hc; exact y_bool_eq hx hy
theorem y_bne {P : Program} {ρ : Env} {w : World} {T yT : TypeId} [h : TBool P T] {x y : Operand} {a b : Bool} (c : Bool) (hx : evo ρ x = some (.bool a)) (hy : evo ρ y = some (.bool b)) (hc : (!(a == b)) = c) : Y P ρ w (.binOp .neq T x y yT) (.bool c) := by
  subst hc; exact y_bool_ne hx hy

/-! ### looks, one by one -/

def RX (P : Program) (n : Nat) (all : Array Oper) (S : World → Prop) (tl : List Nat) (i : Nat) (d : Option Nat) (op : Op) (listed : Array Bool) (L : List (Nat × Bool)) (ρ : Env) (D : Dr) (w : World) (Q : Exit → Act → World → Prop) : Prop :=
  ∀ ty pos af g, all[i]? = some ⟨d, op, ty, pos, af, g⟩ → (∀ a, Sat ρ a → Region.wanted ⟨d, op, ty, pos, af, g⟩ (yielded all a.tmps) = true) → RD P n all S tl listed ((i, true) :: L) ρ D w Q
def RO (P : Program) (n : Nat) (all : Array Oper) (S : World → Prop) (tl : List Nat) (i : Nat) (o : Oper) (listed : Array Bool) (L : List (Nat × Bool)) (ρ : Env) (D : Dr) (w : World) (Q : Exit → Act → World → Prop) : Prop :=
  all[i]? = some o → RD P n all S tl listed ((i, true) :: L) ρ D w Q

section
variable {P : Program} {n : Nat} {all : Array Oper} {ρ : Env} {D : Dr} {w : World} {Q : Exit → Act → World → Prop} {d : Option Nat} {ty : TypeId} {pos : String} {af : Array Edge} {S : World → Prop} {tl : List Nat} {listed : Array Bool} {L : List (Nat × Bool)} {i : Nat} {op : Op}

theorem rd_open {o : Oper} (ho : all[i]? = some o) (h : RO P n all S tl i o listed L ρ D w Q) : RD P n all S tl listed ((i, true) :: L) ρ D w Q := h ho
theorem ro_n (h : RX P n all S tl i d op listed L ρ D w Q) : RO P n all S tl i ⟨d, op, ty, pos, af, none⟩ listed L ρ D w Q := fun ho => h _ _ _ _ ho (fun _ _ => rfl)
theorem ro_g {j t : Nat} {want : Bool} (hj : (all[j]?).bind (·.dst) = some t) (hv : ρ.get t = some (.bool want)) (h : RX P n all S tl i d op listed L ρ D w Q) : RO P n all S tl i ⟨d, op, ty, pos, af, some (j, want)⟩ listed L ρ D w Q :=
  fun ho => h _ _ _ _ ho (fun a h2 => by rw [wanted_of hj hv h2]; cases want <;> rfl)
theorem ro_p {j t : Nat} {want : Bool} (hj : (all[j]?).bind (·.dst) = some t) (hv : ρ.get t = some (.bool (!want))) (hd : okO n d = true) (hS : S w) (h : RD P n all S tl (listed.setIfInBounds i true) L (upO ρ d undef) D w Q) : RO P n all S tl i ⟨d, op, ty, pos, af, some (j, want)⟩ listed L ρ D w Q :=
  fun ho => rd_pass ho hd hj hv hS h
theorem ro_u {j t : Nat} {want : Bool} (hj : (all[j]?).bind (·.dst) = some t) (hv : ρ.get t = some undef) (hd : okO n d = true) (hS : S w) (h : RD P n all S tl (listed.setIfInBounds i true) L (upO ρ d undef) D w Q) : RO P n all S tl i ⟨d, op, ty, pos, af, some (j, want)⟩ listed L ρ D w Q :=
  fun ho => rd_passu ho hd hj hv hS h
theorem rx_y {v : Value} (hd : okO n d = true) (hy : ∀ w', S w' → Y P ρ w' op v) (hS : S w) (h : RD P n all S tl (listed.setIfInBounds i true) L (upO ρ d v) D w Q) : RX P n all S tl i d op listed L ρ D w Q :=
  fun _ _ _ _ ho hg => rd_light ho hd hg hy hS h
/-- As 'rx_y', from a plan's point on. -/
theorem rd_l {o : Oper} {v : Value} (ho : all[i]? = some o) (hg : ∀ a, Sat ρ a → Region.wanted o (yielded all a.tmps) = true) (hd : okO n o.dst = true) (hy : ∀ w', S w' → Y P ρ w' o.op v) (hS : S w) (h : RD P n all S tl (listed.setIfInBounds i true) L (upO ρ o.dst v) D w Q) : RD P n all S tl listed ((i, true) :: L) ρ D w Q :=
  rd_light (d := o.dst) (op := o.op) (ty := o.type) (pos := o.pos) (af := o.after) (g := o.guard) ho hd hg hy hS h
end

/-- One thing that is appended. -/
theorem Fr.srcOne {P : Program} {w w0 : World} {M O0 O : List Nat} {L L' : List KT} {Φ : List Fact} {T e by_ : Nat} [h : TSlice P T e 1 by_] (F : Fr M O0 w0 O w L Φ) {q k cap : Nat} {v : Value} (hs : Sel L (k, Thing.cells q [v]) L' := by (repeat (first | exact Sel.here | apply Sel.there))) (hv : v.oneCell' = true := by rfl) :
    Src P 1 T (.slice (some ⟨q, 0, none⟩) 1 cap) 1 [v] w :=
  src_cb (news := [v]) (rest := []) (F.th _ hs.mem) rfl (by simpa using hv)

/-! ### what is decided -/

section
variable {P : Program} {n : Nat} {all : Array Oper} {os : List Oper} {ρ : Env} {D : Dr} {w : World} {Q : Exit → Act → World → Prop} {d : Option Nat} {ty : TypeId} {pos : String} {af : Array Edge}

theorem g_yes {c : Operand} {x y : Code} {p : Prop} {hp : Decidable p} (hc : evo ρ c = some (.bool (decide p))) (h : p) (ht : G P n x ρ D w Q) : G P n (.cond c x y) ρ D w Q := g_dec hc (fun _ => ht) (fun hn => absurd h hn)
theorem g_not {c : Operand} {x y : Code} {p : Prop} {hp : Decidable p} (hc : evo ρ c = some (.bool (decide p))) (h : ¬ p) (hf : G P n y ρ D w Q) : G P n (.cond c x y) ρ D w Q := g_dec hc (fun hn => absurd hn h) (fun _ => hf)
theorem g_nyes {c : Operand} {x y : Code} {p : Prop} {hp : Decidable p} (hc : evo ρ c = some (.bool (!decide p))) (h : p) (hf : G P n y ρ D w Q) : G P n (.cond c x y) ρ D w Q := g_ndec hc (fun hn => absurd h hn) (fun _ => hf)
theorem g_nnot {c : Operand} {x y : Code} {p : Prop} {hp : Decidable p} (hc : evo ρ c = some (.bool (!decide p))) (h : ¬ p) (ht : G P n x ρ D w Q) : G P n (.cond c x y) ρ D w Q := g_ndec hc (fun _ => ht) (fun hn => absurd hn h)

theorem r_yes {op : Op} {j : Nat} {want : Bool} {t : Nat} {p : Prop} {hp : Decidable p} (hj : (all[j]?).bind (·.dst) = some t) (hv : ρ.get t = some (.bool (decide p))) (h : p)
    (ht : R P n all (⟨d, op, ty, pos, af, some (j, want)⟩ :: os) ((t, .bool true) :: ρ) D w Q) : R P n all (⟨d, op, ty, pos, af, some (j, want)⟩ :: os) ρ D w Q := r_partd hj hv (fun _ => ht) (fun hn => absurd h hn)
theorem r_not {op : Op} {j : Nat} {want : Bool} {t : Nat} {p : Prop} {hp : Decidable p} (hj : (all[j]?).bind (·.dst) = some t) (hv : ρ.get t = some (.bool (decide p))) (h : ¬ p)
    (ht : R P n all (⟨d, op, ty, pos, af, some (j, want)⟩ :: os) ((t, .bool false) :: ρ) D w Q) : R P n all (⟨d, op, ty, pos, af, some (j, want)⟩ :: os) ρ D w Q := r_partd hj hv (fun hn => absurd hn h) (fun _ => ht)
theorem r_nyes {op : Op} {j : Nat} {want : Bool} {t : Nat} {p : Prop} {hp : Decidable p} (hj : (all[j]?).bind (·.dst) = some t) (hv : ρ.get t = some (.bool (!decide p))) (h : p)
    (ht : R P n all (⟨d, op, ty, pos, af, some (j, want)⟩ :: os) ((t, .bool false) :: ρ) D w Q) : R P n all (⟨d, op, ty, pos, af, some (j, want)⟩ :: os) ρ D w Q := r_partn hj hv (fun hn => absurd h hn) (fun _ => ht)
theorem r_nnot {op : Op} {j : Nat} {want : Bool} {t : Nat} {p : Prop} {hp : Decidable p} (hj : (all[j]?).bind (·.dst) = some t) (hv : ρ.get t = some (.bool (!decide p))) (h : ¬ p)
    (ht : R P n all (⟨d, op, ty, pos, af, some (j, want)⟩ :: os) ((t, .bool true) :: ρ) D w Q) : R P n all (⟨d, op, ty, pos, af, some (j, want)⟩ :: os) ρ D w Q := r_partn hj hv (fun _ => ht) (fun hn => absurd hn h)

variable {S : World → Prop} {tl : List Nat} {i : Nat} {listed : Array Bool} {L : List (Nat × Bool)} {op : Op}
theorem ro_yes {j t : Nat} {want : Bool} {p : Prop} {hp : Decidable p} (hj : (all[j]?).bind (·.dst) = some t) (hv : ρ.get t = some (.bool (decide p))) (h : p) (k : RO P n all S tl i ⟨d, op, ty, pos, af, some (j, want)⟩ listed L ((t, .bool true) :: ρ) D w Q) : RO P n all S tl i ⟨d, op, ty, pos, af, some (j, want)⟩ listed L ρ D w Q :=
  fun ho => rd_part hv (fun _ => k ho) (fun hn => absurd h (of_decide_eq_false hn))
theorem ro_not {j t : Nat} {want : Bool} {p : Prop} {hp : Decidable p} (hj : (all[j]?).bind (·.dst) = some t) (hv : ρ.get t = some (.bool (decide p))) (h : ¬ p) (k : RO P n all S tl i ⟨d, op, ty, pos, af, some (j, want)⟩ listed L ((t, .bool false) :: ρ) D w Q) : RO P n all S tl i ⟨d, op, ty, pos, af, some (j, want)⟩ listed L ρ D w Q :=
  fun ho => rd_part hv (fun hn => absurd (of_decide_eq_true hn) h) (fun _ => k ho)
theorem ro_nyes {j t : Nat} {want : Bool} {p : Prop} {hp : Decidable p} (hj : (all[j]?).bind (·.dst) = some t) (hv : ρ.get t = some (.bool (!decide p))) (h : p) (k : RO P n all S tl i ⟨d, op, ty, pos, af, some (j, want)⟩ listed L ((t, .bool false) :: ρ) D w Q) : RO P n all S tl i ⟨d, op, ty, pos, af, some (j, want)⟩ listed L ρ D w Q :=
  fun ho => rd_part hv (fun hn => absurd h (of_decide_eq_false (by simpa using hn))) (fun _ => k ho)
theorem ro_nnot {j t : Nat} {want : Bool} {p : Prop} {hp : Decidable p} (hj : (all[j]?).bind (·.dst) = some t) (hv : ρ.get t = some (.bool (!decide p))) (h : ¬ p) (k : RO P n all S tl i ⟨d, op, ty, pos, af, some (j, want)⟩ listed L ((t, .bool true) :: ρ) D w Q) : RO P n all S tl i ⟨d, op, ty, pos, af, some (j, want)⟩ listed L ρ D w Q :=
  fun ho => rd_part hv (fun _ => k ho) (fun hn => absurd (of_decide_eq_true (by simpa using hn)) h)
theorem r_dyes {op : Op} {j : Nat} {want : Bool} {t : Nat} {p : Prop} {hp : Decidable p} (hv : ρ.get t = some (.bool (decide p))) (h : p) (ht : RD P n all S tl listed L ((t, .bool true) :: ρ) D w Q) : RD P n all S tl listed L ρ D w Q := rd_part hv (fun _ => ht) (fun hn => absurd h (of_decide_eq_false hn))
end
theorem Fr.factB {w w0 : World} {M O0 O : List Nat} {L : List KT} {Φ : List Fact} {v : Value} {xs : List UInt8} (F : Fr M O0 w0 O w L Φ) (h : Bytes O w v xs) : Fr M O0 w0 O w L (Fact.bytes v xs :: Φ) := F.fact (f := Fact.bytes v xs) h
theorem Fr.cellBytes {w w0 : World} {M O0 O : List Nat} {L L' : List KT} {Φ : List Fact} (F : Fr M O0 w0 O w L Φ) {k q : Nat} {xs : List UInt8} (h : Sel L (k, Thing.cells q (bytesV xs)) L' := by (repeat (first | exact Sel.here | apply Sel.there))) : Bytes [] w (.slice (some ⟨q, 0, none⟩) xs.length xs.length) xs :=
  CB.bytes (F.th _ h.mem) (by simp) (Nat.le_refl _)
theorem res_aggF {P : Program} {w w0 : World} {M O0 O : List Nat} {L L' : List KT} {Φ : List Fact} {ρ : Env} {a T k j p : Nat} {cs : List Value} [hT : TAgg P T k] (h : ρ.get a = some (.pointer (some ⟨p, 0, none⟩))) (F : Fr M O0 w0 O w L Φ)
    (hs : Sel L (j, Thing.cells p cs) L' := by (repeat (first | exact Sel.here | apply Sel.there))) (hk : cs.length = k := by rfl) : ResIs P w ρ (.cell a T) (.agg cs.toArray) := res_agg h (F.th _ hs.mem) hk
theorem FS.bytes' {w w0 : World} {M O0 : List Nat} {L : List KT} {Φ Φ' : List Fact} (F : FS M O0 w0 L Φ w) {v : Value} {xs : List UInt8} (h : Sel Φ (Fact.bytes v xs) Φ') : Bytes [] w v xs := F.bytes h
theorem Fr.bytes' {w w0 : World} {M O0 O : List Nat} {L : List KT} {Φ Φ' : List Fact} (F : Fr M O0 w0 O w L Φ) {v : Value} {xs : List UInt8} (h : Sel Φ (Fact.bytes v xs) Φ') : Bytes O w v xs := F.bytes h

/-! ### to look at a state -/
def SeeD (L : List (Nat × Bool)) (ρ : Env) : Prop := L.length = ρ.length
def SeeR (o : Option Oper) (ρ : Env) : Prop := o = o ∧ ρ = ρ
def SeeG (ρ : Env) : Prop := ρ = ρ
def SeeE (e : Exit) (ρ : Env) : Prop := e = e ∧ ρ = ρ

/-! ### between two parts -/

theorem round_then {P : Program} {n : Nat} {D : Dr} {Q : Exit → Act → World → Prop} {X : Type} {y : Code} {ρI : X → Env} {I : X → World → Prop} (k : ∀ x w, I x w → G P n y (ρI x) D w Q) :
    ∀ e a w, Round n ρI D I 1 (fun _ => 0) Q e a w → Exit.then (wpR D.rd P y Q) Q e a w := by
  intro e a w hq
  cases e with
  | normal =>
    obtain ⟨x, g1, g2, g3, g4, _⟩ := hq
    exact k x w g4 a g1 g2 g3
  | _ => exact hq

theorem inBlock_mono {Q Q' : Exit → Act → World → Prop} {id : Nat} (h : ∀ e a w, Q e a w → Q' e a w) : ∀ e a w, Exit.inBlock id Q e a w → Exit.inBlock id Q' e a w := by
  intro e a w hq
  cases e <;> simp only [Exit.inBlock] at hq ⊢ <;> first | exact h _ _ _ hq | (split at hq <;> rename_i h1 <;> simp only [h1, if_true, if_false] at hq ⊢ <;> exact h _ _ _ hq)

/-- What is known between two parts, from inside a block. -/
theorem g_midB {P : Program} {n : Nat} {ρ : Env} {D : Dr} {w : World} {Q : Exit → Act → World → Prop} {X : Type} {c y : Code} {id : Nat} (ρI : X → Env) (I : X → World → Prop) (h : G P n c ρ D w (Exit.inBlock id (Round n ρI D I 1 (fun _ => 0) Q))) (k : ∀ x w, I x w → G P n y (ρI x) D w Q) :
    G P n c ρ D w (Exit.inBlock id (Exit.then (wpR D.rd P y Q) Q)) :=
  fun a h1 h2 h3 => wpIn_mono (h a h1 h2 h3) (inBlock_mono (round_then k))

/-! ### what is parted and comes together -/

section
variable {P : Program} {n : Nat} {all : Array Oper} {os : List Oper} {ρ : Env} {D : Dr} {w w0 : World} {Q : Exit → Act → World → Prop}
variable {M O0 O : List Nat} {L : List KT} {Φ : List Fact}

theorem wpList_cut {K : Act → World → Prop} : ∀ (m : Nat) (os : List Oper) (a : Act) (w : World), wpL P all (Exit.then K Q) (os.take m) a w → (∀ a w, K a w → wpL P all Q (os.drop m) a w) → wpL P all Q os a w
  | 0, os, a, w, h, k => k _ _ h
  | m + 1, [], a, w, h, k => k _ _ h
  | m + 1, o :: os, a, w, h, k => by
    simp only [List.take_succ_cons, wpL] at h ⊢
    split
    · rename_i hw
      simp only [hw, if_true] at h
      exact upon_monoQ (fun a w h => wpList_cut m os a w h k) (fun c a w h => h) (fun a w h => h) h
    · rename_i hw
      simp only [hw] at h
      exact wpList_cut m os _ _ h k

theorem sub_refl : Env.Sub ρ ρ := fun _ _ h => h
theorem sub_new {ρ' : Env} {k : Nat} {v : Value} (h : ρ.get k = none) (hs : Env.Sub ρ ρ') : Env.Sub ρ ((k, v) :: ρ') := fun t u hu => by
  simp only [Env.get]
  by_cases hkt : k = t
  · subst hkt; rw [h] at hu; cases hu
  · have : Nat.beq k t = false := by rw [← Bool.not_eq_true, Nat.beq_eq]; exact hkt
    rw [this]; exact hs t u hu
theorem sub_bool {ρ' : Env} {k : Nat} {b c : Bool} (h : ρ.get k = some (.bool b)) (e : b = c) (hs : Env.Sub ρ ρ') : Env.Sub ρ ((k, .bool c) :: ρ') := fun t u hu => by
  simp only [Env.get]
  by_cases hkt : k = t
  · subst hkt e; rw [h] at hu; simpa using hu
  · have : Nat.beq k t = false := by rw [← Bool.not_eq_true, Nat.beq_eq]; exact hkt
    rw [this]; exact hs t u hu

/-- A part of a region, up to a place where all ways come together. -/
def Cut (n d : Nat) (ρ : Env) (D : Dr) (I : World → Prop) (v : Value) (Q : Exit → Act → World → Prop) : Exit → Act → World → Prop :=
  Exit.then (fun a w => a.tmps.size = n ∧ Sat ((d, v) :: ρ) a ∧ a.defers = D.ds ∧ I w) Q
theorem e_cut {ρ' : Env} {d : Nat} {v v' : Value} {I : World → Prop} (h : ρ'.get d = some v') (e : v' = v) (hs : Env.Sub ρ ρ') (hI : I w) : E n ρ' D w (Cut n d ρ D I v Q) .normal :=
  fun a h1 h2 h3 => ⟨h1, h2.sub (sub_cons h e hs), h3, hI⟩

theorem f_part (m d t : Nat) {b : Bool} {v1 v0 : Value} (x : Value) (F : Fr M O0 w0 O w L Φ) (hv : ρ.get t = some (.bool b))
    (h1 : b = true → R P n all (os.take m) ((t, .bool true) :: ρ) D w (Cut n d ρ D (FS M O0 w0 L Φ) v1 Q))
    (h0 : b = false → R P n all (os.take m) ((t, .bool false) :: ρ) D w (Cut n d ρ D (FS M O0 w0 L Φ) v0 Q))
    (hx : x = if b then v1 else v0) (k : ∀ O w, Fr M O0 w0 O w L Φ → R P n all (os.drop m) ((d, x) :: ρ) D w Q) : R P n all os ρ D w Q := by
  intro a g1 g2 g3
  cases b
  · exact wpList_cut m os a w (h0 rfl a g1 (set_sat g2 hv) g3) (fun a w ⟨k1, k2, k3, O, F⟩ => k O w F a k1 (by rw [hx]; exact k2) k3)
  · exact wpList_cut m os a w (h1 rfl a g1 (set_sat g2 hv) g3) (fun a w ⟨k1, k2, k3, O, F⟩ => k O w F a k1 (by rw [hx]; exact k2) k3)

theorem f_and (m d t : Nat) {b c : Bool} (F : Fr M O0 w0 O w L Φ) (hv : ρ.get t = some (.bool b))
    (h1 : b = true → R P n all (os.take m) ((t, .bool true) :: ρ) D w (Cut n d ρ D (FS M O0 w0 L Φ) (.bool c) Q))
    (h0 : b = false → R P n all (os.take m) ((t, .bool false) :: ρ) D w (Cut n d ρ D (FS M O0 w0 L Φ) (.bool false) Q))
    (k : ∀ O w, Fr M O0 w0 O w L Φ → R P n all (os.drop m) ((d, .bool (b && c)) :: ρ) D w Q) : R P n all os ρ D w Q :=
  f_part m d t (.bool (b && c)) F hv h1 h0 (by cases b <;> rfl) k
theorem f_or (m d t : Nat) {b c : Bool} (F : Fr M O0 w0 O w L Φ) (hv : ρ.get t = some (.bool b))
    (h0 : b = false → R P n all (os.take m) ((t, .bool false) :: ρ) D w (Cut n d ρ D (FS M O0 w0 L Φ) (.bool c) Q))
    (h1 : b = true → R P n all (os.take m) ((t, .bool true) :: ρ) D w (Cut n d ρ D (FS M O0 w0 L Φ) (.bool true) Q))
    (k : ∀ O w, Fr M O0 w0 O w L Φ → R P n all (os.drop m) ((d, .bool (b || c)) :: ρ) D w Q) : R P n all os ρ D w Q :=
  f_part m d t (.bool (b || c)) F hv h1 h0 (by cases b <;> rfl) k

variable {S : World → Prop} {tl : List Nat} {listed : Array Bool} {pl : List (Nat × Bool)}

def done (listed : Array Bool) (pl : List (Nat × Bool)) : Array Bool := pl.foldl (fun l x => l.setIfInBounds x.1 true) listed

theorem rd_weak {ρ' : Env} (hs : Env.Sub ρ' ρ) (h : RD P n all S tl listed pl ρ' D w Q) : RD P n all S tl listed pl ρ D w Q :=
  fun h1 h2 h3 h4 h5 a k1 k2 k3 => h h1 h2 h3 h4 h5 a k1 (k2.sub hs) k3

/-- Where all ways come together. -/
def Meet (P : Program) (n : Nat) (all : Array Oper) (S : World → Prop) (tl : List Nat) (listed : Array Bool) (pl : List (Nat × Bool)) (ρ : Env) (D : Dr) (w : World) (Q : Exit → Act → World → Prop) (d : Nat) (v : Value) : Prop :=
  ∀ ρ', ρ'.get d = some v → Env.Sub ρ ρ' → RD P n all S tl listed pl ρ' D w Q

theorem rd_part2 (m d t : Nat) {b : Bool} {v1 v0 : Value} (x : Value) (hv : ρ.get t = some (.bool b))
    (h1 : b = true → Meet P n all S tl (done listed (pl.take m)) (pl.drop m) ρ D w Q d v1 → RD P n all S tl listed pl ((t, .bool true) :: ρ) D w Q)
    (h0 : b = false → Meet P n all S tl (done listed (pl.take m)) (pl.drop m) ρ D w Q d v0 → RD P n all S tl listed pl ((t, .bool false) :: ρ) D w Q)
    (hx : x = if b then v1 else v0) (k : RD P n all S tl (done listed (pl.take m)) (pl.drop m) ((d, x) :: ρ) D w Q) : RD P n all S tl listed pl ρ D w Q := by
  subst hx
  cases b
  · exact rd_part hv (fun h => by cases h) (fun _ => h0 rfl (fun ρ' g1 g2 => rd_weak (sub_cons g1 rfl g2) k))
  · exact rd_part hv (fun _ => h1 rfl (fun ρ' g1 g2 => rd_weak (sub_cons g1 rfl g2) k)) (fun h => by cases h)
theorem rd_and (m d t : Nat) {b c : Bool} (hv : ρ.get t = some (.bool b))
    (h1 : b = true → Meet P n all S tl (done listed (pl.take m)) (pl.drop m) ρ D w Q d (.bool c) → RD P n all S tl listed pl ((t, .bool true) :: ρ) D w Q)
    (h0 : b = false → Meet P n all S tl (done listed (pl.take m)) (pl.drop m) ρ D w Q d (.bool false) → RD P n all S tl listed pl ((t, .bool false) :: ρ) D w Q)
    (k : RD P n all S tl (done listed (pl.take m)) (pl.drop m) ((d, .bool (b && c)) :: ρ) D w Q) : RD P n all S tl listed pl ρ D w Q :=
  rd_part2 m d t (.bool (b && c)) hv h1 h0 (by cases b <;> rfl) k
theorem rd_or (m d t : Nat) {b c : Bool} (hv : ρ.get t = some (.bool b))
    (h0 : b = false → Meet P n all S tl (done listed (pl.take m)) (pl.drop m) ρ D w Q d (.bool c) → RD P n all S tl listed pl ((t, .bool false) :: ρ) D w Q)
    (h1 : b = true → Meet P n all S tl (done listed (pl.take m)) (pl.drop m) ρ D w Q d (.bool true) → RD P n all S tl listed pl ((t, .bool true) :: ρ) D w Q)
    (k : RD P n all S tl (done listed (pl.take m)) (pl.drop m) ((d, .bool (b || c)) :: ρ) D w Q) : RD P n all S tl listed pl ρ D w Q :=
  rd_part2 m d t (.bool (b || c)) hv h1 h0 (by cases b <;> rfl) k
end

end Gk
