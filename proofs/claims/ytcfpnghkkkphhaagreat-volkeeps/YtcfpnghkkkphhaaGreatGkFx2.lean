/- append, texts, calls, regions that draw their order. Nothing here speaks of one program. -/
import Derived.Test.YtcfpnghkkkphhaaGreatGkFx
import Derived.Laws.MakeOwn
import Derived.Lib.AppendZerosOnto
namespace Gk
open Go
set_option linter.unusedVariables false

theorem info_of_slice {P : Program} {T e sz by_ : Nat} (h : TSlice P T e sz by_) :
    ∃ i z, P.info? e = some i ∧ i.zero = some z ∧ i.size = sz ∧ i.bytes = by_ ∧ z.cells.size = sz := by
  obtain ⟨i, h1, h2⟩ := info_size h.size
  obtain ⟨i', h3, h4⟩ := info_bytes h.bytes
  rw [h1] at h3
  injection h3 with h3
  subst h3
  have hz := h.zero
  unfold zeroB at hz
  rw [h1] at hz
  cases hzz : i.zero with
  | none => simp [hzz] at hz
  | some z => simp [hzz] at hz; exact ⟨i, z, h1, hzz, h2, h4, hz⟩

section
variable {P : Program} {n : Nat} {all : Array Oper} {os : List Oper} {ρ : Env} {D : Dr} {w : World} {Q : Exit → Act → World → Prop}
variable {d : Option Nat} {ty : TypeId} {pos : String} {af : Array Edge} {O : List Nat}

/-! ### append -/

theorem src_sl {T e sz by_ : Nat} [h : TSlice P T e sz by_] {v : Value} {m : Nat} {news : List Value} (hs : Sl O w v m news) (hl : news.length = m * sz) (h1 : ∀ u ∈ news, u.oneCell' = true) :
    Src P sz T v m news w := by
  rcases hs with ⟨rfl, rfl, rfl⟩ | ⟨a, cap, rfl, hle, hc⟩
  · exact Src.ofNil w h.at_ 0
  · exact Src.ofSlice w h.at_ a m cap news hl (fun j u hj => (hc j u hj).1) h1

theorem src_cb {T e sz by_ : Nat} [h : TSlice P T e sz by_] {q m cap : Nat} {news rest : List Value} (hs : CB w q (news ++ rest)) (hl : news.length = m * sz) (h1 : ∀ u ∈ news, u.oneCell' = true) :
    Src P sz T (.slice (some ⟨q, 0, none⟩) m cap) m news w :=
  Src.ofSlice w h.at_ ⟨q, 0, none⟩ m cap news hl (fun j u hj => by
    rw [Addr.add_lit, Nat.zero_add]
    exact hs.cell? (by rw [List.getElem?_append_left (List.getElem?_eq_some_iff.1 hj).1]; exact hj)) h1

theorem src_bytes {T e by_ : Nat} [h : TSlice P T e 1 by_] {v : Value} {xs : List UInt8} (hs : Bytes O w v xs) : Src P 1 T v xs.length (bytesV xs) w :=
  src_sl hs (by simp [bytesV]) one_bytes

theorem CB.buf {p : Nat → Prop} {q m sz : Nat} {cs : List Value} (h : CB w q cs) (hl : cs.length = m * sz) (hm : m ≤ maxLen) (hq : p q) : Buf p w sz (.slice (some ⟨q, 0, none⟩) m m) m cs :=
  ⟨hl, .inr ⟨q, m, [], rfl, Nat.le_refl _, hm, by simpa using hl, by simpa using h, hq⟩⟩

theorem src_buf {T e sz by_ : Nat} [h : TSlice P T e sz by_] {p : Nat → Prop} {v : Value} {m : Nat} {news : List Value} (hs : Buf p w sz v m news) (h1 : ∀ u ∈ news, u.oneCell' = true) : Src P sz T v m news w := by
  obtain ⟨hl, hs⟩ := hs
  rcases hs with ⟨rfl, rfl⟩ | ⟨q, cap, rest, rfl, _, _, _, hcb, _⟩
  · have : news = [] := List.length_eq_zero_iff.1 (by simpa using hl)
    subst this
    exact Src.ofNil w h.at_ 0
  · exact src_cb hcb hl h1

theorem src_str {T : Nat} [h : TString P T] {s : ByteArray} : Src P 1 T (.string s) s.size (byteCells s) w := Src.ofString w h.at_ s

theorem grown_zeros (z : Array Value) (m : Nat) : (Builtin.zeroCells z m).size = m * z.size := size_zeroCells z m

theorem firstCells_sl {v : Option Addr} {sz m cap : Nat} {cs : List Value} (hl : cs.length = m * sz) (hc : ∀ a, v = some a → ∀ (j : Nat) (u : Value), cs[j]? = some u → w.cell? (a.add j) = some u) (hn : v = none → cs = []) :
    (Builtin.firstCells sz m (.slice v m cap)).run P w.drew = .ok cs.toArray w.drew := by
  cases v with
  | none => have := hn rfl; subst this; exact run_firstCells_none w.drew sz m m cap
  | some a => exact run_firstCells_some (P := P) w.drew sz m a m cap cs hl (fun j u hj => by simpa using hc a rfl j u hj)

/-- What an append that grows leaves: a new row. -/
theorem grow_buf {e sz cap need : Nat} {z : Value} {cs : List Value} (hO : OK O w) (hz : z.cells.size = sz) (hl : cs.length = need * sz) (hn : need ≤ maxLen) :
    Step [] O O w (w.drew.alloc (.cells (cs.toArray ++ Builtin.zeroCells z.cells (grownCap w need cap e - need)) e)) ∧
    Buf (fun q => q = w.heap.size) (w.drew.alloc (.cells (cs.toArray ++ Builtin.zeroCells z.cells (grownCap w need cap e - need)) e)) sz
      (.slice (some ⟨w.heap.size, 0, none⟩) need (grownCap w need cap e)) need cs ∧
    w.heap.size < (w.drew.alloc (.cells (cs.toArray ++ Builtin.zeroCells z.cells (grownCap w need cap e - need)) e)).heap.size := by
  have hge := grownCap_ge w need cap e
  have hle := grownCap_le_maxLen w need cap e hn
  refine ⟨(step_drew hO).trans0 (step_alloc _ hO), ⟨hl, .inr ⟨_, _, (Builtin.zeroCells z.cells (grownCap w need cap e - need)).toList, rfl, hge, hle, ?_, ?_, rfl⟩⟩, ?_⟩
  · rw [List.length_append, show (Builtin.zeroCells z.cells (grownCap w need cap e - need)).toList.length = _ from (Array.length_toList), grown_zeros, hz, hl, ← Nat.add_mul]
    congr 1; omega
  · have := cb_alloc w.drew (cs ++ (Builtin.zeroCells z.cells (grownCap w need cap e - need)).toList) e
    have e1 : (cs ++ (Builtin.zeroCells z.cells (grownCap w need cap e - need)).toList).toArray = cs.toArray ++ Builtin.zeroCells z.cells (grownCap w need cap e - need) := by apply Array.ext'; simp
    rw [e1] at this
    exact this
  · rw [World.size_alloc]; exact Nat.lt_succ_self _

/-- An append onto a row of one's own. -/
theorem run_append_buf {T tx tyy e sz by_ : Nat} (hT : TSlice P T e sz by_) {p : Nat → Prop} {v x : Value} {k m : Nat} {cs news : List Value} (hO : OK O w) (hb : Buf p w sz v k cs) (hp : ∀ q, p q → q ∈ O)
    (hs : Src P sz tx x m news w) (h63 : k + m ≤ maxLen) (hfit : (k + m) * by_ ≤ 140737488355328) :
    ∃ r w' O', (Builtin.append_ #[T, tx] tyy #[v, x]).run P w = .ok r w' ∧ Step (blk v) O O' w w' ∧ Buf (fun q => q ∈ O' ∧ (p q ∨ w.heap.size ≤ q)) w' sz r (k + m) (cs ++ news) := by
  obtain ⟨i, z, h1, h2, h3, h4, h5⟩ := info_of_slice hT
  have hpos : 0 < sz := by have := hT.pos; rw [Nat.blt_eq] at this; exact this
  have hlen : (cs ++ news).length = (k + m) * sz := by rw [List.length_append, hb.1, hs.newsLen, Nat.add_mul]
  subst h3 h4
  obtain ⟨hcl, hb2⟩ := hb
  rcases hb2 with ⟨rfl, rfl⟩ | ⟨q, cap, rest, rfl, hnc, hm, hl, hcb, hq⟩
  · have hcs : cs = [] := List.length_eq_zero_iff.1 (by simpa using hcl)
    subst hcs
    rcases Nat.eq_zero_or_pos m with rfl | hmp
    · have hn0 : news = [] := List.length_eq_zero_iff.1 (by simpa using hs.newsLen)
      subst hn0
      refine ⟨.slice none 0 0, w, O, ?_, Step.refl hO, Buf.nil⟩
      rcases hs.kind with ⟨e', hk⟩ | hk <;> simp [Builtin.append_, run_underlying hT.at_, run_underlying hk, Go.sizeOf, typeInfo, h1, hs.len, hs.cells]
    · have hr := run_append_grow_src (P := P) w T tx tyy e i z hT.at_ h1 h2 none 0 0 [] (run_firstCells_none w.drew i.size 0 0 0) x m news hs (by omega) (by simp only [maxLen] at h63; omega) (growslice_fits (by omega) hfit)
      obtain ⟨s1, b1, z1⟩ := grow_buf (e := e) (cap := 0) (need := 0 + m) hO h5 hlen h63
      refine ⟨_, _, _ :: O, hr, (s1.take (Nat.le_refl _) z1).more (fun _ h => by cases h) (fun _ h => by cases h), b1.mono ?_⟩
      rintro q rfl
      exact ⟨List.mem_cons_self, .inr (Nat.le_refl _)⟩
  · by_cases hroom : k + m ≤ cap
    · have hrl : rest.length = cap * i.size - k * i.size := by rw [List.length_append, hcl] at hl; omega
      have hmul : (k + m) * i.size ≤ cap * i.size := Nat.mul_le_mul_right _ hroom
      have hin : ∀ j, j < news.length → 0 + k * i.size + j < (cs ++ rest).length := fun j hj => by
        rw [hs.newsLen] at hj; rw [hl]; rw [Nat.add_mul] at hmul; omega
      have hr := run_append_room_src (P := P) w T tx tyy e i hT.at_ h1 q 0 k cap x m news hs hroom (fun j hj => cell?_set hcb (hin j hj)) (fun j hj => hcb.frozen? (hin j hj))
      refine ⟨_, _, O, hr, step_setCells hO (hp q hq), hlen, .inr ⟨q, cap, rest.drop news.length, rfl, hroom, hm, ?_, ?_, hp q hq, .inl hq⟩⟩
      · rw [List.length_append, hlen, List.length_drop, hrl, hs.newsLen]
        rw [Nat.add_mul] at hmul ⊢; omega
      · have := hcb.setCells (i := 0 + k * i.size) news
        rw [laid_eq] at this
        · rw [Nat.zero_add, ← hcl, List.take_left, List.drop_append, show cs.length + news.length - cs.length = news.length from by omega,
            List.drop_eq_nil_of_le (show cs.length ≤ cs.length + news.length by omega), List.nil_append] at this
          rw [Nat.zero_add, ← hcl]
          exact this
        · rw [hl, hs.newsLen, Nat.zero_add]; rw [Nat.add_mul] at hmul; omega
    · have hr := run_append_grow_src (P := P) w T tx tyy e i z hT.at_ h1 h2 (some ⟨q, 0, none⟩) k cap cs
        (firstCells_sl hcl (fun a ha j u hj => by
          injection ha with ha; subst ha
          rw [Addr.add_lit, Nat.zero_add]
          exact hcb.cell? (by rw [List.getElem?_append_left (List.getElem?_eq_some_iff.1 hj).1]; exact hj)) (fun h => by cases h))
        x m news hs (by omega) (by simp only [maxLen] at h63; omega) (growslice_fits (by omega) hfit)
      obtain ⟨s1, b1, z1⟩ := grow_buf (e := e) (cap := cap) (need := k + m) hO h5 hlen h63
      refine ⟨_, _, _ :: O, hr, (s1.take (Nat.le_refl _) z1).more (fun _ h => by cases h) (fun b hb => ?_), b1.mono ?_⟩
      · simp [blk] at hb; subst hb; exact hp _ hq
      · rintro q rfl
        exact ⟨List.mem_cons_self, .inr (Nat.le_refl _)⟩

theorem r_append {T tx e sz by_ : Nat} [hT : TSlice P T e sz by_] {p : Nat → Prop} {x y : Operand} {v u : Value} {k m : Nat} {cs news : List Value} (hO : OK O w) (hd : okO n d = true)
    (hx : evo ρ x = some v) (hy : evo ρ y = some u) (hb : Buf p w sz v k cs) (hp : ∀ q, p q → q ∈ O)
    (hs : Src P sz tx u m news w) (h63 : k + m ≤ maxLen) (hfit : (k + m) * by_ ≤ 140737488355328)
    (h : ∀ r w' O', Step (blk v) O O' w w' → Buf (fun q => q ∈ O' ∧ (p q ∨ w.heap.size ≤ q)) w' sz r (k + m) (cs ++ news) → R P n all os (upO ρ d r) D w' Q) :
    R P n all (⟨d, .call ⟨.builtin .append, #[x, y], #[T, tx]⟩, ty, pos, af, none⟩ :: os) ρ D w Q := by
  obtain ⟨r, w', O', hr, s1, b1⟩ := run_append_buf (tx := tx) (tyy := ty) hT hO hb hp hs h63 hfit
  exact r_val hd (fun a h2 => by simp [execOp, resolve, invoke, builtin, eval_of h2 hx, eval_of h2 hy, hr]) (h r w' O' s1 b1)

/-! ### bytes to a text, and back -/

theorem y_bytes_str {S T e by_ : Nat} [hS : TSlice P S e 1 by_] [he : TInt P e .u8] [hT : TString P T] {x : Operand} {v : Value} {xs : List UInt8} (hx : evo ρ x = some v) (hb : Bytes O w v xs) :
    Y P ρ w (.convert S T x) (str xs) := by
  intro a h2 d ty pos af
  have : (convert S T v).run P w = .ok (str xs) w := by
    rcases hb with ⟨rfl, hn, _⟩ | ⟨b, cap, rfl, hle, hc⟩
    · have : xs = [] := List.length_eq_zero_iff.1 hn
      subst this
      simp [convert, run_underlying hS.at_, run_underlying hT.at_, run_underlying he.at_, Conv.bytesToString, str]
      rfl
    · refine run_convert_bytes_back w S T e b cap xs hS.at_ he.at_ hT.at_ (fun j hj => ?_)
      exact (hc j _ (by simp [bytesV, byteV, List.getElem?_map, List.getElem?_eq_getElem hj])).1
  simp [execOp, eval_of h2 hx, this]

theorem bytesRow_eq (s : ByteArray) (cap : Nat) : bytesRow s cap = (bytesV s.data.toList ++ List.replicate (cap - s.size) (byteV 0)).toArray := by
  unfold bytesRow
  apply Array.ext'
  simp [bytesV, byteV]

theorem r_str_bytes {S T e by_ : Nat} [hS : TString P S] [hT : TSlice P T e 1 by_] [he : TInt P e .u8] {x : Operand} {s : ByteArray} (hO : OK O w) (hd : okO n d = true) (hx : evo ρ x = some (.string s)) (hs : s.size ≤ maxLen)
    (h : ∀ v w', Step [] O O w w' → w.heap.size < w'.heap.size → Buf (fun q => q = w.heap.size) w' 1 v s.size (bytesV s.data.toList) → R P n all os (upO ρ d v) D w' Q) :
    R P n all (⟨d, .convert S T x, ty, pos, af, none⟩ :: os) ρ D w Q := by
  have hr := run_bytes_of_string (P := P) w S T e s hS.at_ hT.at_ he.at_
  have hge := grownCap_ge w s.size 0 e
  have hle := grownCap_le_maxLen w s.size 0 e hs
  have hsz : s.data.toList.length = s.size := by simp
  have hlen : (bytesRow s (grownCap w s.size 0 e)).size = (bytesV s.data.toList ++ List.replicate (grownCap w s.size 0 e - s.size) (byteV 0)).length := by rw [bytesRow_eq]; simp
  refine r_val hd (fun a h2 => by simp [execOp, eval_of h2 hx, hr]; exact rfl) (h _ _ ((step_drew hO).trans0 (step_alloc _ hO)) (by rw [World.size_alloc]; exact Nat.lt_succ_self _)
    ⟨by simp [bytesV], .inr ⟨w.heap.size, grownCap w s.size 0 e, List.replicate (grownCap w s.size 0 e - s.size) (byteV 0), rfl, hge, hle, ?_, ?_, rfl⟩⟩)
  · simp [bytesV]; omega
  · exact ⟨e, _, by rw [← bytesRow_eq]; exact heap_alloc_new _ _, .inl (by rw [hlen]; exact Nat.le_refl _)⟩

/-- '[]byte("..")': the conversion of a slice to itself only marks its block. -/
theorem r_mark {S e by_ : Nat} [hS : TSlice P S e 1 by_] [he : TInt P e .u8] {x : Operand} {q m cap : Nat} {cs : List Value} (hO : OK O w) (hd : okO n d = true) (hx : evo ρ x = some (.slice (some ⟨q, 0, none⟩) m cap)) (hb : CB w q cs) (hq : q ∈ O)
    (h : ∀ w', Step [q] O O w w' → CB w' q cs → R P n all os (upO ρ d (.slice (some ⟨q, 0, none⟩) m cap)) D w' Q) :
    R P n all (⟨d, .convert S S x, ty, pos, af, none⟩ :: os) ρ D w Q := by
  obtain ⟨T, fz, h1, h2⟩ := hb
  have hsh : w.shape? q = some (T, cs.length) := by simp [World.shape?, h1]
  have hr : (convert S S (.slice (some ⟨q, 0, none⟩) m cap)).run P w = .ok (.slice (some ⟨q, 0, none⟩) m cap) (w.freeze ⟨q, cs.length, none⟩ 1) := by
    simp [convert, run_underlying hS.at_, run_underlying he.at_, markStringish, hsh]
  have hheap : ∀ k, k ≠ q → (w.freeze ⟨q, cs.length, none⟩ 1).heap[k]? = w.heap[k]? := fun k hk => by
    unfold World.freeze
    rw [if_neg (by decide)]
    simp [Array.getElem?_modify, Ne.symm hk]
  have hsize : (w.freeze ⟨q, cs.length, none⟩ 1).heap.size = w.heap.size := by
    unfold World.freeze
    rw [if_neg (by decide)]
    simp
  have hos : (w.freeze ⟨q, cs.length, none⟩ 1).os = w.os ∧ (w.freeze ⟨q, cs.length, none⟩ 1).tape = w.tape ∧ (w.freeze ⟨q, cs.length, none⟩ 1).output = w.output := by
    unfold World.freeze
    rw [if_neg (by decide)]
    exact ⟨rfl, rfl, rfl⟩
  refine r_val hd (fun a h2 => by simp [execOp, eval_of h2 hx, hr]) (h _ ⟨hos.1, hos.2.1, hos.2.2, by rw [hsize]; exact Nat.le_refl _, fun k _ hn => hheap k (fun e => hn (by simp [e])), fun k hk => by simp at hk; subst hk; exact hq,
    fun _ h => .inl h, fun _ h => h, fun k hk => by rw [hsize]; exact hO k hk⟩ ?_)
  obtain ⟨lo, hi⟩ := fz
  refine ⟨T, if lo == hi then (cs.length, cs.length + 1) else (min lo cs.length, max hi (cs.length + 1)), ?_, ?_⟩
  · unfold World.freeze
    rw [if_neg (by decide)]
    simp [Array.getElem?_modify, h1]
  · by_cases hlh : lo = hi
    · simp [hlh]
    · have : cs.length ≤ lo := by
        rcases h2 with h2 | h2
        · exact h2
        · exact absurd h2 hlh
      simp [hlh]; omega

/-! ### calls -/

/-- A function's contract. -/
def FnC (P : Program) (f : FuncId) (args : List Value) (O M : List Nat) (w : World) (K : Value → List Nat → World → Prop) : Prop :=
  Ent P f ∧ Calls P f args.toArray w fun e w' => ∃ r O', e = .returned r ∧ Step M O O' w w' ∧ K r O' w'

theorem FnC.mono {f : FuncId} {args : List Value} {M : List Nat} {K K' : Value → List Nat → World → Prop} (h : FnC P f args O M w K) (hk : ∀ r O' w', Step M O O' w w' → K r O' w' → K' r O' w') : FnC P f args O M w K' :=
  ⟨h.1, h.2.mono fun e w' ⟨r, O', h1, h2, h3⟩ => ⟨r, O', h1, h2, hk r O' w' h2 h3⟩⟩

theorem run_callFunc {f : FuncId} (h : Ent P f) (args : Array Value) : (callFunc f args).run P w = .ok (.enter f args) w := by
  obtain ⟨fn, h1, h2, h3⟩ := h
  unfold callFunc
  simp only [Sem.run_bind, run_program, Result.andThen_ok, h1, h2, Bool.false_eq_true, if_false, h3]
  rfl

theorem r_call {f : FuncId} {xs : List Operand} {vs : List Value} {ats : Array TypeId} {M : List Nat} {K : Value → List Nat → World → Prop} (hd : okO n d = true) (hx : evs ρ xs = some vs)
    (hc : FnC P f vs O M w K) (h : ∀ r O' w', Step M O O' w w' → K r O' w' → R P n all os (upO ρ d r) D w' Q) :
    R P n all (⟨d, .call ⟨.value (.func f), xs.toArray, ats⟩, ty, pos, af, none⟩ :: os) ρ D w Q :=
  r_enter hd (fun a h2 => by
    have e1 := evals_of h2 hx
    simp [execOp, resolve, invoke, Deferred.ofValue, Act.eval, e1, run_callFunc hc.1]) (hc.2.mono fun e w' ⟨r, O', h1, h2, h3⟩ => ⟨r, h1, h r O' w' h2 h3⟩)

/-- A call of a function value that is known. -/
theorem r_callv {f : FuncId} {x : Operand} {xs : List Operand} {first cap : Array Value} {vs : List Value} {ats : Array TypeId} {M : List Nat} {K : Value → List Nat → World → Prop} (hd : okO n d = true)
    (hf : evo ρ x = some (.func (.func f) first cap)) (hx : evs ρ xs = some vs)
    (hc : FnC P f (first.toList ++ vs ++ cap.toList) O M w K) (h : ∀ r O' w', Step M O O' w w' → K r O' w' → R P n all os (upO ρ d r) D w' Q) :
    R P n all (⟨d, .call ⟨.value x, xs.toArray, ats⟩, ty, pos, af, none⟩ :: os) ρ D w Q :=
  r_enter (args := (first.toList ++ vs ++ cap.toList).toArray) hd (fun a h2 => by
    have e1 := evals_of h2 hx
    have e2 := eval_of h2 hf
    simp [execOp, resolve, invoke, Deferred.ofValue, e1, e2, run_callFunc hc.1]) (hc.2.mono fun e w' ⟨r, O', h1, h2, h3⟩ => ⟨r, h1, h r O' w' h2 h3⟩)

/-- A body's walk makes a contract. -/
theorem fn_of {f : FuncId} {fn : Func} {c : Code} {args : List Value} {M : List Nat} {K : Value → List Nat → World → Prop} (n : Nat)
    (hf : P.funcs[f]? = some fn) (hb : fn.body = some c) (hname : (fn.name == "runtime.NumGoroutine") = false) (hn : fn.ntmps = n) (hargs : Nat.ble args.length n = true)
    (h : G P n c (mkEnv 0 args) Dr.none w (bodyPost P fn fun e w' => ∃ r O', e = .returned r ∧ Step M O O' w w' ∧ K r O' w')) : FnC P f args O M w K :=
  ⟨⟨fn, hf, hname, by simp [hb]⟩, enter n hf hb hn hargs h⟩

end
theorem made_one {z : Value} (n : Nat) : madeCells #[z] n = (List.replicate n z).toArray := by
  apply Array.ext'
  unfold madeCells
  apply List.ext_getElem?
  intro k
  simp only [Array.toList_map, Array.toList_range, List.getElem?_map, List.getElem?_replicate]
  by_cases hk : k < n
  · rw [if_pos hk, List.getElem?_range hk]
    simp [Nat.mod_one]
  · rw [if_neg hk, List.getElem?_eq_none (by simpa using hk)]; rfl

/-- 'make' of a slice, of elements of one cell. -/
theorem r_make {P : Program} {n : Nat} {all : Array Oper} {os : List Oper} {ρ : Env} {D : Dr} {w : World} {Q : Exit → Act → World → Prop}
    {d : Option Nat} {ty : TypeId} {pos : String} {af : Array Edge} {O : List Nat}
    {T e by_ : Nat} [h : TSlice P T e 1 by_] {z : Value} [hz : TZero P e z] {x y : Operand} {kl kc : IntKind} {l c : Nat} (hO : OK O w) (hd : okO n d = true)
    (hx : evo ρ x = some (.int kl l)) (hy : evo ρ y = some (.int kc c)) (h1 : z.oneCell' = true) (hlc : l ≤ c) (hb : by_ * c ≤ 281474976710656) (h63 : c ≤ 9223372036854775807)
    (hk : ∀ q w', q = w.heap.size → Step [] O O w w' → w.heap.size < w'.heap.size → CB w' q (List.replicate c z) → R P n all os (upO ρ d (.slice (some ⟨q, 0, none⟩) l c)) D w' Q) :
    R P n all (⟨d, .makeSlice T x y, ty, pos, af, none⟩ :: os) ρ D w Q := by
  obtain ⟨i, z', a1, a2, a3, a4, a5⟩ := info_of_slice h
  have hzz : z' = z := by
    have := hz.at_
    unfold zeroB at this
    rw [a1] at this
    simpa [a2] using this
  subst hzz
  have h3 : (i.bytes : Int) * (c : Int) ≤ 281474976710656 := by
    have h4 : ((i.bytes * c : Nat) : Int) ≤ 281474976710656 := by rw [a4]; omega
    rwa [Int.natCast_mul] at h4
  have hr := run_make (P := P) (w := w) T e i z' h.at_ a1 a2 kl kc l c (by omega) (by omega) h3 (by omega)
  have e1 : madeCells z'.cells ((c : Int).toNat * i.size) = (List.replicate c z').toArray := by
    rw [a3, cells_one h1, made_one]; simp
  rw [e1] at hr
  simp only [Int.toNat_natCast] at hr
  exact r_new (cs := List.replicate c z') (T := e) hd (fun a h2 => by
    simp [execOp, eval_of h2 hx, eval_of h2 hy, hr]) hO (hk _ · rfl)

/-! ### append of so many noughts -/

theorem zeroCells_one {z : Value} (n : Nat) : Builtin.zeroCells #[z] n = (List.replicate n z).toArray := by
  apply Array.ext'
  apply List.ext_getElem?
  intro k
  unfold Builtin.zeroCells
  simp only [Array.toList_map, Array.toList_range, List.getElem?_map, List.getElem?_replicate]
  by_cases hk : k < n
  · rw [if_pos hk, List.getElem?_range (by simpa using hk)]
    simp [Nat.mod_one]
  · rw [if_neg hk, List.getElem?_eq_none (by simpa using hk)]; rfl

theorem run_append_zeros {P : Program} {w : World} {O : List Nat} {T tn tyy e by_ : Nat} {kn kq : IntKind} {z : Value} (hT : TSlice P T e 1 by_) (hz : TZero P e z) (h1 : z.oneCell' = true) (htn : P.underlying tn = some (.int kn)) {p : Nat → Prop} {v : Value} {k m : Nat} {cs : List Value} (hO : OK O w) (hb : Buf p w 1 v k cs) (hp : ∀ q, p q → q ∈ O)
    (h63 : k + m ≤ maxLen) (hfit : (k + m) * by_ ≤ 140737488355328) :
    ∃ r w' O', (Builtin.append_ #[T, tn] tyy #[v, .int kq m]).run P w = .ok r w' ∧ Step (blk v) O O' w w' ∧ Buf (fun q => q ∈ O' ∧ (p q ∨ w.heap.size ≤ q)) w' 1 r (k + m) (cs ++ List.replicate m z) := by
  obtain ⟨i, z', g1, g2, g3, g4, g5⟩ := info_of_slice hT
  have hzz : z' = z := by
    have := hz.at_
    unfold zeroB at this
    rw [g1] at this
    simpa [g2] using this
  subst hzz
  subst g4
  have hc1 := cells_one h1
  have hcl := hb.1
  have hw : IntKind.i64.wrap (m : Int) = m := by rw [IntKind.wrap_i64]; simp only [maxLen] at h63; omega
  have hneg : ¬ ((m : Int) < 0) := by omega
  have hmb : m * i.bytes ≤ (k + m) * i.bytes := Nat.mul_le_mul_right _ (by omega)
  have h48i : ¬ (281474976710656 < (m : Int) * (i.bytes : Int)) := by
    rw [← Int.natCast_mul]
    omega
  have hlen : (cs ++ List.replicate m z').length = (k + m) * 1 := by simp [hcl]
  obtain ⟨_, hb2⟩ := hb
  have grow : ∀ (base : Option Addr) (cap : Nat), cap < k + m → (Builtin.firstCells i.size k (.slice base k cap)).run P w.drew = .ok cs.toArray w.drew → 0 < m →
      (∀ b, b ∈ blk (.slice base k cap) → p b) →
      ∃ r w' O', (Builtin.append_ #[T, tn] tyy #[.slice base k cap, .int kq m]).run P w = .ok r w' ∧ Step (blk (.slice base k cap)) O O' w w' ∧ Buf (fun q => q ∈ O' ∧ (p q ∨ w.heap.size ≤ q)) w' 1 r (k + m) (cs ++ List.replicate m z') := by
    intro base cap hcap hold hm hbl
    have hr := Go.Lib.run_append_grow_zeros (P := P) w T tn tyy e i z' kq kn hT.at_ htn g1 g2 base k cap cs hold m hm (by omega) (by omega) (by simp only [maxLen] at h63; omega) (by omega) (growslice_fits (by omega) hfit)
    have e1 : cs.toArray ++ Builtin.zeroCells z'.cells m = (cs ++ List.replicate m z').toArray := by rw [hc1, zeroCells_one]; simp
    rw [e1] at hr
    obtain ⟨s1, b1, z1⟩ := grow_buf (e := e) (cap := cap) (need := k + m) (cs := cs ++ List.replicate m z') hO g5 hlen h63
    refine ⟨_, _, _ :: O, hr, (s1.take (Nat.le_refl _) z1).more (fun _ h => by cases h) (fun b hb => hp _ (hbl b hb)), b1.mono ?_⟩
    rintro q rfl
    exact ⟨List.mem_cons_self, .inr (Nat.le_refl _)⟩
  rcases hb2 with ⟨rfl, rfl⟩ | ⟨q, cap, rest, rfl, hnc, hm, hl, hcb, hq⟩
  · have hcs : cs = [] := List.length_eq_zero_iff.1 (by simpa using hcl)
    subst hcs
    rcases Nat.eq_zero_or_pos m with rfl | hmp
    · refine ⟨.slice none 0 0, w, O, ?_, Step.refl hO, Buf.nil⟩
      have hw0 : IntKind.i64.wrap 0 = 0 := by rw [IntKind.wrap_i64]; rfl
      simp [Builtin.append_, run_underlying hT.at_, run_underlying htn, Go.sizeOf, typeInfo, g1, asInt, asIntOf, hw0]
    · refine grow none 0 (by omega) ?_ hmp (fun b hb => by simp [blk] at hb)
      exact run_firstCells_none w.drew i.size 0 0 0
  · by_cases hroom : k + m ≤ cap
    · have hrl : rest.length = cap * 1 - k * 1 := by rw [List.length_append, hcl] at hl; omega
      have hin : ∀ j, j < (List.replicate m z').length → 0 + k * 1 + j < (cs ++ rest).length := fun j hj => by
        simp only [List.length_replicate] at hj; rw [hl]; omega
      have hst := run_storeCells_cells (P := P) q (0 + k * 1) (List.replicate m z') 0 w (fun j hj => by simpa using cell?_set hcb (hin j hj)) (fun j hj => by simpa using hcb.frozen? (hin j hj)) (fun u hu => by rw [(List.mem_replicate.1 hu).2]; exact h1)
      have hr : (Builtin.append_ #[T, tn] tyy #[.slice (some ⟨q, 0, none⟩) k cap, .int kq m]).run P w = .ok (.slice (some ⟨q, 0, none⟩) (k + m) cap) (w.setCells q (0 + k * 1) (List.replicate m z')) := by
        rcases Nat.eq_zero_or_pos m with rfl | hmp
        · have hw0 : IntKind.i64.wrap 0 = 0 := by rw [IntKind.wrap_i64]; rfl
          simp [Builtin.append_, run_underlying hT.at_, run_underlying htn, Go.sizeOf, typeInfo, g1, asInt, asIntOf, hw0, show k ≤ cap from by omega, World.setCells]
          rfl
        · have hns : ¬ (m = 0) := by omega
          simp only [Nat.add_zero, Nat.zero_add, Nat.mul_one] at hst
          simp [Builtin.append_, run_underlying hT.at_, run_underlying htn, Go.sizeOf, typeInfo, zeroValue, g1, g2, g3, asInt, asIntOf, hw, hneg, h48i, hroom, hns, hc1, zeroCells_one, Addr.add_lit, hst]
      refine ⟨_, _, O, hr, step_setCells hO (hp q hq), hlen, .inr ⟨q, cap, rest.drop m, rfl, hroom, hm, ?_, ?_, hp q hq, .inl hq⟩⟩
      · rw [List.length_append, hlen, List.length_drop, hrl]; omega
      · have := hcb.setCells (i := 0 + k * 1) (List.replicate m z')
        rw [laid_eq] at this
        · rw [Nat.zero_add, ← hcl, List.take_left, List.drop_append, List.length_replicate, show cs.length + m - cs.length = m from by omega,
            List.drop_eq_nil_of_le (show cs.length ≤ cs.length + m by omega), List.nil_append] at this
          rw [Nat.zero_add, ← hcl]
          exact this
        · rw [hl, List.length_replicate, Nat.zero_add]; omega
    · refine grow (some ⟨q, 0, none⟩) cap (by omega) ?_ (by omega) (fun b hb => by simp [blk] at hb; subst hb; exact hq)
      refine firstCells_sl (by rw [hcl, g3]) (fun a ha j u hj => by
          injection ha with ha; subst ha
          rw [Addr.add_lit, Nat.zero_add]
          exact hcb.cell? (by rw [List.getElem?_append_left (List.getElem?_eq_some_iff.1 hj).1]; exact hj)) (fun h => by cases h)

theorem r_append_zeros {P : Program} {n : Nat} {all : Array Oper} {os : List Oper} {ρ : Env} {D : Dr} {w : World} {Q : Exit → Act → World → Prop}
    {d : Option Nat} {ty : TypeId} {pos : String} {af : Array Edge} {O : List Nat}
    {T tn e by_ : Nat} {kn kq : IntKind} {z : Value} [hT : TSlice P T e 1 by_] [hz : TZero P e z] [htn : TInt P tn kn] {p : Nat → Prop} {x y : Operand} {v : Value} {k m : Nat} {cs : List Value} (hO : OK O w) (hd : okO n d = true)
    (hx : evo ρ x = some v) (hy : evo ρ y = some (.int kq m)) (h1 : z.oneCell' = true) (hb : Buf p w 1 v k cs) (hp : ∀ q, p q → q ∈ O)
    (h63 : k + m ≤ maxLen) (hfit : (k + m) * by_ ≤ 140737488355328)
    (h : ∀ r w' O', Step (blk v) O O' w w' → Buf (fun q => q ∈ O' ∧ (p q ∨ w.heap.size ≤ q)) w' 1 r (k + m) (cs ++ List.replicate m z) → R P n all os (upO ρ d r) D w' Q) :
    R P n all (⟨d, .call ⟨.builtin .append, #[x, y], #[T, tn]⟩, ty, pos, af, none⟩ :: os) ρ D w Q := by
  obtain ⟨r, w', O', hr, s1, b1⟩ := run_append_zeros (tyy := ty) (kq := kq) hT hz h1 htn.at_ hO hb hp h63 hfit
  exact r_val hd (fun a h2 => by simp [execOp, resolve, invoke, builtin, eval_of h2 hx, eval_of h2 hy, hr]) (h r w' O' s1 b1)

theorem Bytes.sl {O : List Nat} {w : World} {v : Value} {xs : List UInt8} (h : Bytes O w v xs) : Sl O w v xs.length (bytesV xs) := h
theorem Sl.bytes {O : List Nat} {w : World} {v : Value} {xs : List UInt8} (h : Sl O w v xs.length (bytesV xs)) : Bytes O w v xs := h

theorem Bytes.cut {O : List Nat} {w : World} {a : Option Addr} {m c l h k : Nat} {xs : List UInt8} (hs : Bytes O w (.slice a m c) xs) (hk : k ≤ c) (hlh : l ≤ h) (hhk : h ≤ k) (hm : h ≤ xs.length) :
    Bytes O w (cutV a 1 l h k) ((xs.drop l).take (h - l)) := by
  have hmm : m = xs.length := by
    rcases hs with ⟨e, h1, _⟩ | ⟨x, cap, e, _⟩
    · injection e with _ e _; omega
    · injection e
  subst hmm
  have := Sl.cut (l := l) (h := h) (k := k) (sz := 1) hs.sl hk hlh hhk hm (by simp [bytesV]) (by decide)
  have e1 : ((bytesV xs).drop (l * 1)).take ((h - l) * 1) = bytesV ((xs.drop l).take (h - l)) := by simp [bytesV, List.map_drop, List.map_take]
  rw [e1] at this
  generalize hys : (xs.drop l).take (h - l) = ys at this ⊢
  have e2 : h - l = ys.length := by subst hys; simp; omega
  rw [e2] at this
  exact Sl.bytes this

theorem Bytes.none_nil {O : List Nat} {w : World} {m c : Nat} {xs : List UInt8} (h : Bytes O w (.slice none m c) xs) : xs = [] := by
  rcases h with ⟨_, h, _⟩ | ⟨a, cap, h, _⟩
  · exact List.length_eq_zero_iff.1 h
  · cases h

/-- Bytes in a block of their own, from number 'B' on, that nobody else writes into. -/
def FBytes (B : Nat) (O : List Nat) (w : World) (v : Value) (xs : List UInt8) : Prop := Buf (fun q => q ∉ O ∧ B ≤ q) w 1 v xs.length (bytesV xs)

theorem FBytes.bytes {B : Nat} {O : List Nat} {w : World} {v : Value} {xs : List UInt8} (h : FBytes B O w v xs) : Bytes O w v xs := Buf.sl h fun _ hq => hq.1
theorem FBytes.step {B : Nat} {M O O' : List Nat} {w w' : World} {v : Value} {xs : List UInt8} (h : FBytes B O w v xs) (s : Step M O O' w w') : FBytes B O' w' v xs := by
  have hl := Buf.lt h
  have h1 := Buf.step h s (fun q hq hm => hq.1 (s.mo q hm))
  obtain ⟨g1, g2⟩ := h1
  refine ⟨g1, ?_⟩
  rcases g2 with g2 | ⟨q, cap, rest, rfl, a2, a3, a4, a5, a6⟩
  · exact .inl g2
  · exact .inr ⟨q, cap, rest, rfl, a2, a3, a4, a5, fun hm => (s.own q hm).elim a6.1 (fun hle => absurd (hl q (by simp [blk])) (Nat.not_lt.2 hle)), a6.2⟩
theorem FBytes.sub {B : Nat} {O O' : List Nat} {w : World} {v : Value} {xs : List UInt8} (h : FBytes B O w v xs) (hs : ∀ b, b ∈ O' → b ∈ O) : FBytes B O' w v xs := Buf.mono h fun _ hq => ⟨fun hm => hq.1 (hs _ hm), hq.2⟩
theorem Buf.fbytes {B : Nat} {O : List Nat} {w w' : World} {v : Value} {xs : List UInt8} (h : Buf (fun q => w.heap.size ≤ q) w' 1 v xs.length (bytesV xs)) (hO : OK O w) (hB : B ≤ w.heap.size) : FBytes B O w' v xs :=
  h.mono fun q hq => ⟨fresh_nin hO hq, Nat.le_trans hB hq⟩
/-- The block of bytes that are not none. -/
theorem FBytes.own {B : Nat} {O : List Nat} {w : World} {v : Value} {xs : List UInt8} (h : FBytes B O w v xs) (hx : xs ≠ []) : ∃ q cap rest, v = .slice (some ⟨q, 0, none⟩) xs.length cap ∧ CB w q (bytesV xs ++ rest) ∧ q ∉ O ∧ B ≤ q ∧ q < w.heap.size ∧ xs.length ≤ cap := by
  obtain ⟨g1, g2⟩ := h
  rcases g2 with ⟨_, hn⟩ | ⟨q, cap, rest, rfl, a2, a3, a4, a5, a6⟩
  · exact absurd (List.length_eq_zero_iff.1 hn) hx
  · exact ⟨q, cap, rest, rfl, a5, a6.1, a6.2, a5.lt, a2⟩

theorem str_size (xs : List UInt8) : (⟨xs.toArray⟩ : ByteArray).size = xs.length := by simp [ByteArray.size]
theorem str_toList (xs : List UInt8) : (⟨xs.toArray⟩ : ByteArray).data.toList = xs := by simp

/-- The block of a row of bytes that is not empty. -/
theorem Buf.owned {p : Nat → Prop} {w : World} {v : Value} {n : Nat} {xs : List UInt8} (h : Buf p w 1 v n (bytesV xs)) (hx : xs ≠ []) :
    ∃ q cap rest, v = .slice (some ⟨q, 0, none⟩) xs.length cap ∧ CB w q (bytesV xs ++ rest) ∧ p q ∧ q < w.heap.size ∧ xs.length ≤ cap := by
  obtain ⟨g1, g2⟩ := h
  have hn : n = xs.length := by simpa [bytesV] using g1.symm
  subst hn
  rcases g2 with ⟨_, hn⟩ | ⟨q, cap, rest, rfl, a2, a3, a4, a5, a6⟩
  · exact absurd (List.length_eq_zero_iff.1 hn) hx
  · exact ⟨q, cap, rest, rfl, a5, a6, a5.lt, a2⟩

theorem CB.bytesP {O : List Nat} {w : World} {q cap : Nat} {xs : List UInt8} {rest : List Value} (h : CB w q (bytesV xs ++ rest)) (hq : q ∉ O) (hc : xs.length ≤ cap) : Bytes O w (.slice (some ⟨q, 0, none⟩) xs.length cap) xs :=
  h.sl hq hc _ (fun i u h => by rw [List.getElem?_append_left (List.getElem?_eq_some_iff.1 h).1]; exact h)

/-! ### results -/

/-- What a result's place holds. -/
def ResIs (P : Program) (w : World) (ρ : Env) : ResultVar → Value → Prop
  | .tmp t, v => ρ.get t = some v
  | .cell a T, v => ∃ p, ρ.get a = some (.pointer (some p)) ∧ (loadVar T p).run P w = .ok v w

theorem res_tmp {P : Program} {w : World} {ρ : Env} {t : Nat} {v : Value} (h : ρ.get t = some v) : ResIs P w ρ (.tmp t) v := h

theorem res_agg {P : Program} {w : World} {ρ : Env} {a T k p : Nat} {cs : List Value} [TAgg P T k] (h : ρ.get a = some (.pointer (some ⟨p, 0, none⟩))) (hb : CB w p cs) (hk : cs.length = k) : ResIs P w ρ (.cell a T) (.agg cs.toArray) :=
  ⟨_, h, run_loadAgg (T := T) hk fun j v hj => by
    rw [Addr.add_lit, Nat.zero_add]; exact hb.cell? hj⟩

theorem res_one {P : Program} {w : World} {ρ : Env} {a T p : Nat} {v : Value} [TOne P T] (h : ρ.get a = some (.pointer (some ⟨p, 0, none⟩))) (hb : CB w p [v]) : ResIs P w ρ (.cell a T) v :=
  ⟨_, h, run_load1 (T := T) (hb.cell? rfl)⟩

section
variable {P : Program} {n : Nat} {ρ : Env} {w : World} {fn : Func} {K : Ending → World → Prop} {e : Exit}

theorem retR1 {r1 : ResultVar} {v1 : Value} (he : e = .ret ∨ e = .normal) (hr : fn.results = #[r1]) (h1 : ResIs P w ρ r1 v1) (h : K (.returned v1) w) : E n ρ Dr.none w (bodyPost P fn K) e := by
  intro a g1 g2 g3
  have : (results fn a.tmps).run P w = .ok v1 w := by
    cases r1 with
    | tmp t => simp [results, hr, g2 t v1 h1]
    | cell a T => obtain ⟨p, hp, hl⟩ := h1; simp [results, hr, g2 _ _ hp, asAddr, hl]
  rcases he with rfl | rfl <;> exact ⟨g3, _, this, h⟩

theorem retR2 {r1 r2 : ResultVar} {v1 v2 : Value} (he : e = .ret ∨ e = .normal) (hr : fn.results = #[r1, r2]) (h1 : ResIs P w ρ r1 v1) (h2 : ResIs P w ρ r2 v2) (h : K (.returned (.tuple #[v1, v2])) w) : E n ρ Dr.none w (bodyPost P fn K) e := by
  intro a g1 g2 g3
  have : (results fn a.tmps).run P w = .ok (.tuple #[v1, v2]) w := by
    cases r1 with
    | tmp t =>
      cases r2 with
      | tmp u => simp [results, hr, g2 t v1 h1, g2 u v2 h2]
      | cell b U => obtain ⟨q, hq, hm⟩ := h2; simp [results, hr, g2 t v1 h1, g2 _ _ hq, asAddr, hm]
    | cell a T =>
      obtain ⟨p, hp, hl⟩ := h1
      cases r2 with
      | tmp u => simp [results, hr, g2 _ _ hp, g2 u v2 h2, asAddr, hl]
      | cell b U => obtain ⟨q, hq, hm⟩ := h2; simp [results, hr, g2 _ _ hp, g2 _ _ hq, asAddr, hl, hm]
  rcases he with rfl | rfl <;> exact ⟨g3, _, this, h⟩

theorem retR3 {r1 r2 r3 : ResultVar} {v1 v2 v3 : Value} (he : e = .ret ∨ e = .normal) (hr : fn.results = #[r1, r2, r3]) (h1 : ResIs P w ρ r1 v1) (h2 : ResIs P w ρ r2 v2) (h3 : ResIs P w ρ r3 v3) (h : K (.returned (.tuple #[v1, v2, v3])) w) : E n ρ Dr.none w (bodyPost P fn K) e := by
  intro a g1 g2 g3
  have : (results fn a.tmps).run P w = .ok (.tuple #[v1, v2, v3]) w := by
    cases r1 with
    | tmp t =>
      have e1 := g2 t v1 h1
      cases r2 with
      | tmp u =>
        have e2 := g2 u v2 h2
        cases r3 with
        | tmp s => simp [results, hr, e1, e2, g2 s v3 h3]
        | cell c S => obtain ⟨o, ho, hn⟩ := h3; simp [results, hr, e1, e2, g2 _ _ ho, asAddr, hn]
      | cell b U =>
        obtain ⟨q, hq, hm⟩ := h2
        cases r3 with
        | tmp s => simp [results, hr, e1, g2 _ _ hq, g2 s v3 h3, asAddr, hm]
        | cell c S => obtain ⟨o, ho, hn⟩ := h3; simp [results, hr, e1, g2 _ _ hq, g2 _ _ ho, asAddr, hn, hm]
    | cell a T =>
      obtain ⟨p, hp, hl⟩ := h1
      cases r2 with
      | tmp u =>
        have e2 := g2 u v2 h2
        cases r3 with
        | tmp s => simp [results, hr, g2 _ _ hp, e2, g2 s v3 h3, asAddr, hl]
        | cell c S => obtain ⟨o, ho, hn⟩ := h3; simp [results, hr, g2 _ _ hp, e2, g2 _ _ ho, asAddr, hn, hl]
      | cell b U =>
        obtain ⟨q, hq, hm⟩ := h2
        cases r3 with
        | tmp s => simp [results, hr, g2 _ _ hp, g2 _ _ hq, g2 s v3 h3, asAddr, hm, hl]
        | cell c S => obtain ⟨o, ho, hn⟩ := h3; simp [results, hr, g2 _ _ hp, g2 _ _ hq, g2 _ _ ho, asAddr, hn, hm, hl]
  rcases he with rfl | rfl <;> exact ⟨g3, _, this, h⟩
end

end Gk
