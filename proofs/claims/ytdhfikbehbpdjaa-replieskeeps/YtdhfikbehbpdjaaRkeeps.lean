/- RepliesKeeps answers true. -/
import Derived.Test.YtdhfikbehbpdjaaRsame
import Derived.Test.YtdhfikbehbpdjaaRef14b
import Derived.Test.YtdhfikbehbpdjaaAwake14
import Derived.Test.YtdhfikbehbpdjaaReplaw
import Derived.Test.YtdhfikbehbpdjaaGkArr
namespace Go.Proofs.Ytdhfikbehbpdjaa
open Gk Go
set_option linter.unusedVariables false
set_option maxHeartbeats 4000000
set_option maxRecDepth 4000
set_option linter.unusedSimpArgs false
attribute [local irreducible] Int.decLt Int.decLe Int.decEq Int.instDecidableEq Gk.Rnds Gk.E Gk.G Gk.R Gk.RD Gk.RX Gk.RO Gk.Y Gk.Ent Gk.Sat Gk.Round Gk.After Gk.Cell Gk.Sl Gk.SlA Gk.CB Gk.OK Gk.FnC Gk.Bytes Gk.BytesL Gk.StrL Gk.Buf Gk.MapI
theorem made_list (z : Array Value) (n : Nat) : madeCells z n = ((List.range n).map fun k => z[k % z.size]!).toArray := by
  apply Array.ext'
  simp [madeCells]
/-- 'make' of a slice of structs. -/
theorem f_makeN {P : Program} {n : Nat} {all : Array Oper} {os : List Oper} {ρ : Env} {D : Dr} {w w0 : World} {Q : Exit → Act → World → Prop} {d : Option Nat} {ty : TypeId} {pos : String} {af : Array Edge} {M O0 O : List Nat} {L : List KT} {Φ : List Fact}
    {T e sz by_ : Nat} [h : TSlice P T e sz by_] {z : Value} [hz : TZero P e z] {x y : Operand} {kl kc : IntKind} {l c : Nat} {cs : List Value} (F : Fr M O0 w0 O w L Φ) (hd : okO n d = true)
    (hx : evo ρ x = some (.int kl l)) (hy : evo ρ y = some (.int kc c)) (hm : madeCells z.cells (c * sz) = cs.toArray) (hlc : l ≤ c) (hb : by_ * c ≤ 281474976710656) (h63 : c ≤ 9223372036854775807)
    (hk : ∀ q w', Fr M O0 w0 (q :: O) w' ((2, Thing.cells q cs) :: L) Φ → R P n all os (upO ρ d (.slice (some ⟨q, 0, none⟩) l c)) D w' Q) :
    R P n all (⟨d, .makeSlice T x y, ty, pos, af, none⟩ :: os) ρ D w Q := by
  obtain ⟨i, z', a1, a2, a3, a4, a5⟩ := info_of_slice h
  have hzz : z' = z := by
    have := hz.at_
    unfold zeroB at this
    rw [a1] at this
    simpa [a2] using this
  subst hzz
  have h3 : (i.bytes : Int) * (c : Int) ≤ 281474976710656 := by
    have h4 : ((i.bytes * c : Nat) : Int) ≤ 281474976710656 := by rw [a4]; omega
    rwa [Int.natCast_mul] at h4
  have hr := run_make (P := P) (w := w) T e i z' h.at_ a1 a2 kl kc l c (by omega) (by omega) h3 (by omega)
  have e1 : madeCells z'.cells ((c : Int).toNat * i.size) = cs.toArray := by
    rw [a3, Int.toNat_natCast]
    exact hm
  rw [e1] at hr
  simp only [Int.toNat_natCast] at hr
  exact r_new (cs := cs) (T := e) hd (fun a h2 => by
    simp [execOp, eval_of h2 hx, eval_of h2 hy, hr]) F.ok ((fun q w' hq s z b => hk q w' (new_cells (O' := O) F hq s z b)) _ · rfl)
theorem y_loadOwnRowS {P : Program} {ρ : Env} {w w0 : World} {M O0 : List Nat} {L L' : List KT} {Φ : List Fact} {T sz : Nat} [TAgg P T sz] {x : Operand} {q k i : Nat} {rows : List (List Value)} {v : List Value} (hx : evo ρ x = some (.pointer (some ((⟨q, 0, none⟩ : Addr).add (i * sz))))) (F : FS M O0 w0 L Φ w) (hs : Sel L (k, Thing.cells q rows.flatten) L') (hl : ∀ r ∈ rows, r.length = sz) (hi : i < rows.length) (hv : rows[i] = v) :
    Y P ρ w (.load T x) (.agg v.toArray) := by
  obtain ⟨O, F⟩ := F
  subst hv
  exact y_loadOwnRow (rest := []) (by rw [Addr.add_lit, Nat.zero_add] at hx; exact hx) F (by rw [List.append_nil]; exact hs) hl hi
theorem flat_set {sz : Nat} (v : List Value) : ∀ (rows : List (List Value)) (i : Nat), (∀ r ∈ rows, r.length = sz) → i < rows.length → rows.flatten.take (i * sz) ++ v ++ rows.flatten.drop (i * sz + sz) = (rows.set i v).flatten
  | [], i, _, h => by cases h
  | r :: rs, 0, hl, _ => by
    have hr := hl r List.mem_cons_self
    simp only [Nat.zero_mul, List.take_zero, List.nil_append, Nat.zero_add, List.flatten_cons, List.set_cons_zero]
    rw [← hr, List.drop_left]
  | r :: rs, i + 1, hl, h => by
    have hr := hl r List.mem_cons_self
    have ih := flat_set v rs i (fun x hx => hl x (List.mem_cons_of_mem _ hx)) (by simpa using h)
    simp only [List.flatten_cons, List.set_cons_succ]
    rw [← ih, show (i + 1) * sz = r.length + i * sz from by rw [Nat.add_mul, hr]; omega, List.take_length_add_append, show r.length + i * sz + sz = r.length + (i * sz + sz) from by omega, List.drop_length_add_append]
    simp
def rrC (r : Rp) : List Value := [.int .u32 r.client, .int .u32 r.xid, .int .i64 r.status, .int .u32 r.ino, .int .u32 r.gen, .int .u32 r.kind, .int .u32 r.mode, .int .u32 r.links, .int .u32 r.size, .int .u64 r.change, str r.data, nilV, .bool r.eof, .int .u64 r.verf, .int .u32 r.free]
theorem rrC_len (r : Rp) : (rrC r).length = 15 := rfl
theorem rrC_all (L : List Rp) : ∀ r ∈ L.map rrC, r.length = 15 := fun r hr => by
  obtain ⟨x, _, rfl⟩ := List.mem_map.1 hr
  rfl
theorem rrC_v (r : Rp) : rrV r nilV = .agg (rrC r).toArray := rfl
theorem flat_len : ∀ L : List Rp, ((L.map rrC).flatten).length = L.length * 15
  | [] => rfl
  | r :: L => by
    rw [List.map_cons, List.flatten_cons, List.length_append, flat_len L, rrC_len, List.length_cons]
    omega
def RpR : Rel Rp := ⟨fun O w row rp => ∃ dv ev, row = [.int .u32 rp.client, .int .u32 rp.xid, .int .i64 rp.status, .int .u32 rp.ino, .int .u32 rp.gen, .int .u32 rp.kind, .int .u32 rp.mode, .int .u32 rp.links, .int .u32 rp.size, .int .u64 rp.change, dv, ev, .bool rp.eof, .int .u64 rp.verf, .int .u32 rp.free] ∧ Bytes O w dv rp.data ∧ (Fact.rel 4 EnR ev rp.ents).φ O w ∧ rp.fit ∧ -9223372036854775808 ≤ rp.status ∧ rp.status ≤ 9223372036854775807,
  fun s ⟨dv, ev, h1, h2, h3, h4⟩ => ⟨dv, ev, h1, h2.step s, (Fact.rel 4 EnR ev _).st s h3, h4⟩, fun hs ⟨dv, ev, h1, h2, h3, h4⟩ => ⟨dv, ev, h1, h2.sub hs, (Fact.rel 4 EnR ev _).sb hs h3, h4⟩⟩
def TB (t : Tx) : Prop := ∀ i, (t.get i).length ≤ 96
theorem TB.put {t : Tx} (h : TB t) (i : Int) (xs : List UInt8) : TB (t.put1 i xs) := by
  intro j
  rw [Tx.get_put1]
  split
  · rename_i g; exact g.2.2.1
  · exact h j
/-- What each client was told last. -/
structure Kept (t : Tx) (L : List Rp) (H : List Bool) : Prop where
  n : t.was.length = 40
  l8 : L.length = 8
  h8 : H.length = 8
  b : TB t
  get : ∀ k, k < 8 → repGet t k = if H.getD k false = true then (L.getD k .zero, true, 0) else (.zero, false, 0)
  bare : ∀ k, k < 8 → (L.getD k .zero).data = [] ∧ (L.getD k .zero).ents = []
theorem kept0 : Kept t40 (List.replicate 8 .zero) (List.replicate 8 false) := by
  refine ⟨rfl, rfl, rfl, fun i => by rw [t40_get]; exact Nat.zero_le _, fun k hk => ?_, fun k hk => ?_⟩
  · rw [repGet_t40, if_pos hk, List.getD_eq_getElem?_getD, List.getElem?_replicate, if_pos hk]
    rfl
  · rw [List.getD_eq_getElem?_getD, List.getElem?_replicate, if_pos hk]
    exact ⟨rfl, rfl⟩
theorem setD {α : Type} (L : List α) (c k : Nat) (v d : α) (h : c < L.length) : (L.set c v).getD k d = if c = k then v else L.getD k d := by
  rw [List.getD_eq_getElem?_getD, List.getElem?_set, List.getD_eq_getElem?_getD]
  by_cases e : c = k
  · rw [if_pos e, if_pos h, if_pos e]; rfl
  · rw [if_neg e, if_neg e]
theorem kept_put {t : Tx} {L : List Rp} {H : List Bool} {r : Rp} (K : Kept t L H) (hf : r.fit) (hm : r.may) : Kept (t.put1 (1 + r.client) r.bytes) (L.set r.client r) (H.set r.client true) := by
  have h8 := hm.1
  have hd : r.data = [] := List.length_eq_zero_iff.1 (by have := hm.2.2.1; omega)
  have he : r.ents = [] := List.length_eq_zero_iff.1 (by have := hm.2.2.1; omega)
  refine ⟨by rw [Tx.put_was]; exact K.n, by rw [List.length_set]; exact K.l8, by rw [List.length_set]; exact K.h8, K.b.put _ _, fun k hk => ?_, fun k hk => ?_⟩
  · rw [repGet_put hf hm K.n, setD _ _ _ _ _ (by rw [K.h8]; exact h8), setD _ _ _ _ _ (by rw [K.l8]; exact h8)]
    by_cases e : k = r.client
    · have e2 := e.symm
      rw [if_pos e, if_pos e2, if_pos e2, if_pos rfl]
    · have e2 : ¬ r.client = k := fun h => e h.symm
      rw [if_neg e, if_neg e2, if_neg e2]
      exact K.get k hk
  · rw [setD _ _ _ _ _ (by rw [K.l8]; exact h8)]
    by_cases e : r.client = k
    · rw [if_pos e]
      exact ⟨hd, he⟩
    · rw [if_neg e]
      exact K.bare k hk
theorem kept_raw {t u : Tx} {L : List Rp} {H : List Bool} (K : Kept t L H) (hu : u.was.length = 40) {k : Nat} (hk : k < 8) :
    (if k < 8 then (if t.get (1 + k) ≠ [] ∧ (repRead k (t.get (1 + k))).2 ≠ 0 then 11 else u.putE (1 + k) (t.get (1 + k))) else 1) = 0 ∧
    repGet (if k < 8 ∧ ¬ (t.get (1 + k) ≠ [] ∧ (repRead k (t.get (1 + k))).2 ≠ 0) then u.put1 (1 + k) (t.get (1 + k)) else u) k = repGet t k ∧ (if k < 8 ∧ ¬ (t.get (1 + k) ≠ [] ∧ (repRead k (t.get (1 + k))).2 ≠ 0) then u.put1 (1 + k) (t.get (1 + k)) else u).was.length = 40 ∧
    (if k < 8 ∧ ¬ (t.get (1 + k) ≠ [] ∧ (repRead k (t.get (1 + k))).2 ≠ 0) then u.put1 (1 + k) (t.get (1 + k)) else u).get (1 + k) = t.get (1 + k) := by
  have hg := K.get k hk
  have hb := K.b (1 + k)
  have hno : ¬ (t.get (1 + k) ≠ [] ∧ (repRead k (t.get (1 + k))).2 ≠ 0) := by
    rintro ⟨h1, h2⟩
    have h3 : (repGet t k).2.2 = (repRead k (t.get (1 + k))).2 := by unfold repGet; rw [if_pos hk, if_neg h1]
    rw [hg] at h3
    split at h3
    · exact h2 h3.symm
    · exact h2 h3.symm
  rw [if_pos hk, if_neg hno, if_pos ⟨hk, hno⟩]
  have hgp : (u.put1 (1 + k) (t.get (1 + k))).get (1 + k) = t.get (1 + k) := by rw [Tx.get_put1, if_pos ⟨by omega, by omega, hb, rfl⟩]
  refine ⟨?_, ?_, by rw [Tx.put_was]; exact hu, hgp⟩
  · unfold Tx.putE
    rw [if_pos (by omega), if_neg (by omega)]
  · rw [repGetB_eq, repGetB_eq, hgp]
attribute [local irreducible] repRead repGet
theorem RepliesKeeps_ok {w0 : World} {lv : Value} {l : List Rp} (F : Fr [] [] w0 [] w0 [] [Fact.rel 15 RpR lv l]) :
    FnC Try.prog 4 [lv] [] [] w0 fun r O' w' => r = .bool true := by
  obtain ⟨la, lc, rfl, _⟩ := (F.rel (v := lv) (R := RpR)).form
  refine fn_of _ Try.func4 rfl (by kernel_rfl) Try.ntmps4 rfl ?_
  refine go_on ?_
  refine f_call F rfl rfl awake14_c ?_ (hp := trivial)
  clear F; rintro r O w T Φ ⟨rfl, rfl, rfl⟩ F0
  refine tidy F0 (fun F => ?_); clear F0
  refine go_on ?_
  by_cases g1 : 30 < l.length
  · refine go_on ?_
    refine go_back ?_
    exact F.law
  refine go_on ?_
  refine f_make (l := 40) (c := 40) F rfl rfl rfl (fun q w F => ?_)
  obtain ⟨O, F⟩ := F.frzSl (Nat.le_refl 40)
  have F := F.fact (f := Fact.bytesL (.slice (some ⟨q, 0, none⟩) 40 40) (List.replicate 40 [])) (nil_bytesL (F.sl (cs := List.replicate 40 (.slice none 0 0))))
  refine go_on ?_
  refine f_call F rfl rfl (txnNew_c (l := List.replicate 40 [])) ?_ (hp := ⟨by decide, fun b hb => by rw [List.eq_of_mem_replicate hb]; exact Nat.zero_le _⟩)
  clear F; rintro r O w T Φ ⟨p, m, rfl, rfl, rfl⟩ F0
  refine tidy F0 (fun F => ?_); clear F0
  refine go_on ?_
  refine f_make (l := 40) (c := 40) F rfl rfl rfl (fun q w F => ?_)
  obtain ⟨O, F⟩ := F.frzSl (Nat.le_refl 40)
  have F := F.fact (f := Fact.bytesL (.slice (some ⟨q, 0, none⟩) 40 40) (List.replicate 40 [])) (nil_bytesL (F.sl (v := .slice (some ⟨q, 0, none⟩) 40 40) (cs := List.replicate 40 (.slice none 0 0))))
  refine go_on ?_
  refine f_call F rfl rfl (txnNew_c (v := .slice (some ⟨q, 0, none⟩) 40 40) (l := List.replicate 40 [])) ?_ (hp := ⟨by decide, fun b hb => by rw [List.eq_of_mem_replicate hb]; exact Nat.zero_le _⟩)
  clear F; rintro r O w T Φ ⟨p2, m2, rfl, rfl, rfl⟩ F0
  refine tidy F0 (fun F => ?_); clear F0
  refine go_on ?_
  refine f_makeN (l := 8) (c := 8) (cs := ((List.replicate 8 Rp.zero).map rrC).flatten) F rfl rfl rfl (by rw [made_list]; rfl) (by omega) (by omega) (by omega) (fun ql w F => ?_)
  refine go_on ?_
  refine f_make (l := 8) (c := 8) F rfl rfl rfl (fun qh w F => ?_)
  refine go_on ?_
  refine g_loop (X := Nat × Tx × Nat × List Rp × List Bool) (fun y => [(0, .slice la l.length lc), (4, tptr p), (5, tptr p2), (6, .slice (some ⟨ql, 0, none⟩) 8 8), (7, .slice (some ⟨qh, 0, none⟩) 8 8), (8, .int .i64 y.1)])
    (fun y wr => ∃ O, Fr [] [] w0 O wr [(2, Tn p y.2.2.1 y.2.1), (2, Tn p2 m2 t40), (2, Thing.cells ql (y.2.2.2.1.map rrC).flatten), (2, Thing.cells qh (y.2.2.2.2.map Value.bool))]
      [Fact.rel 15 RpR (.slice la l.length lc) l] ∧ y.1 ≤ l.length ∧ Kept y.2.1 y.2.2.2.1 y.2.2.2.2) (fun y => l.length - y.1)
    (0, t40, m, List.replicate 8 .zero, List.replicate 8 false) (sub_cons rfl rfl (sub_cons rfl rfl (sub_cons rfl rfl (sub_cons rfl rfl (sub_cons rfl rfl (sub_cons rfl rfl (sub_nil))))))) ⟨_, F.wk, Nat.zero_le _, kept0⟩ ?_
  clear F
  rintro ⟨i, t, m, L, H⟩ w ⟨O, F, hi, hK⟩
  dsimp only at F hi hK ⊢
  have hL8 := hK.l8
  have hH8 := hK.h8
  refine go_on ?_
  refine g_dec rfl (fun g => ?_) (fun g => ?_)
  · have hi' : i < l.length := by omega
    obtain ⟨x, row, rfl, hrl, ⟨dv, ev, rfl, hd, he, hfit, hs1, hs2⟩, hrow⟩ := (F.rel (R := RpR) (ys := l)).elem hi'
    generalize l[i] = rp at hd he hfit hs1 hs2 hrow
    obtain ⟨da, dc, rfl, _⟩ := hd.form
    have F := ((F.factB hd).fact (f := Fact.rel 4 EnR ev rp.ents) he).fact hrow
    obtain ⟨ea, ec, rfl, _⟩ := (F.rel (v := ev) (R := EnR) (ys := rp.ents)).form
    refine go_on ?_
    by_cases g4 : 100 < rp.data.length
    · refine go_on ?_
      refine go_back ?_
      exact F.law
    by_cases g5 : 10 < rp.ents.length
    · refine go_on ?_
      refine go_back ?_
      exact F.law
    refine go_on ?_
    refine f_call F rfl rfl (repPut_c (t := t) (r := rp) (dv := .slice da rp.data.length dc) (ev := .slice ea rp.ents.length ec)) ?_ (hp := ⟨hfit, by omega, by omega, hs1, hs2⟩)
    clear F; rintro r O w T Φ ⟨rfl, rfl, rfl⟩ F0
    refine tidy F0 (fun F => ?_); clear F0
    by_cases hm : rp.may
    · have h8 := hm.1
      have hbl := rp.bytes_len
      have hbare := hm.2.2.1
      have hen : rp.ents = [] := List.length_eq_zero_iff.1 (by omega)
      have hpe : t.putE (1 + rp.client) rp.bytes = 0 := by
        unfold Tx.putE
        rw [hK.n, if_pos (by omega), if_neg (by omega)]
      have hK2 := kept_put hK hfit hm
      rw [if_pos hm] at F ⊢
      rw [hpe]
      generalize t.put1 (1 + rp.client) rp.bytes = t2 at F hK2
      refine go_on ?_
      refine f_draw [] F [] [(0, true), (1, true), (2, true), (3, true), (4, true), (5, true), (6, true), (7, true), (8, true), (9, true), (10, false), (11, true), (12, false)] (by kernel_rfl) (by kernel_rfl) (fun w F hS => ?_); refine go_look ?_
      refine rd_do rfl ?_
      (try refine r_go rfl rfl ?_)
      refine f_call F rfl rfl (replyOf_c (r := rp) (dv := .slice da rp.data.length dc) (ev := .slice ea rp.ents.length ec)) ?_ (hp := (by omega))
      clear F; rintro r O w T Φ ⟨ev', ⟨_, hn⟩, rfl, rfl, rfl⟩ F0
      refine tidy F0 (fun F => ?_); clear F0
      refine r_nil ?_; refine e_afterF F (fun hS => ?_); refine go_look ?_
      obtain rfl := hn hen
      rw [show Addr.add ⟨ql, 0, none⟩ (rp.client * 15) = ⟨ql, rp.client * 15, none⟩ from by rw [Addr.add_lit, Nat.zero_add]]
      refine rd_do rfl ?_; (try refine r_go rfl rfl ?_)
      refine f_storeN (i := rp.client * 15) (vs := rrC rp) (cs := (L.map rrC).flatten) (cs' := ((L.set rp.client rp).map rrC).flatten) F rfl rfl rfl (fun w F => ?_) (hc := by rw [rrC_len, List.map_set]; exact flat_set _ _ _ (rrC_all L) (by rw [List.length_map]; omega)) (hi := by rw [flat_len, rrC_len]; omega)
      (try refine r_nil ?_); refine e_afterF F (fun hS => ?_); refine go_look ?_
      refine rd_done ?_; refine go_on ?_
      refine f_store1 (cs := H.map Value.bool) (i := rp.client) F rfl rfl rfl (fun w F => ?_) (hc := .any) (hi := by rw [List.length_map]; omega)
      have e : (H.map Value.bool).set rp.client (.bool true) = (H.set rp.client true).map Value.bool := by rw [List.map_set]
      have F : Fr _ _ _ _ _ ((2, Thing.cells qh ((H.map Value.bool).set rp.client (.bool true))) :: _) _ := F
      rw [e] at F
      refine go_on ?_
      exact e_round (i + 1, t2, m, L.set rp.client rp, H.set rp.client true) (sub_cons rfl rfl (sub_cons rfl rfl (sub_cons rfl rfl (sub_cons rfl rfl (sub_cons rfl rfl (sub_cons rfl rfl (sub_nil))))))) ⟨_, F.wk, by dsimp only; omega, hK2⟩ (by simp only; omega)
    · rw [if_neg hm] at F ⊢
      refine go_on ?_
      exact e_round (i + 1, t, m, L, H) (sub_cons rfl rfl (sub_cons rfl rfl (sub_cons rfl rfl (sub_cons rfl rfl (sub_cons rfl rfl (sub_cons rfl rfl (sub_nil))))))) ⟨_, F.wk, by dsimp only; omega, hK⟩ (by simp only; omega)
  · refine go_on ?_
    refine g_loop (X := Nat × Tx × Nat) (fun y => [(4, tptr p), (5, tptr p2), (6, .slice (some ⟨ql, 0, none⟩) 8 8), (7, .slice (some ⟨qh, 0, none⟩) 8 8), (9, .int .u32 y.1)])
      (fun y wr => ∃ O, Fr [] [] w0 O wr [(2, Tn p m t), (2, Tn p2 y.2.2 y.2.1), (2, Thing.cells ql (L.map rrC).flatten), (2, Thing.cells qh (H.map Value.bool))] [] ∧ y.1 ≤ 8 ∧ y.2.1.was.length = 40) (fun y => 8 - y.1) (0, t40, m2) (sub_cons rfl rfl (sub_cons rfl rfl (sub_cons rfl rfl (sub_cons rfl rfl (sub_cons rfl rfl (sub_nil)))))) ⟨_, F.wk, Nat.zero_le _, rfl⟩ ?_
    clear F
    rintro ⟨k, u, m3⟩ w ⟨O, F, hk, hu⟩
    dsimp only at F hk hu ⊢
    refine go_on ?_
    refine g_dec rfl (fun g2 => ?_) (fun g2 => ?_)
    · have hk' : k < 8 := by omega
      have hgl : (t.get (1 + (k : Int))).length ≤ 140737488355328 := Nat.le_trans (hK.b _) (by decide)
      obtain ⟨hr1, hr2, hr3, hr4⟩ := kept_raw hK hu hk'
      have hg := hK.get k hk'
      obtain ⟨hd1, he1⟩ := hK.bare k hk'
      have hrow : (L.map rrC)[k]'(by rw [List.length_map]; omega) = rrC (L.getD k .zero) := by simp [List.getD_eq_getElem?_getD, hL8, hk']
      generalize L.getD k .zero = lk at hg hd1 he1 hrow
      have hv : (H.map Value.bool)[k]? = some (.bool (H.getD k false)) := by simp [List.getD_eq_getElem?_getD, hH8, hk']
      generalize H.getD k false = hb at hg hv
      refine go_on ?_
      refine f_call F rfl rfl (repRaw_c (p := p) (m := m) (t := t) (client := k)) ?_ (hp := (by omega))
      clear F; rintro r O w T Φ ⟨rfl, rfl⟩ F0
      refine tidy F0 (fun F => ?_); clear F0
      rw [if_pos hk'] at F
      obtain ⟨O, F⟩ := F.frzB
      refine go_on ?_
      refine f_call F rfl rfl (repSetRaw_c (p := p2) (m := m3) (t := u) (client := k) (b := t.get (1 + k))) ?_ (hp := ⟨by omega, hgl⟩)
      clear F; rintro r O w T Φ ⟨rfl, rfl, rfl⟩ F0
      refine tidy F0 (fun F => ?_); clear F0
      rw [hr1]
      generalize (if k < 8 ∧ ¬ (t.get (1 + k) ≠ [] ∧ (repRead k (t.get (1 + k))).2 ≠ 0) then u.put1 (1 + k) (t.get (1 + k)) else u) = u2 at F hr2 hr3 hr4
      refine go_on ?_
      cases hb with
      | true =>
        rw [if_pos rfl] at hg
        refine f_call F rfl rfl (repGet_c (p := p) (m := m) (t := t) (client := k)) ?_ (hp := ⟨by omega, hgl⟩)
        clear F; rintro r O w T Φ ⟨rfl, rfl, rfl⟩ F0
        refine tidy F0 (fun F => ?_); clear F0
        rw [hg]
        refine go_on ?_
        (first | refine f_alloc1 F rfl (fun z1 w F => ?_) | refine f_allocN F rfl (fun z1 w F => ?_)); refine go_on ?_
        refine f_storeAll F rfl rfl rfl (fun w F => ?_); refine go_on ?_
        refine f_call F rfl rfl (repGet_c (p := p2) (m := m3) (t := u2) (client := k)) ?_ (hp := ⟨by omega, by rw [hr4]; exact hgl⟩)
        clear F; rintro r O w T Φ ⟨rfl, rfl, rfl⟩ F0
        refine tidy F0 (fun F => ?_); clear F0
        rw [hr2, hg]
        refine go_on ?_
        (first | refine f_alloc1 F rfl (fun z2 w F => ?_) | refine f_allocN F rfl (fun z2 w F => ?_)); refine go_on ?_
        refine f_storeAll F rfl rfl rfl (fun w F => ?_); refine go_on ?_
        refine f_draw [(2, Thing.cells z1 _), (2, Thing.cells z2 _), (2, Thing.cells ql _), (2, Thing.cells qh _)] F [] [(0, true), (1, true), (2, true), (3, true), (4, true), (5, true), (6, true), (7, true), (8, true), (9, true), (10, true), (11, true), (12, true), (13, true), (14, true), (15, true), (16, true), (17, true), (18, true), (19, true), (20, true), (21, true), (22, true), (23, true), (24, true), (25, true), (27, true), (28, true), (29, true), (30, true), (26, false), (31, false), (32, true), (33, true), (34, true), (36, true), (37, true), (38, true), (39, true), (35, false), (40, false), (41, true), (42, true), (43, true), (44, true)] (by kernel_rfl) (by kernel_rfl) (fun w F hS => ?_); refine go_look ?_
        refine rd_open rfl ?_; (first | refine ro_n ?_ | refine ro_g rfl rfl ?_); refine rx_y rfl (fun _ hw => y_loadS rfl hw (Sel.there (Sel.there (Sel.there Sel.here))) hv) (by assumption) ?_; refine go_look ?_
        refine rd_open rfl ?_; (first | refine ro_n ?_ | refine ro_g rfl rfl ?_); refine rx_y rfl (fun _ hw => y_loadS rfl hw (Sel.there (Sel.there (Sel.there Sel.here))) hv) (by assumption) ?_; refine go_look ?_
        have F := (F.fact (f := Fact.bytes nilV lk.data) (by rw [hd1]; exact Bytes.nil)).fact (f := Fact.rel 4 EnR nilV lk.ents) (by rw [he1]; exact SlR.nil)
        refine rd_open rfl ?_; (first | refine ro_n ?_ | refine ro_g rfl rfl ?_); refine rx_y rfl (fun _ hw => y_loadOwnRowS rfl hw (Sel.there (Sel.there Sel.here)) (rrC_all L) (by rw [List.length_map]; omega) hrow) (by assumption) ?_; refine go_look ?_
        refine rd_do rfl ?_
        (try refine r_go rfl rfl ?_)
        refine f_call F rfl rfl (replyOf_c (r := lk) (dv := nilV) (ev := nilV)) ?_ (hp := (by rw [he1]; exact Nat.zero_le _))
        clear F; rintro r O w T Φ ⟨ev', ⟨_, hn1⟩, rfl, rfl, rfl⟩ F0
        refine tidy F0 (fun F => ?_); clear F0
        refine r_nil ?_; refine e_afterF F (fun hS => ?_); refine go_look ?_
        obtain rfl := hn1 he1
        refine rd_do rfl ?_
        (try refine r_go rfl rfl ?_)
        refine f_call F rfl rfl (same9_c (r := lk)) ?_ (hp := trivial)
        clear F; rintro r O w T Φ ⟨rfl, rfl, rfl⟩ F0
        refine tidy F0 (fun F => ?_); clear F0
        refine r_nil ?_; refine e_afterF F (fun hS => ?_); refine go_look ?_
        refine rd_open rfl ?_; (first | refine ro_n ?_ | refine ro_g rfl rfl ?_); refine rx_y rfl (fun _ hw => y_loadOwnRowS rfl hw (Sel.there (Sel.there Sel.here)) (rrC_all L) (by rw [List.length_map]; omega) hrow) (by assumption) ?_; refine go_look ?_
        refine rd_do rfl ?_
        (try refine r_go rfl rfl ?_)
        refine f_call F rfl rfl (replyOf_c (r := lk) (dv := nilV) (ev := nilV)) ?_ (hp := (by rw [he1]; exact Nat.zero_le _))
        clear F; rintro r O w T Φ ⟨ev', ⟨_, hn2⟩, rfl, rfl, rfl⟩ F0
        refine tidy F0 (fun F => ?_); clear F0
        refine r_nil ?_; refine e_afterF F (fun hS => ?_); refine go_look ?_
        obtain rfl := hn2 he1
        refine rd_do rfl ?_
        (try refine r_go rfl rfl ?_)
        refine f_call F rfl rfl (same9_c (r := lk)) ?_ (hp := trivial)
        clear F; rintro r O w T Φ ⟨rfl, rfl, rfl⟩ F0
        refine tidy F0 (fun F => ?_); clear F0
        refine r_nil ?_; refine e_afterF F (fun hS => ?_); refine go_look ?_
        refine rd_done ?_; refine go_on ?_
        refine r_y (y_addM (k := .u32) (a := k) (b := 1) rfl rfl rfl) rfl ?_
        rw [show (k + 1) % lim .u32 = k + 1 from Nat.mod_eq_of_lt (by simp only [lim]; omega)]
        refine go_on ?_
        exact e_round (k + 1, u2, m3) (sub_cons rfl rfl (sub_cons rfl rfl (sub_cons rfl rfl (sub_cons rfl rfl (sub_cons rfl rfl (sub_nil)))))) ⟨_, F.wk, by dsimp only; omega, hr3⟩ (by simp only; omega)
      | false =>
        rw [if_neg (by simp)] at hg
        refine f_call F rfl rfl (repGet_c (p := p) (m := m) (t := t) (client := k)) ?_ (hp := ⟨by omega, hgl⟩)
        clear F; rintro r O w T Φ ⟨rfl, rfl, rfl⟩ F0
        refine tidy F0 (fun F => ?_); clear F0
        rw [hg]
        refine go_on ?_
        (first | refine f_alloc1 F rfl (fun z1 w F => ?_) | refine f_allocN F rfl (fun z1 w F => ?_)); refine go_on ?_
        refine f_storeAll F rfl rfl rfl (fun w F => ?_); refine go_on ?_
        refine f_call F rfl rfl (repGet_c (p := p2) (m := m3) (t := u2) (client := k)) ?_ (hp := ⟨by omega, by rw [hr4]; exact hgl⟩)
        clear F; rintro r O w T Φ ⟨rfl, rfl, rfl⟩ F0
        refine tidy F0 (fun F => ?_); clear F0
        rw [hr2, hg]
        refine go_on ?_
        (first | refine f_alloc1 F rfl (fun z2 w F => ?_) | refine f_allocN F rfl (fun z2 w F => ?_)); refine go_on ?_
        refine f_storeAll F rfl rfl rfl (fun w F => ?_); refine go_on ?_
        refine f_draw [(2, Thing.cells z1 _), (2, Thing.cells z2 _), (2, Thing.cells ql _), (2, Thing.cells qh _)] F [] [(0, true), (1, true), (2, true), (3, true), (4, true), (5, true), (6, true), (7, true), (8, true), (9, true), (10, true), (11, true), (12, true), (13, true), (14, true), (15, true), (16, true), (17, true), (18, true), (19, true), (20, true), (21, true), (22, true), (23, true), (24, true), (25, true), (27, true), (28, true), (29, true), (30, true), (26, false), (31, false), (32, true), (33, true), (34, true), (36, true), (37, true), (38, true), (39, true), (35, false), (40, false), (41, true), (42, true), (43, true), (44, true)] (by kernel_rfl) (by kernel_rfl) (fun w F hS => ?_); refine go_look ?_
        refine rd_open rfl ?_; (first | refine ro_n ?_ | refine ro_g rfl rfl ?_); refine rx_y rfl (fun _ hw => y_loadS rfl hw (Sel.there (Sel.there (Sel.there Sel.here))) hv) (by assumption) ?_; refine go_look ?_
        refine rd_open rfl ?_; (first | refine ro_n ?_ | refine ro_g rfl rfl ?_); refine rx_y rfl (fun _ hw => y_loadS rfl hw (Sel.there (Sel.there (Sel.there Sel.here))) hv) (by assumption) ?_; refine go_look ?_
        refine rd_do rfl ?_; (first | refine r_pass rfl rfl rfl ?_ | refine r_passu rfl rfl rfl ?_); refine r_nil ?_; refine e_afterF F (fun hS => ?_); refine go_look ?_
        refine rd_do rfl ?_; (first | refine r_pass rfl rfl rfl ?_ | refine r_passu rfl rfl rfl ?_); refine r_nil ?_; refine e_afterF F (fun hS => ?_); refine go_look ?_
        refine rd_do rfl ?_; (first | refine r_pass rfl rfl rfl ?_ | refine r_passu rfl rfl rfl ?_); refine r_nil ?_; refine e_afterF F (fun hS => ?_); refine go_look ?_
        refine rd_do rfl ?_; (first | refine r_pass rfl rfl rfl ?_ | refine r_passu rfl rfl rfl ?_); refine r_nil ?_; refine e_afterF F (fun hS => ?_); refine go_look ?_
        refine rd_done ?_; refine go_on ?_
        refine r_y (y_addM (k := .u32) (a := k) (b := 1) rfl rfl rfl) rfl ?_
        rw [show (k + 1) % lim .u32 = k + 1 from Nat.mod_eq_of_lt (by simp only [lim]; omega)]
        refine go_on ?_
        exact e_round (k + 1, u2, m3) (sub_cons rfl rfl (sub_cons rfl rfl (sub_cons rfl rfl (sub_cons rfl rfl (sub_cons rfl rfl (sub_nil)))))) ⟨_, F.wk, by dsimp only; omega, hr3⟩ (by simp only; omega)
    · refine go_on ?_
      refine f_call F rfl rfl find8_c ?_ (hp := trivial)
      clear F; rintro r O w T Φ ⟨rfl, rfl, rfl⟩ F0
      refine tidy F0 (fun F => ?_); clear F0
      refine go_on ?_
      refine go_back ?_
      exact F.lawb (by simp)
theorem reads_rpr {w : World} {row : List Value} (h : row.length = 15) (r : Reads Try.prog w 41 row) : ∃ y : Rp, RpR.φ [] w row y := by
  obtain ⟨y, dv, ev, hy, hf, hs1, hs2, hd, he⟩ := reads_rp h r
  unfold repV at hy
  injection hy with hy
  have hy := congrArg Array.toList hy
  exact ⟨y, dv, ev, by simpa using hy, hd, he, hf, hs1, hs2⟩
theorem RepliesKeeps_true {w : World} {v0 : Value} (r0 : Reads Try.prog w 71 [v0]) :
    FnC Try.prog 4 [v0] [] [] w fun r O' w' => r = .bool true := by
  obtain ⟨l, hs, _⟩ := reads_slR (r := RpR.φ [] w) r0 (fun row h hr => reads_rpr h hr)
  exact RepliesKeeps_ok ((Fr.start OK_nil).fact (f := Fact.rel 15 RpR v0 l) hs)
end Go.Proofs.Ytdhfikbehbpdjaa
