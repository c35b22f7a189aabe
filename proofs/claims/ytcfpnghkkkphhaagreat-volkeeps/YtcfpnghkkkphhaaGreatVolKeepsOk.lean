/- VolKeeps answers true. -/
import Derived.Test.YtcfpnghkkkphhaaGreatVmore
namespace Go.Proofs.YtcfpnghkkkphhaaGreat
open Gk Go
set_option linter.unusedVariables false
set_option maxHeartbeats 1600000
set_option maxRecDepth 4000
set_option linter.unusedSimpArgs false
attribute [local irreducible] Int.decLt Int.decLe Int.decEq Int.instDecidableEq Gk.Rnds Gk.E Gk.G Gk.R Gk.RD Gk.RX Gk.RO Gk.Y Gk.Ent Gk.Sat Gk.Round Gk.After Gk.Cell Gk.Sl Gk.SlA Gk.CB Gk.OK Gk.FnC Gk.Bytes Gk.BytesL Gk.StrL Gk.Buf Gk.MapI
theorem made_list (z : Array Value) (n : Nat) : madeCells z n = ((List.range n).map fun k => z[k % z.size]!).toArray := by
  apply Array.ext'
  simp [madeCells]
/-- 'make' of a slice of structs. -/
theorem f_makeN {P : Program} {n : Nat} {all : Array Oper} {os : List Oper} {ρ : Env} {D : Dr} {w w0 : World} {Q : Exit → Act → World → Prop} {d : Option Nat} {ty : TypeId} {pos : String} {af : Array Edge} {M O0 O : List Nat} {L : List KT} {Φ : List Fact}
    {T e sz by_ : Nat} [h : TSlice P T e sz by_] {z : Value} [hz : TZero P e z] {x y : Operand} {kl kc : IntKind} {l c : Nat} {cs : List Value} (F : Fr M O0 w0 O w L Φ) (hd : okO n d = true)
    (hx : evo ρ x = some (.int kl l)) (hy : evo ρ y = some (.int kc c)) (hm : madeCells z.cells (c * sz) = cs.toArray) (hlc : l ≤ c) (hb : by_ * c ≤ 281474976710656) (h63 : c ≤ 9223372036854775807)
    (hk : ∀ q w', Fr M O0 w0 (q :: O) w' ((2, Thing.cells q cs) :: L) Φ → R P n all os (upO ρ d (.slice (some ⟨q, 0, none⟩) l c)) D w' Q) :
    R P n all (⟨d, .makeSlice T x y, ty, pos, af, none⟩ :: os) ρ D w Q := by
  obtain ⟨i, z', a1, a2, a3, a4, a5⟩ := info_of_slice h
  have hzz : z' = z := by
    have := hz.at_
    unfold zeroB at this
    rw [a1] at this
    simpa [a2] using this
  subst hzz
  have h3 : (i.bytes : Int) * (c : Int) ≤ 281474976710656 := by
    have h4 : ((i.bytes * c : Nat) : Int) ≤ 281474976710656 := by rw [a4]; omega
    rwa [Int.natCast_mul] at h4
  have hr := run_make (P := P) (w := w) T e i z' h.at_ a1 a2 kl kc l c (by omega) (by omega) h3 (by omega)
  have e1 : madeCells z'.cells ((c : Int).toNat * i.size) = cs.toArray := by
    rw [a3, Int.toNat_natCast]
    exact hm
  rw [e1] at hr
  simp only [Int.toNat_natCast] at hr
  exact r_new (cs := cs) (T := e) hd (fun a h2 => by
    simp [execOp, eval_of h2 hx, eval_of h2 hy, hr]) F.ok ((fun q w' hq s z b => hk q w' (new_cells (O' := O) F hq s z b)) _ · rfl)
theorem y_loadOwnRowS {P : Program} {ρ : Env} {w w0 : World} {M O0 : List Nat} {L L' : List KT} {Φ : List Fact} {T sz : Nat} [TAgg P T sz] {x : Operand} {q k i : Nat} {rows : List (List Value)} {v : List Value} (hx : evo ρ x = some (.pointer (some ((⟨q, 0, none⟩ : Addr).add (i * sz))))) (F : FS M O0 w0 L Φ w) (hs : Sel L (k, Thing.cells q rows.flatten) L') (hl : ∀ r ∈ rows, r.length = sz) (hi : i < rows.length) (hv : rows[i] = v) :
    Y P ρ w (.load T x) (.agg v.toArray) := by
  obtain ⟨O, F⟩ := F
  subst hv
  exact y_loadOwnRow (rest := []) (by rw [Addr.add_lit, Nat.zero_add] at hx; exact hx) F (by rw [List.append_nil]; exact hs) hl hi
theorem flat_set {sz : Nat} (v : List Value) : ∀ (rows : List (List Value)) (i : Nat), (∀ r ∈ rows, r.length = sz) → i < rows.length → rows.flatten.take (i * sz) ++ v ++ rows.flatten.drop (i * sz + sz) = (rows.set i v).flatten
  | [], i, _, h => by cases h
  | r :: rs, 0, hl, _ => by
    have hr := hl r List.mem_cons_self
    simp only [Nat.zero_mul, List.take_zero, List.nil_append, Nat.zero_add, List.flatten_cons, List.set_cons_zero]
    rw [← hr, List.drop_left]
  | r :: rs, i + 1, hl, h => by
    have hr := hl r List.mem_cons_self
    have ih := flat_set v rs i (fun x hx => hl x (List.mem_cons_of_mem _ hx)) (by simpa using h)
    simp only [List.flatten_cons, List.set_cons_succ]
    rw [← ih, show (i + 1) * sz = r.length + i * sz from by rw [Nat.add_mul, hr]; omega, List.take_length_add_append, show r.length + i * sz + sz = r.length + (i * sz + sz) from by omega, List.drop_length_add_append]
    simp
/-- The cells of things, one behind the other. -/
def rowsW (W : Nat → Slt) (V : Nat → Value) : List (List Value) := (List.range 24).map fun i => sltC (W i) (V i)
theorem rowsW_len (W : Nat → Slt) (V : Nat → Value) : (rowsW W V).length = 24 := by simp [rowsW]
theorem rowsW_all (W : Nat → Slt) (V : Nat → Value) : ∀ r, r ∈ rowsW W V → r.length = 9 := fun r hr => by
  obtain ⟨i, _, rfl⟩ := List.mem_map.1 hr
  rfl
theorem rowsW_at (W : Nat → Slt) (V : Nat → Value) {i : Nat} (h : i < (rowsW W V).length) : (rowsW W V)[i] = sltC (W i) (V i) := by simp [rowsW]
theorem rowsW_congr {W W' : Nat → Slt} {V V' : Nat → Value} (h : ∀ i, i < 24 → W i = W' i ∧ V i = V' i) : rowsW W V = rowsW W' V' := List.map_congr_left fun i hi => by rw [(h i (List.mem_range.1 hi)).1, (h i (List.mem_range.1 hi)).2]
theorem rowsW_set {W : Nat → Slt} {V : Nat → Value} {i : Nat} (s : Slt) (v : Value) : (rowsW W V).set i (sltC s v) = rowsW (upI W i s) (upI V i v) := by
  refine List.ext_getElem (by simp [rowsW]) (fun j h1 h2 => ?_)
  rw [List.getElem_set, rowsW_at]
  by_cases e : i = j
  · subst e; rw [if_pos rfl, rowsW_at, upI_at, upI_at]
  · rw [if_neg e, rowsW_at, upI_ne _ (fun h => e h.symm), upI_ne _ (fun h => e h.symm)]
theorem rowsW_flat (W : Nat → Slt) (V : Nat → Value) : (rowsW W V).flatten.length = 216 := by rw [flat_length _ (rowsW_all W V), rowsW_len]
theorem rowsW_dat {W : Nat → Slt} {V : Nat → Value} {i : Nat} (h : i < 24) : (rowsW W V).flatten[i * 9 + 8]? = some (V i) := by
  rw [flat_get (rowsW W V) i 8 (rowsW_all W V) (by decide), List.getElem?_eq_getElem (by rw [rowsW_len]; exact h), rowsW_at]
  rfl
def Fact.slots (V : Nat → Value) (W : Nat → Slt) : Fact := ⟨fun O w => ∀ i, Bytes O w (V i) (W i).data, fun s h i => (h i).step s, fun hs h i => (h i).sub hs⟩
def Fact.lists (vs : List Value) (ls : List (List Slt)) : Fact := ⟨fun O w => All2 (fun v l => SlR 9 (SltR.φ O w) O w v l) vs ls, fun s h => h.mono fun v l h => h.step s fun x y h => SltR.st s h, fun hs h => h.mono fun v l h => h.sub hs fun x y h => SltR.sb hs h⟩
section
variable {M O0 O : List Nat} {w0 w : World} {L L' : List KT} {Φ Φ' : List Fact}
theorem slotsUp (F : Fr M O0 w0 O w L Φ) {V : Nat → Value} {W : Nat → Slt} {v : Value} {s : Slt} (i : Nat) (h1 : Sel Φ (Fact.slots V W) Φ' := by (repeat (first | exact Sel.here | apply Sel.there))) (hb : Bytes O w v s.data) : Fr M O0 w0 O w L (Fact.slots (upI V i v) (upI W i s) :: Φ) := by
  have h := F.fa _ h1.mem
  refine F.fact (f := Fact.slots (upI V i v) (upI W i s)) (fun j => ?_)
  by_cases e : j = i
  · subst e; rw [upI_at, upI_at]; exact hb
  · rw [upI_ne _ e, upI_ne _ e]; exact h j
theorem slotsAt (F : Fr M O0 w0 O w L Φ) {V : Nat → Value} {W : Nat → Slt} (i : Nat) (h1 : Sel Φ (Fact.slots V W) Φ' := by (repeat (first | exact Sel.here | apply Sel.there))) : Bytes O w (V i) (W i).data := F.fa _ h1.mem i
end
theorem mayS_snoc {l : List Slt} {i : Nat} (hi : i < l.length) (h : mayS (l.take i)) (hok : l[i].ok) (hd : ∀ k (h : k < l.length), k < i → l[k].ino ≠ l[i].ino) : mayS (l.take (i + 1)) := by
  intro j hj
  rw [List.length_take] at hj
  have hj1 : j < l.length := by omega
  rw [List.getElem_take]
  by_cases e : j = i
  · subst e
    refine ⟨hok, fun x hx => ?_⟩
    rw [List.take_take, Nat.min_eq_left (by omega)] at hx
    obtain ⟨k, hk, rfl⟩ := List.getElem_of_mem hx
    rw [List.length_take] at hk
    rw [List.getElem_take]
    exact hd k (by omega) (by omega)
  · have h2 := h j (by rw [List.length_take]; omega)
    rw [List.getElem_take] at h2
    refine ⟨h2.1, fun x hx => h2.2 x ?_⟩
    rw [List.take_take] at hx ⊢
    rw [Nat.min_eq_left (by omega)] at hx ⊢
    exact hx
theorem updS_snoc (s : Slt) : ∀ (l : List Slt) (S : Nat → Slt), updS S (l ++ [s]) = upI (updS S l) s.ino s
  | [], S => rfl
  | x :: l, S => updS_snoc s l _
def usedN (W : Nat → Slt) (k : Nat) : Nat := sumN (fun i => ((W i).data.length + 95) / 96) k
theorem usedN_succ (W : Nat → Slt) (k : Nat) : usedN W (k + 1) = usedN W k + ((W k).data.length + 95) / 96 := by unfold usedN; rw [sumN]
theorem usedN_zero (W : Nat → Slt) : usedN W 0 = 0 := by unfold usedN; rw [sumN]
theorem usedN_24 (W : Nat → Slt) : usedN W 24 = usedS W := sumN_congr _ fun i _ => (needN_nat _).symm
theorem usedN_le {W : Nat → Slt} (h : ∀ i, i < 24 → (W i).data.length ≤ 800) : ∀ k, k ≤ 24 → usedN W k ≤ 9 * k
  | 0, _ => by rw [usedN_zero]; exact Nat.zero_le _
  | k + 1, hk => by
    have := usedN_le h k (by omega)
    have h2 := h k (by omega)
    rw [usedN_succ]
    omega
theorem usedS_congr {W W' : Nat → Slt} (h : ∀ i, i < 24 → W i = W' i) : usedS W = usedS W' := sumN_congr _ fun i hi => by rw [h i hi]
/-- What is good for things is good for the same ones. -/
theorem Good.same {t : Tx} {S S' : Nat → Slt} {I : Nat → List Nat} (h : Good t S I) (hs : ∀ i, i < 24 → S' i = S i) : Good t S' I := ⟨h.1.congr (fun i hi _ => hs i hi) (fun _ _ => rfl) (fun _ _ k => k), h.2⟩
attribute [local irreducible] usedN usedS sumN
theorem VolKeeps_ok {w0 : World} {v : Value} {rm : Nat} {vs : List Value} {ls : List (List Slt)} (hrm : rm < 256) (hls : ls.length ≤ maxLen) (hlen : vs.length = ls.length) (hll : ∀ l, l ∈ ls → l.length ≤ maxLen) (hfit : ∀ l, l ∈ ls → ∀ s, s ∈ l → s.fit) (F : Fr [] [] w0 [] w0 [] [Fact.sl v vs.length (vs.map id), Fact.lists vs ls]) :
    FnC Tryz.prog 7 [.int .u8 rm, v] [] [] w0 fun r O' w' => r = .bool true := by
  obtain ⟨sa, sc, rfl, _⟩ := (F.sl (cs := vs.map id)).form
  obtain ⟨n, hn⟩ : ∃ n, n = rm % 30 + 1 := ⟨_, rfl⟩
  have hn1 : 1 ≤ n ∧ n ≤ 30 := by omega
  have hG := Good.new (n := 35 + n) (by omega)
  have hw : (tx0 (35 + n)).was.length = 35 + n := List.length_replicate
  refine fn_of _ Tryz.func7 rfl (by kernel_rfl) Tryz.ntmps7 rfl ?_
  refine go_on ?_
  refine f_call F rfl rfl awake12_c ?_ (hp := trivial)
  clear F; rintro r O w T Φ ⟨rfl, rfl, rfl⟩ F0
  refine tidy F0 (fun F => ?_); clear F0
  refine go_on ?_
  by_cases hl12 : vs.length ≤ 12
  · refine go_on ?_
    refine r_y (y_remN (b := 30) rfl rfl (by decide)) rfl ?_
    refine go_on ?_
    rw [show (((rm % 30 : Nat) : Int) + 1) = ((n : Nat) : Int) from by omega]
    refine go_on ?_
    rw [show ((35 : Int) + ((n : Nat) : Int)) = ((35 + n : Nat) : Int) from by omega]
    refine f_make (l := (35 + n)) (c := (35 + n)) F rfl rfl rfl (fun q w F => ?_)
    obtain ⟨O, F⟩ := F.frzSl (Nat.le_refl (35 + n))
    have F := F.fact (f := Fact.bytesL (.slice (some ⟨q, 0, none⟩) (35 + n) (35 + n)) (List.replicate (35 + n) [])) (nil_bytesL (F.sl (v := .slice (some ⟨q, 0, none⟩) (35 + n) (35 + n)) (cs := List.replicate (35 + n) (.slice none 0 0))))
    refine go_on ?_
    refine f_call F rfl rfl (txnNew_c (l := List.replicate (35 + n) [])) ?_ (hp := ⟨by rw [List.length_replicate]; omega, fun b hb => by rw [List.eq_of_mem_replicate hb]; exact Nat.zero_le _⟩)
    clear F; rintro r O w T Φ ⟨p, m, rfl, rfl, rfl⟩ F0
    refine tidy F0 (fun F => ?_); clear F0
    change Fr _ _ _ _ _ ((2, Tn p m (tx0 (35 + n))) :: _) _ at F
    refine go_on ?_
    refine f_makeN (l := 24) (c := 24) (cs := (rowsW (fun _ => .zero) (fun _ => .slice none 0 0)).flatten) F rfl rfl rfl (by rw [made_list]; rfl) (by omega) (by omega) (by omega) (fun qw w F => ?_)
    have F := F.fact (f := Fact.slots (fun _ => .slice none 0 0) slt0) (fun i => Bytes.nil)
    refine go_on ?_
    refine g_loop (X := Nat × (Nat → Slt)) (fun y => [(1, .slice sa vs.length sc), (6, .int .i64 n), (7, tptr p), (8, .slice (some ⟨qw, 0, none⟩) 24 24), (9, .int .i64 y.1)])
      (fun y wr => ∃ O, Fr [] [] w0 O wr [(2, Thing.cells qw (rowsW y.2 (fun _ => .slice none 0 0)).flatten), (2, Tn p m (tx0 (35 + n)))] [Fact.sl (.slice sa vs.length sc) vs.length (vs.map id), Fact.lists vs ls, Fact.slots (fun _ => .slice none 0 0) slt0] ∧ y.1 ≤ 24 ∧ ∀ i, i < y.1 → y.2 i = slt0 i) (fun y => 24 - y.1)
      (0, fun _ => .zero) (sub_cons rfl rfl (sub_cons rfl rfl (sub_cons rfl rfl (sub_cons rfl rfl (sub_cons rfl rfl (sub_nil)))))) ⟨_, F.wk, Nat.zero_le _, fun i hi => absurd hi (Nat.not_lt_zero _)⟩ ?_
    clear F
    rintro ⟨i, W⟩ w ⟨O, F, hi, hW⟩
    dsimp only at F hi hW ⊢
    refine go_on ?_
    refine g_dec rfl (fun g => ?_) (fun g => ?_)
    · have hi' : i < 24 := by omega
      refine go_on ?_
      rw [show Addr.add ⟨qw, 0, none⟩ (i * 9) = ⟨qw, i * 9, none⟩ from by rw [Addr.add_lit, Nat.zero_add]]
      refine f_storeN (i := i * 9) (vs := sltC (slt0 i) (.slice none 0 0)) (cs := (rowsW W (fun _ => .slice none 0 0)).flatten) (cs' := (rowsW (upI W i (slt0 i)) (fun _ => .slice none 0 0)).flatten) F rfl rfl rfl (fun w F => ?_) (hc := by
        have e1 : (rowsW W (fun _ => .slice none 0 0)).set i (sltC (slt0 i) (.slice none 0 0)) = rowsW (upI W i (slt0 i)) (fun _ => .slice none 0 0) := by
          rw [rowsW_set]
          exact rowsW_congr fun j _ => ⟨rfl, by by_cases e : j = i <;> simp [upI, e]⟩
        rw [← e1]
        exact flat_set _ _ _ (rowsW_all W _) (by rw [rowsW_len]; exact hi')) (hi := by rw [rowsW_flat]; show i * 9 + 9 ≤ 216; omega)
      refine go_on ?_
      refine e_round (i + 1, upI W i (slt0 i)) (sub_cons rfl rfl (sub_cons rfl rfl (sub_cons rfl rfl (sub_cons rfl rfl (sub_cons rfl rfl (sub_nil)))))) ⟨_, F.wk, by simp only; omega, fun j hj => ?_⟩ (by simp only; omega)
      by_cases e : j = i
      · subst e; exact upI_at ..
      · dsimp only; rw [upI_ne _ e]; exact hW j (by dsimp only at hj; omega)
    · obtain rfl : i = 24 := by omega
      rw [rowsW_congr (W' := slt0) (V' := fun _ => .slice none 0 0) (fun i hi => ⟨hW i hi, rfl⟩)] at F
      refine go_on ?_
      refine g_loop (X := Nat × Nat × Nat × Tx × (Nat → Slt) × (Nat → Value) × (Nat → List Nat)) (fun y => [(1, .slice sa vs.length sc), (6, .int .i64 n), (7, tptr p), (8, .slice (some ⟨y.2.1, 0, none⟩) 24 24), (10, .int .i64 y.1)])
        (fun y wr => ∃ O, Fr [] [] w0 O wr [(2, Thing.cells y.2.1 (rowsW y.2.2.2.2.1 y.2.2.2.2.2.1).flatten), (2, Tn p y.2.2.1 y.2.2.2.1)] [Fact.sl (.slice sa vs.length sc) vs.length (vs.map id), Fact.lists vs ls, Fact.slots y.2.2.2.2.2.1 y.2.2.2.2.1] ∧ y.1 ≤ vs.length ∧ Good y.2.2.2.1 y.2.2.2.2.1 y.2.2.2.2.2.2 ∧ y.2.2.2.1.was.length = 35 + n ∧ ∀ i, i < 24 → (y.2.2.2.2.1 i).data.length ≤ 800) (fun y => vs.length - y.1)
        (0, qw, m, tx0 (35 + n), slt0, (fun _ => .slice none 0 0), (fun _ => [])) (sub_cons rfl rfl (sub_cons rfl rfl (sub_cons rfl rfl (sub_cons rfl rfl (sub_cons rfl rfl (sub_nil)))))) ⟨_, F.wk, Nat.zero_le _, hG, hw, fun i _ => Nat.zero_le _⟩ ?_
      clear F hW W hi g
      rintro ⟨i, qw, m, t, S, V, I⟩ w ⟨O, F, hi, hG, hw, hS8⟩
      dsimp only at F hi hG hw hS8 ⊢
      refine go_on ?_
      refine g_dec rfl (fun g => ?_) (fun g => ?_)
      · have hi' : i < vs.length := by omega
        have hil : i < ls.length := by omega
        have hlist : SlR 9 (SltR.φ O w) O w vs[i] ls[i] := by
          have h := F.fa (Fact.lists vs ls) (by simp)
          obtain ⟨u, hu1, hu2⟩ := All2.get h i ls[i] (List.getElem?_eq_getElem hil)
          rw [List.getElem?_eq_getElem hi'] at hu1
          injection hu1 with hu1
          rw [hu1]
          exact hu2
        have hlm := hll _ (List.getElem_mem hil)
        have hlf := hfit _ (List.getElem_mem hil)
        have F := F.fact (f := Fact.rel 9 SltR vs[i] ls[i]) hlist
        refine go_on ?_
        obtain ⟨x, hx9, hc⟩ := (F.sl (cs := vs.map id)).atm hi'
        (first | subst hx9 | (injection hx9 with hx9; subst hx9))
        have hc : Cell _ _ _ (vs[i]) := hc
        have F := F.fact (f := Fact.cell _ _) hc
        obtain ⟨la, lc, hlv, _⟩ := (F.rel (v := vs[i]) (R := SltR)).form
        generalize vs[i] = lv at hlv F
        subst hlv
        generalize ls[i] = l at F hlm hlf
        clear hlist hc
        refine go_on ?_
        refine f_call F rfl rfl (few_c (l := l)) ?_ (hp := (by unfold maxLen at hlm; omega))
        clear F; rintro r O w T Φ ⟨rfl, rfl, rfl⟩ F0
        refine tidy F0 (fun F => ?_); clear F0
        by_cases hfew : (∀ s, s ∈ l → s.data.length ≤ 800) ∧ l.length ≤ 12
        · rw [decide_eq_true hfew]
          obtain ⟨hl8, hl12'⟩ := id hfew
          refine go_on ?_
          refine f_makeN (l := 24) (c := 24) (cs := (rowsW (fun _ => .zero) (fun _ => .slice none 0 0)).flatten) F rfl rfl rfl (by rw [made_list]; rfl) (by omega) (by omega) (by omega) (fun qn w F => ?_)
          refine go_on ?_
          refine g_loop (X := Nat × (Nat → Slt) × (Nat → Value)) (fun y => [(1, .slice (some x) vs.length sc), (6, .int .i64 n), (7, tptr p), (8, .slice (some ⟨qw, 0, none⟩) 24 24), (10, .int .i64 i), (12, .slice (some ⟨qn, 0, none⟩) 24 24), (13, .int .i64 y.1)])
            (fun y wr => ∃ O, Fr [] [] w0 O wr [(2, Thing.cells qn (rowsW y.2.1 y.2.2).flatten), (2, Thing.cells qw (rowsW S V).flatten), (2, Tn p m t)] [Fact.sl (.slice (some x) vs.length sc) vs.length (vs.map id), Fact.lists vs ls, Fact.slots V S, Fact.cell (x.add i) (.slice la l.length lc), Fact.rel 9 SltR (.slice la l.length lc) l] ∧ y.1 ≤ 24 ∧ ∀ j, j < y.1 → y.2.1 j = S j ∧ y.2.2 j = V j) (fun y => 24 - y.1)
            (0, (fun _ => .zero), (fun _ => .slice none 0 0)) (sub_cons rfl rfl (sub_cons rfl rfl (sub_cons rfl rfl (sub_cons rfl rfl (sub_cons rfl rfl (sub_cons rfl rfl (sub_cons rfl rfl (sub_nil)))))))) ⟨_, F.wk, Nat.zero_le _, fun j hj => absurd hj (Nat.not_lt_zero _)⟩ ?_
          clear F
          rintro ⟨k, W2, V2⟩ w ⟨O, F, hk, hW2⟩
          dsimp only at F hk hW2 ⊢
          refine go_on ?_
          refine g_dec rfl (fun g2 => ?_) (fun g2 => ?_)
          · have hk' : k < 24 := by omega
            obtain ⟨da, dc, hVk, _⟩ := (slotsAt F k).form
            have hrow : (rowsW S V)[k]'(by rw [rowsW_len]; exact hk') = sltC (S k) (.slice da (S k).data.length dc) := by rw [rowsW_at, hVk]
            refine go_on ?_
            refine r_y (y_loadOwnRowS rfl F.fs (by (repeat (first | exact Sel.here | apply Sel.there))) (rowsW_all S V) (by rw [rowsW_len]; exact hk') hrow) rfl ?_
            refine go_on ?_
            rw [show Addr.add ⟨qn, 0, none⟩ (k * 9) = ⟨qn, k * 9, none⟩ from by rw [Addr.add_lit, Nat.zero_add]]
            refine f_storeN (i := k * 9) (vs := sltC (S k) (.slice da (S k).data.length dc)) (cs := (rowsW W2 V2).flatten) (cs' := (rowsW (upI W2 k (S k)) (upI V2 k (.slice da (S k).data.length dc))).flatten) F rfl rfl rfl (fun w F => ?_) (hc := by
              rw [← rowsW_set]
              exact flat_set _ _ _ (rowsW_all W2 V2) (by rw [rowsW_len]; exact hk')) (hi := by rw [rowsW_flat]; show k * 9 + 9 ≤ 216; omega)
            refine go_on ?_
            refine e_round (k + 1, upI W2 k (S k), upI V2 k (.slice da (S k).data.length dc)) (sub_cons rfl rfl (sub_cons rfl rfl (sub_cons rfl rfl (sub_cons rfl rfl (sub_cons rfl rfl (sub_cons rfl rfl (sub_cons rfl rfl (sub_nil)))))))) ⟨_, F.wk, by simp only; omega, fun j hj => ?_⟩ (by simp only; omega)
            dsimp only at hj ⊢
            by_cases e : j = k
            · subst e; rw [upI_at, upI_at, hVk]; exact ⟨rfl, rfl⟩
            · rw [upI_ne _ e, upI_ne _ e]; exact hW2 j (by omega)
          · obtain rfl : k = 24 := by omega
            rw [rowsW_congr (W' := S) (V' := V) (fun i hi => hW2 i hi)] at F
            clear hW2 W2 V2 hk g2
            refine go_on ?_
            refine g_loop (X := Nat × Bool × (Nat → Slt) × (Nat → Value)) (fun y => [(1, .slice (some x) vs.length sc), (6, .int .i64 n), (7, tptr p), (8, .slice (some ⟨qw, 0, none⟩) 24 24), (10, .int .i64 i), (12, .slice (some ⟨qn, 0, none⟩) 24 24), (14, .bool y.2.1), (15, .int .i64 y.1)])
              (fun y wr => ∃ O, Fr [] [] w0 O wr [(2, Thing.cells qn (rowsW y.2.2.1 y.2.2.2).flatten), (2, Thing.cells qw (rowsW S V).flatten), (2, Tn p m t)] [Fact.sl (.slice (some x) vs.length sc) vs.length (vs.map id), Fact.lists vs ls, Fact.slots V S, Fact.cell (x.add i) (.slice la l.length lc), Fact.rel 9 SltR (.slice la l.length lc) l, Fact.slots y.2.2.2 y.2.2.1] ∧ y.1 ≤ l.length ∧ (∀ j, j < 24 → (y.2.2.1 j).data.length ≤ 800) ∧ (y.2.1 = true → mayS (l.take y.1) ∧ ∀ j, j < 24 → y.2.2.1 j = updS S (l.take y.1) j) ∧ (y.2.1 = false → ¬ mayS l)) (fun y => l.length - y.1)
              (0, true, S, V) (sub_cons rfl rfl (sub_cons rfl rfl (sub_cons rfl rfl (sub_cons rfl rfl (sub_cons rfl rfl (sub_cons rfl rfl (sub_cons rfl rfl (sub_cons rfl rfl (sub_nil))))))))) ⟨_, F.wk, Nat.zero_le _, hS8, fun _ => ⟨fun i hi => absurd hi (by simp), fun j _ => by dsimp only; rw [List.take_zero]; rfl⟩, fun k => (by cases k)⟩ ?_
            clear F
            rintro ⟨k, may, W2, V2⟩ w ⟨O, F, hk, hW8, hmy, hmn⟩
            dsimp only at F hk hW8 hmy hmn ⊢
            refine go_on ?_
            refine g_dec rfl (fun g2 => ?_) (fun g2 => ?_)
            · have hk' : k < l.length := by omega
              obtain ⟨x3, row, hx9, hrl, ⟨u1, hr1, hb1⟩, hrow⟩ := (F.rel (v := .slice la l.length lc) (R := SltR) (ys := l)).elem hk'
              subst hr1
              (first | subst hx9 | (injection hx9 with hx9; subst hx9))
              have F := (F.fact hrow).factB hb1
              obtain ⟨ua, uc, hua, _⟩ := (F.bytes (v := u1) (xs := l[k].data)).form
              subst hua
              have hd8 := hl8 _ (List.getElem_mem hk')
              have hsnoc : updS S (l.take (k + 1)) = upI (updS S (l.take k)) l[k].ino l[k] := by rw [List.take_succ_eq_append_getElem hk', updS_snoc]
              unfold sltC at F
              refine go_on ?_
              (first | refine f_alloc1 F rfl (fun q16 w F => ?_) | refine f_allocN F rfl (fun q16 w F => ?_)); refine go_on ?_
              refine f_storeAll F rfl rfl rfl (fun w F => ?_); refine go_on ?_
              refine go_on ?_
              refine f_call F rfl rfl (scheck_c (s := l[k]) (v := .slice ua l[k].data.length uc)) ?_ (hp := trivial)
              clear F; rintro r O w T Φ ⟨rfl, rfl, rfl⟩ F0
              refine tidy F0 (fun F => ?_); clear F0
              by_cases hok : l[k].ok
              · rw [if_pos hok]
                have hino : l[k].ino < 24 := hok.1.1
                refine go_on ?_
                refine g_loop (X := Nat × Bool) (fun y => [(1, .slice (some x) vs.length sc), (6, .int .i64 n), (7, tptr p), (8, .slice (some ⟨qw, 0, none⟩) 24 24), (10, .int .i64 i), (12, .slice (some ⟨qn, 0, none⟩) 24 24), (14, .bool y.2), (15, .int .i64 k), (16, bptr q16), (17, .int .i64 y.1)])
                  (fun y wr => ∃ O, Fr [] [] w0 O wr [(2, Thing.cells q16 [.int .u32 l[k].ino, .int .u32 l[k].kind, .int .u32 l[k].gen, .int .u32 l[k].links, .int .u32 l[k].mode, .int .u64 l[k].change, .int .u64 l[k].cookie, .int .u64 l[k].verf, .slice ua l[k].data.length uc]), (2, Thing.cells qn (rowsW W2 V2).flatten), (2, Thing.cells qw (rowsW S V).flatten), (2, Tn p m t)] [Fact.sl (.slice (some x) vs.length sc) vs.length (vs.map id), Fact.lists vs ls, Fact.slots V S, Fact.cell (x.add i) (.slice (some x3) l.length lc), Fact.rel 9 SltR (.slice (some x3) l.length lc) l, Fact.slots V2 W2, Fact.bytes (.slice ua l[k].data.length uc) l[k].data] ∧ y.1 ≤ k ∧ (y.2 = true ↔ may = true ∧ ∀ j (h : j < l.length), j < y.1 → l[j].ino ≠ l[k].ino)) (fun y => k - y.1)
                  (0, may) (sub_cons rfl rfl (sub_cons rfl rfl (sub_cons rfl rfl (sub_cons rfl rfl (sub_cons rfl rfl (sub_cons rfl rfl (sub_cons rfl rfl (sub_cons rfl rfl (sub_cons rfl rfl (sub_cons rfl rfl (sub_nil))))))))))) ⟨_, F.wk, Nat.zero_le _, ⟨fun k => ⟨k, fun _ _ h => absurd h (Nat.not_lt_zero _)⟩, fun k => k.1⟩⟩ ?_
                clear F hrow hb1
                rintro ⟨j, mj⟩ w ⟨O, F, hj, hmj⟩
                dsimp only at F hj hmj ⊢
                refine go_on ?_
                refine g_dec rfl (fun g3 => ?_) (fun g3 => ?_)
                · have hj' : j < k := by omega
                  have hjl : j < l.length := by omega
                  obtain ⟨x4, row, hx9, hrl, ⟨u2, hr1, hb2⟩, hrow⟩ := (F.rel (v := .slice (some x3) l.length lc) (R := SltR) (ys := l)).elem hjl
                  subst hr1
                  (first | subst hx9 | (injection hx9 with hx9; subst hx9))
                  have F := F.fact hrow
                  unfold sltC at F
                  refine go_on ?_
                  refine f_drawA F [] [(0, true), (1, true), (2, true), (3, true), (4, true), (5, true), (6, true), (7, true), (8, true), (9, true), (10, true), (11, true), (12, true), (13, true), (14, true)] (by kernel_rfl) (by kernel_rfl) (fun w F hS => ?_); refine go_look ?_
                  apply rd_and 12 111 99
                  · exact rfl
                  · intro e K; have e' := e; (try simp only [Bool.and_eq_true, Bool.or_eq_true, decide_eq_true_eq, decide_eq_false_iff_not, Bool.not_eq_true', Bool.or_eq_false_iff, Bool.not_eq_false', Bool.and_eq_false_iff] at e'); refine go_look1 ?_; refine go_look1 ?_; refine go_look1 ?_; refine go_look1 ?_; refine go_look1 ?_; refine go_look1 ?_; refine go_look1 ?_; refine go_look1 ?_; refine go_look1 ?_; refine go_look1 ?_; refine go_look1 ?_; refine go_look1 ?_; exact K _ (by exact rfl) (by (repeat (first | exact sub_refl | refine sub_new rfl ?_ | refine sub_bool rfl (by assumption) ?_)))
                  · intro e K; have e' := e; (try simp only [Bool.and_eq_true, Bool.or_eq_true, decide_eq_true_eq, decide_eq_false_iff_not, Bool.not_eq_true', Bool.or_eq_false_iff, Bool.not_eq_false', Bool.and_eq_false_iff] at e'); refine go_look1 ?_; refine go_look1 ?_; refine go_look1 ?_; refine go_look1 ?_; refine go_look1 ?_; refine go_look1 ?_; refine go_look1 ?_; refine go_look1 ?_; refine go_look1 ?_; refine go_look1 ?_; refine go_look1 ?_; refine go_look1 ?_; exact K _ (by exact rfl) (by (repeat (first | exact sub_refl | refine sub_new rfl ?_ | refine sub_bool rfl (by assumption) ?_)))
                  refine go_look ?_
                  refine rd_done ?_; refine go_on ?_
                  refine e_round (j + 1, mj && !decide ((l[j].ino : Int) = (l[k].ino : Int))) (sub_cons rfl rfl (sub_cons rfl rfl (sub_cons rfl rfl (sub_cons rfl rfl (sub_cons rfl rfl (sub_cons rfl rfl (sub_cons rfl rfl (sub_cons rfl rfl (sub_cons rfl rfl (sub_cons rfl rfl (sub_nil))))))))))) ⟨_, F.wk, by simp only; omega, ?_⟩ (by simp only; omega)
                  dsimp only
                  rw [Bool.and_eq_true, hmj, Bool.not_eq_true', decide_eq_false_iff_not]
                  constructor
                  · rintro ⟨⟨k1, k2⟩, k3⟩
                    refine ⟨k1, fun k4 hk4 hlt => ?_⟩
                    by_cases e : k4 = j
                    · subst e; omega
                    · exact k2 k4 hk4 (by omega)
                  · rintro ⟨k1, k2⟩
                    refine ⟨⟨k1, fun k4 hk4 hlt => k2 k4 hk4 (by omega)⟩, ?_⟩
                    have := k2 j hjl (by omega)
                    omega
                · obtain rfl : j = k := by omega
                  have hb1 : Bytes O w (.slice ua l[j].data.length uc) l[j].data := F.bytes
                  have F := slotsUp F (V := V2) (W := W2) (v := .slice ua l[j].data.length uc) (s := l[j]) l[j].ino (by (repeat (first | exact Sel.here | apply Sel.there))) hb1
                  refine go_on ?_
                  rw [show Addr.add ⟨qn, 0, none⟩ (l[j].ino * 9) = ⟨qn, l[j].ino * 9, none⟩ from by rw [Addr.add_lit, Nat.zero_add]]
                  refine f_storeN (i := l[j].ino * 9) (vs := sltC l[j] (.slice ua l[j].data.length uc)) (cs := (rowsW W2 V2).flatten) (cs' := (rowsW (upI W2 l[j].ino l[j]) (upI V2 l[j].ino (.slice ua l[j].data.length uc))).flatten) F rfl rfl rfl (fun w F => ?_) (hc := by
                    rw [← rowsW_set]
                    exact flat_set _ _ _ (rowsW_all W2 V2) (by rw [rowsW_len]; exact hino)) (hi := by rw [rowsW_flat]; show l[j].ino * 9 + 9 ≤ 216; omega)
                  refine go_on ?_
                  refine e_round (j + 1, mj, upI W2 l[j].ino l[j], upI V2 l[j].ino (.slice ua l[j].data.length uc)) (sub_cons rfl rfl (sub_cons rfl rfl (sub_cons rfl rfl (sub_cons rfl rfl (sub_cons rfl rfl (sub_cons rfl rfl (sub_cons rfl rfl (sub_cons rfl rfl (sub_nil))))))))) ⟨_, F.wk, by simp only; omega, fun j2 hj2 => ?_, fun hm => ?_, fun hm hml => ?_⟩ (by simp only; omega)
                  · dsimp only
                    by_cases e : j2 = l[j].ino
                    · rw [e, upI_at]; exact hd8
                    · rw [upI_ne _ e]; exact hW8 j2 hj2
                  · obtain ⟨h1, h2⟩ := hmj.1 hm
                    obtain ⟨h3, h4⟩ := hmy h1
                    refine ⟨mayS_snoc hk' h3 hok h2, fun j2 hj2 => ?_⟩
                    dsimp only
                    rw [hsnoc]
                    by_cases e : j2 = l[j].ino
                    · rw [e, upI_at, upI_at]
                    · rw [upI_ne _ e, upI_ne _ e]; exact h4 j2 hj2
                  · dsimp only at hm
                    subst hm
                    cases may with
                    | false => exact hmn rfl hml
                    | true =>
                      have : (false : Bool) = true := hmj.2 ⟨rfl, fun k2 hk2 hlt e => (hml j hk').2 l[k2] (by rw [List.mem_take_iff_getElem]; exact ⟨k2, by omega, rfl⟩) e⟩
                      cases this
              · rw [if_neg hok]
                refine go_on ?_
                exact e_round (k + 1, false, W2, V2) (sub_cons rfl rfl (sub_cons rfl rfl (sub_cons rfl rfl (sub_cons rfl rfl (sub_cons rfl rfl (sub_cons rfl rfl (sub_cons rfl rfl (sub_cons rfl rfl (sub_nil))))))))) ⟨_, F.wk, by simp only; omega, hW8, fun k => (by cases k), fun _ h => hok (h k hk').1⟩ (by simp only; omega)
            · obtain rfl : k = l.length := by omega
              rw [List.take_length] at hmy
              refine go_on ?_
              refine g_loop (X := Nat) (fun y => [(1, .slice (some x) vs.length sc), (6, .int .i64 n), (7, tptr p), (8, .slice (some ⟨qw, 0, none⟩) 24 24), (10, .int .i64 i), (12, .slice (some ⟨qn, 0, none⟩) 24 24), (14, .bool may), (18, .int .i64 (usedN W2 y)), (19, .int .i64 y)])
                (fun y wr => ∃ O, Fr [] [] w0 O wr [(2, Thing.cells qn (rowsW W2 V2).flatten), (2, Thing.cells qw (rowsW S V).flatten), (2, Tn p m t)] [Fact.sl (.slice (some x) vs.length sc) vs.length (vs.map id), Fact.lists vs ls, Fact.slots V S, Fact.cell (x.add i) (.slice la l.length lc), Fact.rel 9 SltR (.slice la l.length lc) l, Fact.slots V2 W2] ∧ y ≤ 24) (fun y => 24 - y)
                0 (by rw [usedN_zero]; exact (sub_cons rfl rfl (sub_cons rfl rfl (sub_cons rfl rfl (sub_cons rfl rfl (sub_cons rfl rfl (sub_cons rfl rfl (sub_cons rfl rfl (sub_cons rfl rfl (sub_cons rfl rfl (sub_nil))))))))))) ⟨_, F.wk, Nat.zero_le _⟩ ?_
              clear F
              rintro k w ⟨O, F, hk3⟩
              refine go_on ?_
              refine g_dec rfl (fun g3 => ?_) (fun g3 => ?_)
              · have hk' : k < 24 := by omega
                obtain ⟨da, dc, hVk, _⟩ := (slotsAt F (V := V2) (W := W2) k).form
                have hd8 := hW8 k hk'
                have hul := usedN_le hW8 k hk3
                have hus := usedN_succ W2 k
                refine go_on ?_
                rw [show Addr.add (Addr.add ⟨qn, 0, none⟩ (k * 9)) 8 = ⟨qn, k * 9 + 8, none⟩ from by rw [Addr.add_lit, Addr.add_lit, Nat.zero_add]]
                refine r_y (y_loadF rfl F (by (repeat (first | exact Sel.here | apply Sel.there))) (rowsW_dat hk')) rfl ?_
                rw [hVk]
                refine go_on ?_
                refine r_y (y_quo64 rfl rfl ⟨by omega, by omega, by omega⟩) rfl ?_
                rw [show ((((W2 k).data.length : Int) + 95) / 96) = ((((W2 k).data.length + 95) / 96 : Nat) : Int) from by omega]
                refine go_on ?_
                rw [show ((usedN W2 k : Int) + ((((W2 k).data.length + 95) / 96 : Nat) : Int)) = ((usedN W2 (k + 1) : Nat) : Int) from by rw [hus]; omega]
                exact e_round (k + 1) (sub_cons rfl rfl (sub_cons rfl rfl (sub_cons rfl rfl (sub_cons rfl rfl (sub_cons rfl rfl (sub_cons rfl rfl (sub_cons rfl rfl (sub_cons rfl rfl (sub_cons rfl rfl (sub_nil)))))))))) ⟨_, F.wk, by omega⟩ (by omega)
              · obtain rfl : k = 24 := by omega
                rw [usedN_24]
                apply r_join (X := Nat × Nat × Tx × (Nat → Slt) × (Nat → Value) × (Nat → List Nat)) (fun y => [(1, .slice (some x) vs.length sc), (6, .int .i64 n), (7, tptr p), (8, .slice (some ⟨y.1, 0, none⟩) 24 24), (10, .int .i64 i), (169, tptr p)])
                  (fun y w => ∃ O, Fr [] [] w0 O w [(2, Thing.cells y.1 (rowsW y.2.2.2.1 y.2.2.2.2.1).flatten), (2, Tn p y.2.1 y.2.2.1)] [Fact.sl (.slice (some x) vs.length sc) vs.length (vs.map id), Fact.lists vs ls, Fact.slots y.2.2.2.2.1 y.2.2.2.1] ∧ Good y.2.2.1 y.2.2.2.1 y.2.2.2.2.2 ∧ y.2.2.1.was.length = 35 + n ∧ ∀ j, j < 24 → (y.2.2.2.1 j).data.length ≤ 800)
                · intro K
                  have F := F
                  refine go_on ?_
                  refine f_call F rfl rfl (vsave_c (t := t) (l := l)) ?_ (hp := ⟨by omega, hG.low, hG.nine, hlf⟩)
                  clear F; rintro r O w T Φ ⟨m2, rfl, rfl, rfl⟩ F0
                  refine tidy F0 (fun F => ?_); clear F0
                  cases may with
                  | false =>
                    have hs : volSave t l = (1, t) := if_neg (fun k => hmn rfl k.2)
                    rw [hs]
                    rw [hs] at F
                    dsimp only at F ⊢
                    refine go_on ?_
                    exact K (qw, m2, t, S, V, I) _ _ ⟨_, F.wk, hG, hw, hS8⟩ (sub_cons rfl rfl (sub_cons rfl rfl (sub_cons rfl rfl (sub_cons rfl rfl (sub_cons rfl rfl (sub_cons rfl rfl (sub_nil)))))))
                  | true =>
                    obtain ⟨hml, hWS⟩ := hmy rfl
                    have hs := hG.save hml hlf
                    rw [← usedS_congr hWS, hw] at hs
                    by_cases g5 : usedS W2 ≤ n
                    · rw [if_pos (by omega)] at hs
                      obtain ⟨hs1, hs2, _, I2, hG2⟩ := hs
                      have hG3 := hG2.same hWS
                      have hw2 : (volSave t l).2.was.length = 35 + n := by rw [hs2, hw]
                      rw [hs1]
                      generalize (volSave t l).2 = t2 at F hG3 hw2
                      clear hs1 hs2 hG2
                      refine go_on ?_
                      rw [show (!(decide (((0 : Nat) : Int) = 0) == decide ((usedS W2 : Int) ≤ (n : Int)))) = false from by rw [decide_eq_true (show ((0 : Nat) : Int) = 0 from rfl), decide_eq_true (by omega)]; rfl]
                      refine go_on ?_
                      exact K (qn, m2, t2, W2, V2, I2) _ _ ⟨_, F.wk, hG3, hw2, hW8⟩ (sub_cons rfl rfl (sub_cons rfl rfl (sub_cons rfl rfl (sub_cons rfl rfl (sub_cons rfl rfl (sub_cons rfl rfl (sub_nil)))))))
                    · rw [if_neg (by omega)] at hs
                      rw [hs]
                      rw [hs] at F
                      dsimp only at F ⊢
                      refine go_on ?_
                      rw [show (!(decide (((66 : Nat) : Int) = 0) == decide ((usedS W2 : Int) ≤ (n : Int)))) = false from by rw [decide_eq_false (show ¬ ((66 : Nat) : Int) = 0 from by omega), decide_eq_false (by omega)]; rfl]
                      refine go_on ?_
                      exact K (qw, m2, t, S, V, I) _ _ ⟨_, F.wk, hG, hw, hS8⟩ (sub_cons rfl rfl (sub_cons rfl rfl (sub_cons rfl rfl (sub_cons rfl rfl (sub_cons rfl rfl (sub_cons rfl rfl (sub_nil)))))))
                clear F hG hw hS8 hmy hmn hW8
                rintro ⟨qx, m2, t2, T, U, J⟩ w ⟨O, F, hG, hw, hT8⟩
                dsimp only at F hG hw hT8 ⊢
                have hall := hG.all
                have hfits := hG.fits
                refine go_on ?_
                refine f_call F rfl rfl (vall_c (t := t2)) ?_ (hp := trivial)
                clear F; rintro r O w T Φ ⟨lv, rfl, rfl, rfl⟩ F0
                refine tidy F0 (fun F => ?_); clear F0
                rw [hall] at F
                rw [hall]
                dsimp only at F ⊢
                have hml : ((List.range 24).map T).length = 24 := by simp
                have hmk : ∀ k (h : k < ((List.range 24).map T).length), ((List.range 24).map T)[k] = T k := fun k h => by simp
                generalize (List.range 24).map T = ml at F hml hmk
                obtain ⟨aa, ac, rfl, _⟩ := (F.rel (v := lv) (R := SltR)).form
                refine go_on ?_
                rw [hml]
                rw [hml] at F
                refine go_on ?_
                refine f_call F rfl rfl (vwrong_c (t := t2)) ?_ (hp := trivial)
                clear F; rintro r O w T Φ ⟨ws, rfl, rfl, rfl, hws⟩ F0
                refine tidy F0 (fun F => ?_); clear F0
                obtain rfl := hws.2 hG.fine
                refine go_on ?_
                refine g_loop (X := Nat) (fun y => [(1, .slice (some x) vs.length sc), (6, .int .i64 n), (7, tptr p), (8, .slice (some ⟨qx, 0, none⟩) 24 24), (10, .int .i64 i), (18, .int .i64 (usedN T y)), (21, .slice aa 24 ac), (23, .int .i64 y)])
                  (fun y wr => ∃ O, Fr [] [] w0 O wr [(2, Thing.cells qx (rowsW T U).flatten), (2, Tn p m2 t2)] [Fact.sl (.slice (some x) vs.length sc) vs.length (vs.map id), Fact.lists vs ls, Fact.slots U T, Fact.rel 9 SltR (.slice aa 24 ac) ml] ∧ y ≤ 24) (fun y => 24 - y)
                  0 (by rw [usedN_zero]; exact (sub_cons rfl rfl (sub_cons rfl rfl (sub_cons rfl rfl (sub_cons rfl rfl (sub_cons rfl rfl (sub_cons rfl rfl (sub_cons rfl rfl (sub_cons rfl rfl (sub_nil)))))))))) ⟨_, F.wk, Nat.zero_le _⟩ ?_
                clear F
                rintro k w ⟨O, F, hk3⟩
                refine go_on ?_
                refine g_dec rfl (fun g3 => ?_) (fun g3 => ?_)
                · have hk' : k < 24 := by omega
                  obtain ⟨da, dc, hUk, _⟩ := (slotsAt F (V := U) (W := T) k).form
                  have hd8 := hT8 k hk'
                  have hul := usedN_le hT8 k hk3
                  have hus := usedN_succ T k
                  have hrow2 : (rowsW T U)[k]'(by rw [rowsW_len]; exact hk') = sltC (T k) (.slice da (T k).data.length dc) := by rw [rowsW_at, hUk]
                  have hmk2 := hmk k (by rw [hml]; exact hk')
                  obtain ⟨x5, row, hx9, hrl, ⟨u1, hr1, hb1⟩, hrow⟩ := (F.rel (v := .slice aa 24 ac) (R := SltR) (ys := ml)).elem (show k < ml.length by omega)
                  subst hr1
                  (first | subst hx9 | (injection hx9 with hx9; subst hx9))
                  rw [hmk2] at hb1 hrow
                  have hb2 := slotsAt F (V := U) (W := T) k
                  rw [hUk] at hb2
                  have F := ((F.fact hrow).factB hb1).factB hb2
                  unfold sltC at F
                  refine go_on ?_
                  refine f_drawA F [] [(0, true), (1, true), (2, true), (3, true), (4, true), (5, true), (6, true), (7, true), (8, false), (9, true)] (by kernel_rfl) (by kernel_rfl) (fun w F hS => ?_); refine go_look ?_
                  refine rd_open rfl ?_; (first | refine ro_n ?_ | refine ro_g rfl rfl ?_); refine rx_y rfl (fun _ hw => y_loadOwnRowS rfl hw (by (repeat (first | exact Sel.here | apply Sel.there))) (rowsW_all T U) (by rw [rowsW_len]; exact hk') hrow2) (by assumption) ?_; refine go_look ?_
                  refine rd_do rfl ?_; (try refine r_go rfl rfl ?_)
                  refine f_call F rfl rfl (ssame_c (s := T k) (t := T k) (u := u1) (v := .slice da (T k).data.length dc)) ?_ (hp := trivial)
                  clear F; rintro r O w T1 Φ ⟨rfl, rfl, rfl⟩ F0
                  refine tidy F0 (fun F => ?_); clear F0
                  rw [decide_eq_true (rfl : T k = T k)]
                  (try refine r_nil ?_); refine e_afterF F (fun hS => ?_); refine go_look ?_
                  refine rd_done ?_; refine go_on ?_
                  rw [show Addr.add (Addr.add ⟨qx, 0, none⟩ (k * 9)) 8 = ⟨qx, k * 9 + 8, none⟩ from by rw [Addr.add_lit, Addr.add_lit, Nat.zero_add]]
                  refine r_y (y_loadF rfl F (by (repeat (first | exact Sel.here | apply Sel.there))) (rowsW_dat hk')) rfl ?_
                  rw [hUk]
                  refine go_on ?_
                  refine r_y (y_quo64 rfl rfl ⟨by omega, by omega, by omega⟩) rfl ?_
                  rw [show ((((T k).data.length : Int) + 95) / 96) = ((((T k).data.length + 95) / 96 : Nat) : Int) from by omega]
                  refine go_on ?_
                  rw [show ((usedN T k : Int) + ((((T k).data.length + 95) / 96 : Nat) : Int)) = ((usedN T (k + 1) : Nat) : Int) from by rw [hus]; omega]
                  exact e_round (k + 1) (sub_cons rfl rfl (sub_cons rfl rfl (sub_cons rfl rfl (sub_cons rfl rfl (sub_cons rfl rfl (sub_cons rfl rfl (sub_cons rfl rfl (sub_cons rfl rfl (sub_nil))))))))) ⟨_, F.wk, by omega⟩ (by omega)
                · obtain rfl : k = 24 := by omega
                  rw [usedN_24]
                  have hfr : volFree t2 = ((n - usedS T : Nat) : Int) := by rw [hG.free, hw]; omega
                  rw [hw] at hfits
                  refine go_on ?_
                  refine f_call F rfl rfl (vfree_c (t := t2)) ?_ (hp := trivial)
                  clear F; rintro r O w T Φ ⟨rfl, rfl, rfl⟩ F0
                  refine tidy F0 (fun F => ?_); clear F0
                  rw [hfr]
                  refine go_on ?_
                  rw [show ((n : Int) - (usedS T : Int)) = ((n - usedS T : Nat) : Int) from by omega]
                  refine go_on ?_
                  exact e_round (i + 1, qx, m2, t2, T, U, J) (sub_cons rfl rfl (sub_cons rfl rfl (sub_cons rfl rfl (sub_cons rfl rfl (sub_cons rfl rfl (sub_nil)))))) ⟨_, F.wk, by simp only; omega, hG, hw, hT8⟩ (by simp only; omega)
        · rw [decide_eq_false hfew]
          refine go_on ?_
          refine go_back ?_
          exact F.law
      · refine go_on ?_
        refine go_back ?_
        exact F.law
  · refine go_on ?_
    refine go_back ?_
    exact F.law
theorem all2_lists {w : World} : ∀ {vs : List Value} {ls : List (List Slt)}, All2 (fun v l => SltsIn w v l ∧ l.length ≤ maxLen) vs ls → All2 (fun v l => SlR 9 (SltR.φ [] w) [] w v l) vs ls ∧ (∀ l, l ∈ ls → l.length ≤ maxLen) ∧ ∀ l, l ∈ ls → ∀ s, s ∈ l → s.fit
  | [], [], _ => ⟨trivial, fun l hl => (by cases hl), fun l hl => (by cases hl)⟩
  | v :: vs, l :: ls, h => by
    obtain ⟨k1, k2, k3⟩ := all2_lists h.2
    exact ⟨⟨h.1.1.1, k1⟩, fun x hx => (by
      rcases List.mem_cons.1 hx with rfl | hx
      · exact h.1.2
      · exact k2 x hx), fun x hx => (by
      rcases List.mem_cons.1 hx with rfl | hx
      · exact h.1.1.2
      · exact k3 x hx)⟩
theorem VolKeeps_true {w : World} {v0 v1 : Value} (r0 : Reads Tryz.prog w 5 [v0]) (r1 : Reads Tryz.prog w 53 [v1]) :
    FnC Tryz.prog 7 [v0, v1] [] [] w fun r O' w' => r = .bool true := by
  obtain ⟨rm, h0, hrm⟩ := reads_nat (k := .u8) rfl r0
  injection h0 with h0
  subst h0
  obtain ⟨ls, hA, h3⟩ := reads_slA (r := fun v l => SltsIn w v l ∧ l.length ≤ maxLen) r1 (fun u hu => reads_slts hu)
  unfold Gk.SlA at hA
  obtain ⟨vs, h1, h2⟩ := hA
  obtain ⟨k1, k2, k3⟩ := all2_lists h2
  have hlen : vs.length = ls.length := h2.length
  exact VolKeeps_ok hrm h3 hlen k2 k3 (((Fr.start OK_nil).fact (f := Fact.lists vs ls) k1).fact (f := Fact.sl v1 vs.length (vs.map id)) (by rw [List.map_id]; rw [hlen]; exact h1))
end Go.Proofs.YtcfpnghkkkphhaaGreat
