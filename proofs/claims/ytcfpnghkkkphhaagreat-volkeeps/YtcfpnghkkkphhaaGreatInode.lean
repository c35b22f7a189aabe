/- What the functions of inode do. -/
import Derived.Test.YtcfpnghkkkphhaaGreatXdrn
namespace Go.Proofs.YtcfpnghkkkphhaaGreat
open Gk Go
set_option linter.unusedVariables false
set_option maxHeartbeats 4000000
set_option maxRecDepth 4000
set_option linter.unusedSimpArgs false
attribute [local irreducible] Int.decLt Int.decLe Int.decEq Int.instDecidableEq Gk.Rnds Gk.E Gk.G Gk.R Gk.RD Gk.RX Gk.RO Gk.Y Gk.Ent Gk.Sat Gk.Round Gk.After Gk.Cell Gk.Sl Gk.SlA Gk.CB Gk.OK Gk.FnC Gk.Bytes Gk.BytesL Gk.StrL Gk.Buf Gk.MapI
def u32V (x : Nat) : Value := .int .u32 x
def u64V (x : Nat) : Value := .int .u64 x
def Fact.u32s (v : Value) (xs : List Nat) : Fact := Fact.sl v xs.length (xs.map u32V)

def errV (e : Nat) : Value := .int .i64 e

/-- What is known of a thing. -/
structure Ino where
  kind : Nat
  gen : Nat
  links : Nat
  mode : Nat
  size : Nat
  change : Nat
  cookie : Nat
  verf : Nat
  blocks : List Nat
deriving DecidableEq

def inoV (n : Ino) (v : Value) : Value := .agg #[.int .u32 n.kind, .int .u32 n.gen, .int .u32 n.links, .int .u32 n.mode, .int .u32 n.size, .int .u64 n.change, .int .u64 n.cookie, .int .u64 n.verf, v]

def Ino.fit (n : Ino) : Prop := n.kind < 4294967296 ∧ n.gen < 4294967296 ∧ n.links < 4294967296 ∧ n.mode < 4294967296 ∧ n.size < 4294967296 ∧ n.change < 18446744073709551616 ∧ n.cookie < 18446744073709551616 ∧ n.verf < 18446744073709551616 ∧ (∀ x, x ∈ n.blocks → x < 4294967296) ∧ n.blocks.length ≤ 1000000

def needN (size : Int) : Nat := (size + 95).toNat / 96

def Ino.may (n : Ino) : Prop := n.kind ≤ 3 ∧ n.blocks.length ≤ 8 ∧ n.blocks.length = needN n.size ∧ n.blocks.Nodup ∧ (if n.kind = 0 then n.links = 0 ∧ n.mode = 0 ∧ n.size = 0 ∧ n.cookie = 0 ∧ n.verf = 0 else 1 ≤ n.links)
instance (n : Ino) : Decidable n.may := by unfold Ino.may; infer_instance

def Ino.none (n : Ino) : Prop := n.kind = 0 ∧ n.gen = 0 ∧ n.links = 0 ∧ n.mode = 0 ∧ n.size = 0 ∧ n.change = 0 ∧ n.cookie = 0 ∧ n.verf = 0 ∧ n.blocks.length = 0
instance (n : Ino) : Decidable n.none := by unfold Ino.none; infer_instance

def Ino.bytes (n : Ino) : List UInt8 := nB 4 [n.kind, n.gen, n.links, n.mode, n.size] ++ nB 8 [n.change, n.cookie, n.verf] ++ be 4 n.blocks.length ++ nB 4 n.blocks

theorem need_c {size : Int} (h : -9223372036854775808 ≤ size ∧ size ≤ 9223372036854775807) : Con Tryz.prog 64 [.int .i64 size] [] [] [] fun r T Φ => r = .int .i64 (needN size) ∧ T = [] ∧ Φ = [] := by
  refine con_of (fun O0 w0 F => ?_)
  refine tidy F (fun F => ?_)
  refine fn_of _ Tryz.func64 rfl (by kernel_rfl) Tryz.ntmps64 rfl ?_
  by_cases h1 : size < 1
  · refine go_on ?_
    refine go_back ?_
    exact F.fin ⟨by unfold needN; congr 1; omega, rfl, rfl⟩
  · refine go_on ?_
    refine r_y (y_quo64 rfl rfl ⟨by omega, by omega, by omega⟩) rfl ?_; refine go_on ?_
    refine go_back ?_
    exact F.fin ⟨by unfold needN; congr 1; omega, rfl, rfl⟩

theorem once_c {v : Value} {xs : List Nat} (hx : xs.length ≤ 1000000) : Con Tryz.prog 70 [v] [] [] [Fact.u32s v xs] fun r T Φ => r = .bool (decide xs.Nodup) ∧ T = [] ∧ Φ = [] := by
  refine con_of (fun O0 w0 F => ?_)
  refine tidy F (fun F => ?_)
  refine fn_of _ Tryz.func70 rfl (by kernel_rfl) Tryz.ntmps70 rfl ?_
  obtain ⟨a, c, rfl, _⟩ := (F.sl (v := v) (cs := xs.map u32V)).form
  refine go_on ?_
  refine f_makeMap .u32 F rfl (fun m w F => ?_)
  refine go_on ?_
  refine g_loop (X := Nat × KV) (fun y => [(3, .map (some m)), (7, .slice a xs.length c), (8, .int .i64 xs.length), (9, .int .i64 y.1)])
    (fun y wr => ∃ O, Fr [] O0 w0 O wr [(2, Thing.map m .u32 y.2)] [Fact.u32s (.slice a xs.length c) xs] ∧ y.1 ≤ xs.length ∧ (∀ x : Nat, (lookI y.2 x).getD (.bool false) = .bool (decide (x ∈ xs.take y.1))) ∧ (xs.take y.1).Nodup) (fun y => xs.length - y.1) (0, []) (sub_cons rfl rfl (sub_cons rfl rfl (sub_cons rfl rfl (sub_cons rfl rfl (sub_nil))))) ⟨_, F, by simp, by simp [lookI], by simp⟩ ?_
  clear F
  rintro ⟨i, es⟩ w ⟨O, F, hi, hl, hn⟩
  dsimp only at F hi hl hn ⊢
  refine go_on ?_
  refine g_dec rfl (fun h => ?_) (fun h => ?_)
  · have hi' : i < xs.length := by omega
    have hd : (xs.take (i + 1)).Nodup ↔ xs[i] ∉ xs.take i := by
      rw [List.take_succ_eq_append_getElem hi', List.nodup_append]
      constructor
      · intro h hm; exact h.2.2 _ hm _ (by simp) rfl
      · intro h; exact ⟨hn, by simp, fun a ha b hb => by simp at hb; subst hb; intro e; subst e; exact h ha⟩
    refine go_on ?_
    obtain ⟨x, hx9, hc⟩ := ((F.sl (cs := xs.map u32V))).atm hi'
    (first | subst hx9 | (injection hx9 with hx9; subst hx9))
    have F := F.fact (f := Fact.cell _ _) hc
    refine go_on ?_
    refine r_y (y_lookup rfl rfl F.mapAt) rfl ?_
    rw [hl]
    refine go_on ?_
    refine g_dec rfl (fun g => ?_) (fun g => ?_)
    · have : ¬ xs.Nodup := fun hx => (hd.1 (hx.sublist (List.take_sublist _ _))) g
      refine go_on ?_
      refine go_back ?_
      exact F.fin ⟨by simp [this], rfl, rfl⟩
    · refine go_on ?_
      refine f_mapUpdate F rfl rfl rfl rfl (fun w F => ?_)
      refine go_on ?_
      refine e_round (i + 1, _) (sub_cons rfl rfl (sub_cons rfl rfl (sub_cons rfl rfl (sub_cons rfl rfl (sub_nil))))) ⟨_, F.wk, by simp only; omega, fun x => ?_, hd.2 g⟩ (by simp only; omega)
      dsimp only
      rw [lookI_upd]
      rw [List.take_succ_eq_append_getElem hi']
      by_cases hx : x = xs[i]
      · rw [if_pos (by rw [hx])]; simp [← hx]
      · rw [if_neg (by omega), hl]
        congr 1
        rw [decide_eq_decide]
        simp only [List.mem_append, List.mem_singleton, hx, or_false]
  · have hi' : i = xs.length := by omega
    subst hi'
    rw [List.take_length] at hn
    refine go_on ?_
    refine go_back ?_
    exact F.fin ⟨by simp [hn], rfl, rfl⟩

theorem none_c {v : Value} {xs : List Nat} (hx : xs.length ≤ 1000000) : Con Tryz.prog 71 [v] [] [] [Fact.sl v xs.length (xs.map u64V)] fun r T Φ => r = .bool (decide (∀ x, x ∈ xs → x = 0)) ∧ T = [] ∧ Φ = [] := by
  refine con_of (fun O0 w0 F => ?_)
  refine tidy F (fun F => ?_)
  refine fn_of _ Tryz.func71 rfl (by kernel_rfl) Tryz.ntmps71 rfl ?_
  obtain ⟨a, c, rfl, _⟩ := (F.sl (v := v) (cs := xs.map u64V)).form
  refine go_on ?_
  refine g_loop (X := Nat) (fun y => [(5, .slice a xs.length c), (6, .int .i64 xs.length), (7, .int .i64 y)])
    (fun y wr => ∃ O, Fr [] O0 w0 O wr [] [Fact.sl (.slice a xs.length c) xs.length (xs.map u64V)] ∧ y ≤ xs.length ∧ ∀ x, x ∈ xs.take y → x = 0) (fun y => xs.length - y) 0 (sub_cons rfl rfl (sub_cons rfl rfl (sub_cons rfl rfl (sub_nil)))) ⟨_, F, by simp, by simp⟩ ?_
  clear F
  rintro i w ⟨O, F, hi, hl⟩
  refine go_on ?_
  refine g_dec rfl (fun h => ?_) (fun h => ?_)
  · have hi' : i < xs.length := by omega
    refine go_on ?_
    obtain ⟨x, hx9, hc⟩ := ((F.sl (cs := xs.map u64V))).atm hi'
    (first | subst hx9 | (injection hx9 with hx9; subst hx9))
    have F := F.fact (f := Fact.cell _ _) hc
    refine go_on ?_
    refine g_ndec rfl (fun g => ?_) (fun g => ?_)
    · have : ¬ ∀ x, x ∈ xs → x = 0 := fun hx => g (by rw [hx _ (List.getElem_mem hi')]; rfl)
      refine go_on ?_
      refine go_back ?_
      exact F.fin ⟨by rw [decide_eq_false this], rfl, rfl⟩
    · refine go_on ?_
      refine e_round (i + 1) (sub_cons rfl rfl (sub_cons rfl rfl (sub_cons rfl rfl (sub_nil)))) ⟨_, F.wk, by omega, fun x hx => ?_⟩ (by omega)
      rw [List.take_succ_eq_append_getElem hi'] at hx
      rcases List.mem_append.1 hx with hx | hx
      · exact hl x hx
      · simp at hx; omega
  · have hi' : i = xs.length := by omega
    subst hi'
    rw [List.take_length] at hl
    refine go_on ?_
    refine go_back ?_
    exact F.fin ⟨by rw [decide_eq_true hl], rfl, rfl⟩

theorem check_c {n : Ino} {v : Value} (h : n.fit) : Con Tryz.prog 57 [inoV n v] [] [] [Fact.u32s v n.blocks] fun r T Φ => r = errV (if n.may then 0 else 1) ∧ T = [] ∧ Φ = [] := by
  obtain ⟨h1, h2, h3, h4, h5, h6, h7, h8, h9, h10⟩ := h
  refine con_of (fun O0 w0 F => ?_)
  refine tidy F (fun F => ?_)
  refine fn_of _ Tryz.func57 rfl (by kernel_rfl) Tryz.ntmps57 rfl ?_
  obtain ⟨a, c, rfl, _⟩ := (F.sl (v := v) (cs := n.blocks.map u32V)).form
  refine go_on ?_
  (first | refine f_box1 F rfl rfl (fun q w F => ?_) | refine f_boxN F rfl rfl (fun q w F => ?_)); refine go_on ?_
  by_cases g1 : n.kind ≤ 3
  · by_cases g2 : n.blocks.length ≤ 8
    · refine f_drawA F [] [(0, true), (1, true), (2, true), (3, true), (4, true), (5, true), (6, true), (7, true), (8, true), (9, true), (10, true), (11, true), (12, true), (13, true), (14, true), (15, true), (16, false), (17, true), (18, true), (19, true), (20, true), (21, true), (22, false), (23, true), (24, true)] (by kernel_rfl) (by kernel_rfl) (fun w F hS => ?_); refine go_look ?_
      refine rd_do rfl ?_
      (try refine r_go rfl rfl ?_)
      refine f_call F rfl rfl need_c ?_
      clear F; rintro r O w T Φ ⟨rfl, rfl, rfl⟩ F0
      refine tidy F0 (fun F => ?_); clear F0
      refine r_nil ?_; refine e_afterF F (fun hS => ?_); refine go_look ?_
      by_cases g3 : n.blocks.length = needN n.size
      · refine go_look ?_
        refine rd_do rfl ?_
        (try refine r_go rfl rfl ?_)
        refine f_call F rfl rfl once_c ?_
        clear F; rintro r O w T Φ ⟨rfl, rfl, rfl⟩ F0
        refine tidy F0 (fun F => ?_); clear F0
        refine r_nil ?_; refine e_afterF F (fun hS => ?_); refine go_look ?_
        refine rd_done ?_; refine go_on ?_
        by_cases g4 : n.blocks.Nodup
        · by_cases g5 : n.kind = 0
          · refine go_on ?_
            refine f_buildSlice (cs := [_, _, _, _, _]) F rfl rfl rfl rfl (fun q w F => ?_); refine go_on ?_
            obtain ⟨O, F⟩ := F.frzSl (Nat.le_refl 5)
            refine f_call F rfl rfl (none_c (xs := [n.links, n.mode, n.size, n.cookie, n.verf])) ?_
            clear F; rintro r O w T Φ ⟨rfl, rfl, rfl⟩ F0
            refine tidy F0 (fun F => ?_); clear F0
            refine go_on ?_
            by_cases g6 : ∀ x, x ∈ [n.links, n.mode, n.size, n.cookie, n.verf] → x = 0
            · have hm : n.may := ⟨g1, g2, g3, g4, by rw [if_pos g5]; simpa using g6⟩
              rw [if_pos hm]
              refine go_on ?_
              refine go_back ?_
              exact F.fin ⟨rfl, rfl, rfl⟩
            · have hm : ¬ n.may := by rintro ⟨_, _, _, _, hm⟩; rw [if_pos g5] at hm; exact g6 (by simpa using hm)
              rw [if_neg hm]
              refine go_on ?_
              refine go_back ?_
              exact F.fin ⟨rfl, rfl, rfl⟩
          · by_cases g6 : 1 ≤ n.links
            · have hm : n.may := ⟨g1, g2, g3, g4, by rw [if_neg g5]; exact g6⟩
              rw [if_pos hm]
              refine go_on ?_
              refine go_back ?_
              exact F.fin ⟨rfl, rfl, rfl⟩
            · have hm : ¬ n.may := by rintro ⟨_, _, _, _, hm⟩; rw [if_neg g5] at hm; exact g6 hm
              rw [if_neg hm]
              refine go_on ?_
              refine go_back ?_
              exact F.fin ⟨rfl, rfl, rfl⟩
        · have hm : ¬ n.may := fun ⟨_, _, _, hm, _⟩ => g4 hm
          rw [if_neg hm]
          by_cases g5 : n.kind = 0
          all_goals
            refine go_on ?_
            refine go_back ?_
            exact F.fin ⟨rfl, rfl, rfl⟩
      · have hm : ¬ n.may := fun ⟨_, _, hm, _⟩ => g3 hm
        rw [if_neg hm]
        refine go_look ?_
        refine rd_do rfl ?_; (first | refine r_pass rfl rfl rfl ?_ | refine r_passu rfl rfl rfl ?_); refine r_nil ?_; refine e_afterF F (fun hS => ?_); refine go_look ?_
        refine rd_done ?_; refine go_on ?_
        by_cases g5 : n.kind = 0
        all_goals
          refine go_on ?_
          refine go_back ?_
          exact F.fin ⟨rfl, rfl, rfl⟩
    · have hm : ¬ n.may := fun ⟨_, hm, _⟩ => g2 hm
      rw [if_neg hm]
      refine f_drawA F [] [(0, true), (1, true), (2, true), (3, true), (4, true), (5, true), (6, true), (7, true), (8, true), (9, true), (10, true), (11, true), (12, true), (13, true), (14, true), (15, true), (16, false), (17, true), (18, true), (19, true), (20, true), (21, true), (22, false), (23, true), (24, true)] (by kernel_rfl) (by kernel_rfl) (fun w F hS => ?_); refine go_look ?_
      refine rd_do rfl ?_; (first | refine r_pass rfl rfl rfl ?_ | refine r_passu rfl rfl rfl ?_); refine r_nil ?_; refine e_afterF F (fun hS => ?_); refine go_look ?_
      refine rd_do rfl ?_; (first | refine r_pass rfl rfl rfl ?_ | refine r_passu rfl rfl rfl ?_); refine r_nil ?_; refine e_afterF F (fun hS => ?_); refine go_look ?_
      refine rd_done ?_; refine go_on ?_
      by_cases g5 : n.kind = 0
      all_goals
        refine go_on ?_
        refine go_back ?_
        exact F.fin ⟨rfl, rfl, rfl⟩
  · have hm : ¬ n.may := fun ⟨hm, _⟩ => g1 hm
    rw [if_neg hm]
    refine f_drawA F [] [(0, true), (1, true), (2, true), (3, true), (4, true), (5, true), (6, true), (7, true), (8, true), (9, true), (10, true), (11, true), (12, true), (13, true), (14, true), (15, true), (16, false), (17, true), (18, true), (19, true), (20, true), (21, true), (22, false), (23, true), (24, true)] (by kernel_rfl) (by kernel_rfl) (fun w F hS => ?_); refine go_look ?_
    refine rd_do rfl ?_; (first | refine r_pass rfl rfl rfl ?_ | refine r_passu rfl rfl rfl ?_); refine r_nil ?_; refine e_afterF F (fun hS => ?_); refine go_look ?_
    refine rd_do rfl ?_; (first | refine r_pass rfl rfl rfl ?_ | refine r_passu rfl rfl rfl ?_); refine r_nil ?_; refine e_afterF F (fun hS => ?_); refine go_look ?_
    refine rd_done ?_; refine go_on ?_
    refine go_back ?_
    exact F.fin ⟨rfl, rfl, rfl⟩

theorem empty_c {n : Ino} {v : Value} (h : n.fit) : Con Tryz.prog 58 [inoV n v] [] [] [Fact.u32s v n.blocks] fun r T Φ => r = .bool (decide n.none) ∧ T = [] ∧ Φ = [] := by
  obtain ⟨h1, h2, h3, h4, h5, h6, h7, h8, h9, h10⟩ := h
  refine con_of (fun O0 w0 F => ?_)
  refine tidy F (fun F => ?_)
  refine fn_of _ Tryz.func58 rfl (by kernel_rfl) Tryz.ntmps58 rfl ?_
  obtain ⟨a, c, rfl, _⟩ := (F.sl (v := v) (cs := n.blocks.map u32V)).form
  refine go_on ?_
  (first | refine f_box1 F rfl rfl (fun q w F => ?_) | refine f_boxN F rfl rfl (fun q w F => ?_)); refine go_on ?_
  refine f_buildSlice (cs := [_, _, _, _, _, _, _, _]) F rfl rfl rfl rfl (fun q w F => ?_); refine go_on ?_
  obtain ⟨O, F⟩ := F.frzSl (Nat.le_refl 8)
  refine f_call F rfl rfl (none_c (xs := [n.kind, n.gen, n.links, n.mode, n.size, n.change, n.cookie, n.verf])) ?_
  clear F; rintro r O w T Φ ⟨rfl, rfl, rfl⟩ F0
  refine tidy F0 (fun F => ?_); clear F0
  refine go_on ?_
  by_cases g : ∀ x, x ∈ [n.kind, n.gen, n.links, n.mode, n.size, n.change, n.cookie, n.verf] → x = 0
  · refine go_on ?_
    refine go_back ?_
    refine F.fin ⟨?_, rfl, rfl⟩
    congr 1
    simp only [List.mem_cons, List.not_mem_nil, or_false, forall_eq_or_imp, forall_eq] at g
    obtain ⟨g1, g2, g3, g4, g5, g6, g7, g8⟩ := g
    rw [decide_eq_decide]
    simp [Ino.none, *]
  · refine go_on ?_
    refine go_back ?_
    refine F.fin ⟨?_, rfl, rfl⟩
    rw [decide_eq_false]
    rintro ⟨g1, g2, g3, g4, g5, g6, g7, g8, g9⟩
    exact g (by simp [*])

theorem puts_c {p : Nat} {u v : Value} {bs : List UInt8} {xs : List Nat} (h : bs.length ≤ 35184372088832 ∧ xs.length ≤ 1000000 ∧ ∀ x, x ∈ xs → x < 4294967296) :
    Con Tryz.prog 78 [ptr p, u] [Wr p v bs] [] [Fact.u32s u xs] fun r T Φ => ∃ v', r = .tuple #[] ∧ T = [Wr p v' (bs ++ nB 4 xs)] ∧ Φ = [] := by
  obtain ⟨h1, h2, h3⟩ := h
  refine con_of (fun O0 w0 F => ?_)
  refine tidy F (fun F => ?_)
  refine fn_of _ Tryz.func78 rfl (by kernel_rfl) Tryz.ntmps78 rfl ?_
  obtain ⟨a, c, rfl, _⟩ := (F.sl (v := u) (cs := xs.map u32V)).form
  refine go_on ?_
  refine g_loop (X := Nat × Value) (fun y => [(0, ptr p), (6, .slice a xs.length c), (7, .int .i64 xs.length), (8, .int .i64 y.1)])
    (fun y wr => ∃ O, Fr ([Wr p v bs].flatMap (·.bs)) O0 w0 O wr [(1, Wr p y.2 (bs ++ nB 4 (xs.take y.1)))] [Fact.u32s (.slice a xs.length c) xs] ∧ y.1 ≤ xs.length) (fun y => xs.length - y.1) (0, v) (sub_cons rfl rfl (sub_cons rfl rfl (sub_cons rfl rfl (sub_cons rfl rfl (sub_nil))))) ⟨_, by rw [show bs ++ nB 4 (xs.take 0) = bs from by simp [nB]]; exact F, Nat.zero_le _⟩ ?_
  clear F
  rintro ⟨i, v'⟩ w ⟨O, F, hi⟩
  dsimp only at F hi ⊢
  refine go_on ?_
  refine g_dec rfl (fun h => ?_) (fun h => ?_)
  · have hi' : i < xs.length := by omega
    have hx := h3 xs[i] (List.getElem_mem hi')
    have hlen := nB_len 4 (xs.take i)
    rw [List.length_take] at hlen
    refine go_on ?_
    obtain ⟨x, hx9, hc⟩ := ((F.sl (cs := xs.map u32V))).atm hi'
    (first | subst hx9 | (injection hx9 with hx9; subst hx9))
    have F := F.fact (f := Fact.cell _ _) hc
    refine go_on ?_
    refine f_call F rfl rfl u32_c ?_
    clear F; rintro r O w T Φ ⟨v, rfl, rfl, rfl⟩ F0
    refine tidy F0 (fun F => ?_); clear F0
    refine go_on ?_
    exact e_round (i + 1, v) (sub_cons rfl rfl (sub_cons rfl rfl (sub_cons rfl rfl (sub_cons rfl rfl (sub_nil))))) ⟨_, by rw [nB_take 4 xs i hi', ← List.append_assoc]; exact F.wk, by simp only; omega⟩ (by simp only; omega)
  · have hi' : i = xs.length := by omega
    subst hi'
    rw [List.take_length] at F
    refine go_on ?_
    refine go_back ?_
    exact F.fin ⟨_, rfl, rfl, rfl⟩

theorem Ino.bytes_len (n : Ino) : n.bytes.length = 48 + 4 * n.blocks.length := by
  simp only [Ino.bytes, List.length_append, nB_len, be_length, List.length_cons, List.length_nil]

theorem inoPut_c {n : Ino} {v : Value} (h : n.fit) : Con Tryz.prog 66 [inoV n v] [] [] [Fact.u32s v n.blocks] fun r T Φ => ∃ u, r = .tuple #[u, errV (if n.may then 0 else 1)] ∧ T = [] ∧ Φ = [Fact.bytes u (if n.may ∧ ¬ n.none then n.bytes else [])] := by
  have hf := h
  have hlen := n.bytes_len
  obtain ⟨h1, h2, h3, h4, h5, h6, h7, h8, h9, h10⟩ := h
  refine con_of (fun O0 w0 F => ?_)
  refine tidy F (fun F => ?_)
  refine fn_of _ Tryz.func66 rfl (by kernel_rfl) Tryz.ntmps66 rfl ?_
  obtain ⟨a, c, rfl, _⟩ := (F.sl (v := v) (cs := n.blocks.map u32V)).form
  refine go_on ?_
  (first | refine f_box1 F rfl rfl (fun q w F => ?_) | refine f_boxN F rfl rfl (fun q w F => ?_)); refine go_on ?_
  refine f_call F rfl rfl (check_c (n := n)) ?_
  clear F; rintro r O w T Φ ⟨rfl, rfl, rfl⟩ F0
  refine tidy F0 (fun F => ?_); clear F0
  refine go_on ?_
  by_cases g : n.may
  · rw [if_pos g]
    refine go_on ?_
    refine f_call F rfl rfl (empty_c (n := n)) ?_
    clear F; rintro r O w T Φ ⟨rfl, rfl, rfl⟩ F0
    refine tidy F0 (fun F => ?_); clear F0
    refine go_on ?_
    by_cases g2 : n.none
    · have e : ¬ (n.may ∧ ¬ n.none) := fun h => h.2 g2
      rw [if_neg e]
      refine go_on ?_
      refine go_back ?_
      exact (F.factB Bytes.nil).fin ⟨_, rfl, rfl, rfl⟩
    · have e : n.may ∧ ¬ n.none := ⟨g, g2⟩
      rw [if_pos e]
      refine go_on ?_
      refine f_call F rfl rfl newWriter_c ?_
      clear F; rintro r O w T Φ ⟨p, rfl, rfl, rfl⟩ F0
      refine tidy F0 (fun F => ?_); clear F0
      refine go_on ?_
      refine f_buildSlice (cs := [_, _, _, _, _]) F rfl rfl rfl rfl (fun q w F => ?_); refine go_on ?_
      obtain ⟨O, F⟩ := F.frzSl (Nat.le_refl 5)
      refine f_call F rfl rfl (puts_c (xs := [n.kind, n.gen, n.links, n.mode, n.size])) ?_
      clear F; rintro r O w T Φ ⟨v1, rfl, rfl, rfl⟩ F0
      refine tidy F0 (fun F => ?_); clear F0
      refine go_on ?_
      refine f_buildSlice (cs := [_, _, _]) F rfl rfl rfl rfl (fun q w F => ?_); refine go_on ?_
      refine g_unroll 5 ?_; refine go_on ?_
      refine f_call F rfl rfl u64_c ?_
      clear F; rintro r O w T Φ ⟨v1, rfl, rfl, rfl⟩ F0
      refine tidy F0 (fun F => ?_); clear F0
      refine go_on ?_
      refine f_call F rfl rfl u64_c ?_
      clear F; rintro r O w T Φ ⟨v1, rfl, rfl, rfl⟩ F0
      refine tidy F0 (fun F => ?_); clear F0
      refine go_on ?_
      refine f_call F rfl rfl u64_c ?_
      clear F; rintro r O w T Φ ⟨v1, rfl, rfl, rfl⟩ F0
      refine tidy F0 (fun F => ?_); clear F0
      refine go_on ?_
      refine f_buildSlice (cs := [_]) F rfl rfl rfl rfl (fun q w F => ?_); refine go_on ?_
      obtain ⟨O, F⟩ := F.frzSl (Nat.le_refl 1)
      refine f_call F rfl rfl (puts_c (xs := [n.blocks.length])) ?_
      clear F; rintro r O w T Φ ⟨v1, rfl, rfl, rfl⟩ F0
      refine tidy F0 (fun F => ?_); clear F0
      refine go_on ?_
      refine f_call F rfl rfl (puts_c (xs := n.blocks)) ?_
      clear F; rintro r O w T Φ ⟨v1, rfl, rfl, rfl⟩ F0
      refine tidy F0 (fun F => ?_); clear F0
      refine go_on ?_
      refine f_call F rfl rfl out_c ?_
      clear F; rintro r O w T Φ ⟨rfl, rfl⟩ F0
      refine tidy F0 (fun F => ?_); clear F0
      refine go_on ?_
      refine go_back ?_
      have hb : nB 4 [n.kind, n.gen, n.links, n.mode, n.size] ++ be 8 n.change ++ be 8 n.cookie ++ be 8 n.verf ++ nB 4 [n.blocks.length] ++ nB 4 n.blocks = n.bytes := by simp [Ino.bytes, nB]
      rw [hb] at F
      exact F.fin ⟨_, rfl, rfl, rfl⟩
  · have e : ¬ (n.may ∧ ¬ n.none) := fun h => g h.1
    rw [if_neg g, if_neg e]
    refine go_on ?_
    refine go_back ?_
    exact (F.factB Bytes.nil).fin ⟨_, rfl, rfl, rfl⟩

end Go.Proofs.YtcfpnghkkkphhaaGreat
