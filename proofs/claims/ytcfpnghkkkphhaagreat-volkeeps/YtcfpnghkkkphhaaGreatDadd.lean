/- An entry is added. -/
import Derived.Test.YtcfpnghkkkphhaaGreatDir
import Derived.Test.YtcfpnghkkkphhaaGreatNames
namespace Go.Proofs.YtcfpnghkkkphhaaGreat
open Gk Go
set_option linter.unusedVariables false
set_option maxHeartbeats 4000000
set_option maxRecDepth 4000
set_option linter.unusedSimpArgs false
attribute [local irreducible] Int.decLt Int.decLe Int.decEq Int.instDecidableEq Gk.Rnds Gk.E Gk.G Gk.R Gk.RD Gk.RX Gk.RO Gk.Y Gk.Ent Gk.Sat Gk.Round Gk.After Gk.Cell Gk.Sl Gk.SlA Gk.CB Gk.OK Gk.FnC Gk.Bytes Gk.BytesL Gk.StrL Gk.Buf Gk.MapI
theorem rowsE {rows : List (List Value)} {l : List En} {O : List Nat} {w : World} (h : All2 (EnR.φ O w) rows l) : ∀ u ∈ rows.flatten, u.oneCell' = true := by
  induction rows generalizing l with
  | nil => intro u hu; cases hu
  | cons r rs ih =>
    cases l with
    | nil => cases h
    | cons e es =>
      obtain ⟨h1, h2⟩ := h
      intro u hu
      rw [List.flatten_cons, List.mem_append] at hu
      rcases hu with hu | hu
      · have h1 : r = [.int .u64 e.cookie, .int .u32 e.ino, .int .u32 e.gen, str e.name] := h1
        subst h1
        simp only [List.mem_cons, List.not_mem_nil, or_false] at hu
        rcases hu with rfl | rfl | rfl | rfl <;> rfl
      · exact ih h2 u hu
theorem flat_rows {rows : List (List Value)} {l : List En} {O : List Nat} {w : World} (h : ∀ row, row ∈ rows → row.length = 4) (h2 : All2 (EnR.φ O w) rows l) : rows.flatten.length = l.length * 4 := by
  induction rows generalizing l with
  | nil =>
    cases l with
    | nil => rfl
    | cons e es => exact h2.elim
  | cons r rs ih =>
    cases l with
    | nil => exact h2.elim
    | cons e es =>
      have := ih (fun row hr => h row (List.mem_cons_of_mem _ hr)) h2.2
      rw [List.flatten_cons, List.length_append, this, h r List.mem_cons_self, List.length_cons]
      omega
theorem declone_c {v : Value} {l : List En} (h : l.length ≤ 1000000) : Con Tryz.prog 96 [v] [] [] [Fact.rel 4 EnR v l] fun r T Φ => ∃ rows, T = [Thing.buf 4 r l.length rows.flatten] ∧ Φ = [Fact.all 4 EnR rows l] := by
  refine con_of (fun O0 w0 F => ?_)
  refine tidy F (fun F => ?_)
  refine fn_of _ Tryz.func96 rfl (by kernel_rfl) Tryz.ntmps96 rfl ?_
  obtain ⟨rows, hsl, hall, hlen⟩ := F.rel (v := v) (R := EnR) (ys := l)
  have F := (F.fact (f := Fact.sl v l.length rows.flatten) hsl).fact (f := Fact.all 4 EnR rows l) ⟨hall, hlen⟩
  have hone := rowsE hall
  obtain ⟨a, c, rfl, _⟩ := (F.rel (v := v) (R := EnR) (ys := l)).form
  cases a with
  | none =>
    have h0 : l.length = 0 := by
      have hsl2 := hsl
      unfold Sl at hsl2
      rcases hsl2 with ⟨e, h1, _⟩ | ⟨x, cap, e, _⟩
      · omega
      · injection e with e1 e2 e3
        cases e1
    have hr : rows = [] := by
      cases rows with
      | nil => rfl
      | cons r rs =>
        cases l with
        | nil => exact hall.elim
        | cons e es => cases h0
    refine go_on ?_
    have F := F.nilbuf 4
    refine go_back ?_
    exact F.fin ⟨rows, by rw [h0, hr], rfl⟩
  | some x =>
    refine go_on ?_
    refine f_buildSlice (cs := []) F rfl rfl rfl rfl (fun q w F => ?_)
    refine go_on ?_
    have F := F.asBuf (sz := 4) (m := 0) Sel.here rfl (by decide)
    refine f_append F rfl rfl rfl ((F.srcSl (m := l.length) (cs := rows.flatten) (hl := flat_rows hlen hall) (hv := hone))) (fun r w O F => ?_); refine go_on ?_
    refine go_back ?_
    rw [Nat.zero_add, List.nil_append] at F
    exact F.fin ⟨rows, rfl, rfl⟩
def addE (l : List En) (e : En) : Nat := if nameOk e.name then (if 0 ≤ findE l e.name then 61 else if e.cookie ≤ lastC l then 70 else 0) else 67
def enV (e : En) : Value := .agg #[.int .u64 e.cookie, .int .u32 e.ino, .int .u32 e.gen, str e.name]
theorem dadd_c {v : Value} {l : List En} {e : En} (h : l.length ≤ 100000 ∧ e.name.length ≤ 9223372036854775807) : Con Tryz.prog 89 [v, enV e] [] [] [Fact.rel 4 EnR v l] fun r T Φ => ∃ u, r = .tuple #[u, .int .i64 (addE l e)] ∧ T = [] ∧ Φ = [Fact.rel 4 EnR u (if addE l e = 0 then l ++ [e] else [])] := by
  obtain ⟨hl, hnl⟩ := h
  refine con_of (fun O0 w0 F => ?_)
  refine tidy F (fun F => ?_)
  refine fn_of _ Tryz.func89 rfl (by kernel_rfl) Tryz.ntmps89 rfl ?_
  obtain ⟨a, c, rfl, _⟩ := (F.rel (v := v) (R := EnR) (ys := l)).form
  have F := F.fact (f := Fact.rel 4 EnR (.slice none 0 0) ([] : List En)) SlR.nil
  refine go_on ?_
  (first | refine f_box1 F rfl rfl (fun q3 w F => ?_) | refine f_boxN F rfl rfl (fun q3 w F => ?_)); refine go_on ?_
  refine go_on ?_
  refine f_call F rfl rfl (dname_c (s := e.name)) ?_ (hp := hnl)
  clear F; rintro r O w T Φ ⟨rfl, rfl, rfl⟩ F0
  refine tidy F0 (fun F => ?_); clear F0
  by_cases n1 : nameOk e.name
  · rw [if_pos n1]
    refine go_on ?_
    refine f_call F rfl rfl (dfind_c (l := l) (nm := e.name)) ?_ (hp := (by omega))
    clear F; rintro r O w T Φ ⟨rfl, rfl, rfl⟩ F0
    refine tidy F0 (fun F => ?_); clear F0
    by_cases n2 : 0 ≤ findE l e.name
    · have e1 : addE l e = 61 := by unfold addE; rw [if_pos n1, if_pos n2]
      rw [e1]
      refine go_on ?_
      refine go_back ?_
      exact F.fin ⟨_, rfl, rfl, rfl⟩
    · refine go_on ?_
      refine f_draw [(2, Thing.cells q3 _)] F [] [(0, true), (1, true), (2, true), (3, false), (4, true), (5, true)] (by kernel_rfl) (by kernel_rfl) (fun w F hS => ?_); refine go_look ?_
      refine rd_do rfl ?_
      (try refine r_go rfl rfl ?_)
      refine f_call F rfl rfl (dlast_c (l := l)) ?_ (hp := (by omega))
      clear F; rintro r O w T Φ ⟨rfl, rfl, rfl⟩ F0
      refine tidy F0 (fun F => ?_); clear F0
      refine r_nil ?_; refine e_afterF F (fun hS => ?_); refine go_look ?_
      refine rd_done ?_; refine go_on ?_
      by_cases n3 : e.cookie ≤ lastC l
      · have e1 : addE l e = 70 := by unfold addE; rw [if_pos n1, if_neg n2, if_pos n3]
        rw [e1]
        refine go_on ?_
        refine go_back ?_
        exact F.fin ⟨_, rfl, rfl, rfl⟩
      · have e1 : addE l e = 0 := by unfold addE; rw [if_pos n1, if_neg n2, if_neg n3]
        rw [e1]
        refine go_on ?_
        refine f_draw [(2, Thing.cells q3 _)] F [] [(0, true), (2, true), (7, true), (7, true), (7, true), (7, true), (7, true)] (by kernel_rfl) (by kernel_rfl) (fun w F hS => ?_); refine go_look ?_
        refine rd_fork (i := 1) (j := 3) (Li := [(3, false), (4, false), (5, true), (6, true)]) (Lj := [(1, false), (4, false), (5, true), (6, true)]) rfl rfl (by kernel_rfl) rfl rfl (by kernel_rfl) (by kernel_rfl) ?_ ?_
        · refine f_call F rfl rfl (declone_c (l := l)) ?_ (hp := (by omega))
          clear F; rintro r O w T Φ ⟨rows, rfl, rfl⟩ F0
          refine tidy F0 (fun F => ?_); clear F0
          (try refine r_nil ?_); refine e_afterF F (fun hS => ?_); refine go_look ?_
          refine rd_do rfl ?_; (try refine r_go rfl rfl ?_)
          refine f_buildSlice (cs := [.int .u64 e.cookie, .int .u32 e.ino, .int .u32 e.gen, str e.name]) F rfl rfl rfl rfl (fun q8 w F => ?_)
          (try refine r_nil ?_); refine e_afterF F (fun hS => ?_); refine go_look ?_
          refine rd_do rfl ?_; (try refine r_go rfl rfl ?_)
          refine f_append F rfl rfl rfl F.srcRow (fun r w O F => ?_)
          (try refine r_nil ?_); refine e_afterF F (fun hS => ?_); refine go_look ?_
          refine rd_done ?_; refine go_on ?_
          have F := F.allSnoc (R := EnR) (y := e) (row := [.int .u64 e.cookie, .int .u32 e.ino, .int .u32 e.gen, str e.name]) rfl rfl
          have e8 : rows.flatten ++ [Value.int .u64 e.cookie, .int .u32 e.ino, .int .u32 e.gen, str e.name] = (rows ++ [[Value.int .u64 e.cookie, .int .u32 e.ino, .int .u32 e.gen, str e.name]]).flatten := (flat_snoc _ _).symm
          have e9 : l.length + 1 = (l ++ [e]).length := by rw [List.length_append]; rfl
          rw [e8, e9] at F
          obtain ⟨O, F⟩ := F.frzRel (R := EnR) rfl
          refine go_back ?_
          exact F.fin ⟨_, rfl, rfl, rfl⟩
        · refine f_buildSlice (cs := [.int .u64 e.cookie, .int .u32 e.ino, .int .u32 e.gen, str e.name]) F rfl rfl rfl rfl (fun q8 w F => ?_)
          (try refine r_nil ?_); refine e_afterF F (fun hS => ?_); refine go_look ?_
          refine rd_do rfl ?_; (try refine r_go rfl rfl ?_)
          refine f_call F rfl rfl (declone_c (l := l)) ?_ (hp := (by omega))
          clear F; rintro r O w T Φ ⟨rows, rfl, rfl⟩ F0
          refine tidy F0 (fun F => ?_); clear F0
          (try refine r_nil ?_); refine e_afterF F (fun hS => ?_); refine go_look ?_
          refine rd_do rfl ?_; (try refine r_go rfl rfl ?_)
          refine f_append F rfl rfl rfl F.srcRow (fun r w O F => ?_)
          (try refine r_nil ?_); refine e_afterF F (fun hS => ?_); refine go_look ?_
          refine rd_done ?_; refine go_on ?_
          have F := F.allSnoc (R := EnR) (y := e) (row := [.int .u64 e.cookie, .int .u32 e.ino, .int .u32 e.gen, str e.name]) rfl rfl
          have e8 : rows.flatten ++ [Value.int .u64 e.cookie, .int .u32 e.ino, .int .u32 e.gen, str e.name] = (rows ++ [[Value.int .u64 e.cookie, .int .u32 e.ino, .int .u32 e.gen, str e.name]]).flatten := (flat_snoc _ _).symm
          have e9 : l.length + 1 = (l ++ [e]).length := by rw [List.length_append]; rfl
          rw [e8, e9] at F
          obtain ⟨O, F⟩ := F.frzRel (R := EnR) rfl
          refine go_back ?_
          exact F.fin ⟨_, rfl, rfl, rfl⟩
  · have e1 : addE l e = 67 := by unfold addE; rw [if_neg n1]
    rw [if_neg n1, e1]
    refine go_on ?_
    refine go_back ?_
    exact F.fin ⟨_, rfl, rfl, rfl⟩
end Go.Proofs.YtcfpnghkkkphhaaGreat
