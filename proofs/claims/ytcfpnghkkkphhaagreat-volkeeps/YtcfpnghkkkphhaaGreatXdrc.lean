/- The contracts of xdr, for a frame. -/
import Derived.Test.YtcfpnghkkkphhaaGreatXdrp
import Derived.Test.YtcfpnghkkkphhaaGreatGkGo
namespace Go.Proofs.YtcfpnghkkkphhaaGreat
open Gk Go
set_option linter.unusedVariables false
attribute [local irreducible] Gk.E Gk.G Gk.R Gk.RD Gk.Y Gk.Ent Gk.Sat Gk.Round Gk.After Gk.Cell Gk.Sl Gk.SlA Gk.CB Gk.OK Gk.FnC Gk.Bytes Gk.BytesL Gk.StrL Gk.Buf Gk.MapI

def ptr (p : Nat) : Value := .pointer (some ⟨p, 0, none⟩)

/-- A writer that has put these bytes. -/
def Wr (p : Nat) (v : Value) (bs : List UInt8) : Thing := ⟨p :: blk v, fun O w => WrAt O w p v bs, fun s hn h => h.step s (hn p (by simp)) (fun q hq => hn q (by simp [hq])), fun hs hb h => ⟨hb p (by simp), h.cb, h.bu, fun q hq => ⟨hb q (by simp [hq]), (h.bo q hq).2⟩⟩⟩
/-- A reader that has these bytes left, and this first error. -/
def Rd (p : Nat) (bs : List UInt8) (e : Nat) : Thing := ⟨[p], fun O w => RdAt O w p bs e, fun s hn h => h.step s (hn p (by simp)), fun hs hb h => ⟨hb p (by simp), by obtain ⟨v, h1, h2⟩ := h.mem; exact ⟨v, h1, h2.sub hs⟩⟩⟩

theorem newWriter_c (h : True) : Con Tryz.prog 26 [] [] [] [] fun r T Φ => ∃ p, r = ptr p ∧ T = [Wr p (.slice none 0 0) []] ∧ Φ = [] :=
  con0 (fun O w hO _ => newWriter_ok hO) fun O w r O' w' hO s ⟨p, h1, h2, h3, h4⟩ => ⟨_, _, ⟨p, h1, rfl, rfl⟩, left1 h4 fun b hb => by
    simp [Wr, blk] at hb; subst hb; subst h2; exact ⟨by simp, .inr h3⟩⟩

theorem put_c {f : FuncId} {args : List Value} {p : Nat} {v : Value} {bs bs' : List UInt8} {Fs : List Fact}
    (h : ∀ O w, OK O w → WrAt O w p v bs → (∀ f, f ∈ Fs → f.φ O w) → FnC Tryz.prog f args O (p :: blk v) w (PutK O p (blk v) w bs')) :
    Con Tryz.prog f args [Wr p v bs] [] Fs fun r T Φ => ∃ v', r = .tuple #[] ∧ T = [Wr p v' bs'] ∧ Φ = [] :=
  con1 (fun O w hO ht hF => h O w hO ht hF) fun O w r O' w' hO s hbs ⟨v', h1, h2, h3⟩ => ⟨_, _, ⟨v', h1, rfl, rfl⟩, left1 h2 fun b hb => by
    rcases List.mem_cons.1 hb with rfl | hb
    · exact ⟨h2.pO, .inl (by simp [Wr])⟩
    · refine ⟨(h2.bo b hb).1, (h3 b hb).imp (fun h => by simp [Wr, h]) id⟩⟩

theorem u32_c {p x : Nat} {v : Value} {bs : List UInt8} (h : x < 4294967296 ∧ bs.length ≤ 70368744177664) :
    Con Tryz.prog 84 [ptr p, .int .u32 x] [Wr p v bs] [] [] fun r T Φ => ∃ v', r = .tuple #[] ∧ T = [Wr p v' (bs ++ be 4 x)] ∧ Φ = [] :=
  put_c fun O w hO ht _ => u32_ok hO ht h.1 h.2
theorem u64_c {p x : Nat} {v : Value} {bs : List UInt8} (h : x < 18446744073709551616 ∧ bs.length ≤ 70368744177664) :
    Con Tryz.prog 27 [ptr p, .int .u64 x] [Wr p v bs] [] [] fun r T Φ => ∃ v', r = .tuple #[] ∧ T = [Wr p v' (bs ++ be 8 x)] ∧ Φ = [] :=
  put_c fun O w hO ht _ => u64_ok hO ht h.1 h.2
theorem out_c {p : Nat} {v : Value} {bs : List UInt8} (h : bs.length ≤ 140737488355328) :
    Con Tryz.prog 28 [ptr p] [] [Wr p v bs] [] fun r T Φ => T = [] ∧ Φ = [Fact.bytes r bs] :=
  conB (fun O w hO ht _ => out_ok hO ht h) fun O w r O' w' hO s ⟨h1, h2⟩ => ⟨_, _, ⟨rfl, rfl⟩, leftF (by subst h1; exact Sl.bytes (h2.sl fun q hq => fresh_nin hO hq))⟩

/-- The same, as the caller's own. -/
theorem outB_c {p : Nat} {v : Value} {bs : List UInt8} (h : bs.length ≤ 140737488355328) :
    Con Tryz.prog 28 [ptr p] [] [Wr p v bs] [] fun r T Φ => T = [Thing.buf 1 r bs.length (bytesV bs)] ∧ Φ = [] :=
  conB_buf fun O w hO ht _ => (out_ok hO ht h)

/-! #### nil writers -/
theorem u32n_c {x : Int} (h : True) : Con Tryz.prog 84 [.pointer none, .int .u32 x] [] [] [] fun r T Φ => r = .tuple #[] ∧ T = [] ∧ Φ = [] :=
  con0 (fun O w hO _ => u32_none hO) fun O w r O' w' hO s ⟨h1, h2⟩ => ⟨_, _, ⟨h1, rfl, rfl⟩, left0⟩
theorem outn_c (h : True) : Con Tryz.prog 28 [.pointer none] [] [] [] fun r T Φ => r = .slice none 0 0 ∧ T = [] ∧ Φ = [] :=
  con0 (fun O w hO _ => out_none hO) fun O w r O' w' hO s ⟨h1, h2⟩ => ⟨_, _, ⟨h1, rfl, rfl⟩, left0⟩

/-! #### readers -/
theorem newReader_c {v : Value} {bs : List UInt8} (h : bs.length ≤ 140737488355328) :
    Con Tryz.prog 29 [v] [] [] [Fact.bytes v bs] fun r T Φ => ∃ p, r = ptr p ∧ T = [Rd p bs 0] ∧ Φ = [] :=
  con0 (fun O w hO hF => newReader_ok hO (hF (Fact.bytes v bs) (by simp)) h) fun O w r O' w' hO s ⟨p, h1, h2, h3, h4⟩ => ⟨_, _, ⟨p, h1, rfl, rfl⟩, left1 h4 fun b hb => by
    simp [Rd] at hb; subst hb; subst h2; exact ⟨by simp, .inr h3⟩⟩

theorem rdr_c {f : FuncId} {args : List Value} {p e e' : Nat} {bs bs' : List UInt8} {x : Value}
    (h : ∀ O w, OK O w → RdAt O w p bs e → FnC Tryz.prog f args O [p] w fun r O' w' => O = O' ∧ r = x ∧ RdAt O w' p bs' e') :
    Con Tryz.prog f args [Rd p bs e] [] [] fun r T Φ => r = x ∧ T = [Rd p bs' e'] ∧ Φ = [] :=
  con1 (fun O w hO ht _ => h O w hO ht) fun O w r O' w' hO s hbs ⟨h1, h2, h3⟩ => ⟨_, _, ⟨h2, rfl, rfl⟩, left1 (by subst h1; exact h3) fun b hb => by
    subst h1; simp [Rd] at hb; subst hb; exact ⟨h3.pO, .inl (by simp [Rd])⟩⟩

theorem ru32_c {p e : Nat} {bs : List UInt8} (h : True) : Con Tryz.prog 56 [ptr p] [Rd p bs e] [] [] fun r T Φ => r = .int .u32 (rdN bs e 4).1 ∧ T = [Rd p (rdN bs e 4).2.1 (rdN bs e 4).2.2] ∧ Φ = [] :=
  rdr_c fun O w hO ht => ru32_ok hO ht
theorem ru64_c {p e : Nat} {bs : List UInt8} (h : True) : Con Tryz.prog 30 [ptr p] [Rd p bs e] [] [] fun r T Φ => r = .int .u64 (rdN bs e 8).1 ∧ T = [Rd p (rdN bs e 8).2.1 (rdN bs e 8).2.2] ∧ Φ = [] :=
  rdr_c fun O w hO ht => ru64_ok hO ht
theorem ropaque_c {p e : Nat} {bs : List UInt8} {most : Int} (h : most ≤ 9223372036854775807) : Con Tryz.prog 80 [ptr p, .int .i64 most] [Rd p bs e] [] [] fun r T Φ => T = [Rd p (rdOpaque bs e most).2.1 (rdOpaque bs e most).2.2] ∧ Φ = [Fact.bytes r (rdOpaque bs e most).1] :=
  con1 (fun O w hO ht _ => ropaque_ok hO ht h) fun O w r O' w' hO s hbs ⟨h1, h2, h3⟩ => ⟨_, _, ⟨rfl, rfl⟩, leftTF (by subst h1; exact h3) (fun b hb => by
    subst h1; simp [Rd] at hb; subst hb; exact ⟨h3.pO, .inl (by simp [Rd])⟩) (by subst h1; exact Sl.bytes (h2.sl fun q hq => fresh_nin hO hq))⟩

theorem rdq_c {f : FuncId} {args : List Value} {p e : Nat} {bs : List UInt8} {x : Value}
    (h : ∀ O w, OK O w → RdAt O w p bs e → FnC Tryz.prog f args O [] w fun r O' w' => r = x ∧ O = O' ∧ w = w') :
    Con Tryz.prog f args [] [Rd p bs e] [] fun r T Φ => r = x ∧ T = [] ∧ Φ = [] :=
  conB (fun O w hO ht _ => h O w hO ht) fun O w r O' w' hO s ⟨h1, h2⟩ => ⟨_, _, ⟨h1, rfl, rfl⟩, left0⟩
theorem err_c {p e : Nat} {bs : List UInt8} (h : True) : Con Tryz.prog 54 [ptr p] [] [Rd p bs e] [] fun r T Φ => r = .int .i64 e ∧ T = [] ∧ Φ = [] := rdq_c fun O w hO ht => err_ok hO ht
theorem left_c {p e : Nat} {bs : List UInt8} (h : True) : Con Tryz.prog 79 [ptr p] [] [Rd p bs e] [] fun r T Φ => r = .int .i64 bs.length ∧ T = [] ∧ Φ = [] := rdq_c fun O w hO ht => left_ok hO ht
theorem end_c {p e : Nat} {bs : List UInt8} (h : True) : Con Tryz.prog 31 [ptr p] [] [Rd p bs e] [] fun r T Φ => r = .int .i64 (endE bs e) ∧ T = [] ∧ Φ = [] := rdq_c fun O w hO ht => end_ok hO ht

/-! #### nil readers -/
theorem rn_c {f : FuncId} {args : List Value} {x : Value} (h : ∀ O w, OK O w → FnC Tryz.prog f args O [] w fun r O' w' => r = x ∧ O = O' ∧ w = w') :
    Con Tryz.prog f args [] [] [] fun r T Φ => r = x ∧ T = [] ∧ Φ = [] := con0 (fun O w hO _ => h O w hO) fun O w r O' w' hO s ⟨h1, h2⟩ => ⟨_, _, ⟨h1, rfl, rfl⟩, left0⟩
theorem ru32n_c (h : True) : Con Tryz.prog 56 [.pointer none] [] [] [] fun r T Φ => r = .int .u32 0 ∧ T = [] ∧ Φ = [] := rn_c fun O w hO => ru32_none hO
theorem ru64n_c (h : True) : Con Tryz.prog 30 [.pointer none] [] [] [] fun r T Φ => r = .int .u64 0 ∧ T = [] ∧ Φ = [] := rn_c fun O w hO => ru64_none hO
theorem ropaquen_c {most : Int} (h : True) : Con Tryz.prog 80 [.pointer none, .int .i64 most] [] [] [] fun r T Φ => r = .slice none 0 0 ∧ T = [] ∧ Φ = [] := rn_c fun O w hO => ropaque_none hO
theorem leftn_c (h : True) : Con Tryz.prog 79 [.pointer none] [] [] [] fun r T Φ => r = .int .i64 0 ∧ T = [] ∧ Φ = [] := rn_c fun O w hO => left_none hO
theorem errn_c (h : True) : Con Tryz.prog 54 [.pointer none] [] [] [] fun r T Φ => r = .int .i64 1 ∧ T = [] ∧ Φ = [] := rn_c fun O w hO => err_none hO
theorem endn_c (h : True) : Con Tryz.prog 31 [.pointer none] [] [] [] fun r T Φ => r = .int .i64 1 ∧ T = [] ∧ Φ = [] := rn_c fun O w hO => end_none hO

end Go.Proofs.YtcfpnghkkkphhaaGreat
