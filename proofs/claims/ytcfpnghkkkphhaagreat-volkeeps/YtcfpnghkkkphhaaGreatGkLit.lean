/- Slice literals of bytes. Nothing here speaks of one program. -/
import Derived.Test.YtcfpnghkkkphhaaGreatGkData
namespace Gk
open Go
set_option linter.unusedVariables false

section
variable {P : Program} {n : Nat} {all : Array Oper} {os : List Oper} {ρ : Env} {D : Dr} {w : World} {Q : Exit → Act → World → Prop}
variable {ty ty' : TypeId} {pos pos' : String} {af af' : Array Edge} {O : List Nat}

/-- '[]byte("..")'. -/
theorem r_lit {T e by_ : Nat} [h : TSlice P T e 1 by_] [hi : TInt P e .u8] {z : Value} [hz : TZero P e z] {m d d' : Nat} {ps : List (Nat × Operand)} {vs : List (Nat × Value)} {cs : List Value} (hO : OK O w) (hd : okO n (some d) = true) (hd' : okO n (some d') = true)
    (hp : evps ρ ps = some vs) (hm : Nat.ble (m * 1) 16777216 = true) (hf : fillL (fun i => some (i * 1, 1)) ((List.replicate m (cellsOf z)).flatten) vs = some cs)
    (hk : ∀ q w', q = w.heap.size → Step [] O O w w' → w.heap.size < w'.heap.size → CB w' q cs → R P n all os ((d', .slice (some ⟨q, 0, none⟩) m m) :: (d, .slice (some ⟨q, 0, none⟩) m m) :: ρ) D w' Q) :
    R P n all (⟨some d, .buildSlice T m ps.toArray, ty, pos, af, none⟩ :: ⟨some d', .convert T T (.tmp d), ty', pos', af', none⟩ :: os) ρ D w Q := by
  refine r_buildSlice hO hd hp hm hf (fun q w1 hq s1 z1 b1 => ?_)
  have hg : Env.get (upO ρ (some d) (.slice (some ⟨q, 0, none⟩) m m)) d = some (.slice (some ⟨q, 0, none⟩) m m) := by simp [upO, Env.get]
  have s1' := s1.take (q := q) (by omega) (by omega)
  refine r_mark (O := q :: O) s1'.ok hd' hg b1 (by simp) (fun w2 s2 b2 => ?_)
  have s2' := s1'.trans s2 (fun b hb => by simp at hb; omega)
  exact hk q w2 hq (s2'.less (fun _ h => h) (fun b hb => by simp [hb])) (by have := s2.size; omega) b2
end

theorem CB.bytes {O : List Nat} {w : World} {q : Nat} {xs : List UInt8} {cap : Nat} (h : CB w q (bytesV xs)) (hq : q ∉ O) (hc : xs.length ≤ cap) : Bytes O w (.slice (some ⟨q, 0, none⟩) xs.length cap) xs :=
  h.sl hq hc _ (fun _ _ h => h)

theorem wrap_u8_nat (n : Nat) : Value.int .u8 (IntKind.u8.wrap (n : Int)) = byteV (UInt8.ofNat n) := by
  unfold byteV
  rw [IntKind.wrap_u8]
  congr 1

end Gk
