/-
  No cell of these rows narrows 'for every input' (looked for: loops, veiled, ifaces, maps, wideKeys, modest, calm, conditions, laid).
  DERIVED. THE GIVEN ROWS OF THIS SEAT. 6 by the template 'for every input the law returns true; each argument reads behind the call as it read before'; 0 by the template 'total and deterministic' (their statements: YtcfpnghkkkphhaaGreatTotals.lean).
  GIVEN WITH THE SEED: the statements are not yours to turn. If you find one false, say at which input.
  Laid BY PROGRAM, IN A SANDBOX (cutbox-rows.mjs): the forced cells as the released guide's own fill.sh prints them over the translation 018a65f802700b6f… (all of the seat's roots in one cut). By AI agents, Wed Nov 11 2026. No macro, syntax, notation, axiom, sorry.
-/
import Derived.Test.YtcfpnghkkkphhaaGreatChecked
import GoSem.Claim
import GoSem.ClaimJoined
import GoSem.ClaimMapViews
import Derived.JoinedTies
import Derived.KernelRfl
namespace Go.Proofs.YtcfpnghkkkphhaaGreat
/- THE CELL 'sum', in the pinned program and in every row, IS THE sha256 OF THE DUMP (.gsa) THAT YtcfpnghkkkphhaaGreatProg.lean LOADS. Nothing in Lean hashes anything: it is a label: what it is worth is what the hold of that sum in a sandbox is worth. -/
noncomputable def Tryz.pinned : Pinned := { name := "ytcfpnghkkkphhaagreat", sum := "018a65f802700b6fdfed3dd9a963909f86ad1615938ea7153bfaa42e5287cba7", checked := Tryz.checked }
namespace Rows
def none {H : Type} : Left H := { results := [], args := [] }

/-- 'removalistlaw12.VolChange': WHATEVER THE INPUT: true; the input reads as it did. -/
def volChangeSpec : ChangeSpec := { name := "volChange", fn := fun _ => fun
  | [d] => { results := [.lit (.bool true)], args := [d] }
  | _ => none }
def volChangeRow : OpenClaim := { program := "ytcfpnghkkkphhaagreat", sum := "018a65f802700b6fdfed3dd9a963909f86ad1615938ea7153bfaa42e5287cba7", func := "removalist/removalistlaw12.VolChange", spec := "volChange", inPlace := ["internal/bytealg.IndexByteString", "internal/bytealg.IndexString", "maps.clone"], unfollowed := true, recurses := true, named := ["internal/bytealg.MaxLen"], apart := false }
def VolChangeSaid : Prop := volChangeRow.holds Tryz.pinned (OpenSpec.ofChange volChangeSpec)

/-- ITS FALSE NEIGHBOUR: 'it returns false'. Refute it at one input. -/
def volChangeWrong : ChangeSpec := { name := "volChange", fn := fun _ => fun
  | [d] => { results := [.lit (.bool false)], args := [d] }
  | _ => none }
def VolChangeWrongFalsely : Prop := volChangeRow.holds Tryz.pinned (OpenSpec.ofChange volChangeWrong)

/-- 'removalistlaw12.VolGrows': WHATEVER THE INPUT: true; the input reads as it did. -/
def volGrowsSpec : ChangeSpec := { name := "volGrows", fn := fun _ => fun
  | [d1, d2] => { results := [.lit (.bool true)], args := [d1, d2] }
  | _ => none }
def volGrowsRow : OpenClaim := { program := "ytcfpnghkkkphhaagreat", sum := "018a65f802700b6fdfed3dd9a963909f86ad1615938ea7153bfaa42e5287cba7", func := "removalist/removalistlaw12.VolGrows", spec := "volGrows", inPlace := ["internal/bytealg.IndexByteString", "internal/bytealg.IndexString", "maps.clone"], unfollowed := true, recurses := true, named := ["internal/bytealg.MaxLen"], apart := false }
def VolGrowsSaid : Prop := volGrowsRow.holds Tryz.pinned (OpenSpec.ofChange volGrowsSpec)

/-- ITS FALSE NEIGHBOUR: 'it returns false'. Refute it at one input. -/
def volGrowsWrong : ChangeSpec := { name := "volGrows", fn := fun _ => fun
  | [d1, d2] => { results := [.lit (.bool false)], args := [d1, d2] }
  | _ => none }
def VolGrowsWrongFalsely : Prop := volGrowsRow.holds Tryz.pinned (OpenSpec.ofChange volGrowsWrong)

/-- 'removalistlaw12.VolWrong': WHATEVER THE INPUT: true; the input reads as it did. -/
def volWrongSpec : ChangeSpec := { name := "volWrong", fn := fun _ => fun
  | [d1, d2, d3] => { results := [.lit (.bool true)], args := [d1, d2, d3] }
  | _ => none }
def volWrongRow : OpenClaim := { program := "ytcfpnghkkkphhaagreat", sum := "018a65f802700b6fdfed3dd9a963909f86ad1615938ea7153bfaa42e5287cba7", func := "removalist/removalistlaw12.VolWrong", spec := "volWrong", inPlace := ["internal/bytealg.IndexByteString", "internal/bytealg.IndexString", "maps.clone"], unfollowed := true, recurses := true, named := ["internal/bytealg.MaxLen"], apart := false }
def VolWrongSaid : Prop := volWrongRow.holds Tryz.pinned (OpenSpec.ofChange volWrongSpec)

/-- ITS FALSE NEIGHBOUR: 'it returns false'. Refute it at one input. -/
def volWrongWrong : ChangeSpec := { name := "volWrong", fn := fun _ => fun
  | [d1, d2, d3] => { results := [.lit (.bool false)], args := [d1, d2, d3] }
  | _ => none }
def VolWrongWrongFalsely : Prop := volWrongRow.holds Tryz.pinned (OpenSpec.ofChange volWrongWrong)

/-- 'removalistlaw12.VolFull': WHATEVER THE INPUT: true; the input reads as it did. -/
def volFullSpec : ChangeSpec := { name := "volFull", fn := fun _ => fun
  | [d1, d2, d3] => { results := [.lit (.bool true)], args := [d1, d2, d3] }
  | _ => none }
def volFullRow : OpenClaim := { program := "ytcfpnghkkkphhaagreat", sum := "018a65f802700b6fdfed3dd9a963909f86ad1615938ea7153bfaa42e5287cba7", func := "removalist/removalistlaw12.VolFull", spec := "volFull", inPlace := ["internal/bytealg.IndexByteString", "internal/bytealg.IndexString", "maps.clone"], unfollowed := true, recurses := true, named := ["internal/bytealg.MaxLen"], apart := false }
def VolFullSaid : Prop := volFullRow.holds Tryz.pinned (OpenSpec.ofChange volFullSpec)

/-- ITS FALSE NEIGHBOUR: 'it returns false'. Refute it at one input. -/
def volFullWrong : ChangeSpec := { name := "volFull", fn := fun _ => fun
  | [d1, d2, d3] => { results := [.lit (.bool false)], args := [d1, d2, d3] }
  | _ => none }
def VolFullWrongFalsely : Prop := volFullRow.holds Tryz.pinned (OpenSpec.ofChange volFullWrong)

/-- 'removalistlaw12.VolKeeps': WHATEVER THE INPUT: true; the input reads as it did. -/
def volKeepsSpec : ChangeSpec := { name := "volKeeps", fn := fun _ => fun
  | [d1, d2] => { results := [.lit (.bool true)], args := [d1, d2] }
  | _ => none }
def volKeepsRow : OpenClaim := { program := "ytcfpnghkkkphhaagreat", sum := "018a65f802700b6fdfed3dd9a963909f86ad1615938ea7153bfaa42e5287cba7", func := "removalist/removalistlaw12.VolKeeps", spec := "volKeeps", inPlace := ["internal/bytealg.IndexByteString", "internal/bytealg.IndexString", "maps.clone"], unfollowed := true, recurses := true, named := ["internal/bytealg.MaxLen"], apart := false }
def VolKeepsSaid : Prop := volKeepsRow.holds Tryz.pinned (OpenSpec.ofChange volKeepsSpec)

/-- ITS FALSE NEIGHBOUR: 'it returns false'. Refute it at one input. -/
def volKeepsWrong : ChangeSpec := { name := "volKeeps", fn := fun _ => fun
  | [d1, d2] => { results := [.lit (.bool false)], args := [d1, d2] }
  | _ => none }
def VolKeepsWrongFalsely : Prop := volKeepsRow.holds Tryz.pinned (OpenSpec.ofChange volKeepsWrong)

/-- 'removalistlaw12.VolOnce': WHATEVER THE INPUT: true; the input reads as it did. -/
def volOnceSpec : ChangeSpec := { name := "volOnce", fn := fun _ => fun
  | [d] => { results := [.lit (.bool true)], args := [d] }
  | _ => none }
def volOnceRow : OpenClaim := { program := "ytcfpnghkkkphhaagreat", sum := "018a65f802700b6fdfed3dd9a963909f86ad1615938ea7153bfaa42e5287cba7", func := "removalist/removalistlaw12.VolOnce", spec := "volOnce", inPlace := ["internal/bytealg.IndexByteString", "internal/bytealg.IndexString", "maps.clone"], unfollowed := true, recurses := true, named := ["internal/bytealg.MaxLen"], apart := false }
def VolOnceSaid : Prop := volOnceRow.holds Tryz.pinned (OpenSpec.ofChange volOnceSpec)

/-- ITS FALSE NEIGHBOUR: 'it returns false'. Refute it at one input. -/
def volOnceWrong : ChangeSpec := { name := "volOnce", fn := fun _ => fun
  | [d] => { results := [.lit (.bool false)], args := [d] }
  | _ => none }
def VolOnceWrongFalsely : Prop := volOnceRow.holds Tryz.pinned (OpenSpec.ofChange volOnceWrong)

/- THE SECOND FORM. 'bulk': how many values and letters a reading holds, each counted each time it is reached (what is shared counts as often as it is met; a slice's spare places count too). A statement '..UptoSaid' is the law's where the arguments, and the package variables that the reading takes, are together of bulk at most 1048576: NARROWER than '..Said'. Prove '..Said' where nothing that the law and all that it calls make is longer than what came in: it says more and counts as full. Else prove '..UptoSaid'. A law counts once. -/
mutual
def uptoBulk {H : Type} : DataW H → Nat
  | .lit (.string bytes) => bytes.length + 1
  | .lit _ => 1
  | .nil => 1
  | .ptr d => uptoBulk d + 1
  | .slice elems spare => uptoBulkAll elems + uptoBulkAll spare + 1
  | .agg parts => uptoBulkAll parts + 1
  | .iface _ d => uptoBulk d + 1
  | .map entries => uptoBulkEntries entries + 1
  | .held _ => 1
def uptoBulkAll {H : Type} : List (DataW H) → Nat
  | [] => 0
  | d :: r => uptoBulk d + uptoBulkAll r
def uptoBulkEntries {H : Type} : List (Lit × DataW H) → Nat
  | [] => 0
  | x :: r => uptoBulkEntry x + uptoBulkEntries r
def uptoBulkEntry {H : Type} : Lit × DataW H → Nat
  | (.string bytes, d) => bytes.length + uptoBulk d + 1
  | (_, d) => uptoBulk d + 1
 end
def uptoSmall : (H : Type) → List (DataW H) → Bool := fun _ ds => decide (uptoBulkAll ds ≤ 1048576)
def OpenSpec.upto (s : _root_.Go.ChangeSpec) : _root_.Go.OpenSpec := { _root_.Go.OpenSpec.ofChange s with cond := some uptoSmall }

/-- 'removalistlaw12.VolChange', WHERE WHAT IT READS IS OF BULK AT MOST 1048576: true; the input reads as it did. -/
def volChangeUptoRow : OpenClaim := { program := "ytcfpnghkkkphhaagreat", sum := "018a65f802700b6fdfed3dd9a963909f86ad1615938ea7153bfaa42e5287cba7", func := "removalist/removalistlaw12.VolChange", spec := "volChange", inPlace := ["internal/bytealg.IndexByteString", "internal/bytealg.IndexString", "maps.clone"], unfollowed := true, recurses := true, named := ["internal/bytealg.MaxLen"], apart := false, narrowed := true }
def VolChangeUptoSaid : Prop := volChangeUptoRow.holds Tryz.pinned (OpenSpec.upto volChangeSpec)

/-- 'removalistlaw12.VolGrows', WHERE WHAT IT READS IS OF BULK AT MOST 1048576: true; the input reads as it did. -/
def volGrowsUptoRow : OpenClaim := { program := "ytcfpnghkkkphhaagreat", sum := "018a65f802700b6fdfed3dd9a963909f86ad1615938ea7153bfaa42e5287cba7", func := "removalist/removalistlaw12.VolGrows", spec := "volGrows", inPlace := ["internal/bytealg.IndexByteString", "internal/bytealg.IndexString", "maps.clone"], unfollowed := true, recurses := true, named := ["internal/bytealg.MaxLen"], apart := false, narrowed := true }
def VolGrowsUptoSaid : Prop := volGrowsUptoRow.holds Tryz.pinned (OpenSpec.upto volGrowsSpec)

/-- 'removalistlaw12.VolWrong', WHERE WHAT IT READS IS OF BULK AT MOST 1048576: true; the input reads as it did. -/
def volWrongUptoRow : OpenClaim := { program := "ytcfpnghkkkphhaagreat", sum := "018a65f802700b6fdfed3dd9a963909f86ad1615938ea7153bfaa42e5287cba7", func := "removalist/removalistlaw12.VolWrong", spec := "volWrong", inPlace := ["internal/bytealg.IndexByteString", "internal/bytealg.IndexString", "maps.clone"], unfollowed := true, recurses := true, named := ["internal/bytealg.MaxLen"], apart := false, narrowed := true }
def VolWrongUptoSaid : Prop := volWrongUptoRow.holds Tryz.pinned (OpenSpec.upto volWrongSpec)

/-- 'removalistlaw12.VolFull', WHERE WHAT IT READS IS OF BULK AT MOST 1048576: true; the input reads as it did. -/
def volFullUptoRow : OpenClaim := { program := "ytcfpnghkkkphhaagreat", sum := "018a65f802700b6fdfed3dd9a963909f86ad1615938ea7153bfaa42e5287cba7", func := "removalist/removalistlaw12.VolFull", spec := "volFull", inPlace := ["internal/bytealg.IndexByteString", "internal/bytealg.IndexString", "maps.clone"], unfollowed := true, recurses := true, named := ["internal/bytealg.MaxLen"], apart := false, narrowed := true }
def VolFullUptoSaid : Prop := volFullUptoRow.holds Tryz.pinned (OpenSpec.upto volFullSpec)

/-- 'removalistlaw12.VolKeeps', WHERE WHAT IT READS IS OF BULK AT MOST 1048576: true; the input reads as it did. -/
def volKeepsUptoRow : OpenClaim := { program := "ytcfpnghkkkphhaagreat", sum := "018a65f802700b6fdfed3dd9a963909f86ad1615938ea7153bfaa42e5287cba7", func := "removalist/removalistlaw12.VolKeeps", spec := "volKeeps", inPlace := ["internal/bytealg.IndexByteString", "internal/bytealg.IndexString", "maps.clone"], unfollowed := true, recurses := true, named := ["internal/bytealg.MaxLen"], apart := false, narrowed := true }
def VolKeepsUptoSaid : Prop := volKeepsUptoRow.holds Tryz.pinned (OpenSpec.upto volKeepsSpec)

/-- 'removalistlaw12.VolOnce', WHERE WHAT IT READS IS OF BULK AT MOST 1048576: true; the input reads as it did. -/
def volOnceUptoRow : OpenClaim := { program := "ytcfpnghkkkphhaagreat", sum := "018a65f802700b6fdfed3dd9a963909f86ad1615938ea7153bfaa42e5287cba7", func := "removalist/removalistlaw12.VolOnce", spec := "volOnce", inPlace := ["internal/bytealg.IndexByteString", "internal/bytealg.IndexString", "maps.clone"], unfollowed := true, recurses := true, named := ["internal/bytealg.MaxLen"], apart := false, narrowed := true }
def VolOnceUptoSaid : Prop := volOnceUptoRow.holds Tryz.pinned (OpenSpec.upto volOnceSpec)

end Rows
end Go.Proofs.YtcfpnghkkkphhaaGreat
