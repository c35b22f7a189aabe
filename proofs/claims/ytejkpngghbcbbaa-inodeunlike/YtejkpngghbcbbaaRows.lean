/-
  No cell of these rows narrows 'for every input' (looked for: loops, veiled, ifaces, maps, wideKeys, modest, calm, conditions, laid).
  DERIVED. THE GIVEN ROWS OF THIS SEAT. 14 by the template 'for every input the law returns true; each argument reads behind the call as it read before'; 0 by the template 'total and deterministic' (their statements: YtejkpngghbcbbaaTotals.lean).
  GIVEN WITH THE SEED: the statements are not yours to turn. If you find one false, say at which input.
  Laid BY PROGRAM, IN A SANDBOX (cutbox-rows.mjs): the forced cells as the released guide's own fill.sh prints them over the translation e78bdcc05e22e591… (all of the seat's roots in one cut). By AI agents, Wed Nov 11 2026. No macro, syntax, notation, axiom, sorry.
-/
import Derived.Test.YtejkpngghbcbbaaChecked
import GoSem.Claim
import GoSem.ClaimJoined
import GoSem.ClaimMapViews
import Derived.JoinedTies
import Derived.KernelRfl
namespace Go.Proofs.Ytejkpngghbcbbaa
/- THE CELL 'sum', in the pinned program and in every row, IS THE sha256 OF THE DUMP (.gsa) THAT YtejkpngghbcbbaaProg.lean LOADS. Nothing in Lean hashes anything: it is a label: what it is worth is what the hold of that sum in a sandbox is worth. -/
noncomputable def Try.pinned : Pinned := { name := "ytejkpngghbcbbaa", sum := "e78bdcc05e22e591bd1748a11c1c5de956258bb7de06844b516f4b0706d1d92d", checked := Try.checked }
namespace Rows
def none {H : Type} : Left H := { results := [], args := [] }

/-- 'removalistlaw01.XdrPads': WHATEVER THE INPUT: true; the input reads as it did. -/
def xdrPadsSpec : ChangeSpec := { name := "xdrPads", fn := fun _ => fun
  | [d1, d2, d3] => { results := [.lit (.bool true)], args := [d1, d2, d3] }
  | _ => none }
def xdrPadsRow : OpenClaim := { program := "ytejkpngghbcbbaa", sum := "e78bdcc05e22e591bd1748a11c1c5de956258bb7de06844b516f4b0706d1d92d", func := "removalist/removalistlaw01.XdrPads", spec := "xdrPads", unfollowed := true, recurses := true, apart := false }
def XdrPadsSaid : Prop := xdrPadsRow.holds Try.pinned (OpenSpec.ofChange xdrPadsSpec)

/-- ITS FALSE NEIGHBOUR: 'it returns false'. Refute it at one input. -/
def xdrPadsWrong : ChangeSpec := { name := "xdrPads", fn := fun _ => fun
  | [d1, d2, d3] => { results := [.lit (.bool false)], args := [d1, d2, d3] }
  | _ => none }
def XdrPadsWrongFalsely : Prop := xdrPadsRow.holds Try.pinned (OpenSpec.ofChange xdrPadsWrong)

/-- 'removalistlaw01.XdrBig': WHATEVER THE INPUT: true; the input reads as it did. -/
def xdrBigSpec : ChangeSpec := { name := "xdrBig", fn := fun _ => fun
  | [d1, d2, d3] => { results := [.lit (.bool true)], args := [d1, d2, d3] }
  | _ => none }
def xdrBigRow : OpenClaim := { program := "ytejkpngghbcbbaa", sum := "e78bdcc05e22e591bd1748a11c1c5de956258bb7de06844b516f4b0706d1d92d", func := "removalist/removalistlaw01.XdrBig", spec := "xdrBig", unfollowed := true, recurses := true, apart := false }
def XdrBigSaid : Prop := xdrBigRow.holds Try.pinned (OpenSpec.ofChange xdrBigSpec)

/-- ITS FALSE NEIGHBOUR: 'it returns false'. Refute it at one input. -/
def xdrBigWrong : ChangeSpec := { name := "xdrBig", fn := fun _ => fun
  | [d1, d2, d3] => { results := [.lit (.bool false)], args := [d1, d2, d3] }
  | _ => none }
def XdrBigWrongFalsely : Prop := xdrBigRow.holds Try.pinned (OpenSpec.ofChange xdrBigWrong)

/-- 'removalistlaw01.XdrPuts': WHATEVER THE INPUT: true; the input reads as it did. -/
def xdrPutsSpec : ChangeSpec := { name := "xdrPuts", fn := fun _ => fun
  | [d1, d2, d3, d4] => { results := [.lit (.bool true)], args := [d1, d2, d3, d4] }
  | _ => none }
def xdrPutsRow : OpenClaim := { program := "ytejkpngghbcbbaa", sum := "e78bdcc05e22e591bd1748a11c1c5de956258bb7de06844b516f4b0706d1d92d", func := "removalist/removalistlaw01.XdrPuts", spec := "xdrPuts", unfollowed := true, recurses := true, apart := false }
def XdrPutsSaid : Prop := xdrPutsRow.holds Try.pinned (OpenSpec.ofChange xdrPutsSpec)

/-- ITS FALSE NEIGHBOUR: 'it returns false'. Refute it at one input. -/
def xdrPutsWrong : ChangeSpec := { name := "xdrPuts", fn := fun _ => fun
  | [d1, d2, d3, d4] => { results := [.lit (.bool false)], args := [d1, d2, d3, d4] }
  | _ => none }
def XdrPutsWrongFalsely : Prop := xdrPutsRow.holds Try.pinned (OpenSpec.ofChange xdrPutsWrong)

/-- 'removalistlaw01.XdrBack': WHATEVER THE INPUT: true; the input reads as it did. -/
def xdrBackSpec : ChangeSpec := { name := "xdrBack", fn := fun _ => fun
  | [d1, d2, d3] => { results := [.lit (.bool true)], args := [d1, d2, d3] }
  | _ => none }
def xdrBackRow : OpenClaim := { program := "ytejkpngghbcbbaa", sum := "e78bdcc05e22e591bd1748a11c1c5de956258bb7de06844b516f4b0706d1d92d", func := "removalist/removalistlaw01.XdrBack", spec := "xdrBack", unfollowed := true, recurses := true, apart := false }
def XdrBackSaid : Prop := xdrBackRow.holds Try.pinned (OpenSpec.ofChange xdrBackSpec)

/-- ITS FALSE NEIGHBOUR: 'it returns false'. Refute it at one input. -/
def xdrBackWrong : ChangeSpec := { name := "xdrBack", fn := fun _ => fun
  | [d1, d2, d3] => { results := [.lit (.bool false)], args := [d1, d2, d3] }
  | _ => none }
def XdrBackWrongFalsely : Prop := xdrBackRow.holds Try.pinned (OpenSpec.ofChange xdrBackWrong)

/-- 'removalistlaw01.XdrOne': WHATEVER THE INPUT: true; the input reads as it did. -/
def xdrOneSpec : ChangeSpec := { name := "xdrOne", fn := fun _ => fun
  | [d] => { results := [.lit (.bool true)], args := [d] }
  | _ => none }
def xdrOneRow : OpenClaim := { program := "ytejkpngghbcbbaa", sum := "e78bdcc05e22e591bd1748a11c1c5de956258bb7de06844b516f4b0706d1d92d", func := "removalist/removalistlaw01.XdrOne", spec := "xdrOne", unfollowed := true, recurses := true, apart := false }
def XdrOneSaid : Prop := xdrOneRow.holds Try.pinned (OpenSpec.ofChange xdrOneSpec)

/-- ITS FALSE NEIGHBOUR: 'it returns false'. Refute it at one input. -/
def xdrOneWrong : ChangeSpec := { name := "xdrOne", fn := fun _ => fun
  | [d] => { results := [.lit (.bool false)], args := [d] }
  | _ => none }
def XdrOneWrongFalsely : Prop := xdrOneRow.holds Try.pinned (OpenSpec.ofChange xdrOneWrong)

/-- 'removalistlaw01.XdrBools': WHATEVER THE INPUT: true; the input reads as it did. -/
def xdrBoolsSpec : ChangeSpec := { name := "xdrBools", fn := fun _ => fun
  | [d1, d2] => { results := [.lit (.bool true)], args := [d1, d2] }
  | _ => none }
def xdrBoolsRow : OpenClaim := { program := "ytejkpngghbcbbaa", sum := "e78bdcc05e22e591bd1748a11c1c5de956258bb7de06844b516f4b0706d1d92d", func := "removalist/removalistlaw01.XdrBools", spec := "xdrBools", unfollowed := true, recurses := true, apart := false }
def XdrBoolsSaid : Prop := xdrBoolsRow.holds Try.pinned (OpenSpec.ofChange xdrBoolsSpec)

/-- ITS FALSE NEIGHBOUR: 'it returns false'. Refute it at one input. -/
def xdrBoolsWrong : ChangeSpec := { name := "xdrBools", fn := fun _ => fun
  | [d1, d2] => { results := [.lit (.bool false)], args := [d1, d2] }
  | _ => none }
def XdrBoolsWrongFalsely : Prop := xdrBoolsRow.holds Try.pinned (OpenSpec.ofChange xdrBoolsWrong)

/-- 'removalistlaw01.XdrReads': WHATEVER THE INPUT: true; the input reads as it did. -/
def xdrReadsSpec : ChangeSpec := { name := "xdrReads", fn := fun _ => fun
  | [d1, d2] => { results := [.lit (.bool true)], args := [d1, d2] }
  | _ => none }
def xdrReadsRow : OpenClaim := { program := "ytejkpngghbcbbaa", sum := "e78bdcc05e22e591bd1748a11c1c5de956258bb7de06844b516f4b0706d1d92d", func := "removalist/removalistlaw01.XdrReads", spec := "xdrReads", unfollowed := true, recurses := true, apart := false }
def XdrReadsSaid : Prop := xdrReadsRow.holds Try.pinned (OpenSpec.ofChange xdrReadsSpec)

/-- ITS FALSE NEIGHBOUR: 'it returns false'. Refute it at one input. -/
def xdrReadsWrong : ChangeSpec := { name := "xdrReads", fn := fun _ => fun
  | [d1, d2] => { results := [.lit (.bool false)], args := [d1, d2] }
  | _ => none }
def XdrReadsWrongFalsely : Prop := xdrReadsRow.holds Try.pinned (OpenSpec.ofChange xdrReadsWrong)

/-- 'removalistlaw01.XdrStays': WHATEVER THE INPUT: true; the input reads as it did. -/
def xdrStaysSpec : ChangeSpec := { name := "xdrStays", fn := fun _ => fun
  | [d1, d2] => { results := [.lit (.bool true)], args := [d1, d2] }
  | _ => none }
def xdrStaysRow : OpenClaim := { program := "ytejkpngghbcbbaa", sum := "e78bdcc05e22e591bd1748a11c1c5de956258bb7de06844b516f4b0706d1d92d", func := "removalist/removalistlaw01.XdrStays", spec := "xdrStays", unfollowed := true, recurses := true, apart := false }
def XdrStaysSaid : Prop := xdrStaysRow.holds Try.pinned (OpenSpec.ofChange xdrStaysSpec)

/-- ITS FALSE NEIGHBOUR: 'it returns false'. Refute it at one input. -/
def xdrStaysWrong : ChangeSpec := { name := "xdrStays", fn := fun _ => fun
  | [d1, d2] => { results := [.lit (.bool false)], args := [d1, d2] }
  | _ => none }
def XdrStaysWrongFalsely : Prop := xdrStaysRow.holds Try.pinned (OpenSpec.ofChange xdrStaysWrong)

/-- 'removalistlaw07.InodePuts': WHATEVER THE INPUT: true; the input reads as it did. -/
def inodePutsSpec : ChangeSpec := { name := "inodePuts", fn := fun _ => fun
  | [d1, d2] => { results := [.lit (.bool true)], args := [d1, d2] }
  | _ => none }
def inodePutsRow : OpenClaim := { program := "ytejkpngghbcbbaa", sum := "e78bdcc05e22e591bd1748a11c1c5de956258bb7de06844b516f4b0706d1d92d", func := "removalist/removalistlaw07.InodePuts", spec := "inodePuts", apart := false }
def InodePutsSaid : Prop := inodePutsRow.holds Try.pinned (OpenSpec.ofChange inodePutsSpec)

/-- ITS FALSE NEIGHBOUR: 'it returns false'. Refute it at one input. -/
def inodePutsWrong : ChangeSpec := { name := "inodePuts", fn := fun _ => fun
  | [d1, d2] => { results := [.lit (.bool false)], args := [d1, d2] }
  | _ => none }
def InodePutsWrongFalsely : Prop := inodePutsRow.holds Try.pinned (OpenSpec.ofChange inodePutsWrong)

/-- 'removalistlaw07.InodeGets': WHATEVER THE INPUT: true; the input reads as it did. -/
def inodeGetsSpec : ChangeSpec := { name := "inodeGets", fn := fun _ => fun
  | [d] => { results := [.lit (.bool true)], args := [d] }
  | _ => none }
def inodeGetsRow : OpenClaim := { program := "ytejkpngghbcbbaa", sum := "e78bdcc05e22e591bd1748a11c1c5de956258bb7de06844b516f4b0706d1d92d", func := "removalist/removalistlaw07.InodeGets", spec := "inodeGets", apart := false }
def InodeGetsSaid : Prop := inodeGetsRow.holds Try.pinned (OpenSpec.ofChange inodeGetsSpec)

/-- ITS FALSE NEIGHBOUR: 'it returns false'. Refute it at one input. -/
def inodeGetsWrong : ChangeSpec := { name := "inodeGets", fn := fun _ => fun
  | [d] => { results := [.lit (.bool false)], args := [d] }
  | _ => none }
def InodeGetsWrongFalsely : Prop := inodeGetsRow.holds Try.pinned (OpenSpec.ofChange inodeGetsWrong)

/-- 'removalistlaw07.InodeNeeds': WHATEVER THE INPUT: true; the input reads as it did. -/
def inodeNeedsSpec : ChangeSpec := { name := "inodeNeeds", fn := fun _ => fun
  | [d] => { results := [.lit (.bool true)], args := [d] }
  | _ => none }
def inodeNeedsRow : OpenClaim := { program := "ytejkpngghbcbbaa", sum := "e78bdcc05e22e591bd1748a11c1c5de956258bb7de06844b516f4b0706d1d92d", func := "removalist/removalistlaw07.InodeNeeds", spec := "inodeNeeds", apart := false }
def InodeNeedsSaid : Prop := inodeNeedsRow.holds Try.pinned (OpenSpec.ofChange inodeNeedsSpec)

/-- ITS FALSE NEIGHBOUR: 'it returns false'. Refute it at one input. -/
def inodeNeedsWrong : ChangeSpec := { name := "inodeNeeds", fn := fun _ => fun
  | [d] => { results := [.lit (.bool false)], args := [d] }
  | _ => none }
def InodeNeedsWrongFalsely : Prop := inodeNeedsRow.holds Try.pinned (OpenSpec.ofChange inodeNeedsWrong)

/-- 'removalistlaw07.InodeFree': WHATEVER THE INPUT: true; the input reads as it did. -/
def inodeFreeSpec : ChangeSpec := { name := "inodeFree", fn := fun _ => fun
  | [d] => { results := [.lit (.bool true)], args := [d] }
  | _ => none }
def inodeFreeRow : OpenClaim := { program := "ytejkpngghbcbbaa", sum := "e78bdcc05e22e591bd1748a11c1c5de956258bb7de06844b516f4b0706d1d92d", func := "removalist/removalistlaw07.InodeFree", spec := "inodeFree", apart := false }
def InodeFreeSaid : Prop := inodeFreeRow.holds Try.pinned (OpenSpec.ofChange inodeFreeSpec)

/-- ITS FALSE NEIGHBOUR: 'it returns false'. Refute it at one input. -/
def inodeFreeWrong : ChangeSpec := { name := "inodeFree", fn := fun _ => fun
  | [d] => { results := [.lit (.bool false)], args := [d] }
  | _ => none }
def InodeFreeWrongFalsely : Prop := inodeFreeRow.holds Try.pinned (OpenSpec.ofChange inodeFreeWrong)

/-- 'removalistlaw07.InodeBlocks': WHATEVER THE INPUT: true; the input reads as it did. -/
def inodeBlocksSpec : ChangeSpec := { name := "inodeBlocks", fn := fun _ => fun
  | [d1, d2] => { results := [.lit (.bool true)], args := [d1, d2] }
  | _ => none }
def inodeBlocksRow : OpenClaim := { program := "ytejkpngghbcbbaa", sum := "e78bdcc05e22e591bd1748a11c1c5de956258bb7de06844b516f4b0706d1d92d", func := "removalist/removalistlaw07.InodeBlocks", spec := "inodeBlocks", apart := false }
def InodeBlocksSaid : Prop := inodeBlocksRow.holds Try.pinned (OpenSpec.ofChange inodeBlocksSpec)

/-- ITS FALSE NEIGHBOUR: 'it returns false'. Refute it at one input. -/
def inodeBlocksWrong : ChangeSpec := { name := "inodeBlocks", fn := fun _ => fun
  | [d1, d2] => { results := [.lit (.bool false)], args := [d1, d2] }
  | _ => none }
def InodeBlocksWrongFalsely : Prop := inodeBlocksRow.holds Try.pinned (OpenSpec.ofChange inodeBlocksWrong)

/-- 'removalistlaw07.InodeUnlike': WHATEVER THE INPUT: true; the input reads as it did. -/
def inodeUnlikeSpec : ChangeSpec := { name := "inodeUnlike", fn := fun _ => fun
  | [d1, d2, d3] => { results := [.lit (.bool true)], args := [d1, d2, d3] }
  | _ => none }
def inodeUnlikeRow : OpenClaim := { program := "ytejkpngghbcbbaa", sum := "e78bdcc05e22e591bd1748a11c1c5de956258bb7de06844b516f4b0706d1d92d", func := "removalist/removalistlaw07.InodeUnlike", spec := "inodeUnlike", apart := false }
def InodeUnlikeSaid : Prop := inodeUnlikeRow.holds Try.pinned (OpenSpec.ofChange inodeUnlikeSpec)

/-- ITS FALSE NEIGHBOUR: 'it returns false'. Refute it at one input. -/
def inodeUnlikeWrong : ChangeSpec := { name := "inodeUnlike", fn := fun _ => fun
  | [d1, d2, d3] => { results := [.lit (.bool false)], args := [d1, d2, d3] }
  | _ => none }
def InodeUnlikeWrongFalsely : Prop := inodeUnlikeRow.holds Try.pinned (OpenSpec.ofChange inodeUnlikeWrong)

/- THE SECOND FORM. 'bulk': how many values and letters a reading holds, each counted each time it is reached (what is shared counts as often as it is met; a slice's spare places count too). A statement '..UptoSaid' is the law's where the arguments, and the package variables that the reading takes, are together of bulk at most 1048576: NARROWER than '..Said'. Prove '..Said' where nothing that the law and all that it calls make is longer than what came in: it says more and counts as full. Else prove '..UptoSaid'. A law counts once. -/
mutual
def uptoBulk {H : Type} : DataW H → Nat
  | .lit (.string bytes) => bytes.length + 1
  | .lit _ => 1
  | .nil => 1
  | .ptr d => uptoBulk d + 1
  | .slice elems spare => uptoBulkAll elems + uptoBulkAll spare + 1
  | .agg parts => uptoBulkAll parts + 1
  | .iface _ d => uptoBulk d + 1
  | .map entries => uptoBulkEntries entries + 1
  | .held _ => 1
def uptoBulkAll {H : Type} : List (DataW H) → Nat
  | [] => 0
  | d :: r => uptoBulk d + uptoBulkAll r
def uptoBulkEntries {H : Type} : List (Lit × DataW H) → Nat
  | [] => 0
  | x :: r => uptoBulkEntry x + uptoBulkEntries r
def uptoBulkEntry {H : Type} : Lit × DataW H → Nat
  | (.string bytes, d) => bytes.length + uptoBulk d + 1
  | (_, d) => uptoBulk d + 1
 end
def uptoSmall : (H : Type) → List (DataW H) → Bool := fun _ ds => decide (uptoBulkAll ds ≤ 1048576)
def OpenSpec.upto (s : _root_.Go.ChangeSpec) : _root_.Go.OpenSpec := { _root_.Go.OpenSpec.ofChange s with cond := some uptoSmall }

/-- 'removalistlaw01.XdrPads', WHERE WHAT IT READS IS OF BULK AT MOST 1048576: true; the input reads as it did. -/
def xdrPadsUptoRow : OpenClaim := { program := "ytejkpngghbcbbaa", sum := "e78bdcc05e22e591bd1748a11c1c5de956258bb7de06844b516f4b0706d1d92d", func := "removalist/removalistlaw01.XdrPads", spec := "xdrPads", unfollowed := true, recurses := true, apart := false, narrowed := true }
def XdrPadsUptoSaid : Prop := xdrPadsUptoRow.holds Try.pinned (OpenSpec.upto xdrPadsSpec)

/-- 'removalistlaw01.XdrBig', WHERE WHAT IT READS IS OF BULK AT MOST 1048576: true; the input reads as it did. -/
def xdrBigUptoRow : OpenClaim := { program := "ytejkpngghbcbbaa", sum := "e78bdcc05e22e591bd1748a11c1c5de956258bb7de06844b516f4b0706d1d92d", func := "removalist/removalistlaw01.XdrBig", spec := "xdrBig", unfollowed := true, recurses := true, apart := false, narrowed := true }
def XdrBigUptoSaid : Prop := xdrBigUptoRow.holds Try.pinned (OpenSpec.upto xdrBigSpec)

/-- 'removalistlaw01.XdrPuts', WHERE WHAT IT READS IS OF BULK AT MOST 1048576: true; the input reads as it did. -/
def xdrPutsUptoRow : OpenClaim := { program := "ytejkpngghbcbbaa", sum := "e78bdcc05e22e591bd1748a11c1c5de956258bb7de06844b516f4b0706d1d92d", func := "removalist/removalistlaw01.XdrPuts", spec := "xdrPuts", unfollowed := true, recurses := true, apart := false, narrowed := true }
def XdrPutsUptoSaid : Prop := xdrPutsUptoRow.holds Try.pinned (OpenSpec.upto xdrPutsSpec)

/-- 'removalistlaw01.XdrBack', WHERE WHAT IT READS IS OF BULK AT MOST 1048576: true; the input reads as it did. -/
def xdrBackUptoRow : OpenClaim := { program := "ytejkpngghbcbbaa", sum := "e78bdcc05e22e591bd1748a11c1c5de956258bb7de06844b516f4b0706d1d92d", func := "removalist/removalistlaw01.XdrBack", spec := "xdrBack", unfollowed := true, recurses := true, apart := false, narrowed := true }
def XdrBackUptoSaid : Prop := xdrBackUptoRow.holds Try.pinned (OpenSpec.upto xdrBackSpec)

/-- 'removalistlaw01.XdrOne', WHERE WHAT IT READS IS OF BULK AT MOST 1048576: true; the input reads as it did. -/
def xdrOneUptoRow : OpenClaim := { program := "ytejkpngghbcbbaa", sum := "e78bdcc05e22e591bd1748a11c1c5de956258bb7de06844b516f4b0706d1d92d", func := "removalist/removalistlaw01.XdrOne", spec := "xdrOne", unfollowed := true, recurses := true, apart := false, narrowed := true }
def XdrOneUptoSaid : Prop := xdrOneUptoRow.holds Try.pinned (OpenSpec.upto xdrOneSpec)

/-- 'removalistlaw01.XdrBools', WHERE WHAT IT READS IS OF BULK AT MOST 1048576: true; the input reads as it did. -/
def xdrBoolsUptoRow : OpenClaim := { program := "ytejkpngghbcbbaa", sum := "e78bdcc05e22e591bd1748a11c1c5de956258bb7de06844b516f4b0706d1d92d", func := "removalist/removalistlaw01.XdrBools", spec := "xdrBools", unfollowed := true, recurses := true, apart := false, narrowed := true }
def XdrBoolsUptoSaid : Prop := xdrBoolsUptoRow.holds Try.pinned (OpenSpec.upto xdrBoolsSpec)

/-- 'removalistlaw01.XdrReads', WHERE WHAT IT READS IS OF BULK AT MOST 1048576: true; the input reads as it did. -/
def xdrReadsUptoRow : OpenClaim := { program := "ytejkpngghbcbbaa", sum := "e78bdcc05e22e591bd1748a11c1c5de956258bb7de06844b516f4b0706d1d92d", func := "removalist/removalistlaw01.XdrReads", spec := "xdrReads", unfollowed := true, recurses := true, apart := false, narrowed := true }
def XdrReadsUptoSaid : Prop := xdrReadsUptoRow.holds Try.pinned (OpenSpec.upto xdrReadsSpec)

/-- 'removalistlaw01.XdrStays', WHERE WHAT IT READS IS OF BULK AT MOST 1048576: true; the input reads as it did. -/
def xdrStaysUptoRow : OpenClaim := { program := "ytejkpngghbcbbaa", sum := "e78bdcc05e22e591bd1748a11c1c5de956258bb7de06844b516f4b0706d1d92d", func := "removalist/removalistlaw01.XdrStays", spec := "xdrStays", unfollowed := true, recurses := true, apart := false, narrowed := true }
def XdrStaysUptoSaid : Prop := xdrStaysUptoRow.holds Try.pinned (OpenSpec.upto xdrStaysSpec)

/-- 'removalistlaw07.InodePuts', WHERE WHAT IT READS IS OF BULK AT MOST 1048576: true; the input reads as it did. -/
def inodePutsUptoRow : OpenClaim := { program := "ytejkpngghbcbbaa", sum := "e78bdcc05e22e591bd1748a11c1c5de956258bb7de06844b516f4b0706d1d92d", func := "removalist/removalistlaw07.InodePuts", spec := "inodePuts", apart := false, narrowed := true }
def InodePutsUptoSaid : Prop := inodePutsUptoRow.holds Try.pinned (OpenSpec.upto inodePutsSpec)

/-- 'removalistlaw07.InodeGets', WHERE WHAT IT READS IS OF BULK AT MOST 1048576: true; the input reads as it did. -/
def inodeGetsUptoRow : OpenClaim := { program := "ytejkpngghbcbbaa", sum := "e78bdcc05e22e591bd1748a11c1c5de956258bb7de06844b516f4b0706d1d92d", func := "removalist/removalistlaw07.InodeGets", spec := "inodeGets", apart := false, narrowed := true }
def InodeGetsUptoSaid : Prop := inodeGetsUptoRow.holds Try.pinned (OpenSpec.upto inodeGetsSpec)

/-- 'removalistlaw07.InodeNeeds', WHERE WHAT IT READS IS OF BULK AT MOST 1048576: true; the input reads as it did. -/
def inodeNeedsUptoRow : OpenClaim := { program := "ytejkpngghbcbbaa", sum := "e78bdcc05e22e591bd1748a11c1c5de956258bb7de06844b516f4b0706d1d92d", func := "removalist/removalistlaw07.InodeNeeds", spec := "inodeNeeds", apart := false, narrowed := true }
def InodeNeedsUptoSaid : Prop := inodeNeedsUptoRow.holds Try.pinned (OpenSpec.upto inodeNeedsSpec)

/-- 'removalistlaw07.InodeFree', WHERE WHAT IT READS IS OF BULK AT MOST 1048576: true; the input reads as it did. -/
def inodeFreeUptoRow : OpenClaim := { program := "ytejkpngghbcbbaa", sum := "e78bdcc05e22e591bd1748a11c1c5de956258bb7de06844b516f4b0706d1d92d", func := "removalist/removalistlaw07.InodeFree", spec := "inodeFree", apart := false, narrowed := true }
def InodeFreeUptoSaid : Prop := inodeFreeUptoRow.holds Try.pinned (OpenSpec.upto inodeFreeSpec)

/-- 'removalistlaw07.InodeBlocks', WHERE WHAT IT READS IS OF BULK AT MOST 1048576: true; the input reads as it did. -/
def inodeBlocksUptoRow : OpenClaim := { program := "ytejkpngghbcbbaa", sum := "e78bdcc05e22e591bd1748a11c1c5de956258bb7de06844b516f4b0706d1d92d", func := "removalist/removalistlaw07.InodeBlocks", spec := "inodeBlocks", apart := false, narrowed := true }
def InodeBlocksUptoSaid : Prop := inodeBlocksUptoRow.holds Try.pinned (OpenSpec.upto inodeBlocksSpec)

/-- 'removalistlaw07.InodeUnlike', WHERE WHAT IT READS IS OF BULK AT MOST 1048576: true; the input reads as it did. -/
def inodeUnlikeUptoRow : OpenClaim := { program := "ytejkpngghbcbbaa", sum := "e78bdcc05e22e591bd1748a11c1c5de956258bb7de06844b516f4b0706d1d92d", func := "removalist/removalistlaw07.InodeUnlike", spec := "inodeUnlike", apart := false, narrowed := true }
def InodeUnlikeUptoSaid : Prop := inodeUnlikeUptoRow.holds Try.pinned (OpenSpec.upto inodeUnlikeSpec)

end Rows
end Go.Proofs.Ytejkpngghbcbbaa
