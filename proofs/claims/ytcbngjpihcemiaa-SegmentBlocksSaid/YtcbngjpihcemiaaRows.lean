/-
  No cell of these rows narrows 'for every input' (looked for: loops, veiled, ifaces, maps, wideKeys, modest, calm, conditions, laid).
  DERIVED. THE GIVEN ROWS OF THIS SEAT. 9 by the template 'for every input the law returns true; each argument reads behind the call as it read before'; 0 by the template 'total and deterministic' (their statements: YtcbngjpihcemiaaTotals.lean).
  GIVEN WITH THE SEED: the statements are not yours to turn. If you find one false, say at which input.
  Laid BY PROGRAM, IN A SANDBOX (cutbox-rows.mjs): the forced cells as the released guide's own fill.sh prints them over the translation 4492d30fa6ce9e68… (all of the seat's roots in one cut). By AI agents, Wed Nov 11 2026. No macro, syntax, notation, axiom, sorry.
-/
import Derived.Test.YtcbngjpihcemiaaChecked
import GoSem.Claim
import GoSem.ClaimJoined
import GoSem.ClaimMapViews
import Derived.JoinedTies
import Derived.KernelRfl
namespace Go.Proofs.Ytcbngjpihcemiaa
/- THE CELL 'sum', in the pinned program and in every row, IS THE sha256 OF THE DUMP (.gsa) THAT YtcbngjpihcemiaaProg.lean LOADS. Nothing in Lean hashes anything: it is a label: what it is worth is what the hold of that sum in a sandbox is worth. -/
noncomputable def Try.pinned : Pinned := { name := "ytcbngjpihcemiaa", sum := "4492d30fa6ce9e687c15de0b309d79a2818aff8fdaa04173610e1efc978089f8", checked := Try.checked }
namespace Rows
def none {H : Type} : Left H := { results := [], args := [] }

/-- 'revenantlaw18.JournalGroups': WHATEVER THE INPUT: true; the input reads as it did. -/
def journalGroupsSpec : ChangeSpec := { name := "journalGroups", fn := fun _ => fun
  | [d1, d2, d3] => { results := [.lit (.bool true)], args := [d1, d2, d3] }
  | _ => none }
def journalGroupsRow : OpenClaim := { program := "ytcbngjpihcemiaa", sum := "4492d30fa6ce9e687c15de0b309d79a2818aff8fdaa04173610e1efc978089f8", func := "revenant/revenantlaw18.JournalGroups", spec := "journalGroups", apart := false }
def JournalGroupsSaid : Prop := journalGroupsRow.holds Try.pinned (OpenSpec.ofChange journalGroupsSpec)

/-- ITS FALSE NEIGHBOUR: 'it returns false'. Refute it at one input. -/
def journalGroupsWrong : ChangeSpec := { name := "journalGroups", fn := fun _ => fun
  | [d1, d2, d3] => { results := [.lit (.bool false)], args := [d1, d2, d3] }
  | _ => none }
def JournalGroupsWrongFalsely : Prop := journalGroupsRow.holds Try.pinned (OpenSpec.ofChange journalGroupsWrong)

/-- 'revenantlaw06.TapeActs': WHATEVER THE INPUT: true; the input reads as it did. -/
def tapeActsSpec : ChangeSpec := { name := "tapeActs", fn := fun _ => fun
  | [d1, d2] => { results := [.lit (.bool true)], args := [d1, d2] }
  | _ => none }
def tapeActsRow : OpenClaim := { program := "ytcbngjpihcemiaa", sum := "4492d30fa6ce9e687c15de0b309d79a2818aff8fdaa04173610e1efc978089f8", func := "revenant/revenantlaw06.TapeActs", spec := "tapeActs", unfollowed := true, recurses := true, apart := false }
def TapeActsSaid : Prop := tapeActsRow.holds Try.pinned (OpenSpec.ofChange tapeActsSpec)

/-- ITS FALSE NEIGHBOUR: 'it returns false'. Refute it at one input. -/
def tapeActsWrong : ChangeSpec := { name := "tapeActs", fn := fun _ => fun
  | [d1, d2] => { results := [.lit (.bool false)], args := [d1, d2] }
  | _ => none }
def TapeActsWrongFalsely : Prop := tapeActsRow.holds Try.pinned (OpenSpec.ofChange tapeActsWrong)

/-- 'revenantlaw07.LibraryActs': WHATEVER THE INPUT: true; the input reads as it did. -/
def libraryActsSpec : ChangeSpec := { name := "libraryActs", fn := fun _ => fun
  | [d] => { results := [.lit (.bool true)], args := [d] }
  | _ => none }
def libraryActsRow : OpenClaim := { program := "ytcbngjpihcemiaa", sum := "4492d30fa6ce9e687c15de0b309d79a2818aff8fdaa04173610e1efc978089f8", func := "revenant/revenantlaw07.LibraryActs", spec := "libraryActs", unfollowed := true, recurses := true, apart := false }
def LibraryActsSaid : Prop := libraryActsRow.holds Try.pinned (OpenSpec.ofChange libraryActsSpec)

/-- ITS FALSE NEIGHBOUR: 'it returns false'. Refute it at one input. -/
def libraryActsWrong : ChangeSpec := { name := "libraryActs", fn := fun _ => fun
  | [d] => { results := [.lit (.bool false)], args := [d] }
  | _ => none }
def LibraryActsWrongFalsely : Prop := libraryActsRow.holds Try.pinned (OpenSpec.ofChange libraryActsWrong)

/-- 'revenantlaw10.RootBytes': WHATEVER THE INPUT: true; the input reads as it did. -/
def rootBytesSpec : ChangeSpec := { name := "rootBytes", fn := fun _ => fun
  | [d1, d2] => { results := [.lit (.bool true)], args := [d1, d2] }
  | _ => none }
def rootBytesRow : OpenClaim := { program := "ytcbngjpihcemiaa", sum := "4492d30fa6ce9e687c15de0b309d79a2818aff8fdaa04173610e1efc978089f8", func := "revenant/revenantlaw10.RootBytes", spec := "rootBytes", recurses := true, apart := false }
def RootBytesSaid : Prop := rootBytesRow.holds Try.pinned (OpenSpec.ofChange rootBytesSpec)

/-- ITS FALSE NEIGHBOUR: 'it returns false'. Refute it at one input. -/
def rootBytesWrong : ChangeSpec := { name := "rootBytes", fn := fun _ => fun
  | [d1, d2] => { results := [.lit (.bool false)], args := [d1, d2] }
  | _ => none }
def RootBytesWrongFalsely : Prop := rootBytesRow.holds Try.pinned (OpenSpec.ofChange rootBytesWrong)

/-- 'revenantlaw15.SegmentBlocks': WHATEVER THE INPUT: true; the input reads as it did. -/
def segmentBlocksSpec : ChangeSpec := { name := "segmentBlocks", fn := fun _ => fun
  | [d1, d2, d3] => { results := [.lit (.bool true)], args := [d1, d2, d3] }
  | _ => none }
def segmentBlocksRow : OpenClaim := { program := "ytcbngjpihcemiaa", sum := "4492d30fa6ce9e687c15de0b309d79a2818aff8fdaa04173610e1efc978089f8", func := "revenant/revenantlaw15.SegmentBlocks", spec := "segmentBlocks", unfollowed := true, recurses := true, apart := false }
def SegmentBlocksSaid : Prop := segmentBlocksRow.holds Try.pinned (OpenSpec.ofChange segmentBlocksSpec)

/-- ITS FALSE NEIGHBOUR: 'it returns false'. Refute it at one input. -/
def segmentBlocksWrong : ChangeSpec := { name := "segmentBlocks", fn := fun _ => fun
  | [d1, d2, d3] => { results := [.lit (.bool false)], args := [d1, d2, d3] }
  | _ => none }
def SegmentBlocksWrongFalsely : Prop := segmentBlocksRow.holds Try.pinned (OpenSpec.ofChange segmentBlocksWrong)

/-- 'revenantlaw08.ExtentSets': WHATEVER THE INPUT: true; the input reads as it did. -/
def extentSetsSpec : ChangeSpec := { name := "extentSets", fn := fun _ => fun
  | [d1, d2, d3] => { results := [.lit (.bool true)], args := [d1, d2, d3] }
  | _ => none }
def extentSetsRow : OpenClaim := { program := "ytcbngjpihcemiaa", sum := "4492d30fa6ce9e687c15de0b309d79a2818aff8fdaa04173610e1efc978089f8", func := "revenant/revenantlaw08.ExtentSets", spec := "extentSets", unfollowed := true, recurses := true, apart := false }
def ExtentSetsSaid : Prop := extentSetsRow.holds Try.pinned (OpenSpec.ofChange extentSetsSpec)

/-- ITS FALSE NEIGHBOUR: 'it returns false'. Refute it at one input. -/
def extentSetsWrong : ChangeSpec := { name := "extentSets", fn := fun _ => fun
  | [d1, d2, d3] => { results := [.lit (.bool false)], args := [d1, d2, d3] }
  | _ => none }
def ExtentSetsWrongFalsely : Prop := extentSetsRow.holds Try.pinned (OpenSpec.ofChange extentSetsWrong)

/-- 'revenantlaw08.ExtentReads': WHATEVER THE INPUT: true; the input reads as it did. -/
def extentReadsSpec : ChangeSpec := { name := "extentReads", fn := fun _ => fun
  | [d1, d2] => { results := [.lit (.bool true)], args := [d1, d2] }
  | _ => none }
def extentReadsRow : OpenClaim := { program := "ytcbngjpihcemiaa", sum := "4492d30fa6ce9e687c15de0b309d79a2818aff8fdaa04173610e1efc978089f8", func := "revenant/revenantlaw08.ExtentReads", spec := "extentReads", unfollowed := true, recurses := true, apart := false }
def ExtentReadsSaid : Prop := extentReadsRow.holds Try.pinned (OpenSpec.ofChange extentReadsSpec)

/-- ITS FALSE NEIGHBOUR: 'it returns false'. Refute it at one input. -/
def extentReadsWrong : ChangeSpec := { name := "extentReads", fn := fun _ => fun
  | [d1, d2] => { results := [.lit (.bool false)], args := [d1, d2] }
  | _ => none }
def ExtentReadsWrongFalsely : Prop := extentReadsRow.holds Try.pinned (OpenSpec.ofChange extentReadsWrong)

/-- 'revenantlaw08.ExtentBytes': WHATEVER THE INPUT: true; the input reads as it did. -/
def extentBytesSpec : ChangeSpec := { name := "extentBytes", fn := fun _ => fun
  | [d] => { results := [.lit (.bool true)], args := [d] }
  | _ => none }
def extentBytesRow : OpenClaim := { program := "ytcbngjpihcemiaa", sum := "4492d30fa6ce9e687c15de0b309d79a2818aff8fdaa04173610e1efc978089f8", func := "revenant/revenantlaw08.ExtentBytes", spec := "extentBytes", unfollowed := true, recurses := true, apart := false }
def ExtentBytesSaid : Prop := extentBytesRow.holds Try.pinned (OpenSpec.ofChange extentBytesSpec)

/-- ITS FALSE NEIGHBOUR: 'it returns false'. Refute it at one input. -/
def extentBytesWrong : ChangeSpec := { name := "extentBytes", fn := fun _ => fun
  | [d] => { results := [.lit (.bool false)], args := [d] }
  | _ => none }
def ExtentBytesWrongFalsely : Prop := extentBytesRow.holds Try.pinned (OpenSpec.ofChange extentBytesWrong)

/-- 'revenantlaw09.ImageNil': WHATEVER THE INPUT: true; the input reads as it did. -/
def imageNilSpec : ChangeSpec := { name := "imageNil", fn := fun _ => fun
  | [d1, d2] => { results := [.lit (.bool true)], args := [d1, d2] }
  | _ => none }
def imageNilRow : OpenClaim := { program := "ytcbngjpihcemiaa", sum := "4492d30fa6ce9e687c15de0b309d79a2818aff8fdaa04173610e1efc978089f8", func := "revenant/revenantlaw09.ImageNil", spec := "imageNil", inPlace := ["maps.clone"], unfollowed := true, recurses := true, apart := false }
def ImageNilSaid : Prop := imageNilRow.holds Try.pinned (OpenSpec.ofChange imageNilSpec)

/-- ITS FALSE NEIGHBOUR: 'it returns false'. Refute it at one input. -/
def imageNilWrong : ChangeSpec := { name := "imageNil", fn := fun _ => fun
  | [d1, d2] => { results := [.lit (.bool false)], args := [d1, d2] }
  | _ => none }
def ImageNilWrongFalsely : Prop := imageNilRow.holds Try.pinned (OpenSpec.ofChange imageNilWrong)

/- THE SECOND FORM. 'bulk': how many values and letters a reading holds, each counted each time it is reached (what is shared counts as often as it is met; a slice's spare places count too). A statement '..UptoSaid' is the law's where the arguments, and the package variables that the reading takes, are together of bulk at most 1048576: NARROWER than '..Said'. Prove '..Said' where nothing that the law and all that it calls make is longer than what came in: it says more and counts as full. Else prove '..UptoSaid'. A law counts once. -/
mutual
def uptoBulk {H : Type} : DataW H → Nat
  | .lit (.string bytes) => bytes.length + 1
  | .lit _ => 1
  | .nil => 1
  | .ptr d => uptoBulk d + 1
  | .slice elems spare => uptoBulkAll elems + uptoBulkAll spare + 1
  | .agg parts => uptoBulkAll parts + 1
  | .iface _ d => uptoBulk d + 1
  | .map entries => uptoBulkEntries entries + 1
  | .held _ => 1
def uptoBulkAll {H : Type} : List (DataW H) → Nat
  | [] => 0
  | d :: r => uptoBulk d + uptoBulkAll r
def uptoBulkEntries {H : Type} : List (Lit × DataW H) → Nat
  | [] => 0
  | x :: r => uptoBulkEntry x + uptoBulkEntries r
def uptoBulkEntry {H : Type} : Lit × DataW H → Nat
  | (.string bytes, d) => bytes.length + uptoBulk d + 1
  | (_, d) => uptoBulk d + 1
 end
def uptoSmall : (H : Type) → List (DataW H) → Bool := fun _ ds => decide (uptoBulkAll ds ≤ 1048576)
def OpenSpec.upto (s : _root_.Go.ChangeSpec) : _root_.Go.OpenSpec := { _root_.Go.OpenSpec.ofChange s with cond := some uptoSmall }

/-- 'revenantlaw18.JournalGroups', WHERE WHAT IT READS IS OF BULK AT MOST 1048576: true; the input reads as it did. -/
def journalGroupsUptoRow : OpenClaim := { program := "ytcbngjpihcemiaa", sum := "4492d30fa6ce9e687c15de0b309d79a2818aff8fdaa04173610e1efc978089f8", func := "revenant/revenantlaw18.JournalGroups", spec := "journalGroups", apart := false, narrowed := true }
def JournalGroupsUptoSaid : Prop := journalGroupsUptoRow.holds Try.pinned (OpenSpec.upto journalGroupsSpec)

/-- 'revenantlaw06.TapeActs', WHERE WHAT IT READS IS OF BULK AT MOST 1048576: true; the input reads as it did. -/
def tapeActsUptoRow : OpenClaim := { program := "ytcbngjpihcemiaa", sum := "4492d30fa6ce9e687c15de0b309d79a2818aff8fdaa04173610e1efc978089f8", func := "revenant/revenantlaw06.TapeActs", spec := "tapeActs", unfollowed := true, recurses := true, apart := false, narrowed := true }
def TapeActsUptoSaid : Prop := tapeActsUptoRow.holds Try.pinned (OpenSpec.upto tapeActsSpec)

/-- 'revenantlaw07.LibraryActs', WHERE WHAT IT READS IS OF BULK AT MOST 1048576: true; the input reads as it did. -/
def libraryActsUptoRow : OpenClaim := { program := "ytcbngjpihcemiaa", sum := "4492d30fa6ce9e687c15de0b309d79a2818aff8fdaa04173610e1efc978089f8", func := "revenant/revenantlaw07.LibraryActs", spec := "libraryActs", unfollowed := true, recurses := true, apart := false, narrowed := true }
def LibraryActsUptoSaid : Prop := libraryActsUptoRow.holds Try.pinned (OpenSpec.upto libraryActsSpec)

/-- 'revenantlaw10.RootBytes', WHERE WHAT IT READS IS OF BULK AT MOST 1048576: true; the input reads as it did. -/
def rootBytesUptoRow : OpenClaim := { program := "ytcbngjpihcemiaa", sum := "4492d30fa6ce9e687c15de0b309d79a2818aff8fdaa04173610e1efc978089f8", func := "revenant/revenantlaw10.RootBytes", spec := "rootBytes", recurses := true, apart := false, narrowed := true }
def RootBytesUptoSaid : Prop := rootBytesUptoRow.holds Try.pinned (OpenSpec.upto rootBytesSpec)

/-- 'revenantlaw15.SegmentBlocks', WHERE WHAT IT READS IS OF BULK AT MOST 1048576: true; the input reads as it did. -/
def segmentBlocksUptoRow : OpenClaim := { program := "ytcbngjpihcemiaa", sum := "4492d30fa6ce9e687c15de0b309d79a2818aff8fdaa04173610e1efc978089f8", func := "revenant/revenantlaw15.SegmentBlocks", spec := "segmentBlocks", unfollowed := true, recurses := true, apart := false, narrowed := true }
def SegmentBlocksUptoSaid : Prop := segmentBlocksUptoRow.holds Try.pinned (OpenSpec.upto segmentBlocksSpec)

/-- 'revenantlaw08.ExtentSets', WHERE WHAT IT READS IS OF BULK AT MOST 1048576: true; the input reads as it did. -/
def extentSetsUptoRow : OpenClaim := { program := "ytcbngjpihcemiaa", sum := "4492d30fa6ce9e687c15de0b309d79a2818aff8fdaa04173610e1efc978089f8", func := "revenant/revenantlaw08.ExtentSets", spec := "extentSets", unfollowed := true, recurses := true, apart := false, narrowed := true }
def ExtentSetsUptoSaid : Prop := extentSetsUptoRow.holds Try.pinned (OpenSpec.upto extentSetsSpec)

/-- 'revenantlaw08.ExtentReads', WHERE WHAT IT READS IS OF BULK AT MOST 1048576: true; the input reads as it did. -/
def extentReadsUptoRow : OpenClaim := { program := "ytcbngjpihcemiaa", sum := "4492d30fa6ce9e687c15de0b309d79a2818aff8fdaa04173610e1efc978089f8", func := "revenant/revenantlaw08.ExtentReads", spec := "extentReads", unfollowed := true, recurses := true, apart := false, narrowed := true }
def ExtentReadsUptoSaid : Prop := extentReadsUptoRow.holds Try.pinned (OpenSpec.upto extentReadsSpec)

/-- 'revenantlaw08.ExtentBytes', WHERE WHAT IT READS IS OF BULK AT MOST 1048576: true; the input reads as it did. -/
def extentBytesUptoRow : OpenClaim := { program := "ytcbngjpihcemiaa", sum := "4492d30fa6ce9e687c15de0b309d79a2818aff8fdaa04173610e1efc978089f8", func := "revenant/revenantlaw08.ExtentBytes", spec := "extentBytes", unfollowed := true, recurses := true, apart := false, narrowed := true }
def ExtentBytesUptoSaid : Prop := extentBytesUptoRow.holds Try.pinned (OpenSpec.upto extentBytesSpec)

/-- 'revenantlaw09.ImageNil', WHERE WHAT IT READS IS OF BULK AT MOST 1048576: true; the input reads as it did. -/
def imageNilUptoRow : OpenClaim := { program := "ytcbngjpihcemiaa", sum := "4492d30fa6ce9e687c15de0b309d79a2818aff8fdaa04173610e1efc978089f8", func := "revenant/revenantlaw09.ImageNil", spec := "imageNil", inPlace := ["maps.clone"], unfollowed := true, recurses := true, apart := false, narrowed := true }
def ImageNilUptoSaid : Prop := imageNilUptoRow.holds Try.pinned (OpenSpec.upto imageNilSpec)

end Rows
end Go.Proofs.Ytcbngjpihcemiaa
