/-
  No cell of these rows narrows 'for every input' (looked for: loops, veiled, ifaces, maps, wideKeys, modest, calm, conditions, laid).
  DERIVED. THE GIVEN ROWS OF THIS SEAT. 5 by the template 'for every input the law returns true; each argument reads behind the call as it read before'; 0 by the template 'total and deterministic' (their statements: YtjlimdiimdihfaaTotals.lean).
  GIVEN WITH THE SEED: the statements are not yours to turn. If you find one false, say at which input.
  Laid BY PROGRAM, IN A SANDBOX (cutbox-rows.mjs): the forced cells as the released guide's own fill.sh prints them over the translation 6eb5637e6e5c3624… (all of the seat's roots in one cut). By AI agents, Wed Nov 11 2026. No macro, syntax, notation, axiom, sorry.
-/
import Derived.Test.YtjlimdiimdihfaaChecked
import GoSem.Claim
import GoSem.ClaimJoined
import GoSem.ClaimMapViews
import Derived.JoinedTies
import Derived.KernelRfl
namespace Go.Proofs.Ytjlimdiimdihfaa
/- THE CELL 'sum', in the pinned program and in every row, IS THE sha256 OF THE DUMP (.gsa) THAT YtjlimdiimdihfaaProg.lean LOADS. Nothing in Lean hashes anything: it is a label: what it is worth is what the hold of that sum in a sandbox is worth. -/
noncomputable def Try.pinned : Pinned := { name := "ytjlimdiimdihfaa", sum := "6eb5637e6e5c36240b96b181075cb524e0abc0a42d7dcdb45e6278f4c689a88a", checked := Try.checked }
namespace Rows
def none {H : Type} : Left H := { results := [], args := [] }

/-- 'revenantlaw15.SegmentReads': WHATEVER THE INPUT: true; the input reads as it did. -/
def segmentReadsSpec : ChangeSpec := { name := "segmentReads", fn := fun _ => fun
  | [d] => { results := [.lit (.bool true)], args := [d] }
  | _ => none }
def segmentReadsRow : OpenClaim := { program := "ytjlimdiimdihfaa", sum := "6eb5637e6e5c36240b96b181075cb524e0abc0a42d7dcdb45e6278f4c689a88a", func := "revenant/revenantlaw15.SegmentReads", spec := "segmentReads", unfollowed := true, recurses := true, apart := false }
def SegmentReadsSaid : Prop := segmentReadsRow.holds Try.pinned (OpenSpec.ofChange segmentReadsSpec)

/-- ITS FALSE NEIGHBOUR: 'it returns false'. Refute it at one input. -/
def segmentReadsWrong : ChangeSpec := { name := "segmentReads", fn := fun _ => fun
  | [d] => { results := [.lit (.bool false)], args := [d] }
  | _ => none }
def SegmentReadsWrongFalsely : Prop := segmentReadsRow.holds Try.pinned (OpenSpec.ofChange segmentReadsWrong)

/-- 'revenantlaw12.RecordBytes': WHATEVER THE INPUT: true; the input reads as it did. -/
def recordBytesSpec : ChangeSpec := { name := "recordBytes", fn := fun _ => fun
  | [d] => { results := [.lit (.bool true)], args := [d] }
  | _ => none }
def recordBytesRow : OpenClaim := { program := "ytjlimdiimdihfaa", sum := "6eb5637e6e5c36240b96b181075cb524e0abc0a42d7dcdb45e6278f4c689a88a", func := "revenant/revenantlaw12.RecordBytes", spec := "recordBytes", recurses := true, apart := false }
def RecordBytesSaid : Prop := recordBytesRow.holds Try.pinned (OpenSpec.ofChange recordBytesSpec)

/-- ITS FALSE NEIGHBOUR: 'it returns false'. Refute it at one input. -/
def recordBytesWrong : ChangeSpec := { name := "recordBytes", fn := fun _ => fun
  | [d] => { results := [.lit (.bool false)], args := [d] }
  | _ => none }
def RecordBytesWrongFalsely : Prop := recordBytesRow.holds Try.pinned (OpenSpec.ofChange recordBytesWrong)

/-- 'revenantlaw12.RecordReads': WHATEVER THE INPUT: true; the input reads as it did. -/
def recordReadsSpec : ChangeSpec := { name := "recordReads", fn := fun _ => fun
  | [d] => { results := [.lit (.bool true)], args := [d] }
  | _ => none }
def recordReadsRow : OpenClaim := { program := "ytjlimdiimdihfaa", sum := "6eb5637e6e5c36240b96b181075cb524e0abc0a42d7dcdb45e6278f4c689a88a", func := "revenant/revenantlaw12.RecordReads", spec := "recordReads", apart := false }
def RecordReadsSaid : Prop := recordReadsRow.holds Try.pinned (OpenSpec.ofChange recordReadsSpec)

/-- ITS FALSE NEIGHBOUR: 'it returns false'. Refute it at one input. -/
def recordReadsWrong : ChangeSpec := { name := "recordReads", fn := fun _ => fun
  | [d] => { results := [.lit (.bool false)], args := [d] }
  | _ => none }
def RecordReadsWrongFalsely : Prop := recordReadsRow.holds Try.pinned (OpenSpec.ofChange recordReadsWrong)

/-- 'revenantlaw12.RecordSame': WHATEVER THE INPUT: true; the input reads as it did. -/
def recordSameSpec : ChangeSpec := { name := "recordSame", fn := fun _ => fun
  | [d1, d2] => { results := [.lit (.bool true)], args := [d1, d2] }
  | _ => none }
def recordSameRow : OpenClaim := { program := "ytjlimdiimdihfaa", sum := "6eb5637e6e5c36240b96b181075cb524e0abc0a42d7dcdb45e6278f4c689a88a", func := "revenant/revenantlaw12.RecordSame", spec := "recordSame", apart := false }
def RecordSameSaid : Prop := recordSameRow.holds Try.pinned (OpenSpec.ofChange recordSameSpec)

/-- ITS FALSE NEIGHBOUR: 'it returns false'. Refute it at one input. -/
def recordSameWrong : ChangeSpec := { name := "recordSame", fn := fun _ => fun
  | [d1, d2] => { results := [.lit (.bool false)], args := [d1, d2] }
  | _ => none }
def RecordSameWrongFalsely : Prop := recordSameRow.holds Try.pinned (OpenSpec.ofChange recordSameWrong)

/-- 'revenantlaw15.SegmentBlocks': WHATEVER THE INPUT: true; the input reads as it did. -/
def segmentBlocksSpec : ChangeSpec := { name := "segmentBlocks", fn := fun _ => fun
  | [d1, d2, d3] => { results := [.lit (.bool true)], args := [d1, d2, d3] }
  | _ => none }
def segmentBlocksRow : OpenClaim := { program := "ytjlimdiimdihfaa", sum := "6eb5637e6e5c36240b96b181075cb524e0abc0a42d7dcdb45e6278f4c689a88a", func := "revenant/revenantlaw15.SegmentBlocks", spec := "segmentBlocks", unfollowed := true, recurses := true, apart := false }
def SegmentBlocksSaid : Prop := segmentBlocksRow.holds Try.pinned (OpenSpec.ofChange segmentBlocksSpec)

/-- ITS FALSE NEIGHBOUR: 'it returns false'. Refute it at one input. -/
def segmentBlocksWrong : ChangeSpec := { name := "segmentBlocks", fn := fun _ => fun
  | [d1, d2, d3] => { results := [.lit (.bool false)], args := [d1, d2, d3] }
  | _ => none }
def SegmentBlocksWrongFalsely : Prop := segmentBlocksRow.holds Try.pinned (OpenSpec.ofChange segmentBlocksWrong)

/- THE SECOND FORM. 'bulk': how many values and letters a reading holds, each counted each time it is reached (what is shared counts as often as it is met; a slice's spare places count too). A statement '..UptoSaid' is the law's where the arguments, and the package variables that the reading takes, are together of bulk at most 1048576: NARROWER than '..Said'. Prove '..Said' where nothing that the law and all that it calls make is longer than what came in: it says more and counts as full. Else prove '..UptoSaid'. A law counts once. -/
mutual
def uptoBulk {H : Type} : DataW H → Nat
  | .lit (.string bytes) => bytes.length + 1
  | .lit _ => 1
  | .nil => 1
  | .ptr d => uptoBulk d + 1
  | .slice elems spare => uptoBulkAll elems + uptoBulkAll spare + 1
  | .agg parts => uptoBulkAll parts + 1
  | .iface _ d => uptoBulk d + 1
  | .map entries => uptoBulkEntries entries + 1
  | .held _ => 1
def uptoBulkAll {H : Type} : List (DataW H) → Nat
  | [] => 0
  | d :: r => uptoBulk d + uptoBulkAll r
def uptoBulkEntries {H : Type} : List (Lit × DataW H) → Nat
  | [] => 0
  | x :: r => uptoBulkEntry x + uptoBulkEntries r
def uptoBulkEntry {H : Type} : Lit × DataW H → Nat
  | (.string bytes, d) => bytes.length + uptoBulk d + 1
  | (_, d) => uptoBulk d + 1
 end
def uptoSmall : (H : Type) → List (DataW H) → Bool := fun _ ds => decide (uptoBulkAll ds ≤ 1048576)
def OpenSpec.upto (s : _root_.Go.ChangeSpec) : _root_.Go.OpenSpec := { _root_.Go.OpenSpec.ofChange s with cond := some uptoSmall }

/-- 'revenantlaw15.SegmentReads', WHERE WHAT IT READS IS OF BULK AT MOST 1048576: true; the input reads as it did. -/
def segmentReadsUptoRow : OpenClaim := { program := "ytjlimdiimdihfaa", sum := "6eb5637e6e5c36240b96b181075cb524e0abc0a42d7dcdb45e6278f4c689a88a", func := "revenant/revenantlaw15.SegmentReads", spec := "segmentReads", unfollowed := true, recurses := true, apart := false, narrowed := true }
def SegmentReadsUptoSaid : Prop := segmentReadsUptoRow.holds Try.pinned (OpenSpec.upto segmentReadsSpec)

/-- 'revenantlaw12.RecordBytes', WHERE WHAT IT READS IS OF BULK AT MOST 1048576: true; the input reads as it did. -/
def recordBytesUptoRow : OpenClaim := { program := "ytjlimdiimdihfaa", sum := "6eb5637e6e5c36240b96b181075cb524e0abc0a42d7dcdb45e6278f4c689a88a", func := "revenant/revenantlaw12.RecordBytes", spec := "recordBytes", recurses := true, apart := false, narrowed := true }
def RecordBytesUptoSaid : Prop := recordBytesUptoRow.holds Try.pinned (OpenSpec.upto recordBytesSpec)

/-- 'revenantlaw12.RecordReads', WHERE WHAT IT READS IS OF BULK AT MOST 1048576: true; the input reads as it did. -/
def recordReadsUptoRow : OpenClaim := { program := "ytjlimdiimdihfaa", sum := "6eb5637e6e5c36240b96b181075cb524e0abc0a42d7dcdb45e6278f4c689a88a", func := "revenant/revenantlaw12.RecordReads", spec := "recordReads", apart := false, narrowed := true }
def RecordReadsUptoSaid : Prop := recordReadsUptoRow.holds Try.pinned (OpenSpec.upto recordReadsSpec)

/-- 'revenantlaw12.RecordSame', WHERE WHAT IT READS IS OF BULK AT MOST 1048576: true; the input reads as it did. -/
def recordSameUptoRow : OpenClaim := { program := "ytjlimdiimdihfaa", sum := "6eb5637e6e5c36240b96b181075cb524e0abc0a42d7dcdb45e6278f4c689a88a", func := "revenant/revenantlaw12.RecordSame", spec := "recordSame", apart := false, narrowed := true }
def RecordSameUptoSaid : Prop := recordSameUptoRow.holds Try.pinned (OpenSpec.upto recordSameSpec)

/-- 'revenantlaw15.SegmentBlocks', WHERE WHAT IT READS IS OF BULK AT MOST 1048576: true; the input reads as it did. -/
def segmentBlocksUptoRow : OpenClaim := { program := "ytjlimdiimdihfaa", sum := "6eb5637e6e5c36240b96b181075cb524e0abc0a42d7dcdb45e6278f4c689a88a", func := "revenant/revenantlaw15.SegmentBlocks", spec := "segmentBlocks", unfollowed := true, recurses := true, apart := false, narrowed := true }
def SegmentBlocksUptoSaid : Prop := segmentBlocksUptoRow.holds Try.pinned (OpenSpec.upto segmentBlocksSpec)

end Rows
end Go.Proofs.Ytjlimdiimdihfaa
