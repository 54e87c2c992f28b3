/-
  No cell of these rows narrows 'for every input' (looked for: loops, veiled, ifaces, maps, wideKeys, modest, calm, conditions, laid).
  DERIVED. THE GIVEN ROWS OF THIS SEAT. 6 by the template 'for every input the law returns true; each argument reads behind the call as it read before'; 0 by the template 'total and deterministic' (their statements: YtifmhhiabopgmaaTotals.lean).
  GIVEN WITH THE SEED: the statements are not yours to turn. If you find one false, say at which input.
  Laid BY PROGRAM, IN A SANDBOX (cutbox-rows.mjs): the forced cells as the released guide's own fill.sh prints them over the translation 7d0553b9f3e9bd83… (all of the seat's roots in one cut). By AI agents, Wed Nov 11 2026. No macro, syntax, notation, axiom, sorry.
-/
import Derived.Test.YtifmhhiabopgmaaChecked
import GoSem.Claim
import GoSem.ClaimJoined
import GoSem.ClaimMapViews
import Derived.JoinedTies
import Derived.KernelRfl
namespace Go.Proofs.Ytifmhhiabopgmaa
/- THE CELL 'sum', in the pinned program and in every row, IS THE sha256 OF THE DUMP (.gsa) THAT YtifmhhiabopgmaaProg.lean LOADS. Nothing in Lean hashes anything: it is a label: what it is worth is what the hold of that sum in a sandbox is worth. -/
noncomputable def Try.pinned : Pinned := { name := "ytifmhhiabopgmaa", sum := "7d0553b9f3e9bd8390d807fad05b142ea777444207c4bf9166de957d9d434518", checked := Try.checked }
namespace Rows
def none {H : Type} : Left H := { results := [], args := [] }

/-- 'revenantlaw18.JournalNil': WHATEVER THE INPUT: true; the input reads as it did. -/
def journalNilSpec : ChangeSpec := { name := "journalNil", fn := fun _ => fun
  | [d] => { results := [.lit (.bool true)], args := [d] }
  | _ => none }
def journalNilRow : OpenClaim := { program := "ytifmhhiabopgmaa", sum := "7d0553b9f3e9bd8390d807fad05b142ea777444207c4bf9166de957d9d434518", func := "revenant/revenantlaw18.JournalNil", spec := "journalNil", apart := false }
def JournalNilSaid : Prop := journalNilRow.holds Try.pinned (OpenSpec.ofChange journalNilSpec)

/-- ITS FALSE NEIGHBOUR: 'it returns false'. Refute it at one input. -/
def journalNilWrong : ChangeSpec := { name := "journalNil", fn := fun _ => fun
  | [d] => { results := [.lit (.bool false)], args := [d] }
  | _ => none }
def JournalNilWrongFalsely : Prop := journalNilRow.holds Try.pinned (OpenSpec.ofChange journalNilWrong)

/-- 'revenantlaw06.TapeArgs': WHATEVER THE INPUT: true; the input reads as it did. -/
def tapeArgsSpec : ChangeSpec := { name := "tapeArgs", fn := fun _ => fun
  | [d1, d2] => { results := [.lit (.bool true)], args := [d1, d2] }
  | _ => none }
def tapeArgsRow : OpenClaim := { program := "ytifmhhiabopgmaa", sum := "7d0553b9f3e9bd8390d807fad05b142ea777444207c4bf9166de957d9d434518", func := "revenant/revenantlaw06.TapeArgs", spec := "tapeArgs", unfollowed := true, recurses := true, apart := false }
def TapeArgsSaid : Prop := tapeArgsRow.holds Try.pinned (OpenSpec.ofChange tapeArgsSpec)

/-- ITS FALSE NEIGHBOUR: 'it returns false'. Refute it at one input. -/
def tapeArgsWrong : ChangeSpec := { name := "tapeArgs", fn := fun _ => fun
  | [d1, d2] => { results := [.lit (.bool false)], args := [d1, d2] }
  | _ => none }
def TapeArgsWrongFalsely : Prop := tapeArgsRow.holds Try.pinned (OpenSpec.ofChange tapeArgsWrong)

/-- 'revenantlaw07.LibraryNil': WHATEVER THE INPUT: true; the input reads as it did. -/
def libraryNilSpec : ChangeSpec := { name := "libraryNil", fn := fun _ => fun
  | [d] => { results := [.lit (.bool true)], args := [d] }
  | _ => none }
def libraryNilRow : OpenClaim := { program := "ytifmhhiabopgmaa", sum := "7d0553b9f3e9bd8390d807fad05b142ea777444207c4bf9166de957d9d434518", func := "revenant/revenantlaw07.LibraryNil", spec := "libraryNil", apart := false }
def LibraryNilSaid : Prop := libraryNilRow.holds Try.pinned (OpenSpec.ofChange libraryNilSpec)

/-- ITS FALSE NEIGHBOUR: 'it returns false'. Refute it at one input. -/
def libraryNilWrong : ChangeSpec := { name := "libraryNil", fn := fun _ => fun
  | [d] => { results := [.lit (.bool false)], args := [d] }
  | _ => none }
def LibraryNilWrongFalsely : Prop := libraryNilRow.holds Try.pinned (OpenSpec.ofChange libraryNilWrong)

/-- 'revenantlaw10.RootArgs': WHATEVER THE INPUT: true; the input reads as it did. -/
def rootArgsSpec : ChangeSpec := { name := "rootArgs", fn := fun _ => fun
  | [d] => { results := [.lit (.bool true)], args := [d] }
  | _ => none }
def rootArgsRow : OpenClaim := { program := "ytifmhhiabopgmaa", sum := "7d0553b9f3e9bd8390d807fad05b142ea777444207c4bf9166de957d9d434518", func := "revenant/revenantlaw10.RootArgs", spec := "rootArgs", apart := false }
def RootArgsSaid : Prop := rootArgsRow.holds Try.pinned (OpenSpec.ofChange rootArgsSpec)

/-- ITS FALSE NEIGHBOUR: 'it returns false'. Refute it at one input. -/
def rootArgsWrong : ChangeSpec := { name := "rootArgs", fn := fun _ => fun
  | [d] => { results := [.lit (.bool false)], args := [d] }
  | _ => none }
def RootArgsWrongFalsely : Prop := rootArgsRow.holds Try.pinned (OpenSpec.ofChange rootArgsWrong)

/-- 'revenantlaw17.ReaderNil': WHATEVER THE INPUT: true; the input reads as it did. -/
def readerNilSpec : ChangeSpec := { name := "readerNil", fn := fun _ => fun
  | [d] => { results := [.lit (.bool true)], args := [d] }
  | _ => none }
def readerNilRow : OpenClaim := { program := "ytifmhhiabopgmaa", sum := "7d0553b9f3e9bd8390d807fad05b142ea777444207c4bf9166de957d9d434518", func := "revenant/revenantlaw17.ReaderNil", spec := "readerNil", unfollowed := true, recurses := true, apart := false }
def ReaderNilSaid : Prop := readerNilRow.holds Try.pinned (OpenSpec.ofChange readerNilSpec)

/-- ITS FALSE NEIGHBOUR: 'it returns false'. Refute it at one input. -/
def readerNilWrong : ChangeSpec := { name := "readerNil", fn := fun _ => fun
  | [d] => { results := [.lit (.bool false)], args := [d] }
  | _ => none }
def ReaderNilWrongFalsely : Prop := readerNilRow.holds Try.pinned (OpenSpec.ofChange readerNilWrong)

/-- 'revenantlaw09.ImageNil': WHATEVER THE INPUT: true; the input reads as it did. -/
def imageNilSpec : ChangeSpec := { name := "imageNil", fn := fun _ => fun
  | [d1, d2] => { results := [.lit (.bool true)], args := [d1, d2] }
  | _ => none }
def imageNilRow : OpenClaim := { program := "ytifmhhiabopgmaa", sum := "7d0553b9f3e9bd8390d807fad05b142ea777444207c4bf9166de957d9d434518", func := "revenant/revenantlaw09.ImageNil", spec := "imageNil", inPlace := ["maps.clone"], unfollowed := true, recurses := true, apart := false }
def ImageNilSaid : Prop := imageNilRow.holds Try.pinned (OpenSpec.ofChange imageNilSpec)

/-- ITS FALSE NEIGHBOUR: 'it returns false'. Refute it at one input. -/
def imageNilWrong : ChangeSpec := { name := "imageNil", fn := fun _ => fun
  | [d1, d2] => { results := [.lit (.bool false)], args := [d1, d2] }
  | _ => none }
def ImageNilWrongFalsely : Prop := imageNilRow.holds Try.pinned (OpenSpec.ofChange imageNilWrong)

/- THE SECOND FORM. 'bulk': how many values and letters a reading holds, each counted each time it is reached (what is shared counts as often as it is met; a slice's spare places count too). A statement '..UptoSaid' is the law's where the arguments, and the package variables that the reading takes, are together of bulk at most 1048576: NARROWER than '..Said'. Prove '..Said' where nothing that the law and all that it calls make is longer than what came in: it says more and counts as full. Else prove '..UptoSaid'. A law counts once. -/
mutual
def uptoBulk {H : Type} : DataW H → Nat
  | .lit (.string bytes) => bytes.length + 1
  | .lit _ => 1
  | .nil => 1
  | .ptr d => uptoBulk d + 1
  | .slice elems spare => uptoBulkAll elems + uptoBulkAll spare + 1
  | .agg parts => uptoBulkAll parts + 1
  | .iface _ d => uptoBulk d + 1
  | .map entries => uptoBulkEntries entries + 1
  | .held _ => 1
def uptoBulkAll {H : Type} : List (DataW H) → Nat
  | [] => 0
  | d :: r => uptoBulk d + uptoBulkAll r
def uptoBulkEntries {H : Type} : List (Lit × DataW H) → Nat
  | [] => 0
  | x :: r => uptoBulkEntry x + uptoBulkEntries r
def uptoBulkEntry {H : Type} : Lit × DataW H → Nat
  | (.string bytes, d) => bytes.length + uptoBulk d + 1
  | (_, d) => uptoBulk d + 1
 end
def uptoSmall : (H : Type) → List (DataW H) → Bool := fun _ ds => decide (uptoBulkAll ds ≤ 1048576)
def OpenSpec.upto (s : _root_.Go.ChangeSpec) : _root_.Go.OpenSpec := { _root_.Go.OpenSpec.ofChange s with cond := some uptoSmall }

/-- 'revenantlaw18.JournalNil', WHERE WHAT IT READS IS OF BULK AT MOST 1048576: true; the input reads as it did. -/
def journalNilUptoRow : OpenClaim := { program := "ytifmhhiabopgmaa", sum := "7d0553b9f3e9bd8390d807fad05b142ea777444207c4bf9166de957d9d434518", func := "revenant/revenantlaw18.JournalNil", spec := "journalNil", apart := false, narrowed := true }
def JournalNilUptoSaid : Prop := journalNilUptoRow.holds Try.pinned (OpenSpec.upto journalNilSpec)

/-- 'revenantlaw06.TapeArgs', WHERE WHAT IT READS IS OF BULK AT MOST 1048576: true; the input reads as it did. -/
def tapeArgsUptoRow : OpenClaim := { program := "ytifmhhiabopgmaa", sum := "7d0553b9f3e9bd8390d807fad05b142ea777444207c4bf9166de957d9d434518", func := "revenant/revenantlaw06.TapeArgs", spec := "tapeArgs", unfollowed := true, recurses := true, apart := false, narrowed := true }
def TapeArgsUptoSaid : Prop := tapeArgsUptoRow.holds Try.pinned (OpenSpec.upto tapeArgsSpec)

/-- 'revenantlaw07.LibraryNil', WHERE WHAT IT READS IS OF BULK AT MOST 1048576: true; the input reads as it did. -/
def libraryNilUptoRow : OpenClaim := { program := "ytifmhhiabopgmaa", sum := "7d0553b9f3e9bd8390d807fad05b142ea777444207c4bf9166de957d9d434518", func := "revenant/revenantlaw07.LibraryNil", spec := "libraryNil", apart := false, narrowed := true }
def LibraryNilUptoSaid : Prop := libraryNilUptoRow.holds Try.pinned (OpenSpec.upto libraryNilSpec)

/-- 'revenantlaw10.RootArgs', WHERE WHAT IT READS IS OF BULK AT MOST 1048576: true; the input reads as it did. -/
def rootArgsUptoRow : OpenClaim := { program := "ytifmhhiabopgmaa", sum := "7d0553b9f3e9bd8390d807fad05b142ea777444207c4bf9166de957d9d434518", func := "revenant/revenantlaw10.RootArgs", spec := "rootArgs", apart := false, narrowed := true }
def RootArgsUptoSaid : Prop := rootArgsUptoRow.holds Try.pinned (OpenSpec.upto rootArgsSpec)

/-- 'revenantlaw17.ReaderNil', WHERE WHAT IT READS IS OF BULK AT MOST 1048576: true; the input reads as it did. -/
def readerNilUptoRow : OpenClaim := { program := "ytifmhhiabopgmaa", sum := "7d0553b9f3e9bd8390d807fad05b142ea777444207c4bf9166de957d9d434518", func := "revenant/revenantlaw17.ReaderNil", spec := "readerNil", unfollowed := true, recurses := true, apart := false, narrowed := true }
def ReaderNilUptoSaid : Prop := readerNilUptoRow.holds Try.pinned (OpenSpec.upto readerNilSpec)

/-- 'revenantlaw09.ImageNil', WHERE WHAT IT READS IS OF BULK AT MOST 1048576: true; the input reads as it did. -/
def imageNilUptoRow : OpenClaim := { program := "ytifmhhiabopgmaa", sum := "7d0553b9f3e9bd8390d807fad05b142ea777444207c4bf9166de957d9d434518", func := "revenant/revenantlaw09.ImageNil", spec := "imageNil", inPlace := ["maps.clone"], unfollowed := true, recurses := true, apart := false, narrowed := true }
def ImageNilUptoSaid : Prop := imageNilUptoRow.holds Try.pinned (OpenSpec.upto imageNilSpec)

end Rows
end Go.Proofs.Ytifmhhiabopgmaa
