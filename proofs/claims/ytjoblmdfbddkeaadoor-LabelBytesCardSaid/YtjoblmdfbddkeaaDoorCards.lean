/-
  DERIVED. GIVEN WITH THE SEED: THE CARDS: each row of YtjoblmdfbddkeaaDoorRows.lean that lists a variable, with what it lists TIED to the program's text (the seventh form; the later family's looks); each row that meets fmt, with fmt's text TOLD by the authors' own Lean function (tested against real Go, not proved from fmt's source: count such statements apart). THE CARD IS WHAT COUNTS. Prove the row's statement (the work); the ties are given (YtjoblmdfbddkeaaDoorTie.lean); close each card by the builder's one call (the guide's Derived/Test/ToyasCard.lean, 'card_holds'). Laid BY PROGRAM, IN A SANDBOX (cutbox-door.mjs). By AI agents, Wed Nov 11 2026. No macro, syntax, notation, axiom, sorry.
-/
import Derived.Test.YtjoblmdfbddkeaaDoorRows
import GoSem.ClaimSeven
namespace Go.Proofs.YtjoblmdfbddkeaaDoor
namespace Rows

/-- THE TIED CARD OF 'revenantlaw14.LabelReads'. -/
def labelReadsCard : Claim7 := { stood := { row := labelReadsRow, standIns := [], harness := (true, "2a758fa3aea8aa91db2f9698d7899011e37acb0e24cdbd1fe4ba389561dcb33c"), looks := false }, kinds := [], alts := [], laidByText := true, laidKinds := [.data, .pinned], laidTests := true, laidLooks := .later }
def LabelReadsCardSaid : Prop := Claim7.holds Tryd.pinned (.plain (OpenSpec.ofChange labelReadsSpec)) labelReadsCard

/-- THE TIED CARD OF 'revenantlaw14.LabelBytes'. -/
def labelBytesCard : Claim7 := { stood := { row := labelBytesRow, standIns := [], harness := (true, "2a758fa3aea8aa91db2f9698d7899011e37acb0e24cdbd1fe4ba389561dcb33c"), looks := false }, kinds := [], alts := [], laidByText := true, laidKinds := [.data, .pinned], laidTests := true, laidLooks := .later }
def LabelBytesCardSaid : Prop := Claim7.holds Tryd.pinned (.plain (OpenSpec.ofChange labelBytesSpec)) labelBytesCard

/-- THE SECOND FORM's CARD OF 'revenantlaw14.LabelReads'. -/
def labelReadsUptoCard : Claim7 := { stood := { row := labelReadsUptoRow, standIns := [], harness := (true, "2a758fa3aea8aa91db2f9698d7899011e37acb0e24cdbd1fe4ba389561dcb33c"), looks := false }, kinds := [], alts := [], laidByText := true, laidKinds := [.data, .pinned], laidTests := true, laidLooks := .later }
def LabelReadsUptoCardSaid : Prop := Claim7.holds Tryd.pinned (.plain (OpenSpec.upto labelReadsSpec)) labelReadsUptoCard

/-- THE SECOND FORM's CARD OF 'revenantlaw14.LabelBytes'. -/
def labelBytesUptoCard : Claim7 := { stood := { row := labelBytesUptoRow, standIns := [], harness := (true, "2a758fa3aea8aa91db2f9698d7899011e37acb0e24cdbd1fe4ba389561dcb33c"), looks := false }, kinds := [], alts := [], laidByText := true, laidKinds := [.data, .pinned], laidTests := true, laidLooks := .later }
def LabelBytesUptoCardSaid : Prop := Claim7.holds Tryd.pinned (.plain (OpenSpec.upto labelBytesSpec)) labelBytesUptoCard
end Rows
end Go.Proofs.YtjoblmdfbddkeaaDoor
