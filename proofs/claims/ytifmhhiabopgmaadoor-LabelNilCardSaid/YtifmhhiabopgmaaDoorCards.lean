/-
  DERIVED. GIVEN WITH THE SEED: THE CARDS: each row of YtifmhhiabopgmaaDoorRows.lean that lists a variable, with what it lists TIED to the program's text (the seventh form; the later family's looks); each row that meets fmt, with fmt's text TOLD by the authors' own Lean function (tested against real Go, not proved from fmt's source: count such statements apart). THE CARD IS WHAT COUNTS. Prove the row's statement (the work); the ties are given (YtifmhhiabopgmaaDoorTie.lean); close each card by the builder's one call (the guide's Derived/Test/ToyasCard.lean, 'card_holds'). Laid BY PROGRAM, IN A SANDBOX (cutbox-door.mjs). By AI agents, Wed Nov 11 2026. No macro, syntax, notation, axiom, sorry.
-/
import Derived.Test.YtifmhhiabopgmaaDoorRows
import GoSem.ClaimSeven
namespace Go.Proofs.YtifmhhiabopgmaaDoor
namespace Rows

/-- THE TIED CARD OF 'revenantlaw14.LabelNil'. -/
def labelNilCard : Claim7 := { stood := { row := labelNilRow, standIns := [], harness := (true, "f4be97d6f4c4deb36d849b1bf636d1d430f3d5c425f4d61c9c7b8bf79019b5b7"), looks := false }, kinds := [], alts := [], laidByText := true, laidKinds := [.data, .pinned], laidTests := true, laidLooks := .later }
def LabelNilCardSaid : Prop := Claim7.holds Tryd.pinned (.plain (OpenSpec.ofChange labelNilSpec)) labelNilCard

/-- THE SECOND FORM's CARD OF 'revenantlaw14.LabelNil'. -/
def labelNilUptoCard : Claim7 := { stood := { row := labelNilUptoRow, standIns := [], harness := (true, "f4be97d6f4c4deb36d849b1bf636d1d430f3d5c425f4d61c9c7b8bf79019b5b7"), looks := false }, kinds := [], alts := [], laidByText := true, laidKinds := [.data, .pinned], laidTests := true, laidLooks := .later }
def LabelNilUptoCardSaid : Prop := Claim7.holds Tryd.pinned (.plain (OpenSpec.upto labelNilSpec)) labelNilUptoCard
end Rows
end Go.Proofs.YtifmhhiabopgmaaDoor
