/-
  No cell of these rows narrows 'for every input' (looked for: loops, veiled, ifaces, maps, wideKeys, modest, calm, conditions, laid).
  DERIVED. THE GIVEN ROWS OF THIS SEAT. 10 by the template 'for every input the law returns true; each argument reads behind the call as it read before'; 0 by the template 'total and deterministic' (their statements: YtpcpkmpkpjohmaaTotals.lean).
  GIVEN WITH THE SEED: the statements are not yours to turn. If you find one false, say at which input.
  Laid BY PROGRAM, IN A SANDBOX (cutbox-rows.mjs): the forced cells as the released guide's own fill.sh prints them over the translation 3b23d373b40ce76a… (all of the seat's roots in one cut). By AI agents, Wed Nov 11 2026. No macro, syntax, notation, axiom, sorry.
-/
import Derived.Test.YtpcpkmpkpjohmaaChecked
import GoSem.Claim
import GoSem.ClaimJoined
import GoSem.ClaimMapViews
import Derived.JoinedTies
import Derived.KernelRfl
namespace Go.Proofs.Ytpcpkmpkpjohmaa
/- THE CELL 'sum', in the pinned program and in every row, IS THE sha256 OF THE DUMP (.gsa) THAT YtpcpkmpkpjohmaaProg.lean LOADS. Nothing in Lean hashes anything: it is a label: what it is worth is what the hold of that sum in a sandbox is worth. -/
noncomputable def Try.pinned : Pinned := { name := "ytpcpkmpkpjohmaa", sum := "3b23d373b40ce76ad81b8282291c9dbbb785653f6dfb4073b61b1fe69005e42a", checked := Try.checked }
namespace Rows
def none {H : Type} : Left H := { results := [], args := [] }

/-- 'revenantlaw01.VarintOne': WHATEVER THE INPUT: true; the input reads as it did. -/
def varintOneSpec : ChangeSpec := { name := "varintOne", fn := fun _ => fun
  | [d] => { results := [.lit (.bool true)], args := [d] }
  | _ => none }
def varintOneRow : OpenClaim := { program := "ytpcpkmpkpjohmaa", sum := "3b23d373b40ce76ad81b8282291c9dbbb785653f6dfb4073b61b1fe69005e42a", func := "revenant/revenantlaw01.VarintOne", spec := "varintOne", apart := false }
def VarintOneSaid : Prop := varintOneRow.holds Try.pinned (OpenSpec.ofChange varintOneSpec)

/-- ITS FALSE NEIGHBOUR: 'it returns false'. Refute it at one input. -/
def varintOneWrong : ChangeSpec := { name := "varintOne", fn := fun _ => fun
  | [d] => { results := [.lit (.bool false)], args := [d] }
  | _ => none }
def VarintOneWrongFalsely : Prop := varintOneRow.holds Try.pinned (OpenSpec.ofChange varintOneWrong)

/-- 'revenantlaw04.PowerActs': WHATEVER THE INPUT: true; the input reads as it did. -/
def powerActsSpec : ChangeSpec := { name := "powerActs", fn := fun _ => fun
  | [d] => { results := [.lit (.bool true)], args := [d] }
  | _ => none }
def powerActsRow : OpenClaim := { program := "ytpcpkmpkpjohmaa", sum := "3b23d373b40ce76ad81b8282291c9dbbb785653f6dfb4073b61b1fe69005e42a", func := "revenant/revenantlaw04.PowerActs", spec := "powerActs", apart := false }
def PowerActsSaid : Prop := powerActsRow.holds Try.pinned (OpenSpec.ofChange powerActsSpec)

/-- ITS FALSE NEIGHBOUR: 'it returns false'. Refute it at one input. -/
def powerActsWrong : ChangeSpec := { name := "powerActs", fn := fun _ => fun
  | [d] => { results := [.lit (.bool false)], args := [d] }
  | _ => none }
def PowerActsWrongFalsely : Prop := powerActsRow.holds Try.pinned (OpenSpec.ofChange powerActsWrong)

/-- 'revenantlaw04.PowerNil': WHATEVER THE INPUT: true; the input reads as it did. -/
def powerNilSpec : ChangeSpec := { name := "powerNil", fn := fun _ => fun
  | [d] => { results := [.lit (.bool true)], args := [d] }
  | _ => none }
def powerNilRow : OpenClaim := { program := "ytpcpkmpkpjohmaa", sum := "3b23d373b40ce76ad81b8282291c9dbbb785653f6dfb4073b61b1fe69005e42a", func := "revenant/revenantlaw04.PowerNil", spec := "powerNil", apart := false }
def PowerNilSaid : Prop := powerNilRow.holds Try.pinned (OpenSpec.ofChange powerNilSpec)

/-- ITS FALSE NEIGHBOUR: 'it returns false'. Refute it at one input. -/
def powerNilWrong : ChangeSpec := { name := "powerNil", fn := fun _ => fun
  | [d] => { results := [.lit (.bool false)], args := [d] }
  | _ => none }
def PowerNilWrongFalsely : Prop := powerNilRow.holds Try.pinned (OpenSpec.ofChange powerNilWrong)

/-- 'revenantlaw03.DigestRows': WHATEVER THE INPUT: true; the input reads as it did. -/
def digestRowsSpec : ChangeSpec := { name := "digestRows", fn := fun _ => fun
  | [d1, d2] => { results := [.lit (.bool true)], args := [d1, d2] }
  | _ => none }
def digestRowsRow : OpenClaim := { program := "ytpcpkmpkpjohmaa", sum := "3b23d373b40ce76ad81b8282291c9dbbb785653f6dfb4073b61b1fe69005e42a", func := "revenant/revenantlaw03.DigestRows", spec := "digestRows", apart := false }
def DigestRowsSaid : Prop := digestRowsRow.holds Try.pinned (OpenSpec.ofChange digestRowsSpec)

/-- ITS FALSE NEIGHBOUR: 'it returns false'. Refute it at one input. -/
def digestRowsWrong : ChangeSpec := { name := "digestRows", fn := fun _ => fun
  | [d1, d2] => { results := [.lit (.bool false)], args := [d1, d2] }
  | _ => none }
def DigestRowsWrongFalsely : Prop := digestRowsRow.holds Try.pinned (OpenSpec.ofChange digestRowsWrong)

/-- 'revenantlaw03.DigestJoins': WHATEVER THE INPUT: true; the input reads as it did. -/
def digestJoinsSpec : ChangeSpec := { name := "digestJoins", fn := fun _ => fun
  | [d1, d2] => { results := [.lit (.bool true)], args := [d1, d2] }
  | _ => none }
def digestJoinsRow : OpenClaim := { program := "ytpcpkmpkpjohmaa", sum := "3b23d373b40ce76ad81b8282291c9dbbb785653f6dfb4073b61b1fe69005e42a", func := "revenant/revenantlaw03.DigestJoins", spec := "digestJoins", recurses := true, apart := false }
def DigestJoinsSaid : Prop := digestJoinsRow.holds Try.pinned (OpenSpec.ofChange digestJoinsSpec)

/-- ITS FALSE NEIGHBOUR: 'it returns false'. Refute it at one input. -/
def digestJoinsWrong : ChangeSpec := { name := "digestJoins", fn := fun _ => fun
  | [d1, d2] => { results := [.lit (.bool false)], args := [d1, d2] }
  | _ => none }
def DigestJoinsWrongFalsely : Prop := digestJoinsRow.holds Try.pinned (OpenSpec.ofChange digestJoinsWrong)

/-- 'revenantlaw02.CheckSums': WHATEVER THE INPUT: true; the input reads as it did. -/
def checkSumsSpec : ChangeSpec := { name := "checkSums", fn := fun _ => fun
  | [d1, d2, d3] => { results := [.lit (.bool true)], args := [d1, d2, d3] }
  | _ => none }
def checkSumsRow : OpenClaim := { program := "ytpcpkmpkpjohmaa", sum := "3b23d373b40ce76ad81b8282291c9dbbb785653f6dfb4073b61b1fe69005e42a", func := "revenant/revenantlaw02.CheckSums", spec := "checkSums", apart := false }
def CheckSumsSaid : Prop := checkSumsRow.holds Try.pinned (OpenSpec.ofChange checkSumsSpec)

/-- ITS FALSE NEIGHBOUR: 'it returns false'. Refute it at one input. -/
def checkSumsWrong : ChangeSpec := { name := "checkSums", fn := fun _ => fun
  | [d1, d2, d3] => { results := [.lit (.bool false)], args := [d1, d2, d3] }
  | _ => none }
def CheckSumsWrongFalsely : Prop := checkSumsRow.holds Try.pinned (OpenSpec.ofChange checkSumsWrong)

/-- 'revenantlaw02.CheckFinds': WHATEVER THE INPUT: true; the input reads as it did. -/
def checkFindsSpec : ChangeSpec := { name := "checkFinds", fn := fun _ => fun
  | [d1, d2, d3] => { results := [.lit (.bool true)], args := [d1, d2, d3] }
  | _ => none }
def checkFindsRow : OpenClaim := { program := "ytpcpkmpkpjohmaa", sum := "3b23d373b40ce76ad81b8282291c9dbbb785653f6dfb4073b61b1fe69005e42a", func := "revenant/revenantlaw02.CheckFinds", spec := "checkFinds", apart := false }
def CheckFindsSaid : Prop := checkFindsRow.holds Try.pinned (OpenSpec.ofChange checkFindsSpec)

/-- ITS FALSE NEIGHBOUR: 'it returns false'. Refute it at one input. -/
def checkFindsWrong : ChangeSpec := { name := "checkFinds", fn := fun _ => fun
  | [d1, d2, d3] => { results := [.lit (.bool false)], args := [d1, d2, d3] }
  | _ => none }
def CheckFindsWrongFalsely : Prop := checkFindsRow.holds Try.pinned (OpenSpec.ofChange checkFindsWrong)

/-- 'revenantlaw01.VarintNil': WHATEVER THE INPUT: true; the input reads as it did. -/
def varintNilSpec : ChangeSpec := { name := "varintNil", fn := fun _ => fun
  | [d] => { results := [.lit (.bool true)], args := [d] }
  | _ => none }
def varintNilRow : OpenClaim := { program := "ytpcpkmpkpjohmaa", sum := "3b23d373b40ce76ad81b8282291c9dbbb785653f6dfb4073b61b1fe69005e42a", func := "revenant/revenantlaw01.VarintNil", spec := "varintNil", apart := false }
def VarintNilSaid : Prop := varintNilRow.holds Try.pinned (OpenSpec.ofChange varintNilSpec)

/-- ITS FALSE NEIGHBOUR: 'it returns false'. Refute it at one input. -/
def varintNilWrong : ChangeSpec := { name := "varintNil", fn := fun _ => fun
  | [d] => { results := [.lit (.bool false)], args := [d] }
  | _ => none }
def VarintNilWrongFalsely : Prop := varintNilRow.holds Try.pinned (OpenSpec.ofChange varintNilWrong)

/-- 'revenantlaw01.VarintReads': WHATEVER THE INPUT: true; the input reads as it did. -/
def varintReadsSpec : ChangeSpec := { name := "varintReads", fn := fun _ => fun
  | [d1, d2] => { results := [.lit (.bool true)], args := [d1, d2] }
  | _ => none }
def varintReadsRow : OpenClaim := { program := "ytpcpkmpkpjohmaa", sum := "3b23d373b40ce76ad81b8282291c9dbbb785653f6dfb4073b61b1fe69005e42a", func := "revenant/revenantlaw01.VarintReads", spec := "varintReads", apart := false }
def VarintReadsSaid : Prop := varintReadsRow.holds Try.pinned (OpenSpec.ofChange varintReadsSpec)

/-- ITS FALSE NEIGHBOUR: 'it returns false'. Refute it at one input. -/
def varintReadsWrong : ChangeSpec := { name := "varintReads", fn := fun _ => fun
  | [d1, d2] => { results := [.lit (.bool false)], args := [d1, d2] }
  | _ => none }
def VarintReadsWrongFalsely : Prop := varintReadsRow.holds Try.pinned (OpenSpec.ofChange varintReadsWrong)

/-- 'revenantlaw01.VarintPuts': WHATEVER THE INPUT: true; the input reads as it did. -/
def varintPutsSpec : ChangeSpec := { name := "varintPuts", fn := fun _ => fun
  | [d1, d2, d3] => { results := [.lit (.bool true)], args := [d1, d2, d3] }
  | _ => none }
def varintPutsRow : OpenClaim := { program := "ytpcpkmpkpjohmaa", sum := "3b23d373b40ce76ad81b8282291c9dbbb785653f6dfb4073b61b1fe69005e42a", func := "revenant/revenantlaw01.VarintPuts", spec := "varintPuts", recurses := true, apart := false }
def VarintPutsSaid : Prop := varintPutsRow.holds Try.pinned (OpenSpec.ofChange varintPutsSpec)

/-- ITS FALSE NEIGHBOUR: 'it returns false'. Refute it at one input. -/
def varintPutsWrong : ChangeSpec := { name := "varintPuts", fn := fun _ => fun
  | [d1, d2, d3] => { results := [.lit (.bool false)], args := [d1, d2, d3] }
  | _ => none }
def VarintPutsWrongFalsely : Prop := varintPutsRow.holds Try.pinned (OpenSpec.ofChange varintPutsWrong)

/- THE SECOND FORM. 'bulk': how many values and letters a reading holds, each counted each time it is reached (what is shared counts as often as it is met; a slice's spare places count too). A statement '..UptoSaid' is the law's where the arguments, and the package variables that the reading takes, are together of bulk at most 1048576: NARROWER than '..Said'. Prove '..Said' where nothing that the law and all that it calls make is longer than what came in: it says more and counts as full. Else prove '..UptoSaid'. A law counts once. -/
mutual
def uptoBulk {H : Type} : DataW H → Nat
  | .lit (.string bytes) => bytes.length + 1
  | .lit _ => 1
  | .nil => 1
  | .ptr d => uptoBulk d + 1
  | .slice elems spare => uptoBulkAll elems + uptoBulkAll spare + 1
  | .agg parts => uptoBulkAll parts + 1
  | .iface _ d => uptoBulk d + 1
  | .map entries => uptoBulkEntries entries + 1
  | .held _ => 1
def uptoBulkAll {H : Type} : List (DataW H) → Nat
  | [] => 0
  | d :: r => uptoBulk d + uptoBulkAll r
def uptoBulkEntries {H : Type} : List (Lit × DataW H) → Nat
  | [] => 0
  | x :: r => uptoBulkEntry x + uptoBulkEntries r
def uptoBulkEntry {H : Type} : Lit × DataW H → Nat
  | (.string bytes, d) => bytes.length + uptoBulk d + 1
  | (_, d) => uptoBulk d + 1
 end
def uptoSmall : (H : Type) → List (DataW H) → Bool := fun _ ds => decide (uptoBulkAll ds ≤ 1048576)
def OpenSpec.upto (s : _root_.Go.ChangeSpec) : _root_.Go.OpenSpec := { _root_.Go.OpenSpec.ofChange s with cond := some uptoSmall }

/-- 'revenantlaw01.VarintOne', WHERE WHAT IT READS IS OF BULK AT MOST 1048576: true; the input reads as it did. -/
def varintOneUptoRow : OpenClaim := { program := "ytpcpkmpkpjohmaa", sum := "3b23d373b40ce76ad81b8282291c9dbbb785653f6dfb4073b61b1fe69005e42a", func := "revenant/revenantlaw01.VarintOne", spec := "varintOne", apart := false, narrowed := true }
def VarintOneUptoSaid : Prop := varintOneUptoRow.holds Try.pinned (OpenSpec.upto varintOneSpec)

/-- 'revenantlaw04.PowerActs', WHERE WHAT IT READS IS OF BULK AT MOST 1048576: true; the input reads as it did. -/
def powerActsUptoRow : OpenClaim := { program := "ytpcpkmpkpjohmaa", sum := "3b23d373b40ce76ad81b8282291c9dbbb785653f6dfb4073b61b1fe69005e42a", func := "revenant/revenantlaw04.PowerActs", spec := "powerActs", apart := false, narrowed := true }
def PowerActsUptoSaid : Prop := powerActsUptoRow.holds Try.pinned (OpenSpec.upto powerActsSpec)

/-- 'revenantlaw04.PowerNil', WHERE WHAT IT READS IS OF BULK AT MOST 1048576: true; the input reads as it did. -/
def powerNilUptoRow : OpenClaim := { program := "ytpcpkmpkpjohmaa", sum := "3b23d373b40ce76ad81b8282291c9dbbb785653f6dfb4073b61b1fe69005e42a", func := "revenant/revenantlaw04.PowerNil", spec := "powerNil", apart := false, narrowed := true }
def PowerNilUptoSaid : Prop := powerNilUptoRow.holds Try.pinned (OpenSpec.upto powerNilSpec)

/-- 'revenantlaw03.DigestRows', WHERE WHAT IT READS IS OF BULK AT MOST 1048576: true; the input reads as it did. -/
def digestRowsUptoRow : OpenClaim := { program := "ytpcpkmpkpjohmaa", sum := "3b23d373b40ce76ad81b8282291c9dbbb785653f6dfb4073b61b1fe69005e42a", func := "revenant/revenantlaw03.DigestRows", spec := "digestRows", apart := false, narrowed := true }
def DigestRowsUptoSaid : Prop := digestRowsUptoRow.holds Try.pinned (OpenSpec.upto digestRowsSpec)

/-- 'revenantlaw03.DigestJoins', WHERE WHAT IT READS IS OF BULK AT MOST 1048576: true; the input reads as it did. -/
def digestJoinsUptoRow : OpenClaim := { program := "ytpcpkmpkpjohmaa", sum := "3b23d373b40ce76ad81b8282291c9dbbb785653f6dfb4073b61b1fe69005e42a", func := "revenant/revenantlaw03.DigestJoins", spec := "digestJoins", recurses := true, apart := false, narrowed := true }
def DigestJoinsUptoSaid : Prop := digestJoinsUptoRow.holds Try.pinned (OpenSpec.upto digestJoinsSpec)

/-- 'revenantlaw02.CheckSums', WHERE WHAT IT READS IS OF BULK AT MOST 1048576: true; the input reads as it did. -/
def checkSumsUptoRow : OpenClaim := { program := "ytpcpkmpkpjohmaa", sum := "3b23d373b40ce76ad81b8282291c9dbbb785653f6dfb4073b61b1fe69005e42a", func := "revenant/revenantlaw02.CheckSums", spec := "checkSums", apart := false, narrowed := true }
def CheckSumsUptoSaid : Prop := checkSumsUptoRow.holds Try.pinned (OpenSpec.upto checkSumsSpec)

/-- 'revenantlaw02.CheckFinds', WHERE WHAT IT READS IS OF BULK AT MOST 1048576: true; the input reads as it did. -/
def checkFindsUptoRow : OpenClaim := { program := "ytpcpkmpkpjohmaa", sum := "3b23d373b40ce76ad81b8282291c9dbbb785653f6dfb4073b61b1fe69005e42a", func := "revenant/revenantlaw02.CheckFinds", spec := "checkFinds", apart := false, narrowed := true }
def CheckFindsUptoSaid : Prop := checkFindsUptoRow.holds Try.pinned (OpenSpec.upto checkFindsSpec)

/-- 'revenantlaw01.VarintNil', WHERE WHAT IT READS IS OF BULK AT MOST 1048576: true; the input reads as it did. -/
def varintNilUptoRow : OpenClaim := { program := "ytpcpkmpkpjohmaa", sum := "3b23d373b40ce76ad81b8282291c9dbbb785653f6dfb4073b61b1fe69005e42a", func := "revenant/revenantlaw01.VarintNil", spec := "varintNil", apart := false, narrowed := true }
def VarintNilUptoSaid : Prop := varintNilUptoRow.holds Try.pinned (OpenSpec.upto varintNilSpec)

/-- 'revenantlaw01.VarintReads', WHERE WHAT IT READS IS OF BULK AT MOST 1048576: true; the input reads as it did. -/
def varintReadsUptoRow : OpenClaim := { program := "ytpcpkmpkpjohmaa", sum := "3b23d373b40ce76ad81b8282291c9dbbb785653f6dfb4073b61b1fe69005e42a", func := "revenant/revenantlaw01.VarintReads", spec := "varintReads", apart := false, narrowed := true }
def VarintReadsUptoSaid : Prop := varintReadsUptoRow.holds Try.pinned (OpenSpec.upto varintReadsSpec)

/-- 'revenantlaw01.VarintPuts', WHERE WHAT IT READS IS OF BULK AT MOST 1048576: true; the input reads as it did. -/
def varintPutsUptoRow : OpenClaim := { program := "ytpcpkmpkpjohmaa", sum := "3b23d373b40ce76ad81b8282291c9dbbb785653f6dfb4073b61b1fe69005e42a", func := "revenant/revenantlaw01.VarintPuts", spec := "varintPuts", recurses := true, apart := false, narrowed := true }
def VarintPutsUptoSaid : Prop := varintPutsUptoRow.holds Try.pinned (OpenSpec.upto varintPutsSpec)

end Rows
end Go.Proofs.Ytpcpkmpkpjohmaa
