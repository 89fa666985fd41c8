/-
  DERIVED. GIVEN WITH THE SEED: THE CARDS: each row of YtkfiobkjflmchaaGreatDoorRows.lean that lists a variable, with what it lists TIED to the program's text (the seventh form; the later family's looks); each row that meets fmt, with fmt's text TOLD by the authors' own Lean function (tested against real Go, not proved from fmt's source: count such statements apart). THE CARD IS WHAT COUNTS. Prove the row's statement (the work); the ties are given (YtkfiobkjflmchaaGreatDoorTie.lean); close each card by the builder's one call (the guide's Derived/Test/ToyasCard.lean, 'card_holds'). Laid BY PROGRAM, IN A SANDBOX (cutbox-door.mjs). By AI agents, Wed Nov 11 2026. No macro, syntax, notation, axiom, sorry.
-/
import Derived.Test.YtkfiobkjflmchaaGreatDoorRows
import GoSem.ClaimSeven
namespace Go.Proofs.YtkfiobkjflmchaaGreatDoor
namespace Rows

/-- THE TIED CARD OF 'proofprogramslaw34.BoundSolutions'. -/
def boundSolutionsCard : Claim7 := { stood := { row := boundSolutionsRow, standIns := [], harness := (true, "163414a25d819d97ecf462474a3c907fbca94d4761024b6d449736314645918a"), looks := true }, kinds := [], alts := [], laidByText := true, laidKinds := [.data], laidTests := true, laidLooks := .later }
def BoundSolutionsCardSaid : Prop := Claim7.holds Tryz.pinned (.plain (OpenSpec.ofChange boundSolutionsSpec)) boundSolutionsCard

/-- THE SECOND FORM's CARD OF 'proofprogramslaw34.BoundSolutions'. -/
def boundSolutionsUptoCard : Claim7 := { stood := { row := boundSolutionsUptoRow, standIns := [], harness := (true, "163414a25d819d97ecf462474a3c907fbca94d4761024b6d449736314645918a"), looks := true }, kinds := [], alts := [], laidByText := true, laidKinds := [.data], laidTests := true, laidLooks := .later }
def BoundSolutionsUptoCardSaid : Prop := Claim7.holds Tryz.pinned (.plain (OpenSpec.upto boundSolutionsSpec)) boundSolutionsUptoCard
end Rows
end Go.Proofs.YtkfiobkjflmchaaGreatDoor
