/-
  DERIVED. GIVEN WITH THE SEED: THE CARDS: each row of YtcldnfbcbkaanaaGreatDoorRows.lean that lists a variable, with what it lists TIED to the program's text (the seventh form; the later family's looks); each row that meets fmt, with fmt's text TOLD by the authors' own Lean function (tested against real Go, not proved from fmt's source: count such statements apart). THE CARD IS WHAT COUNTS. Prove the row's statement (the work); the ties are given (YtcldnfbcbkaanaaGreatDoorTie.lean); close each card by the builder's one call (the guide's Derived/Test/ToyasCard.lean, 'card_holds'). Laid BY PROGRAM, IN A SANDBOX (cutbox-door.mjs). By AI agents, Wed Nov 11 2026. No macro, syntax, notation, axiom, sorry.
-/
import Derived.Test.YtcldnfbcbkaanaaGreatDoorRows
import GoSem.ClaimSeven
namespace Go.Proofs.YtcldnfbcbkaanaaGreatDoor
namespace Rows

/-- THE TIED CARD OF 'proofprogramslaw34.BoundWithin'. -/
def boundWithinCard : Claim7 := { stood := { row := boundWithinRow, standIns := [], harness := (true, "87e1104ecf775b8422175f2570eaadffaf68f3301ae3895f70c1b3349f45d0aa"), looks := true }, kinds := [], alts := [], laidByText := true, laidKinds := [.data], laidTests := true, laidLooks := .later }
def BoundWithinCardSaid : Prop := Claim7.holds Tryz.pinned (.plain (OpenSpec.ofChange boundWithinSpec)) boundWithinCard

/-- THE TIED CARD OF 'proofprogramslaw34.BoundTable'. -/
def boundTableCard : Claim7 := { stood := { row := boundTableRow, standIns := [], harness := (true, "87e1104ecf775b8422175f2570eaadffaf68f3301ae3895f70c1b3349f45d0aa"), looks := true }, kinds := [], alts := [], laidByText := true, laidKinds := [.data], laidTests := true, laidLooks := .later }
def BoundTableCardSaid : Prop := Claim7.holds Tryz.pinned (.plain (OpenSpec.ofChange boundTableSpec)) boundTableCard

/-- THE TIED CARD OF 'proofprogramslaw34.BoundSolutions'. -/
def boundSolutionsCard : Claim7 := { stood := { row := boundSolutionsRow, standIns := [], harness := (true, "87e1104ecf775b8422175f2570eaadffaf68f3301ae3895f70c1b3349f45d0aa"), looks := true }, kinds := [], alts := [], laidByText := true, laidKinds := [.data], laidTests := true, laidLooks := .later }
def BoundSolutionsCardSaid : Prop := Claim7.holds Tryz.pinned (.plain (OpenSpec.ofChange boundSolutionsSpec)) boundSolutionsCard

/-- THE SECOND FORM's CARD OF 'proofprogramslaw34.BoundWithin'. -/
def boundWithinUptoCard : Claim7 := { stood := { row := boundWithinUptoRow, standIns := [], harness := (true, "87e1104ecf775b8422175f2570eaadffaf68f3301ae3895f70c1b3349f45d0aa"), looks := true }, kinds := [], alts := [], laidByText := true, laidKinds := [.data], laidTests := true, laidLooks := .later }
def BoundWithinUptoCardSaid : Prop := Claim7.holds Tryz.pinned (.plain (OpenSpec.upto boundWithinSpec)) boundWithinUptoCard

/-- THE SECOND FORM's CARD OF 'proofprogramslaw34.BoundTable'. -/
def boundTableUptoCard : Claim7 := { stood := { row := boundTableUptoRow, standIns := [], harness := (true, "87e1104ecf775b8422175f2570eaadffaf68f3301ae3895f70c1b3349f45d0aa"), looks := true }, kinds := [], alts := [], laidByText := true, laidKinds := [.data], laidTests := true, laidLooks := .later }
def BoundTableUptoCardSaid : Prop := Claim7.holds Tryz.pinned (.plain (OpenSpec.upto boundTableSpec)) boundTableUptoCard

/-- THE SECOND FORM's CARD OF 'proofprogramslaw34.BoundSolutions'. -/
def boundSolutionsUptoCard : Claim7 := { stood := { row := boundSolutionsUptoRow, standIns := [], harness := (true, "87e1104ecf775b8422175f2570eaadffaf68f3301ae3895f70c1b3349f45d0aa"), looks := true }, kinds := [], alts := [], laidByText := true, laidKinds := [.data], laidTests := true, laidLooks := .later }
def BoundSolutionsUptoCardSaid : Prop := Claim7.holds Tryz.pinned (.plain (OpenSpec.upto boundSolutionsSpec)) boundSolutionsUptoCard
end Rows
end Go.Proofs.YtcldnfbcbkaanaaGreatDoor
