/-
  DERIVED. GIVEN WITH THE SEED: THE CARDS: each row of YtoniciijokeidaaGreatDoorRows.lean that lists a variable, with what it lists TIED to the program's text (the seventh form; the later family's looks); each row that meets fmt, with fmt's text TOLD by the authors' own Lean function (tested against real Go, not proved from fmt's source: count such statements apart). THE CARD IS WHAT COUNTS. Prove the row's statement (the work); the ties are given (YtoniciijokeidaaGreatDoorTie.lean); close each card by the builder's one call (the guide's Derived/Test/ToyasCard.lean, 'card_holds'). Laid BY PROGRAM, IN A SANDBOX (cutbox-door.mjs). By AI agents, Wed Nov 11 2026. No macro, syntax, notation, axiom, sorry.
-/
import Derived.Test.YtoniciijokeidaaGreatDoorRows
import GoSem.ClaimSeven
namespace Go.Proofs.YtoniciijokeidaaGreatDoor
namespace Rows

/-- THE TIED CARD OF 'proofprogramslaw35.TickExact'. -/
def tickExactCard : Claim7 := { stood := { row := tickExactRow, standIns := [], harness := (true, "ff42bf5b1c6e5dfd00d309b946aa2efe2e8b8b321c19fad704a27a8567fbf8d6"), looks := true }, kinds := [], alts := [], laidByText := true, laidKinds := [.data], laidTests := true, laidLooks := .later }
def TickExactCardSaid : Prop := Claim7.holds Tryz.pinned (.plain (OpenSpec.ofChange tickExactSpec)) tickExactCard

/-- THE SECOND FORM's CARD OF 'proofprogramslaw35.TickExact'. -/
def tickExactUptoCard : Claim7 := { stood := { row := tickExactUptoRow, standIns := [], harness := (true, "ff42bf5b1c6e5dfd00d309b946aa2efe2e8b8b321c19fad704a27a8567fbf8d6"), looks := true }, kinds := [], alts := [], laidByText := true, laidKinds := [.data], laidTests := true, laidLooks := .later }
def TickExactUptoCardSaid : Prop := Claim7.holds Tryz.pinned (.plain (OpenSpec.upto tickExactSpec)) tickExactUptoCard
end Rows
end Go.Proofs.YtoniciijokeidaaGreatDoor
