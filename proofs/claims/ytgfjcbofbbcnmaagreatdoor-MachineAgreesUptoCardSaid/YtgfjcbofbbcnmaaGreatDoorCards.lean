/-
  DERIVED. GIVEN WITH THE SEED: THE CARDS: each row of YtgfjcbofbbcnmaaGreatDoorRows.lean that lists a variable, with what it lists TIED to the program's text (the seventh form; the later family's looks); each row that meets fmt, with fmt's text TOLD by the authors' own Lean function (tested against real Go, not proved from fmt's source: count such statements apart). THE CARD IS WHAT COUNTS. Prove the row's statement (the work); the ties are given (YtgfjcbofbbcnmaaGreatDoorTie.lean); close each card by the builder's one call (the guide's Derived/Test/ToyasCard.lean, 'card_holds'). Laid BY PROGRAM, IN A SANDBOX (cutbox-door.mjs). By AI agents, Wed Nov 11 2026. No macro, syntax, notation, axiom, sorry.
-/
import Derived.Test.YtgfjcbofbbcnmaaGreatDoorRows
import GoSem.ClaimSeven
namespace Go.Proofs.YtgfjcbofbbcnmaaGreatDoor
namespace Rows

/-- THE TIED CARD OF 'proofprogramslaw06.MachineAgrees'. -/
def machineAgreesCard : Claim7 := { stood := { row := machineAgreesRow, standIns := [], harness := (true, "8cf19a4dc672710a6b8841e929c14f703a9fb2092c8d2062319a525065b6e619"), looks := true }, kinds := [], alts := [], laidByText := true, laidKinds := [.data], laidTests := true, laidLooks := .later }
def MachineAgreesCardSaid : Prop := Claim7.holds Tryz.pinned (.plain (OpenSpec.ofChange machineAgreesSpec)) machineAgreesCard

/-- THE SECOND FORM's CARD OF 'proofprogramslaw06.MachineAgrees'. -/
def machineAgreesUptoCard : Claim7 := { stood := { row := machineAgreesUptoRow, standIns := [], harness := (true, "8cf19a4dc672710a6b8841e929c14f703a9fb2092c8d2062319a525065b6e619"), looks := true }, kinds := [], alts := [], laidByText := true, laidKinds := [.data], laidTests := true, laidLooks := .later }
def MachineAgreesUptoCardSaid : Prop := Claim7.holds Tryz.pinned (.plain (OpenSpec.upto machineAgreesSpec)) machineAgreesUptoCard
end Rows
end Go.Proofs.YtgfjcbofbbcnmaaGreatDoor
