/-
  DERIVED. GIVEN WITH THE SEED: THE CARDS: each row of YtmilnfebjgkkcaaGreatDoorRows.lean that lists a variable, with what it lists TIED to the program's text (the seventh form; the later family's looks); each row that meets fmt, with fmt's text TOLD by the authors' own Lean function (tested against real Go, not proved from fmt's source: count such statements apart). THE CARD IS WHAT COUNTS. Prove the row's statement (the work); the ties are given (YtmilnfebjgkkcaaGreatDoorTie.lean); close each card by the builder's one call (the guide's Derived/Test/ToyasCard.lean, 'card_holds'). Laid BY PROGRAM, IN A SANDBOX (cutbox-door.mjs). By AI agents, Wed Nov 11 2026. No macro, syntax, notation, axiom, sorry.
-/
import Derived.Test.YtmilnfebjgkkcaaGreatDoorRows
import GoSem.ClaimSeven
namespace Go.Proofs.YtmilnfebjgkkcaaGreatDoor
namespace Rows

/-- THE TIED CARD OF 'proofprogramstop.TopIrrelevant'. -/
def topIrrelevantCard : Claim7 := { stood := { row := topIrrelevantRow, standIns := [], harness := (true, "838658fe74ea328d47a435b8542bde2680cfbb8e880fce4bfca86de4c8ff7516"), looks := true }, kinds := [], alts := [], laidByText := true, laidKinds := [.data, .data, .data], laidTests := true, laidLooks := .later }
def TopIrrelevantCardSaid : Prop := Claim7.holds Tryz.pinned (.plain (OpenSpec.ofChange topIrrelevantSpec)) topIrrelevantCard

/-- THE SECOND FORM's CARD OF 'proofprogramstop.TopIrrelevant'. -/
def topIrrelevantUptoCard : Claim7 := { stood := { row := topIrrelevantUptoRow, standIns := [], harness := (true, "838658fe74ea328d47a435b8542bde2680cfbb8e880fce4bfca86de4c8ff7516"), looks := true }, kinds := [], alts := [], laidByText := true, laidKinds := [.data, .data, .data], laidTests := true, laidLooks := .later }
def TopIrrelevantUptoCardSaid : Prop := Claim7.holds Tryz.pinned (.plain (OpenSpec.upto topIrrelevantSpec)) topIrrelevantUptoCard
end Rows
end Go.Proofs.YtmilnfebjgkkcaaGreatDoor
