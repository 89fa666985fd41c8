/-
  DERIVED. GIVEN WITH THE SEED: THE CARDS: each row of YtiacandbafjlfaaGreatDoorRows.lean that lists a variable, with what it lists TIED to the program's text (the seventh form; the later family's looks); each row that meets fmt, with fmt's text TOLD by the authors' own Lean function (tested against real Go, not proved from fmt's source: count such statements apart). THE CARD IS WHAT COUNTS. Prove the row's statement (the work); the ties are given (YtiacandbafjlfaaGreatDoorTie.lean); close each card by the builder's one call (the guide's Derived/Test/ToyasCard.lean, 'card_holds'). Laid BY PROGRAM, IN A SANDBOX (cutbox-door.mjs). By AI agents, Wed Nov 11 2026. No macro, syntax, notation, axiom, sorry.
-/
import Derived.Test.YtiacandbafjlfaaGreatDoorRows
import GoSem.ClaimSeven
namespace Go.Proofs.YtiacandbafjlfaaGreatDoor
namespace Rows

/-- THE TIED CARD OF 'proofprogramslaw33.MajorantExact'. -/
def majorantExactCard : Claim7 := { stood := { row := majorantExactRow, standIns := [], harness := (true, "205dd13c68b1ac9919b04881976d71f40de478bfa5ed93cf1751f4f8910f5287"), looks := false }, kinds := [], alts := [], laidByText := true, laidKinds := [.data], laidTests := true, laidLooks := .later }
def MajorantExactCardSaid : Prop := Claim7.holds Tryz.pinned (.plain (OpenSpec.ofChange majorantExactSpec)) majorantExactCard

/-- THE SECOND FORM's CARD OF 'proofprogramslaw33.MajorantExact'. -/
def majorantExactUptoCard : Claim7 := { stood := { row := majorantExactUptoRow, standIns := [], harness := (true, "205dd13c68b1ac9919b04881976d71f40de478bfa5ed93cf1751f4f8910f5287"), looks := false }, kinds := [], alts := [], laidByText := true, laidKinds := [.data], laidTests := true, laidLooks := .later }
def MajorantExactUptoCardSaid : Prop := Claim7.holds Tryz.pinned (.plain (OpenSpec.upto majorantExactSpec)) majorantExactUptoCard
end Rows
end Go.Proofs.YtiacandbafjlfaaGreatDoor
