/-
  DERIVED. GIVEN WITH THE SEED: THE CARDS: each row of YtbmnlkfgkdallaaGreatDoorRows.lean that lists a variable, with what it lists TIED to the program's text (the seventh form; the later family's looks); each row that meets fmt, with fmt's text TOLD by the authors' own Lean function (tested against real Go, not proved from fmt's source: count such statements apart). THE CARD IS WHAT COUNTS. Prove the row's statement (the work); the ties are given (YtbmnlkfgkdallaaGreatDoorTie.lean); close each card by the builder's one call (the guide's Derived/Test/ToyasCard.lean, 'card_holds'). Laid BY PROGRAM, IN A SANDBOX (cutbox-door.mjs). By AI agents, Wed Nov 11 2026. No macro, syntax, notation, axiom, sorry.
-/
import Derived.Test.YtbmnlkfgkdallaaGreatDoorRows
import GoSem.ClaimSeven
namespace Go.Proofs.YtbmnlkfgkdallaaGreatDoor
namespace Rows

/-- THE TIED CARD OF 'proofprogramslaw05.ValueDoes'. -/
def valueDoesCard : Claim7 := { stood := { row := valueDoesRow, standIns := [], harness := (true, "89866b026190609bb7d83c16f32a6399956da15cd36bc4c8270eac7ae9a0f3ed"), looks := false }, kinds := [], alts := [], laidByText := true, laidKinds := [.data], laidTests := true, laidLooks := .later }
def ValueDoesCardSaid : Prop := Claim7.holds Tryz.pinned (.plain (OpenSpec.ofChange valueDoesSpec)) valueDoesCard

/-- THE SECOND FORM's CARD OF 'proofprogramslaw05.ValueDoes'. -/
def valueDoesUptoCard : Claim7 := { stood := { row := valueDoesUptoRow, standIns := [], harness := (true, "89866b026190609bb7d83c16f32a6399956da15cd36bc4c8270eac7ae9a0f3ed"), looks := false }, kinds := [], alts := [], laidByText := true, laidKinds := [.data], laidTests := true, laidLooks := .later }
def ValueDoesUptoCardSaid : Prop := Claim7.holds Tryz.pinned (.plain (OpenSpec.upto valueDoesSpec)) valueDoesUptoCard
end Rows
end Go.Proofs.YtbmnlkfgkdallaaGreatDoor
