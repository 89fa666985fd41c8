/-
  DERIVED. GIVEN WITH THE SEED: THE CARDS: each row of YtoamlfmdkbmmpaaGreatDoorRows.lean that lists a variable, with what it lists TIED to the program's text (the seventh form; the later family's looks); each row that meets fmt, with fmt's text TOLD by the authors' own Lean function (tested against real Go, not proved from fmt's source: count such statements apart). THE CARD IS WHAT COUNTS. Prove the row's statement (the work); the ties are given (YtoamlfmdkbmmpaaGreatDoorTie.lean); close each card by the builder's one call (the guide's Derived/Test/ToyasCard.lean, 'card_holds'). Laid BY PROGRAM, IN A SANDBOX (cutbox-door.mjs). By AI agents, Wed Nov 11 2026. No macro, syntax, notation, axiom, sorry.
-/
import Derived.Test.YtoamlfmdkbmmpaaGreatDoorRows
import GoSem.ClaimSeven
namespace Go.Proofs.YtoamlfmdkbmmpaaGreatDoor
namespace Rows

/-- THE TIED CARD OF 'proofprogramslaw35.TickTyped'. -/
def tickTypedCard : Claim7 := { stood := { row := tickTypedRow, standIns := [], harness := (true, "ac891fa9b869923131f137372a55436df6537438b2118d88b9b56b19ea90a1e5"), looks := true }, kinds := [], alts := [], laidByText := true, laidKinds := [.data], laidTests := true, laidLooks := .later }
def TickTypedCardSaid : Prop := Claim7.holds Tryz.pinned (.plain (OpenSpec.ofChange tickTypedSpec)) tickTypedCard

/-- THE TIED CARD OF 'proofprogramslaw35.TickCounts'. -/
def tickCountsCard : Claim7 := { stood := { row := tickCountsRow, standIns := [], harness := (true, "ac891fa9b869923131f137372a55436df6537438b2118d88b9b56b19ea90a1e5"), looks := true }, kinds := [], alts := [], laidByText := true, laidKinds := [.data], laidTests := true, laidLooks := .later }
def TickCountsCardSaid : Prop := Claim7.holds Tryz.pinned (.plain (OpenSpec.ofChange tickCountsSpec)) tickCountsCard

/-- THE TIED CARD OF 'proofprogramslaw35.TickBounded'. -/
def tickBoundedCard : Claim7 := { stood := { row := tickBoundedRow, standIns := [], harness := (true, "ac891fa9b869923131f137372a55436df6537438b2118d88b9b56b19ea90a1e5"), looks := true }, kinds := [], alts := [], laidByText := true, laidKinds := [.data], laidTests := true, laidLooks := .later }
def TickBoundedCardSaid : Prop := Claim7.holds Tryz.pinned (.plain (OpenSpec.ofChange tickBoundedSpec)) tickBoundedCard

/-- THE TIED CARD OF 'proofprogramslaw35.TickAdds'. -/
def tickAddsCard : Claim7 := { stood := { row := tickAddsRow, standIns := [], harness := (true, "ac891fa9b869923131f137372a55436df6537438b2118d88b9b56b19ea90a1e5"), looks := true }, kinds := [], alts := [], laidByText := true, laidKinds := [.data], laidTests := true, laidLooks := .later }
def TickAddsCardSaid : Prop := Claim7.holds Tryz.pinned (.plain (OpenSpec.ofChange tickAddsSpec)) tickAddsCard

/-- THE SECOND FORM's CARD OF 'proofprogramslaw35.TickTyped'. -/
def tickTypedUptoCard : Claim7 := { stood := { row := tickTypedUptoRow, standIns := [], harness := (true, "ac891fa9b869923131f137372a55436df6537438b2118d88b9b56b19ea90a1e5"), looks := true }, kinds := [], alts := [], laidByText := true, laidKinds := [.data], laidTests := true, laidLooks := .later }
def TickTypedUptoCardSaid : Prop := Claim7.holds Tryz.pinned (.plain (OpenSpec.upto tickTypedSpec)) tickTypedUptoCard

/-- THE SECOND FORM's CARD OF 'proofprogramslaw35.TickCounts'. -/
def tickCountsUptoCard : Claim7 := { stood := { row := tickCountsUptoRow, standIns := [], harness := (true, "ac891fa9b869923131f137372a55436df6537438b2118d88b9b56b19ea90a1e5"), looks := true }, kinds := [], alts := [], laidByText := true, laidKinds := [.data], laidTests := true, laidLooks := .later }
def TickCountsUptoCardSaid : Prop := Claim7.holds Tryz.pinned (.plain (OpenSpec.upto tickCountsSpec)) tickCountsUptoCard

/-- THE SECOND FORM's CARD OF 'proofprogramslaw35.TickBounded'. -/
def tickBoundedUptoCard : Claim7 := { stood := { row := tickBoundedUptoRow, standIns := [], harness := (true, "ac891fa9b869923131f137372a55436df6537438b2118d88b9b56b19ea90a1e5"), looks := true }, kinds := [], alts := [], laidByText := true, laidKinds := [.data], laidTests := true, laidLooks := .later }
def TickBoundedUptoCardSaid : Prop := Claim7.holds Tryz.pinned (.plain (OpenSpec.upto tickBoundedSpec)) tickBoundedUptoCard

/-- THE SECOND FORM's CARD OF 'proofprogramslaw35.TickAdds'. -/
def tickAddsUptoCard : Claim7 := { stood := { row := tickAddsUptoRow, standIns := [], harness := (true, "ac891fa9b869923131f137372a55436df6537438b2118d88b9b56b19ea90a1e5"), looks := true }, kinds := [], alts := [], laidByText := true, laidKinds := [.data], laidTests := true, laidLooks := .later }
def TickAddsUptoCardSaid : Prop := Claim7.holds Tryz.pinned (.plain (OpenSpec.upto tickAddsSpec)) tickAddsUptoCard
end Rows
end Go.Proofs.YtoamlfmdkbmmpaaGreatDoor
