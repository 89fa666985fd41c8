/-
  DERIVED. GIVEN WITH THE SEED: THE CARDS: each row of YtgfjcbofbbcnmaaDoorRows.lean that lists a variable, with what it lists TIED to the program's text (the seventh form; the later family's looks); each row that meets fmt, with fmt's text TOLD by the authors' own Lean function (tested against real Go, not proved from fmt's source: count such statements apart). THE CARD IS WHAT COUNTS. Prove the row's statement (the work); the ties are given (YtgfjcbofbbcnmaaDoorTie.lean); close each card by the builder's one call (the guide's Derived/Test/ToyasCard.lean, 'card_holds'). Laid BY PROGRAM, IN A SANDBOX (cutbox-door.mjs). By AI agents, Wed Nov 11 2026. No macro, syntax, notation, axiom, sorry.
-/
import Derived.Test.YtgfjcbofbbcnmaaDoorRows
import GoSem.ClaimSeven
namespace Go.Proofs.YtgfjcbofbbcnmaaDoor
namespace Rows

/-- THE TIED CARD OF 'proofprogramslaw06.MachineCalls'. -/
def machineCallsCard : Claim7 := { stood := { row := machineCallsRow, standIns := [], harness := (true, "1a2ab17e77bbbc3183ed105db555265be32b9d252dc718c823d150827086ccd9"), looks := true }, kinds := [], alts := [], laidByText := true, laidKinds := [.data], laidTests := true, laidLooks := .later }
def MachineCallsCardSaid : Prop := Claim7.holds Tryd.pinned (.plain (OpenSpec.ofChange machineCallsSpec)) machineCallsCard

/-- THE TIED CARD OF 'proofprogramslaw06.MachineWork'. -/
def machineWorkCard : Claim7 := { stood := { row := machineWorkRow, standIns := [], harness := (true, "1a2ab17e77bbbc3183ed105db555265be32b9d252dc718c823d150827086ccd9"), looks := true }, kinds := [], alts := [], laidByText := true, laidKinds := [.data], laidTests := true, laidLooks := .later }
def MachineWorkCardSaid : Prop := Claim7.holds Tryd.pinned (.plain (OpenSpec.ofChange machineWorkSpec)) machineWorkCard

/-- THE TIED CARD OF 'proofprogramslaw06.MachineNumbers'. -/
def machineNumbersCard : Claim7 := { stood := { row := machineNumbersRow, standIns := [], harness := (true, "1a2ab17e77bbbc3183ed105db555265be32b9d252dc718c823d150827086ccd9"), looks := true }, kinds := [], alts := [], laidByText := true, laidKinds := [.data], laidTests := true, laidLooks := .later }
def MachineNumbersCardSaid : Prop := Claim7.holds Tryd.pinned (.plain (OpenSpec.ofChange machineNumbersSpec)) machineNumbersCard

/-- THE TIED CARD OF 'proofprogramslaw06.MachineParts'. -/
def machinePartsCard : Claim7 := { stood := { row := machinePartsRow, standIns := [], harness := (true, "1a2ab17e77bbbc3183ed105db555265be32b9d252dc718c823d150827086ccd9"), looks := true }, kinds := [], alts := [], laidByText := true, laidKinds := [.data], laidTests := true, laidLooks := .later }
def MachinePartsCardSaid : Prop := Claim7.holds Tryd.pinned (.plain (OpenSpec.ofChange machinePartsSpec)) machinePartsCard

/-- THE SECOND FORM's CARD OF 'proofprogramslaw06.MachineCalls'. -/
def machineCallsUptoCard : Claim7 := { stood := { row := machineCallsUptoRow, standIns := [], harness := (true, "1a2ab17e77bbbc3183ed105db555265be32b9d252dc718c823d150827086ccd9"), looks := true }, kinds := [], alts := [], laidByText := true, laidKinds := [.data], laidTests := true, laidLooks := .later }
def MachineCallsUptoCardSaid : Prop := Claim7.holds Tryd.pinned (.plain (OpenSpec.upto machineCallsSpec)) machineCallsUptoCard

/-- THE SECOND FORM's CARD OF 'proofprogramslaw06.MachineWork'. -/
def machineWorkUptoCard : Claim7 := { stood := { row := machineWorkUptoRow, standIns := [], harness := (true, "1a2ab17e77bbbc3183ed105db555265be32b9d252dc718c823d150827086ccd9"), looks := true }, kinds := [], alts := [], laidByText := true, laidKinds := [.data], laidTests := true, laidLooks := .later }
def MachineWorkUptoCardSaid : Prop := Claim7.holds Tryd.pinned (.plain (OpenSpec.upto machineWorkSpec)) machineWorkUptoCard

/-- THE SECOND FORM's CARD OF 'proofprogramslaw06.MachineNumbers'. -/
def machineNumbersUptoCard : Claim7 := { stood := { row := machineNumbersUptoRow, standIns := [], harness := (true, "1a2ab17e77bbbc3183ed105db555265be32b9d252dc718c823d150827086ccd9"), looks := true }, kinds := [], alts := [], laidByText := true, laidKinds := [.data], laidTests := true, laidLooks := .later }
def MachineNumbersUptoCardSaid : Prop := Claim7.holds Tryd.pinned (.plain (OpenSpec.upto machineNumbersSpec)) machineNumbersUptoCard

/-- THE SECOND FORM's CARD OF 'proofprogramslaw06.MachineParts'. -/
def machinePartsUptoCard : Claim7 := { stood := { row := machinePartsUptoRow, standIns := [], harness := (true, "1a2ab17e77bbbc3183ed105db555265be32b9d252dc718c823d150827086ccd9"), looks := true }, kinds := [], alts := [], laidByText := true, laidKinds := [.data], laidTests := true, laidLooks := .later }
def MachinePartsUptoCardSaid : Prop := Claim7.holds Tryd.pinned (.plain (OpenSpec.upto machinePartsSpec)) machinePartsUptoCard
end Rows
end Go.Proofs.YtgfjcbofbbcnmaaDoor
