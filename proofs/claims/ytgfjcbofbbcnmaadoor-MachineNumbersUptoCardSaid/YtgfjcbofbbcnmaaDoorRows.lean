/-
  NARROWER THAN 'FOR EVERY INPUT', by the rows' own cells (each row's printed sentence says how): MachineCalls: laid · MachineWork: laid · MachineNumbers: laid · MachineParts: laid.
  DERIVED. THE GIVEN ROWS OF THIS SEAT. 4 by the template 'for every input the law returns true; each argument reads behind the call as it read before'; 0 by the template 'total and deterministic' (their statements: YtgfjcbofbbcnmaaDoorTotals.lean).
  GIVEN WITH THE SEED: the statements are not yours to turn. If you find one false, say at which input.
  Laid BY PROGRAM, IN A SANDBOX (cutbox-rows.mjs): the forced cells as the released guide's own fill.sh prints them over the translation ad9a511ab5d2894a… (all of the seat's roots in one cut). By AI agents, Wed Nov 11 2026. No macro, syntax, notation, axiom, sorry.
-/
import Derived.Test.YtgfjcbofbbcnmaaDoorChecked
import GoSem.Claim
import GoSem.ClaimJoined
import GoSem.ClaimMapViews
import Derived.JoinedTies
import Derived.KernelRfl
namespace Go.Proofs.YtgfjcbofbbcnmaaDoor
/- THE CELL 'sum', in the pinned program and in every row, IS THE sha256 OF THE DUMP (.gsa) THAT YtgfjcbofbbcnmaaDoorProg.lean LOADS. Nothing in Lean hashes anything: it is a label: what it is worth is what the hold of that sum in a sandbox is worth. -/
noncomputable def Tryd.pinned : Pinned := { name := "ytgfjcbofbbcnmaadoor", sum := "ad9a511ab5d2894a08880a186135d6398c87649d1ac960e3f8e4603a02fad137", checked := Tryd.checked }
namespace Rows
def none {H : Type} : Left H := { results := [], args := [] }

/- WHAT THE LISTED PACKAGE-LEVEL VARIABLES READ AS WHEN THE CALL BEGINS. Each datum BY PROGRAM (the guide's laid-datum.mjs) off the statement by which the dump's own 'gosem.cut.vars' lays the variable. In a bare row this is a premise. The card (YtgfjcbofbbcnmaaDoorCards.lean) ties it to the program's text. -/
def laid_proofprograms_tree_arities {H : Type} : DataW H := .agg [.lit (.int .i64 0), .lit (.int .i64 0), .lit (.int .i64 1), .lit (.int .i64 2), .lit (.int .i64 0), .lit (.int .i64 1), .lit (.int .i64 3), .lit (.int .i64 0), .lit (.int .i64 2), .lit (.int .i64 3), .lit (.int .i64 2), .lit (.int .i64 1), .lit (.int .i64 1), .lit (.int .i64 0)]

/-- 'proofprogramslaw06.MachineCalls': WHATEVER THE INPUT: true; the input reads as it did. -/
def machineCallsSpec : ChangeSpec := { name := "machineCalls", fn := fun _ => fun
  | [d] => { results := [.lit (.bool true)], args := [d] }
  | _ => none }
def machineCallsRow : OpenClaim := { program := "ytgfjcbofbbcnmaadoor", sum := "ad9a511ab5d2894a08880a186135d6398c87649d1ac960e3f8e4603a02fad137", func := "proofprograms/proofprogramslaw06.MachineCalls", spec := "machineCalls", unfollowed := true, recurses := true, named := ["proofprograms/tree.arities"], apart := false, laid := [("proofprograms/tree.arities", laid_proofprograms_tree_arities)] }
def MachineCallsSaid : Prop := machineCallsRow.holds Tryd.pinned (OpenSpec.ofChange machineCallsSpec)

/-- ITS FALSE NEIGHBOUR: 'it returns false'. Refute it at one input. -/
def machineCallsWrong : ChangeSpec := { name := "machineCalls", fn := fun _ => fun
  | [d] => { results := [.lit (.bool false)], args := [d] }
  | _ => none }
def MachineCallsWrongFalsely : Prop := machineCallsRow.holds Tryd.pinned (OpenSpec.ofChange machineCallsWrong)

/-- 'proofprogramslaw06.MachineWork': WHATEVER THE INPUT: true; the input reads as it did. -/
def machineWorkSpec : ChangeSpec := { name := "machineWork", fn := fun _ => fun
  | [d1, d2] => { results := [.lit (.bool true)], args := [d1, d2] }
  | _ => none }
def machineWorkRow : OpenClaim := { program := "ytgfjcbofbbcnmaadoor", sum := "ad9a511ab5d2894a08880a186135d6398c87649d1ac960e3f8e4603a02fad137", func := "proofprograms/proofprogramslaw06.MachineWork", spec := "machineWork", unfollowed := true, recurses := true, named := ["proofprograms/tree.arities"], apart := false, laid := [("proofprograms/tree.arities", laid_proofprograms_tree_arities)] }
def MachineWorkSaid : Prop := machineWorkRow.holds Tryd.pinned (OpenSpec.ofChange machineWorkSpec)

/-- ITS FALSE NEIGHBOUR: 'it returns false'. Refute it at one input. -/
def machineWorkWrong : ChangeSpec := { name := "machineWork", fn := fun _ => fun
  | [d1, d2] => { results := [.lit (.bool false)], args := [d1, d2] }
  | _ => none }
def MachineWorkWrongFalsely : Prop := machineWorkRow.holds Tryd.pinned (OpenSpec.ofChange machineWorkWrong)

/-- 'proofprogramslaw06.MachineNumbers': WHATEVER THE INPUT: true; the input reads as it did. -/
def machineNumbersSpec : ChangeSpec := { name := "machineNumbers", fn := fun _ => fun
  | [d1, d2] => { results := [.lit (.bool true)], args := [d1, d2] }
  | _ => none }
def machineNumbersRow : OpenClaim := { program := "ytgfjcbofbbcnmaadoor", sum := "ad9a511ab5d2894a08880a186135d6398c87649d1ac960e3f8e4603a02fad137", func := "proofprograms/proofprogramslaw06.MachineNumbers", spec := "machineNumbers", unfollowed := true, recurses := true, named := ["proofprograms/tree.arities"], apart := false, laid := [("proofprograms/tree.arities", laid_proofprograms_tree_arities)] }
def MachineNumbersSaid : Prop := machineNumbersRow.holds Tryd.pinned (OpenSpec.ofChange machineNumbersSpec)

/-- ITS FALSE NEIGHBOUR: 'it returns false'. Refute it at one input. -/
def machineNumbersWrong : ChangeSpec := { name := "machineNumbers", fn := fun _ => fun
  | [d1, d2] => { results := [.lit (.bool false)], args := [d1, d2] }
  | _ => none }
def MachineNumbersWrongFalsely : Prop := machineNumbersRow.holds Tryd.pinned (OpenSpec.ofChange machineNumbersWrong)

/-- 'proofprogramslaw06.MachineParts': WHATEVER THE INPUT: true; the input reads as it did. -/
def machinePartsSpec : ChangeSpec := { name := "machineParts", fn := fun _ => fun
  | [d] => { results := [.lit (.bool true)], args := [d] }
  | _ => none }
def machinePartsRow : OpenClaim := { program := "ytgfjcbofbbcnmaadoor", sum := "ad9a511ab5d2894a08880a186135d6398c87649d1ac960e3f8e4603a02fad137", func := "proofprograms/proofprogramslaw06.MachineParts", spec := "machineParts", unfollowed := true, recurses := true, named := ["proofprograms/tree.arities"], apart := false, laid := [("proofprograms/tree.arities", laid_proofprograms_tree_arities)] }
def MachinePartsSaid : Prop := machinePartsRow.holds Tryd.pinned (OpenSpec.ofChange machinePartsSpec)

/-- ITS FALSE NEIGHBOUR: 'it returns false'. Refute it at one input. -/
def machinePartsWrong : ChangeSpec := { name := "machineParts", fn := fun _ => fun
  | [d] => { results := [.lit (.bool false)], args := [d] }
  | _ => none }
def MachinePartsWrongFalsely : Prop := machinePartsRow.holds Tryd.pinned (OpenSpec.ofChange machinePartsWrong)

/- THE SECOND FORM. 'bulk': how many values and letters a reading holds, each counted each time it is reached (what is shared counts as often as it is met; a slice's spare places count too). A statement '..UptoSaid' is the law's where the arguments, and the package variables that the reading takes, are together of bulk at most 1048576: NARROWER than '..Said'. Prove '..Said' where nothing that the law and all that it calls make is longer than what came in: it says more and counts as full. Else prove '..UptoSaid'. A law counts once. -/
mutual
def uptoBulk {H : Type} : DataW H → Nat
  | .lit (.string bytes) => bytes.length + 1
  | .lit _ => 1
  | .nil => 1
  | .ptr d => uptoBulk d + 1
  | .slice elems spare => uptoBulkAll elems + uptoBulkAll spare + 1
  | .agg parts => uptoBulkAll parts + 1
  | .iface _ d => uptoBulk d + 1
  | .map entries => uptoBulkEntries entries + 1
  | .held _ => 1
def uptoBulkAll {H : Type} : List (DataW H) → Nat
  | [] => 0
  | d :: r => uptoBulk d + uptoBulkAll r
def uptoBulkEntries {H : Type} : List (Lit × DataW H) → Nat
  | [] => 0
  | x :: r => uptoBulkEntry x + uptoBulkEntries r
def uptoBulkEntry {H : Type} : Lit × DataW H → Nat
  | (.string bytes, d) => bytes.length + uptoBulk d + 1
  | (_, d) => uptoBulk d + 1
 end
def uptoSmall : (H : Type) → List (DataW H) → Bool := fun _ ds => decide (uptoBulkAll ds ≤ 1048576)
def OpenSpec.upto (s : _root_.Go.ChangeSpec) : _root_.Go.OpenSpec := { _root_.Go.OpenSpec.ofChange s with cond := some uptoSmall }

/-- 'proofprogramslaw06.MachineCalls', WHERE WHAT IT READS IS OF BULK AT MOST 1048576: true; the input reads as it did. -/
def machineCallsUptoRow : OpenClaim := { program := "ytgfjcbofbbcnmaadoor", sum := "ad9a511ab5d2894a08880a186135d6398c87649d1ac960e3f8e4603a02fad137", func := "proofprograms/proofprogramslaw06.MachineCalls", spec := "machineCalls", unfollowed := true, recurses := true, named := ["proofprograms/tree.arities"], apart := false, laid := [("proofprograms/tree.arities", laid_proofprograms_tree_arities)], narrowed := true }
def MachineCallsUptoSaid : Prop := machineCallsUptoRow.holds Tryd.pinned (OpenSpec.upto machineCallsSpec)

/-- 'proofprogramslaw06.MachineWork', WHERE WHAT IT READS IS OF BULK AT MOST 1048576: true; the input reads as it did. -/
def machineWorkUptoRow : OpenClaim := { program := "ytgfjcbofbbcnmaadoor", sum := "ad9a511ab5d2894a08880a186135d6398c87649d1ac960e3f8e4603a02fad137", func := "proofprograms/proofprogramslaw06.MachineWork", spec := "machineWork", unfollowed := true, recurses := true, named := ["proofprograms/tree.arities"], apart := false, laid := [("proofprograms/tree.arities", laid_proofprograms_tree_arities)], narrowed := true }
def MachineWorkUptoSaid : Prop := machineWorkUptoRow.holds Tryd.pinned (OpenSpec.upto machineWorkSpec)

/-- 'proofprogramslaw06.MachineNumbers', WHERE WHAT IT READS IS OF BULK AT MOST 1048576: true; the input reads as it did. -/
def machineNumbersUptoRow : OpenClaim := { program := "ytgfjcbofbbcnmaadoor", sum := "ad9a511ab5d2894a08880a186135d6398c87649d1ac960e3f8e4603a02fad137", func := "proofprograms/proofprogramslaw06.MachineNumbers", spec := "machineNumbers", unfollowed := true, recurses := true, named := ["proofprograms/tree.arities"], apart := false, laid := [("proofprograms/tree.arities", laid_proofprograms_tree_arities)], narrowed := true }
def MachineNumbersUptoSaid : Prop := machineNumbersUptoRow.holds Tryd.pinned (OpenSpec.upto machineNumbersSpec)

/-- 'proofprogramslaw06.MachineParts', WHERE WHAT IT READS IS OF BULK AT MOST 1048576: true; the input reads as it did. -/
def machinePartsUptoRow : OpenClaim := { program := "ytgfjcbofbbcnmaadoor", sum := "ad9a511ab5d2894a08880a186135d6398c87649d1ac960e3f8e4603a02fad137", func := "proofprograms/proofprogramslaw06.MachineParts", spec := "machineParts", unfollowed := true, recurses := true, named := ["proofprograms/tree.arities"], apart := false, laid := [("proofprograms/tree.arities", laid_proofprograms_tree_arities)], narrowed := true }
def MachinePartsUptoSaid : Prop := machinePartsUptoRow.holds Tryd.pinned (OpenSpec.upto machinePartsSpec)

end Rows
end Go.Proofs.YtgfjcbofbbcnmaaDoor
