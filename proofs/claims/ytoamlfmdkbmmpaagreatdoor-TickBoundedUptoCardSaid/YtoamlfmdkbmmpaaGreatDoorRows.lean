/-
  NARROWER THAN 'FOR EVERY INPUT', by the rows' own cells (each row's printed sentence says how): TickTyped: laid · TickCounts: laid · TickBounded: laid · TickAdds: laid.
  DERIVED. THE GIVEN ROWS OF THIS SEAT. 4 by the template 'for every input the law returns true; each argument reads behind the call as it read before'; 0 by the template 'total and deterministic' (their statements: YtoamlfmdkbmmpaaGreatDoorTotals.lean).
  GIVEN WITH THE SEED: the statements are not yours to turn. If you find one false, say at which input.
  Laid BY PROGRAM, IN A SANDBOX (cutbox-rows.mjs): the forced cells as the released guide's own fill.sh prints them over the translation 4a00c4b9f702f23b… (all of the seat's roots in one cut). By AI agents, Wed Nov 11 2026. No macro, syntax, notation, axiom, sorry.
-/
import Derived.Test.YtoamlfmdkbmmpaaGreatDoorChecked
import GoSem.Claim
import GoSem.ClaimJoined
import GoSem.ClaimMapViews
import Derived.JoinedTies
import Derived.KernelRfl
namespace Go.Proofs.YtoamlfmdkbmmpaaGreatDoor
/- THE CELL 'sum', in the pinned program and in every row, IS THE sha256 OF THE DUMP (.gsa) THAT YtoamlfmdkbmmpaaGreatDoorProg.lean LOADS. Nothing in Lean hashes anything: it is a label: what it is worth is what the hold of that sum in a sandbox is worth. -/
noncomputable def Tryz.pinned : Pinned := { name := "ytoamlfmdkbmmpaagreatdoor", sum := "4a00c4b9f702f23b6cb8c29bfab4c6ec9dd5fc31ac447c395748c0ea35d0926f", checked := Tryz.checked }
namespace Rows
def none {H : Type} : Left H := { results := [], args := [] }

/- WHAT THE LISTED PACKAGE-LEVEL VARIABLES READ AS WHEN THE CALL BEGINS. Each datum BY PROGRAM (the guide's laid-datum.mjs) off the statement by which the dump's own 'gosem.cut.vars' lays the variable. In a bare row this is a premise. The card (YtoamlfmdkbmmpaaGreatDoorCards.lean) ties it to the program's text. -/
def laid_proofprograms_tree_arities {H : Type} : DataW H := .agg [.lit (.int .i64 0), .lit (.int .i64 0), .lit (.int .i64 1), .lit (.int .i64 2), .lit (.int .i64 0), .lit (.int .i64 1), .lit (.int .i64 3), .lit (.int .i64 0), .lit (.int .i64 2), .lit (.int .i64 3), .lit (.int .i64 2), .lit (.int .i64 1), .lit (.int .i64 1), .lit (.int .i64 0)]

/-- 'proofprogramslaw35.TickTyped': WHATEVER THE INPUT: true; the input reads as it did. -/
def tickTypedSpec : ChangeSpec := { name := "tickTyped", fn := fun _ => fun
  | [d] => { results := [.lit (.bool true)], args := [d] }
  | _ => none }
def tickTypedRow : OpenClaim := { program := "ytoamlfmdkbmmpaagreatdoor", sum := "4a00c4b9f702f23b6cb8c29bfab4c6ec9dd5fc31ac447c395748c0ea35d0926f", func := "proofprograms/proofprogramslaw35.TickTyped", spec := "tickTyped", unfollowed := true, recurses := true, named := ["proofprograms/tree.arities"], apart := false, laid := [("proofprograms/tree.arities", laid_proofprograms_tree_arities)] }
def TickTypedSaid : Prop := tickTypedRow.holds Tryz.pinned (OpenSpec.ofChange tickTypedSpec)

/-- ITS FALSE NEIGHBOUR: 'it returns false'. Refute it at one input. -/
def tickTypedWrong : ChangeSpec := { name := "tickTyped", fn := fun _ => fun
  | [d] => { results := [.lit (.bool false)], args := [d] }
  | _ => none }
def TickTypedWrongFalsely : Prop := tickTypedRow.holds Tryz.pinned (OpenSpec.ofChange tickTypedWrong)

/-- 'proofprogramslaw35.TickCounts': WHATEVER THE INPUT: true; the input reads as it did. -/
def tickCountsSpec : ChangeSpec := { name := "tickCounts", fn := fun _ => fun
  | [d] => { results := [.lit (.bool true)], args := [d] }
  | _ => none }
def tickCountsRow : OpenClaim := { program := "ytoamlfmdkbmmpaagreatdoor", sum := "4a00c4b9f702f23b6cb8c29bfab4c6ec9dd5fc31ac447c395748c0ea35d0926f", func := "proofprograms/proofprogramslaw35.TickCounts", spec := "tickCounts", unfollowed := true, recurses := true, named := ["proofprograms/tree.arities"], apart := false, laid := [("proofprograms/tree.arities", laid_proofprograms_tree_arities)] }
def TickCountsSaid : Prop := tickCountsRow.holds Tryz.pinned (OpenSpec.ofChange tickCountsSpec)

/-- ITS FALSE NEIGHBOUR: 'it returns false'. Refute it at one input. -/
def tickCountsWrong : ChangeSpec := { name := "tickCounts", fn := fun _ => fun
  | [d] => { results := [.lit (.bool false)], args := [d] }
  | _ => none }
def TickCountsWrongFalsely : Prop := tickCountsRow.holds Tryz.pinned (OpenSpec.ofChange tickCountsWrong)

/-- 'proofprogramslaw35.TickBounded': WHATEVER THE INPUT: true; the input reads as it did. -/
def tickBoundedSpec : ChangeSpec := { name := "tickBounded", fn := fun _ => fun
  | [d] => { results := [.lit (.bool true)], args := [d] }
  | _ => none }
def tickBoundedRow : OpenClaim := { program := "ytoamlfmdkbmmpaagreatdoor", sum := "4a00c4b9f702f23b6cb8c29bfab4c6ec9dd5fc31ac447c395748c0ea35d0926f", func := "proofprograms/proofprogramslaw35.TickBounded", spec := "tickBounded", unfollowed := true, recurses := true, named := ["proofprograms/tree.arities"], apart := false, laid := [("proofprograms/tree.arities", laid_proofprograms_tree_arities)] }
def TickBoundedSaid : Prop := tickBoundedRow.holds Tryz.pinned (OpenSpec.ofChange tickBoundedSpec)

/-- ITS FALSE NEIGHBOUR: 'it returns false'. Refute it at one input. -/
def tickBoundedWrong : ChangeSpec := { name := "tickBounded", fn := fun _ => fun
  | [d] => { results := [.lit (.bool false)], args := [d] }
  | _ => none }
def TickBoundedWrongFalsely : Prop := tickBoundedRow.holds Tryz.pinned (OpenSpec.ofChange tickBoundedWrong)

/-- 'proofprogramslaw35.TickAdds': WHATEVER THE INPUT: true; the input reads as it did. -/
def tickAddsSpec : ChangeSpec := { name := "tickAdds", fn := fun _ => fun
  | [d] => { results := [.lit (.bool true)], args := [d] }
  | _ => none }
def tickAddsRow : OpenClaim := { program := "ytoamlfmdkbmmpaagreatdoor", sum := "4a00c4b9f702f23b6cb8c29bfab4c6ec9dd5fc31ac447c395748c0ea35d0926f", func := "proofprograms/proofprogramslaw35.TickAdds", spec := "tickAdds", unfollowed := true, recurses := true, named := ["proofprograms/tree.arities"], apart := false, laid := [("proofprograms/tree.arities", laid_proofprograms_tree_arities)] }
def TickAddsSaid : Prop := tickAddsRow.holds Tryz.pinned (OpenSpec.ofChange tickAddsSpec)

/-- ITS FALSE NEIGHBOUR: 'it returns false'. Refute it at one input. -/
def tickAddsWrong : ChangeSpec := { name := "tickAdds", fn := fun _ => fun
  | [d] => { results := [.lit (.bool false)], args := [d] }
  | _ => none }
def TickAddsWrongFalsely : Prop := tickAddsRow.holds Tryz.pinned (OpenSpec.ofChange tickAddsWrong)

/- THE SECOND FORM. 'bulk': how many values and letters a reading holds, each counted each time it is reached (what is shared counts as often as it is met; a slice's spare places count too). A statement '..UptoSaid' is the law's where the arguments, and the package variables that the reading takes, are together of bulk at most 1048576: NARROWER than '..Said'. Prove '..Said' where nothing that the law and all that it calls make is longer than what came in: it says more and counts as full. Else prove '..UptoSaid'. A law counts once. -/
mutual
def uptoBulk {H : Type} : DataW H → Nat
  | .lit (.string bytes) => bytes.length + 1
  | .lit _ => 1
  | .nil => 1
  | .ptr d => uptoBulk d + 1
  | .slice elems spare => uptoBulkAll elems + uptoBulkAll spare + 1
  | .agg parts => uptoBulkAll parts + 1
  | .iface _ d => uptoBulk d + 1
  | .map entries => uptoBulkEntries entries + 1
  | .held _ => 1
def uptoBulkAll {H : Type} : List (DataW H) → Nat
  | [] => 0
  | d :: r => uptoBulk d + uptoBulkAll r
def uptoBulkEntries {H : Type} : List (Lit × DataW H) → Nat
  | [] => 0
  | x :: r => uptoBulkEntry x + uptoBulkEntries r
def uptoBulkEntry {H : Type} : Lit × DataW H → Nat
  | (.string bytes, d) => bytes.length + uptoBulk d + 1
  | (_, d) => uptoBulk d + 1
 end
def uptoSmall : (H : Type) → List (DataW H) → Bool := fun _ ds => decide (uptoBulkAll ds ≤ 1048576)
def OpenSpec.upto (s : _root_.Go.ChangeSpec) : _root_.Go.OpenSpec := { _root_.Go.OpenSpec.ofChange s with cond := some uptoSmall }

/-- 'proofprogramslaw35.TickTyped', WHERE WHAT IT READS IS OF BULK AT MOST 1048576: true; the input reads as it did. -/
def tickTypedUptoRow : OpenClaim := { program := "ytoamlfmdkbmmpaagreatdoor", sum := "4a00c4b9f702f23b6cb8c29bfab4c6ec9dd5fc31ac447c395748c0ea35d0926f", func := "proofprograms/proofprogramslaw35.TickTyped", spec := "tickTyped", unfollowed := true, recurses := true, named := ["proofprograms/tree.arities"], apart := false, laid := [("proofprograms/tree.arities", laid_proofprograms_tree_arities)], narrowed := true }
def TickTypedUptoSaid : Prop := tickTypedUptoRow.holds Tryz.pinned (OpenSpec.upto tickTypedSpec)

/-- 'proofprogramslaw35.TickCounts', WHERE WHAT IT READS IS OF BULK AT MOST 1048576: true; the input reads as it did. -/
def tickCountsUptoRow : OpenClaim := { program := "ytoamlfmdkbmmpaagreatdoor", sum := "4a00c4b9f702f23b6cb8c29bfab4c6ec9dd5fc31ac447c395748c0ea35d0926f", func := "proofprograms/proofprogramslaw35.TickCounts", spec := "tickCounts", unfollowed := true, recurses := true, named := ["proofprograms/tree.arities"], apart := false, laid := [("proofprograms/tree.arities", laid_proofprograms_tree_arities)], narrowed := true }
def TickCountsUptoSaid : Prop := tickCountsUptoRow.holds Tryz.pinned (OpenSpec.upto tickCountsSpec)

/-- 'proofprogramslaw35.TickBounded', WHERE WHAT IT READS IS OF BULK AT MOST 1048576: true; the input reads as it did. -/
def tickBoundedUptoRow : OpenClaim := { program := "ytoamlfmdkbmmpaagreatdoor", sum := "4a00c4b9f702f23b6cb8c29bfab4c6ec9dd5fc31ac447c395748c0ea35d0926f", func := "proofprograms/proofprogramslaw35.TickBounded", spec := "tickBounded", unfollowed := true, recurses := true, named := ["proofprograms/tree.arities"], apart := false, laid := [("proofprograms/tree.arities", laid_proofprograms_tree_arities)], narrowed := true }
def TickBoundedUptoSaid : Prop := tickBoundedUptoRow.holds Tryz.pinned (OpenSpec.upto tickBoundedSpec)

/-- 'proofprogramslaw35.TickAdds', WHERE WHAT IT READS IS OF BULK AT MOST 1048576: true; the input reads as it did. -/
def tickAddsUptoRow : OpenClaim := { program := "ytoamlfmdkbmmpaagreatdoor", sum := "4a00c4b9f702f23b6cb8c29bfab4c6ec9dd5fc31ac447c395748c0ea35d0926f", func := "proofprograms/proofprogramslaw35.TickAdds", spec := "tickAdds", unfollowed := true, recurses := true, named := ["proofprograms/tree.arities"], apart := false, laid := [("proofprograms/tree.arities", laid_proofprograms_tree_arities)], narrowed := true }
def TickAddsUptoSaid : Prop := tickAddsUptoRow.holds Tryz.pinned (OpenSpec.upto tickAddsSpec)

end Rows
end Go.Proofs.YtoamlfmdkbmmpaaGreatDoor
