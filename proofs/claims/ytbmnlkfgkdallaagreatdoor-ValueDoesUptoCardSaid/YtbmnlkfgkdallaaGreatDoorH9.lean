import Derived.Test.YtbmnlkfgkdallaaGreatDoorH8
namespace Go.Proofs.YtbmnlkfgkdallaaGreatDoor.Lift
set_option linter.unusedSimpArgs false
set_option linter.unusedVariables false
set_option linter.unnecessarySimpa false
open Go
variable {gl : Globs}

def Tm.argN (t : Tm) (i : Nat) : Tm := t.args.getD i zeroTm

/-- whether a valid term's root is a redex -/
def Tm.rootN (t : Tm) : Bool :=
  if t.kind = 3 then decide ((t.argN 0).kind = 2)
  else if t.kind = 6 then decide ((t.argN 2).kind = 4) || decide ((t.argN 2).kind = 5)
  else if t.kind = 9 then decide ((t.argN 2).kind = 7) || decide ((t.argN 2).kind = 8)
  else if t.kind = 11 then decide ((t.argN 0).kind = 10)
  else if t.kind = 12 then decide ((t.argN 0).kind = 10)
  else false

theorem Tm.parts1 {t : Tm} (h : t.shape = true) (hk : arityI t.kind = 1) : ∃ x, t.args = [x] := by
  have := (Tm.shape_node h).1
  rw [hk] at this
  match ha : t.args, this with
  | [x], _ => exact ⟨x, rfl⟩
theorem Tm.parts2 {t : Tm} (h : t.shape = true) (hk : arityI t.kind = 2) : ∃ x y, t.args = [x, y] := by
  have := (Tm.shape_node h).1
  rw [hk] at this
  match ha : t.args, this with
  | [x, y], _ => exact ⟨x, y, rfl⟩
theorem Tm.parts3 {t : Tm} (h : t.shape = true) (hk : arityI t.kind = 3) : ∃ x y z, t.args = [x, y, z] := by
  have := (Tm.shape_node h).1
  rw [hk] at this
  match ha : t.args, this with
  | [x, y, z], _ => exact ⟨x, y, z, rfl⟩

/-- whether a term has no redex -/
def Tm.nf : Tm → Bool
  | .mk k i ty a => !(Tm.mk k i ty a).rootN && nfs a
where
  nfs : List Tm → Bool
    | [] => true
    | a :: r => a.nf && nfs r
theorem Tm.nf_eq (t : Tm) : t.nf = (!t.rootN && nf.nfs t.args) := by cases t; rfl
theorem Tm.nfs_iff (l : List Tm) : nf.nfs l = true ↔ ∀ a ∈ l, a.nf = true := by
  induction l with
  | nil => simp [nf.nfs]
  | cons a r ih => simp [nf.nfs, ih]

end Go.Proofs.YtbmnlkfgkdallaaGreatDoor.Lift
