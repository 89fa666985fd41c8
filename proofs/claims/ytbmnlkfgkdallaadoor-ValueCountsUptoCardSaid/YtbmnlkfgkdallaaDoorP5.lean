/-
  Plain facts: normal forms, as the reference finds them.
-/
import Derived.Test.YtbmnlkfgkdallaaDoorH12
namespace Go.Proofs.YtbmnlkfgkdallaaDoor.Lift
set_option linter.unusedSimpArgs false
set_option linter.unusedVariables false
set_option linter.unnecessarySimpa false
open Go

namespace Tm
set_option linter.unusedSimpArgs false
set_option linter.unusedVariables false
set_option linter.unnecessarySimpa false
/-- the next redex reduced; whether there was one; whether it fits -/
def nextN : Tm → Int → Tm × Bool × Bool
  | .mk k i ty a, room =>
    match (Tm.mk k i ty a).rootN with
    | true => if room < (Tm.mk k i ty a).growthN then (zeroTm, true, false) else ((Tm.mk k i ty a).reducedN, true, true)
    | false => match nexts a room with
      | (l, true, f) => (.mk k i ty l, true, f)
      | (_, false, _) => (.mk k i ty a, false, true)
where
  nexts : List Tm → Int → List Tm × Bool × Bool
    | [], _ => ([], false, true)
    | x :: r, room => match x.nextN room with
      | (y, true, f) => (y :: r, true, f)
      | (_, false, _) => match nexts r room with
        | (l, b, f) => (x :: l, b, f)

/-- the rounds of Normal: as many steps are left -/
def loopN : Nat → Tm → Int → Tm × Int × Int
  | 0, t, n => match t.nextN (4096 - t.count) with
    | (_, false, _) => (t, n, 0)
    | (_, true, _) => (zeroTm, 0, 5)
  | s + 1, t, n => match t.nextN (4096 - t.count) with
    | (_, false, _) => (t, n, 0)
    | (_, true, false) => (zeroTm, 0, 4)
    | (x, true, true) => loopN s x (n + 1)
end Tm
end Go.Proofs.YtbmnlkfgkdallaaDoor.Lift
