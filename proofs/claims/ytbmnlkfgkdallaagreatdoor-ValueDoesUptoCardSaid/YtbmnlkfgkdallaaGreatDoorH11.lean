import Derived.Test.YtbmnlkfgkdallaaGreatDoorH10
namespace Go.Proofs.YtbmnlkfgkdallaaGreatDoor.Lift
set_option linter.unusedSimpArgs false
set_option linter.unusedVariables false
set_option linter.unnecessarySimpa false
open Go
variable {gl : Globs}

def appT (f a : Tm) : Tm := Tm.mk 3 0 (Ty.mk 0 []) [f, a]

/-- what a redex becomes -/
def Tm.reducedN (t : Tm) : Tm :=
  if t.kind = 3 then ((t.argN 0).argN 0).inN 0 0 (t.argN 1)
  else if t.kind = 6 then
    if (t.argN 2).kind = 4 then t.argN 0
    else appT (appT (t.argN 1) ((t.argN 2).argN 0)) (Tm.mk 6 0 t.type [t.argN 0, t.argN 1, (t.argN 2).argN 0])
  else if t.kind = 9 then
    if (t.argN 2).kind = 7 then t.argN 0
    else appT (appT (appT (t.argN 1) ((t.argN 2).argN 0)) ((t.argN 2).argN 1)) (Tm.mk 9 0 t.type [t.argN 0, t.argN 1, (t.argN 2).argN 1])
  else if t.kind = 11 then (t.argN 0).argN 0
  else (t.argN 0).argN 1

/-- how many nodes more it has then -/
def Tm.growthN (t : Tm) : Int :=
  if t.kind = 3 then ((t.argN 0).argN 0).count + ((t.argN 0).argN 0).timesN 0 * ((t.argN 1).count - 1 : Int) - t.count
  else if t.kind = 6 then
    if (t.argN 2).kind = 4 then ((t.argN 0).count : Int) - t.count
    else 2 + (t.argN 1).count + ((t.argN 2).argN 0).count + t.count - 1 - t.count
  else if t.kind = 9 then
    if (t.argN 2).kind = 7 then ((t.argN 0).count : Int) - t.count
    else 3 + (t.argN 1).count + ((t.argN 2).argN 0).count + ((t.argN 2).argN 1).count + t.count - 1 - ((t.argN 2).argN 0).count - t.count
  else if t.kind = 11 then (((t.argN 0).argN 0).count : Int) - t.count
  else (((t.argN 0).argN 1).count : Int) - t.count

theorem ref02_t_ok (k : Int) (s : Ty) (l : List Tm) : Con1 Tryz.prog gl 60 [dint k, s.dv, .sl (l.map Tm.cells)] [] (Tm.mk k 0 s l).dv [] := by
  refine t_in Tryz.func60 ?_
  intro X hP hgl hf hfn hn hR hids hfit
  refine t_g0 ?_
  refine t_c1 trivial (ref02_n_ok k l) ?_
  refine t_g0 ?_
  refine t_c1 trivial (ref01_copy_ok s) ?_
  refine t_g0 ?_
  refine t_r ?_
  simp [go_sem, hP, hgl, hn] <;> (try omega)
  all_goals exact t_f

theorem count2 {t x y : Tm} (h : t.args = [x, y]) : t.count = 1 + (x.count + (y.count + 0)) := by rw [Tm.count_eq, h]; rfl
theorem count3 {t x y z : Tm} (h : t.args = [x, y, z]) : t.count = 1 + (x.count + (y.count + (z.count + 0))) := by rw [Tm.count_eq, h]; rfl
theorem count1 {t x : Tm} (h : t.args = [x]) : t.count = 1 + (x.count + 0) := by rw [Tm.count_eq, h]; rfl

end Go.Proofs.YtbmnlkfgkdallaaGreatDoor.Lift
