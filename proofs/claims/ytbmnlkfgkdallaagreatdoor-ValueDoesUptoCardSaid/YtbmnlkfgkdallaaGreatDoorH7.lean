import Derived.Test.YtbmnlkfgkdallaaGreatDoorH6
import Derived.Test.YtbmnlkfgkdallaaGreatDoorP2
namespace Go.Proofs.YtbmnlkfgkdallaaGreatDoor.Lift
set_option linter.unusedSimpArgs false
set_option linter.unusedVariables false
set_option linter.unnecessarySimpa false
open Go
variable {gl : Globs}

theorem ref01_fun_ok (a b : Ty) : Con1 Tryz.prog gl 64 [a.dv, b.dv] [] (Ty.mk 4 [a, b]).dv [] := by
  refine t_in Tryz.func64 ?_
  intro X hP hgl hf hfn hn hR hids hfit
  refine t_g0 ?_
  refine t_c2 trivial (ref01_copy_ok a) (ref01_copy_ok b) ?_
  refine t_r ?_
  simp [go_sem, hP, hgl, hn] <;> (try omega)
  all_goals exact t_f

theorem count_two (k : Int) (a b : Ty) : (Ty.mk k [a, b]).count = 1 + (a.count + (b.count + 0)) := rfl

theorem take_tys (g : List Ty) : List.take g.length (List.map Ty.cells g) = List.map Ty.cells g := by rw [List.take_of_length_le]; simp

theorem nat_v : (Ty.mk 1 []).dv = .agg [dint 1, .sl []] := rfl
theorem list_v : (Ty.mk 2 []).dv = .agg [dint 2, .sl []] := rfl

end Go.Proofs.YtbmnlkfgkdallaaGreatDoor.Lift
