import Derived.Test.YtbmnlkfgkdallaaDoorP4
namespace Go.Proofs.YtbmnlkfgkdallaaDoor.Lift
set_option linter.unusedSimpArgs false
set_option linter.unusedVariables false
set_option linter.unnecessarySimpa false
open Go
variable {gl : Globs}

theorem valueBack_ok (har : globOf gl 1 = some arEls) (l : List Int) : Con1 Tryd.prog gl 8 [.sl (ints l)] [] (dbool true) [] := by
  refine t_in Tryd.func8 ?_
  intro X hP hgl hf hfn hn hR hids hfit
  refine t_g0 ?_
  refine t_c1 trivial sane05_ok ?_
  by_cases hl : l.length ≤ 500
  · refine t_g0 ?_
    refine t_c1 @hl (few_ok l) ?_
    refine t_g0 ?_
    refine t_a ?_
    first | refine W_reg [] fun K hK => ?_ | refine W_regd (by rw [hP]; exact mixed) [] fun K hK => ?_
    refine t_s0 ?_
    repeat (refine ⟨by omega, ?_⟩)
    refine vcK_callR hP hgl (new_ok l) (by simp [go_sem]) rfl (by simp [go_sem]) (by simp) (by rw [hn]; exact Nat.le_of_ble_eq_true rfl) ?_
    rintro r φ ⟨b, rfl, rfl⟩ -
    simp [go_sem, hP, hgl, hn]
    refine t_e ?_
    clear hK K
    have hq := nextD_le (l := l) (p := 0) (n := 6) (by omega)
    have hp : (plainD l 0).2 ≤ l.length := hq
    have hg := mkVal_good l 0 (plainD l 0).2
    have hty := mkVal_ty l 0 (plainD l 0).2
    obtain ⟨e1, e2, e3, e4⟩ := Val.good_facts hg
    obtain ⟨g1, g2, g3, g4⟩ := good_back hg
    have htm := good_tm hg
    refine t_a ?_
    first | refine W_reg [] fun K hK => ?_ | refine W_regd (by rw [hP]; exact mixed) [] fun K hK => ?_
    refine t_s0 ?_
    refine t_c trivial (plain_ok b l 0 hl (by omega)) ?_
    refine t_e ?_
    clear hK K
    refine t_g0 ?_
    refine t_a ?_
    first | refine W_reg [] fun K hK => ?_ | refine W_regd (by rw [hP]; exact mixed) [] fun K hK => ?_
    refine t_s0 ?_
    refine t_c trivial (mkval_ok (plainD l 0).1 b l (plainD l 0).2 hl hp (plainD_plain l 0)) ?_
    refine t_e ?_
    clear hK K
    generalize hv : (mkVal l (plainD l 0).1 (plainD l 0).2).1 = v at *
    have ht := termE_ok (gl := gl) v (by omega)
    rw [e1] at ht
    have hr1 := readE_ok har v.termN htm.tys (by omega)
    rw [g1] at hr1
    have hr2 := typeE_ok (gl := gl) v (by omega)
    rw [g2] at hr2
    have hr3 := ref02_typeof_ok (gl := gl) v.termN [] (by simp) htm.tys (by omega)
    rw [g3] at hr3
    have hr4 := normal_nf_ok (gl := gl) v.termN 10 htm.tys g4 htm.nf htm.least (by decide) (by decide)
    have hs1 : v.same v = true := (Val.same_iff v v).2 rfl
    have hs2 : v.tyN.same (plainD l 0).1 = true := (Ty.same_iff _ _).2 hty
    refine t_g0 ?_
    refine t_c1 trivial ht ?_
    refine t_c1 trivial hr1 ?_
    refine t_c1 trivial hr2 ?_
    refine t_c1 trivial hr3 ?_
    refine t_c1 trivial hr4 ?_
    refine t_c3 (j2 @hs1 @hs2) (ref05_same_ok v v) (ref01_same_ok v.tyN (plainD l 0).1) (ref01_same_ok v.tyN (plainD l 0).1) ?_
    refine t_r ?_
    simp [go_sem, hP, hgl, hn] <;> (try omega)
  · refine t_g0 ?_
    refine t_c1 @hl (few_ok l) ?_
    refine t_g @hl ?_
    refine t_r ?_
    simp [go_sem, hP, hgl, hn] <;> (try omega)
end Go.Proofs.YtbmnlkfgkdallaaDoor.Lift
