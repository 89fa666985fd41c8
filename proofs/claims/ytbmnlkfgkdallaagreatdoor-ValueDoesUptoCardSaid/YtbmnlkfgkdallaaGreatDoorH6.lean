import Derived.Test.YtbmnlkfgkdallaaGreatDoorH5
import Derived.Test.YtbmnlkfgkdallaaGreatDoorG1
import Derived.Test.YtbmnlkfgkdallaaGreatDoorP2
namespace Go.Proofs.YtbmnlkfgkdallaaGreatDoor.Lift
set_option linter.unusedSimpArgs false
set_option linter.unusedVariables false
set_option linter.unnecessarySimpa false
open Go
variable {gl : Globs}

theorem typeof0_ok (v : Val) (ht : v.two) : Con1 Tryz.prog gl 46 [v.dv] [] v.tyN.dv [] := by
  induction v using Val.ind with
  | h v ih =>
  obtain ⟨ht1, ht2⟩ := (Val.two_eq v).1 ht
  refine t_in Tryz.func46 ?_
  intro X hP hgl hf hfn hn hR hids hfit
  by_cases h2 : v.kind = 2
  · have hr : v.tyN = Ty.mk 2 [] := by rw [Val.tyN_eq]; simp [h2]
    refine t_g @h2 ?_
    refine t_c1 @h2 list_ok ?_
    refine t_r ?_
    simp [go_sem, hP, hgl, hn, hr] <;> (try omega)
    all_goals exact t_f
  by_cases h4 : v.kind = 4
  · have hr : v.tyN = Ty.mk 5 [] := by rw [Val.tyN_eq]; simp [h4]
    refine t_g @h4 ?_
    refine t_r ?_
    simp [go_sem, hP, hgl, hn, hr] <;> (try omega)
    all_goals exact t_f
  by_cases h3 : v.kind = 3
  · have h2l := ht1 h3
    match hargs : v.args, h2l with
    | [x, y], _ =>
    have hx : x ∈ v.args := by rw [hargs]; simp
    have hy : y ∈ v.args := by rw [hargs]; simp
    have hr : v.tyN = Ty.mk 3 [x.tyN, y.tyN] := by rw [Val.tyN_eq]; simp [h3, hargs]
    refine t_g @h3 ?_
    refine t_c2 (j2 @h3 @hargs) (ih x hx (ht2 x hx)) (ih y hy (ht2 y hy)) ?_
    refine t_r ?_
    simp [go_sem, hP, hgl, hn, hr] <;> (try omega)
    all_goals exact t_f
  have hr : v.tyN = Ty.mk 1 [] := by rw [Val.tyN_eq]; simp [h2, h3, h4]
  refine t_g (j2 @h2 (j2 @h3 @h4)) ?_
  refine t_c1 @h2 nat_ok ?_
  refine t_r ?_
  simp [go_sem, hP, hgl, hn, hr] <;> (try omega)
  all_goals exact t_f

def Val.typeE (v : Val) : Ty × Int := if v.checkN ≠ 0 then (zeroTy, v.checkN) else (v.tyN, 0)

theorem typeE_ok (v : Val) (hc : v.count ≤ 1048576) : Con1 Tryz.prog gl 12 [v.dv] [] (.tup [v.typeE.1.dv, dint v.typeE.2]) [] := by
  refine t_in Tryz.func12 ?_
  intro X hP hgl hf hfn hn hR hids hfit
  refine t_g0 ?_
  have hck : (if v.nodesN.2 = true then if v.nodesN.1 > 64 then 4 else 0 else 2) = v.checkN := rfl
  have hcon := check_ok (gl := gl) v (by omega)
  rw [hck] at hcon
  refine t_c1 trivial hcon ?_
  by_cases h : v.checkN = 0
  · have hok : v.nodesN.2 = true := by
      unfold Val.checkN at h
      split at h
      · assumption
      · cases h
    obtain ⟨ha, ht⟩ := v.ok_all hok
    refine t_g @h ?_
    refine t_c1 trivial (typeof0_ok v ht) ?_
    refine t_r ?_
    simp [go_sem, hP, hgl, hn, Val.typeE, h] <;> (try omega)
    all_goals exact t_f
  · refine t_g @h ?_
    refine t_r ?_
    simp [go_sem, hP, hgl, hn, Val.typeE, h, zeroTy] <;> (try omega)
    all_goals exact t_f

theorem ref05_ints_ok (a b : List Int) (ha : a.length ≤ 2147483648) (hb : b.length ≤ 2147483648) : Con1 Tryz.prog gl 57 [.sl (ints a), .sl (ints b)] [] (dbool (decide (a = b))) [] := by
  refine t_in Tryz.func57 ?_
  intro X hP hgl hf hfn hn hR hids hfit
  by_cases hl : a.length = b.length
  · refine t_g @hl ?_
    refine t_a ?_
    refine t_sub [] @hl (W_upto (a.length) (fun i => ∀ (j : Nat) (x y : Int), j < i → a[j]? = some x → b[j]? = some y → x = y) (fun i => [(.slot 13, .one (.v (dint i))), (.slot 12, .one (.v (dint a.length))), (.slot 0, .one (.v (.sl (ints a)))), (.slot 1, .one (.v (.sl (ints b))))]) (by intro j x y h; omega) ?_ ?_)
    · intro i hlt hI hnext
      obtain ⟨x, hx⟩ : ∃ x, a[i]? = some x := ⟨_, List.getElem?_eq_getElem hlt⟩
      obtain ⟨y, hy⟩ : ∃ y, b[i]? = some y := ⟨_, List.getElem?_eq_getElem (by omega)⟩
      have gx := ints_get hx
      have gy := ints_get hy
      refine t_rg0 ?_
      refine t_yes ?_
      by_cases hs : x = y
      · refine t_gt (wr []) trivial (j2 @gx (j2 @gy @hs)) (hnext ?_)
        intro j x' y' hj hx' hy'
        by_cases hji : j = i
        · subst hji; rw [hx] at hx'; rw [hy] at hy'; cases hx'; cases hy'; exact hs
        · exact hI j x' y' (by omega) hx' hy'
      · have hne : a ≠ b := fun e => by subst e; rw [hx] at hy; cases hy; exact hs rfl
        refine t_g (j2 @gx (j2 @gy @hs)) ?_
        refine t_r ?_
        simp [go_sem, hP, hgl, hn, hne] <;> (try omega)
    · intro hI
      have he : a = b := List.ext_getElem hl fun i h1 h2 => hI i _ _ h1 (List.getElem?_eq_getElem h1) (List.getElem?_eq_getElem h2)
      refine t_rg0 ?_
      refine t_no ?_
      refine t_g0 ?_
      refine t_r ?_
      simp [go_sem, hP, hgl, hn, he] <;> (try omega)
  · have hne : a ≠ b := fun e => hl (by rw [e])
    refine t_g @hl ?_
    refine t_r ?_
    simp [go_sem, hP, hgl, hn, hne] <;> (try omega)
end Go.Proofs.YtbmnlkfgkdallaaGreatDoor.Lift
