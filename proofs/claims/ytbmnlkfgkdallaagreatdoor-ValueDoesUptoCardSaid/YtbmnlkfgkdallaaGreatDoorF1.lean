import Derived.Test.YtbmnlkfgkdallaaGreatDoorDa
import Derived.Test.YtbmnlkfgkdallaaGreatDoorFa
namespace Go.Proofs.YtbmnlkfgkdallaaGreatDoor.Lift
set_option linter.unusedSimpArgs false
set_option linter.unusedVariables false
set_option linter.unnecessarySimpa false
open Go
variable {gl : Globs}

theorem ref01_copy_ok (t : Ty) : Con1 Tryz.prog gl 83 [t.dv] [] t.dv [] := by
  induction t using Ty.ind with
  | h t ih =>
  refine t_in Tryz.func83 ?_
  intro X hP hgl hf hfn hn hR hids hfit
  have htf : t.fit := (Ty.dv_fit t).1 (hfit _ (by simp))
  have hlen : t.args.length ≤ 2147483648 := ((Ty.fit_eq t).1 htf).2.1
  refine t_rg0 ?_
  refine t_rg0 ?_
  refine t_rg0 ?_
  refine t_a ?_
  refine W_sub [(1003, 0)] ?_ ?_ ?_ (W_list t.args (fun done rest => [(.slot 2, .one (.loc 2 0)), (.loc 2, .row [.v (dint 0), .own 0 []]), (.slot 1, .one (.loc 1 0)), (.loc 1, .row [.v (dint t.kind), .v (.sl (t.args.map Ty.cells))]),
      (.slot 3, .one (.own 1003 (done.map Ty.cells))), (.tok 1003, .tk 2 done.length), (.slot 7, .one (.v (.sl (t.args.map Ty.cells)))), (.slot 8, .one (.v (dint t.args.length))), (.slot 9, .one (.v (dint done.length)))]) ?_ ?_)
  · simp [go_sem]
  · simp [go_sem]
  · simp [go_sem]
  · intro done x rest hL hg hnext
    have hlt : done.length < t.args.length := by rw [hL]; simp
    refine t_rg0 ?_
    refine t_yes ?_
    refine t_rg @hg ?_
    refine t_a ?_
    first | refine W_reg [] fun K hK => ?_ | refine W_regd (by rw [hP]; exact mixed) [] fun K hK => ?_
    refine t_s0 ?_
    refine t_c trivial (ih x (List.mem_of_getElem? hg)) ?_
    refine t_e ?_
    clear hK K
    refine t_rg0 ?_
    refine t_b ?_
    refine t_sub [(1003, 17)] trivial hnext
  · refine t_rg0 ?_
    refine t_no ?_
    refine t_rg0 ?_
    refine t_r ?_
    simp [go_sem, hP, hgl, hn] <;> (try omega)

theorem ref01_same_ok (a b : Ty) : Con1 Tryz.prog gl 18 [a.dv, b.dv] [] (dbool (a.same b)) [] := by
  induction a using Ty.ind generalizing b with
  | h a ih =>
  refine t_in Tryz.func18 ?_
  intro X hP hgl hf hfn hn hR hids hfit
  have hfa : a.fit := (Ty.dv_fit a).1 (hfit _ (by simp))
  have hfb : b.fit := (Ty.dv_fit b).1 (hfit _ (by simp))
  have hla : a.args.length ≤ 2147483648 := ((Ty.fit_eq a).1 hfa).2.1
  have hlb : b.args.length ≤ 2147483648 := ((Ty.fit_eq b).1 hfb).2.1
  refine t_rg0 ?_
  by_cases hk : a.kind = b.kind
  · refine t_rg @hk ?_
    by_cases hl : a.args.length = b.args.length
    · refine t_a ?_
      refine W_cond rfl ?_ ?_
      · intro h; simp [hl] at h
      intro _
      refine t_rg0 ?_
      refine t_a ?_
      refine W_sub [] ?_ ?_ ?_ (W_upto a.args.length (fun i => ∀ (j : Nat) (x y : Ty), j < i → a.args[j]? = some x → b.args[j]? = some y → x.same y = true)
        (fun i => [(.slot 2, .one (.loc 2 0)), (.loc 2, .row [.v (dint a.kind), .v (.sl (a.args.map Ty.cells))]), (.slot 3, .one (.loc 3 0)), (.loc 3, .row [.v (dint b.kind), .v (.sl (b.args.map Ty.cells))]), (.slot 22, .one (.v (dint a.args.length))), (.slot 23, .one (.v (dint i)))]) (by intro j x y h; omega) ?_ ?_)
      · simp [go_sem]
      · simp [go_sem, hk, hl]
      · simp [go_sem]
      · intro i hi hI hnext
        obtain ⟨x, hx⟩ : ∃ x, a.args[i]? = some x := ⟨_, List.getElem?_eq_getElem hi⟩
        obtain ⟨y, hy⟩ : ∃ y, b.args[i]? = some y := ⟨_, List.getElem?_eq_getElem (by omega)⟩
        refine t_rg0 ?_
        refine t_yes ?_
        refine t_rg0 ?_
        refine t_a ?_
        first | refine W_reg [] fun K hK => ?_ | refine W_regd (by rw [hP]; exact mixed) [] fun K hK => ?_
        refine t_s (j2 @hx @hy) ?_
        refine t_c trivial (ih x (List.mem_of_getElem? hx) y) ?_
        refine t_e ?_
        clear hK K
        by_cases hs : x.same y = true
        · refine t_a ?_
          refine W_cond rfl ?_ ?_
          · intro h; simp [hs] at h
          intro _
          refine t_rg0 ?_
          refine t_b ?_
          refine t_sub [] trivial (hnext ?_)
          intro j x' y' hj hx' hy'
          by_cases hji : j = i
          · subst hji; rw [hx] at hx'; rw [hy] at hy'; cases hx'; cases hy'; exact hs
          · exact hI j x' y' (by omega) hx' hy'
        · refine t_a ?_
          refine W_cond rfl ?_ ?_
          rotate_left
          · intro h; simp [hs] at h
          intro _
          refine t_rg0 ?_
          refine t_r ?_
          simp [go_sem, hP, hgl, hn] <;> (try omega)
          refine Bool.eq_false_iff.2 ?_
          intro h
          rw [Ty.same_eq, Bool.and_eq_true, Ty.sames_iff] at h
          exact hs (h.2.2 i x y hx hy)
      · intro hI
        refine t_rg0 ?_
        refine t_no ?_
        refine t_rg0 ?_
        refine t_r ?_
        simp [go_sem, hP, hgl, hn] <;> (try omega)
        rw [Ty.same_eq, Bool.and_eq_true, Ty.sames_iff]
        exact ⟨by simp [hk], hl, fun i x y hx hy => hI i x y (List.getElem?_eq_some_iff.1 hx).1 hx hy⟩
    · refine t_a ?_
      refine W_cond rfl ?_ ?_
      rotate_left
      · intro h; simp at h; omega
      intro _
      refine t_rg0 ?_
      refine t_r ?_
      simp [go_sem, hP, hgl, hn] <;> (try omega)
      refine Bool.eq_false_iff.2 ?_
      intro h
      rw [Ty.same_eq, Bool.and_eq_true, Ty.sames_iff] at h
      exact hl h.2.1
  · refine t_rg @hk ?_
    refine t_a ?_
    refine W_cond rfl ?_ ?_
    rotate_left
    · intro h; simp at h
    intro _
    refine t_rg0 ?_
    refine t_r ?_
    simp [go_sem, hP, hgl, hn] <;> (try omega)
    simp [Ty.same_eq, hk]

theorem ref01_nat_ok : Con1 Tryz.prog gl 42 [] [] (Ty.mk 1 []).dv [] := by
  refine t_in Tryz.func42 ?_
  intro X hP hgl hf hfn hn hR hids hfit
  refine t_rg0 ?_
  refine t_rg0 ?_
  refine t_r ?_
  simp [go_sem, hP, hgl, hn] <;> (try omega)
  all_goals exact t_f

theorem ref01_list_ok : Con1 Tryz.prog gl 43 [] [] (Ty.mk 2 []).dv [] := by
  refine t_in Tryz.func43 ?_
  intro X hP hgl hf hfn hn hR hids hfit
  refine t_rg0 ?_
  refine t_rg0 ?_
  refine t_r ?_
  simp [go_sem, hP, hgl, hn] <;> (try omega)
  all_goals exact t_f

theorem ref01_unit_ok : Con1 Tryz.prog gl 44 [] [] (Ty.mk 5 []).dv [] := by
  refine t_in Tryz.func44 ?_
  intro X hP hgl hf hfn hn hR hids hfit
  refine t_rg0 ?_
  refine t_rg0 ?_
  refine t_r ?_
  simp [go_sem, hP, hgl, hn] <;> (try omega)
  all_goals exact t_f

theorem ref01_two_ok (a b : Ty) : Con1 Tryz.prog gl 45 [a.dv, b.dv] [] (Ty.mk 3 [a, b]).dv [] := by
  refine t_in Tryz.func45 ?_
  intro X hP hgl hf hfn hn hR hids hfit
  refine t_rg0 ?_
  refine t_a ?_
  first | refine W_reg [] fun K hK => ?_ | refine W_regd (by rw [hP]; exact mixed) [] fun K hK => ?_
  refine t_s0 ?_
  refine t_c trivial (ref01_copy_ok a) ?_
  refine t_c trivial (ref01_copy_ok b) ?_
  refine t_e ?_
  clear hK K
  refine t_r ?_
  simp [go_sem, hP, hgl, hn] <;> (try omega)
  all_goals exact t_f
end Go.Proofs.YtbmnlkfgkdallaaGreatDoor.Lift
