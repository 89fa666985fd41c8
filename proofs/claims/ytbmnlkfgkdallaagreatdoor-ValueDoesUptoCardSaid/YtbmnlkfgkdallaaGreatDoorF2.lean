import Derived.Test.YtbmnlkfgkdallaaGreatDoorF1
namespace Go.Proofs.YtbmnlkfgkdallaaGreatDoor.Lift
set_option linter.unusedSimpArgs false
set_option linter.unusedVariables false
set_option linter.unnecessarySimpa false
open Go
variable {gl : Globs}

theorem Tm.fit_len {t : Tm} (h : t.dv.fit) : t.args.length ≤ 2147483648 := ((Tm.fit_eq t).1 ((Tm.dv_fit t).1 h)).2.2.2.1
theorem sl_len {l : List (List DV)} (h : DV.fit (.sl l)) : l.length ≤ 2147483648 := by simp [DV.fit, BIG] at h; exact h.1

theorem ref02_copy_ok (t : Tm) : Con1 Tryz.prog gl 81 [t.dv] [] t.dv [] := by
  induction t using Tm.ind with
  | h t ih =>
  refine t_in Tryz.func81 ?_
  intro X hP hgl hf hfn hn hR hids hfit
  have hlen := Tm.fit_len (hfit t.dv (by simp))
  refine t_rg0 ?_
  refine t_rg0 ?_
  refine t_rg0 ?_
  refine t_a ?_
  refine t_sub [(1003, 0)] trivial (W_list (t.args) (fun done rest => [(.slot 9, .one (.v (dint done.length))), (.slot 8, .one (.v (dint t.args.length))), (.slot 7, .one (.v (.sl (t.args.map Tm.cells)))), (.slot 3, .one (.own 1003 (done.map Tm.cells))), (.tok 1003, .tk 5 done.length), (.loc 2, .row ([.v (dint 0), .v (dint 0), .v (dint 0), .own 0 [], .own 0 []])), (.slot 2, .one (.loc 2 0)), (.loc 1, .row ([.v (dint t.kind), .v (dint t.index), .v (dint t.type.kind), .v (.sl (t.type.args.map Ty.cells)), .v (.sl (t.args.map Tm.cells))])), (.slot 1, .one (.loc 1 0))]) ?_ ?_)
  · intro done x rest hL hg hnext
    have hlt : done.length < t.args.length := by rw [hL]; simp
    refine t_rg0 ?_
    refine t_yes ?_
    refine t_rg @hg ?_
    refine t_a ?_
    first | refine W_reg [] fun K hK => ?_ | refine W_regd (by rw [hP]; exact mixed) [] fun K hK => ?_
    refine t_s0 ?_
    refine t_c trivial (ih x (List.mem_of_getElem? hg)) ?_
    refine t_e ?_
    clear hK K
    refine t_rg0 ?_
    refine t_b ?_
    refine t_sub [(1003, 17)] trivial hnext
  · refine t_rg0 ?_
    refine t_no ?_
    refine t_a ?_
    first | refine W_reg [] fun K hK => ?_ | refine W_regd (by rw [hP]; exact mixed) [] fun K hK => ?_
    refine t_s0 ?_
    refine t_c trivial (ref01_copy_ok t.type) ?_
    refine t_e ?_
    clear hK K
    refine t_r ?_
    simp [go_sem, hP, hgl, hn] <;> (try omega)

/-- the number of nodes -/
def Tm.count : Tm → Nat
  | .mk _ _ _ l => 1 + counts l
where
  counts : List Tm → Nat
    | [] => 0
    | a :: r => a.count + counts r
theorem Tm.count_eq (t : Tm) : t.count = 1 + Tm.count.counts t.args := by cases t; rfl
theorem Tm.counts_append (l m : List Tm) : Tm.count.counts (l ++ m) = Tm.count.counts l + Tm.count.counts m := by
  induction l with
  | nil => simp [Tm.count.counts]
  | cons a r ih => simp [Tm.count.counts, ih]; omega

theorem ref02_count_ok (t : Tm) (hc : t.count ≤ 2147483648) : Con1 Tryz.prog gl 92 [t.dv] [] (dint t.count) [] := by
  induction t using Tm.ind with
  | h t ih =>
  refine t_in Tryz.func92 ?_
  intro X hP hgl hf hfn hn hR hids hfit
  have hlen := Tm.fit_len (hfit t.dv (by simp))
  rw [Tm.count_eq] at hc
  refine t_rg0 ?_
  refine t_rg0 ?_
  refine t_rg0 ?_
  refine t_a ?_
  refine W_sub [] (by simp [go_sem]) (by simp [go_sem, Tm.count.counts] <;> omega) (by simp [go_sem]) (W_list (t.args) (fun done rest => [(.slot 9, .one (.v (dint done.length))), (.slot 8, .one (.v (dint t.args.length))), (.slot 7, .one (.v (.sl (t.args.map Tm.cells)))), (.slot 3, .one (.v (dint (1 + Tm.count.counts done : Nat))))]) ?_ ?_)
  · intro done x rest hL hg hnext
    have hlt : done.length < t.args.length := by rw [hL]; simp
    have hcx : Tm.count.counts t.args = Tm.count.counts done + (x.count + Tm.count.counts rest) := by rw [hL, Tm.counts_append]; rfl
    refine t_rg0 ?_
    refine t_yes ?_
    refine t_rg @hg ?_
    refine t_a ?_
    first | refine W_reg [] fun K hK => ?_ | refine W_regd (by rw [hP]; exact mixed) [] fun K hK => ?_
    refine t_s0 ?_
    refine t_c trivial (ih x (List.mem_of_getElem? hg) (by omega)) ?_
    refine t_e ?_
    clear hK K
    refine t_rg0 ?_
    repeat (first | refine W_inBlock ?_ | refine W_skip ?_ | refine W_label ?_ | refine W_exit rfl ?_)
    refine W_sub [] (by simp [go_sem]) (by simp [go_sem, Tm.counts_append, Tm.count.counts] <;> omega) (by simp [go_sem]) hnext
  · refine t_rg0 ?_
    refine t_no ?_
    refine t_rg0 ?_
    refine t_r ?_
    simp [go_sem, hP, hgl, hn, Tm.count_eq] <;> (try omega)

theorem ref02_n_ok (k : Int) (l : List Tm) : Con1 Tryz.prog gl 39 [dint k, .sl (l.map Tm.cells)] [] (Tm.mk k 0 (Ty.mk 0 []) l).dv [] := by
  refine t_in Tryz.func39 ?_
  intro X hP hgl hf hfn hn hR hids hfit
  have hlen : l.length ≤ 2147483648 := by simpa using sl_len (hfit (.sl (l.map Tm.cells)) (by simp))
  refine t_rg0 ?_
  refine t_rg0 ?_
  refine t_rg0 ?_
  refine t_a ?_
  refine t_sub [(1005, 0)] trivial (W_list (l) (fun done rest => [(.slot 10, .one (.v (dint done.length))), (.slot 9, .one (.v (dint l.length))), (.slot 8, .one (.v (.sl (l.map Tm.cells)))), (.slot 5, .one (.own 1005 (done.map Tm.cells))), (.tok 1005, .tk 5 done.length), (.loc 4, .row ([.v (dint 0), .v (dint 0), .v (dint 0), .own 0 [], .own 0 []])), (.slot 4, .one (.loc 4 0)), (.slot 0, .one (.v (dint k)))]) ?_ ?_)
  · intro done x rest hL hg hnext
    have hlt : done.length < l.length := by rw [hL]; simp
    refine t_rg0 ?_
    refine t_yes ?_
    refine t_rg @hg ?_
    refine t_a ?_
    first | refine W_reg [] fun K hK => ?_ | refine W_regd (by rw [hP]; exact mixed) [] fun K hK => ?_
    refine t_s0 ?_
    refine t_c trivial (ref02_copy_ok x) ?_
    refine t_e ?_
    clear hK K
    refine t_rg0 ?_
    refine t_b ?_
    refine t_sub [(1005, 18)] trivial hnext
  · refine t_rg0 ?_
    refine t_no ?_
    refine t_rg0 ?_
    refine t_r ?_
    simp [go_sem, hP, hgl, hn] <;> (try omega)
    all_goals exact t_f

theorem ref02_same_ok (a b : Tm) : Con1 Tryz.prog gl 19 [a.dv, b.dv] [] (dbool (a.same b)) [] := by
  induction a using Tm.ind generalizing b with
  | h a ih =>
  refine t_in Tryz.func19 ?_
  intro X hP hgl hf hfn hn hR hids hfit
  have hla := Tm.fit_len (hfit a.dv (by simp))
  have hlb := Tm.fit_len (hfit b.dv (by simp))
  refine t_rg0 ?_
  by_cases hk : a.kind = b.kind
  · by_cases hi : a.index = b.index
    · refine t_a ?_
      first | refine W_reg [] fun K hK => ?_ | refine W_regd (by rw [hP]; exact mixed) [] fun K hK => ?_
      refine t_s (j2 @hk @hi) ?_
      refine t_c trivial (ref01_same_ok a.type b.type) ?_
      by_cases ht : a.type.same b.type = true
      · simp [go_sem, hP, hn, ht]
        refine t_e ?_
        clear hK K
        by_cases hl : a.args.length = b.args.length
        · refine t_a ?_
          refine W_cond rfl ?_ ?_
          · intro h; simp [hl] at h
          intro _
          refine t_rg0 ?_
          refine t_a ?_
          refine t_sub [] (j2 @hk (j2 @hi @hl)) (W_upto (a.args.length) (fun i => ∀ (j : Nat) (x y : Tm), j < i → a.args[j]? = some x → b.args[j]? = some y → x.same y = true) (fun i => [(.slot 38, .one (.v (dint i))), (.slot 37, .one (.v (dint a.args.length))), (.slot 3, .one (.loc 3 0)), (.loc 3, .row ([.v (dint b.kind), .v (dint b.index), .v (dint b.type.kind), .v (.sl (b.type.args.map Ty.cells)), .v (.sl (b.args.map Tm.cells))])), (.slot 2, .one (.loc 2 0)), (.loc 2, .row ([.v (dint a.kind), .v (dint a.index), .v (dint a.type.kind), .v (.sl (a.type.args.map Ty.cells)), .v (.sl (a.args.map Tm.cells))]))]) (by intro j x y h; omega) ?_ ?_)
          · intro i hlt hI hnext
            obtain ⟨x, hx⟩ : ∃ x, a.args[i]? = some x := ⟨_, List.getElem?_eq_getElem hlt⟩
            obtain ⟨y, hy⟩ : ∃ y, b.args[i]? = some y := ⟨_, List.getElem?_eq_getElem (by omega)⟩
            refine t_rg0 ?_
            refine t_yes ?_
            refine t_rg0 ?_
            refine t_a ?_
            first | refine W_reg [] fun K hK => ?_ | refine W_regd (by rw [hP]; exact mixed) [] fun K hK => ?_
            refine t_s (j2 @hx @hy) ?_
            refine t_c trivial (ih x (List.mem_of_getElem? hx) y) ?_
            refine t_e ?_
            clear hK K
            by_cases hs : x.same y = true
            · refine t_a ?_
              refine W_cond rfl ?_ ?_
              · intro h; simp [hs] at h
              intro _
              refine t_rg0 ?_
              refine t_b ?_
              refine t_sub [] trivial (hnext ?_)
              intro j x' y' hj hx' hy'
              by_cases hji : j = i
              · subst hji; rw [hx] at hx'; rw [hy] at hy'; cases hx'; cases hy'; exact hs
              · exact hI j x' y' (by omega) hx' hy'
            · refine t_a ?_
              refine W_cond rfl ?_ ?_
              rotate_left
              · intro h; simp [hs] at h
              intro _
              refine t_rg0 ?_
              refine t_r ?_
              simp [go_sem, hP, hgl, hn] <;> (try omega)
              refine Bool.eq_false_iff.2 ?_
              intro h
              rw [Tm.same_eq] at h
              simp only [Bool.and_eq_true, Tm.sames_iff] at h
              exact hs (h.2.2 i x y hx hy)
          · intro hI
            refine t_rg0 ?_
            refine t_no ?_
            refine t_rg0 ?_
            refine t_r ?_
            simp [go_sem, hP, hgl, hn] <;> (try omega)
            rw [Tm.same_eq]
            simp only [Bool.and_eq_true, Tm.sames_iff]
            exact ⟨⟨⟨by simp [hk], by simp [hi]⟩, ht⟩, hl, fun i x y hx hy => hI i x y (List.getElem?_eq_some_iff.1 hx).1 hx hy⟩
        · refine t_a ?_
          refine W_cond rfl ?_ ?_
          rotate_left
          · intro h; simp at h; omega
          intro _
          refine t_rg0 ?_
          refine t_r ?_
          simp [go_sem, hP, hgl, hn] <;> (try omega)
          refine Bool.eq_false_iff.2 ?_
          intro h
          rw [Tm.same_eq] at h
          simp only [Bool.and_eq_true, Tm.sames_iff] at h
          exact hl h.2.1
      · simp [go_sem, hP, hn, ht]
        refine t_e ?_
        clear hK K
        refine t_a ?_
        refine W_cond rfl ?_ ?_
        rotate_left
        · intro h; simp at h
        intro _
        refine t_rg0 ?_
        refine t_r ?_
        simp [go_sem, hP, hgl, hn] <;> (try omega)
        simp [Tm.same_eq, ht]
    · refine t_rg (j2 @hk @hi) ?_
      refine t_a ?_
      refine W_cond rfl ?_ ?_
      rotate_left
      · intro h; simp at h
      intro _
      refine t_rg0 ?_
      refine t_r ?_
      simp [go_sem, hP, hgl, hn] <;> (try omega)
      simp [Tm.same_eq, hi]
  · refine t_rg @hk ?_
    refine t_a ?_
    refine W_cond rfl ?_ ?_
    rotate_left
    · intro h; simp at h
    intro _
    refine t_rg0 ?_
    refine t_r ?_
    simp [go_sem, hP, hgl, hn] <;> (try omega)
    simp [Tm.same_eq, hk]
end Go.Proofs.YtbmnlkfgkdallaaGreatDoor.Lift
