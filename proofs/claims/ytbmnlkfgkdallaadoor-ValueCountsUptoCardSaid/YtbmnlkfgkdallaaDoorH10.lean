import Derived.Test.YtbmnlkfgkdallaaDoorP3
namespace Go.Proofs.YtbmnlkfgkdallaaDoor.Lift
set_option linter.unusedSimpArgs false
set_option linter.unusedVariables false
set_option linter.unnecessarySimpa false
open Go
variable {gl : Globs}

/-- several ways lead to one state, at a place that the first way tells -/
theorem W_cutX {X : Ctx} {k kk : List Item} {s : St} (S : St) (h1 : W X kk S → W X k s) (h2 : W X kk S) : W X k s := h1 h2

theorem below_ok (t : Tm) : Con1 Tryd.prog gl 138 [t.dv] [] (dint (bindI t.kind)) [] := by
  refine t_in Tryd.func138 ?_
  intro X hP hgl hf hfn hn hR hids hfit
  by_cases h : t.kind = 2
  · refine t_g @h ?_
    refine t_r ?_
    simp [go_sem, hP, hgl, hn, bindI, h] <;> (try omega)
  · refine t_g @h ?_
    refine t_r ?_
    simp [go_sem, hP, hgl, hn, bindI, h] <;> (try omega)

theorem bindI_le (k : Int) : 0 ≤ bindI k ∧ bindI k ≤ 1 := by unfold bindI; split <;> omega

theorem times_ok (t : Tm) (p : Int) (hc : t.count ≤ 1073741824) (hp0 : 0 ≤ p) (hp : p + t.count ≤ 2147483648) : Con1 Tryd.prog gl 132 [t.dv, dint p] [] (dint (t.timesN p)) [] := by
  induction t using Tm.ind generalizing p with
  | h t ih =>
  have hct := Tm.count_eq t
  have hbd := bindI_le t.kind
  refine t_in Tryd.func132 ?_
  intro X hP hgl hf hfn hn hR hids hfit
  have hlen := Tm.fit_len (hfit t.dv (by simp))
  refine t_g0 ?_
  apply W_cutX [(.slot 5, .one (.v (dint (if t.kind = 1 ∧ t.index = p then 1 else 0)))), (.slot 1, .one (.v (dint p))), (.loc 2, .row ([.v (dint t.kind), .v (dint t.index), .v (dint t.type.kind), .v (.sl (t.type.args.map Ty.cells)), .v (.sl (t.args.map Tm.cells))])), (.slot 2, .one (.loc 2 0)), (.slot 22, .one (.v (dint 0))), (.slot 21, .one (.v (dint t.args.length))), (.slot 20, .one (.v (.sl (t.args.map Tm.cells))))]
  · intro hrest
    by_cases h1 : t.kind = 1
    · by_cases h2 : t.index = p
      · refine t_g (j2 @h1 @h2) ?_
        refine t_b ?_
        refine t_sub [] (j2 @h1 @h2) hrest
      · refine t_g (j2 @h1 @h2) ?_
        refine t_b ?_
        refine t_sub [] (j2 @h1 @h2) hrest
    · refine t_g @h1 ?_
      refine t_b ?_
      refine t_sub [] @h1 hrest
  · refine t_a ?_
    refine W_sub [] (by simp [go_sem]) (by simp [go_sem, Tm.timesN.timess] <;> omega) (by simp [go_sem]) (W_list (t.args) (fun done rest => [(.slot 5, .one (.v (dint ((if t.kind = 1 ∧ t.index = p then 1 else 0) + (Tm.timesN.timess done (p + bindI t.kind) : Nat))))), (.slot 1, .one (.v (dint p))), (.slot 22, .one (.v (dint done.length))), (.slot 21, .one (.v (dint t.args.length))), (.slot 20, .one (.v (.sl (t.args.map Tm.cells)))), (.loc 2, .row ([.v (dint t.kind), .v (dint t.index), .v (dint t.type.kind), .v (.sl (t.type.args.map Ty.cells)), .v (.sl (t.args.map Tm.cells))])), (.slot 2, .one (.loc 2 0))]) ?_ ?_)
    · intro done x rest hL hg0 hnext
      have hlt : done.length < t.args.length := by rw [hL]; simp
      have hxm := List.mem_of_getElem? hg0
      have hcs : Tm.count.counts t.args = Tm.count.counts done + (x.count + Tm.count.counts rest) := by rw [hL, Tm.counts_append]; rfl
      have h1 := Tm.timess_le done (p + bindI t.kind)
      have h2 := Tm.timesN_le x (p + bindI t.kind)
      have h3 : (if t.kind = 1 ∧ t.index = p then (1 : Int) else 0) ≤ 1 ∧ 0 ≤ (if t.kind = 1 ∧ t.index = p then (1 : Int) else 0) := by split <;> omega
      generalize (if t.kind = 1 ∧ t.index = p then (1 : Int) else 0) = z at *
      refine t_rg0 ?_
      refine t_yes ?_
      refine t_g @hg0 ?_
      refine t_c2 @hg0 (below_ok t) (ih x hxm (p + bindI t.kind) (by omega) (by omega) (by omega)) ?_
      repeat (first | (refine W_sub [] (by simp [go_sem]) (by simp [go_sem, Tm.timess_append, Tm.timesN.timess] <;> omega) (by simp [go_sem]) hnext) | refine W_seq ?_ | refine W_skip ?_ | refine W_block ?_ | refine W_inBlock ?_ | refine W_label ?_ | refine W_exit rfl ?_ | ((first | refine W_reg [] fun K hK => ?_ | refine W_regd (by rw [hP]; exact mixed) [] fun K hK => ?_); simp [go_sem, hP, hgl, hn]; (repeat (refine ⟨by omega, ?_⟩)); (first | refine hK _ ?_ | refine ⟨by rfl, hK _ ?_⟩); clear hK K) | refine W_cond rfl (fun _ => ?_) (fun hq => False.elim (by first | (simp; done) | (simp; omega) | (simp at hq; done) | (simp at hq; omega))) | refine W_cond rfl (fun hq => False.elim (by first | (simp; done) | (simp; omega) | (simp at hq; done) | (simp at hq; omega))) (fun _ => ?_))
    · refine t_rg0 ?_
      refine t_no ?_
      refine t_g0 ?_
      refine t_r ?_
      simp [go_sem, hP, hgl, hn, Tm.timesN_eq t] <;> (try omega)
      split <;> simp

theorem up_ok (t : Tm) (f b : Int) (hi : t.idx 1099511627776) (hb1 : -1099511627776 ≤ b) (hb2 : b ≤ 1099511627776) (hf0 : 0 ≤ f) (hfc : f + t.count ≤ 1099511627776) : Con1 Tryd.prog gl 139 [t.dv, dint f, dint b] [] (t.upN f b).dv [] := by
  induction t using Tm.ind generalizing f with
  | h t ih =>
  have hct := Tm.count_eq t
  have hbd := bindI_le t.kind
  have hix := (Tm.idx_eq t _).1 hi
  refine t_in Tryd.func139 ?_
  intro X hP hgl hf hfn hn hR hids hfit
  have hlen := Tm.fit_len (hfit t.dv (by simp))
  refine t_g0 ?_
  apply W_cutX [(.loc 7, .row ([.v (dint t.kind), .v (dint (if t.kind = 1 ∧ f ≤ t.index then t.index + b else t.index)), .v (dint t.type.kind), .v (.sl (t.type.args.map Ty.cells)), .own 0 []])), (.slot 7, .one (.loc 7 0)), (.slot 1, .one (.v (dint f))), (.slot 2, .one (.v (dint b))), (.loc 3, .row ([.v (dint t.kind), .v (dint t.index), .v (dint t.type.kind), .v (.sl (t.type.args.map Ty.cells)), .v (.sl (t.args.map Tm.cells))])), (.slot 3, .one (.loc 3 0)), (.loc 6, .row ([.v (dint 0), .v (dint 0), .v (dint 0), .own 0 [], .own 0 []])), (.slot 6, .one (.loc 6 0)), (.slot 34, .one (.v (dint 0))), (.slot 33, .one (.v (dint t.args.length))), (.slot 32, .one (.v (.sl (t.args.map Tm.cells))))]
  · intro hrest
    by_cases h1 : t.kind = 1
    · by_cases h2 : f ≤ t.index
      · have h2' : ¬ t.index < f := by omega
        refine t_g (j2 @h1 @h2) ?_
        refine t_b ?_
        refine t_sub [] (j2 @h1 @h2) hrest
      · refine t_g (j2 @h1 @h2) ?_
        refine t_b ?_
        refine t_sub [] (j2 @h1 @h2) hrest
    · refine t_g @h1 ?_
      refine t_b ?_
      refine t_sub [] @h1 hrest
  · refine t_a ?_
    refine t_sub [(1007, 0)] trivial (W_list (t.args) (fun done rest => [(.loc 7, .row ([.v (dint t.kind), .v (dint (if t.kind = 1 ∧ f ≤ t.index then t.index + b else t.index)), .v (dint t.type.kind), .v (.sl (t.type.args.map Ty.cells)), .own 1007 (done.map fun x => (x.upN (f + bindI t.kind) b).cells)])), (.slot 7, .one (.loc 7 0)), (.tok 1007, .tk 5 done.length), (.slot 1, .one (.v (dint f))), (.slot 2, .one (.v (dint b))), (.loc 3, .row ([.v (dint t.kind), .v (dint t.index), .v (dint t.type.kind), .v (.sl (t.type.args.map Ty.cells)), .v (.sl (t.args.map Tm.cells))])), (.slot 3, .one (.loc 3 0)), (.loc 6, .row ([.v (dint 0), .v (dint 0), .v (dint 0), .own 0 [], .own 0 []])), (.slot 6, .one (.loc 6 0)), (.slot 34, .one (.v (dint done.length))), (.slot 33, .one (.v (dint t.args.length))), (.slot 32, .one (.v (.sl (t.args.map Tm.cells))))]) ?_ ?_)
    · intro done x rest hL hg0 hnext
      have hlt : done.length < t.args.length := by rw [hL]; simp
      have hxm := List.mem_of_getElem? hg0
      have hcs := Tm.count_mem hxm
      refine t_rg0 ?_
      refine t_yes ?_
      refine t_g @hg0 ?_
      refine t_c2 @hg0 (below_ok t) (ih x hxm (f + bindI t.kind) (hix.2 x hxm) (by omega) (by omega)) ?_
      refine t_gt (wr [(1007, 48)]) (Tm.cells_eq (x.upN (f + bindI t.kind) b)) trivial hnext
    · refine t_rg0 ?_
      refine t_no ?_
      refine t_g0 ?_
      refine t_r ?_
      simp [go_sem, hP, hgl, hn] <;> (try omega)
      rw [Tm.upN_eq t]
      simp [Tm.dv, Tm.cells_eq, Tm.kind_mk, Tm.index_mk, Tm.type_mk, Tm.args_mk]

theorem ref02_var_ok (i : Int) : Con1 Tryd.prog gl 52 [dint i] [] (Tm.mk 1 i (Ty.mk 0 []) []).dv [] := by
  refine t_in Tryd.func52 ?_
  intro X hP hgl hf hfn hn hR hids hfit
  refine t_g0 ?_
  refine t_r ?_
  simp [go_sem, hP, hgl, hn] <;> (try omega)
  all_goals exact t_f

theorem in_ok (t : Tm) (p d : Int) (s : Tm) (hi : t.idx 1099511627776) (hs : s.idx 1099511627776) (hp : 0 ≤ p) (hd : 0 ≤ d) (hpd : p + d + t.count + s.count ≤ 1099511627776) : Con1 Tryd.prog gl 133 [t.dv, dint p, dint d, s.dv] [] (t.inN p d s).dv [] := by
  induction t using Tm.ind generalizing d with
  | h t ih =>
  have hct := Tm.count_eq t
  have hbd := bindI_le t.kind
  have hix := (Tm.idx_eq t _).1 hi
  refine t_in Tryd.func133 ?_
  intro X hP hgl hf hfn hn hR hids hfit
  have hlen := Tm.fit_len (hfit t.dv (by simp))
  by_cases h1 : t.kind = 1
  · by_cases h2 : t.index = p + d
    · refine t_g (j2 @h1 @h2) ?_
      refine t_c1 @h1 (up_ok s 0 (p + d) hs (by omega) (by omega) (by omega) (by omega)) ?_
      refine t_r ?_
      simp [go_sem, hP, hgl, hn, Tm.inN_eq t, h1, h2] <;> (try omega)
      all_goals exact t_f
    · by_cases h3 : p + d < t.index
      · refine t_g (j2 @h1 (j2 @h2 @h3)) ?_
        refine t_c1 @h1 (ref02_var_ok (t.index - 1)) ?_
        refine t_r ?_
        simp [go_sem, hP, hgl, hn, Tm.inN_eq t, h1, h2, h3] <;> (try omega)
        all_goals exact t_f
      · refine t_g (j2 @h1 (j2 @h2 @h3)) ?_
        refine t_r ?_
        simp [go_sem, hP, hgl, hn, Tm.inN_eq t, h1, h2, h3] <;> (try omega)
        all_goals (simp [Ty.dv, Ty.cells_eq, Ty.kind_mk, Ty.args_mk, Tm.dv, Tm.cells_eq, Tm.kind_mk, Tm.index_mk, Tm.type_mk, Tm.args_mk, Val.dv, Val.cells_eq, Val.kind_mk, Val.num_mk, Val.list_mk, Val.args_mk, ints])
        all_goals exact h1.symm
  · refine t_g @h1 ?_
    refine t_a ?_
    refine t_sub [(1009, 0)] trivial (W_list (t.args) (fun done rest => [(.loc 9, .row ([.v (dint t.kind), .v (dint t.index), .v (dint t.type.kind), .v (.sl (t.type.args.map Ty.cells)), .own 1009 (done.map fun x => (x.inN p (d + bindI t.kind) s).cells)])), (.slot 9, .one (.loc 9 0)), (.tok 1009, .tk 5 done.length), (.slot 1, .one (.v (dint p))), (.slot 2, .one (.v (dint d))), (.loc 4, .row ([.v (dint t.kind), .v (dint t.index), .v (dint t.type.kind), .v (.sl (t.type.args.map Ty.cells)), .v (.sl (t.args.map Tm.cells))])), (.slot 4, .one (.loc 4 0)), (.loc 7, .row ([.v (dint s.kind), .v (dint s.index), .v (dint s.type.kind), .v (.sl (s.type.args.map Ty.cells)), .v (.sl (s.args.map Tm.cells))])), (.slot 7, .one (.loc 7 0)), (.loc 8, .row ([.v (dint 0), .v (dint 0), .v (dint 0), .own 0 [], .own 0 []])), (.slot 8, .one (.loc 8 0)), (.slot 47, .one (.v (dint done.length))), (.slot 46, .one (.v (dint t.args.length))), (.slot 45, .one (.v (.sl (t.args.map Tm.cells))))]) ?_ ?_)
    · intro done x rest hL hg0 hnext
      have hlt : done.length < t.args.length := by rw [hL]; simp
      have hxm := List.mem_of_getElem? hg0
      have hcs := Tm.count_mem hxm
      refine t_rg0 ?_
      refine t_yes ?_
      refine t_g @hg0 ?_
      refine t_c2 @hg0 (below_ok t) (ih x hxm (d + bindI t.kind) (hix.2 x hxm) (by omega) (by omega)) ?_
      refine t_gt (wr [(1009, 62)]) (Tm.cells_eq (x.inN p (d + bindI t.kind) s)) trivial hnext
    · refine t_rg0 ?_
      refine t_no ?_
      refine t_g0 ?_
      refine t_r ?_
      simp [go_sem, hP, hgl, hn] <;> (try omega)
      rw [Tm.inN_eq t]
      simp [h1, Tm.dv, Tm.cells_eq, Tm.kind_mk, Tm.index_mk, Tm.type_mk, Tm.args_mk]
end Go.Proofs.YtbmnlkfgkdallaaDoor.Lift
