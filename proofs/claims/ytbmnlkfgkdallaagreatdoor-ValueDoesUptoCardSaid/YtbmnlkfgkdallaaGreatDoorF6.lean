import Derived.Test.YtbmnlkfgkdallaaGreatDoorF5
namespace Go.Proofs.YtbmnlkfgkdallaaGreatDoor.Lift
set_option linter.unusedSimpArgs false
set_option linter.unusedVariables false
set_option linter.unnecessarySimpa false
open Go
variable {gl : Globs}

def Val.nodesN : Val → Int × Bool
  | .mk k n l a => nodesL a (1, Val.okB (.mk k n l a))
where
  nodesL : List Val → Int × Bool → Int × Bool
    | [], p => p
    | a :: r, p => if p.2 then nodesL r (p.1 + (Val.nodesN a).1, (Val.nodesN a).2) else p
theorem Val.nodesN_eq (v : Val) : v.nodesN = nodesN.nodesL v.args (1, v.okB) := by cases v; simp [nodesN, args]
theorem Val.nodesL_no (l : List Val) (n : Int) : nodesN.nodesL l (n, false) = (n, false) := by cases l <;> simp [nodesN.nodesL]
theorem Val.nodesL_append (l m : List Val) (p : Int × Bool) : nodesN.nodesL (l ++ m) p = nodesN.nodesL m (nodesN.nodesL l p) := by
  induction l generalizing p with
  | nil => simp [nodesN.nodesL]
  | cons a r ih =>
    obtain ⟨n, ok⟩ := p
    cases ok with
    | true => simp [nodesN.nodesL, ih]
    | false => simp [nodesL_no]

/-- the number of nodes of a value -/
def Val.count : Val → Nat
  | .mk _ _ _ a => 1 + counts a
where
  counts : List Val → Nat
    | [] => 0
    | a :: r => a.count + counts r
theorem Val.count_eq (t : Val) : t.count = 1 + Val.count.counts t.args := by cases t; simp [count, args]
theorem Val.counts_append (l m : List Val) : Val.count.counts (l ++ m) = Val.count.counts l + Val.count.counts m := by
  induction l with
  | nil => simp [Val.count.counts]
  | cons a r ih => simp [Val.count.counts, ih]; omega

theorem Val.nodesL_le {v : Val} (ih : ∀ a ∈ v.args, 0 ≤ a.nodesN.1 ∧ a.nodesN.1 ≤ a.count) (l : List Val) : (∀ a ∈ l, a ∈ v.args) → ∀ (n : Int) (ok : Bool), n ≤ (nodesN.nodesL l (n, ok)).1 ∧ (nodesN.nodesL l (n, ok)).1 ≤ n + Val.count.counts l := by
  induction l with
  | nil => intro _ n ok; simp [nodesN.nodesL, Val.count.counts]
  | cons a r ihr =>
    intro h n ok
    have h1 := ih a (h a (by simp))
    cases ok with
    | false => simp [nodesL_no, Val.count.counts]; omega
    | true =>
      have h2 := ihr (fun b hb => h b (List.mem_cons_of_mem _ hb)) (n + a.nodesN.1) a.nodesN.2
      simp only [nodesN.nodesL, if_true, Val.count.counts]
      omega
theorem Val.nodes_le (v : Val) : 0 ≤ v.nodesN.1 ∧ v.nodesN.1 ≤ v.count := by
  induction v using Val.ind with
  | h v ih =>
  have := Val.nodesL_le ih v.args (fun _ h => h) 1 v.okB
  rw [nodesN_eq, count_eq]
  omega

theorem nodes_ok (v : Val) (hc : v.count ≤ 2147483648) : Con1 Tryz.prog gl 52 [v.dv] [] (.tup [dint v.nodesN.1, dbool v.nodesN.2]) [] := by
  induction v using Val.ind with
  | h v ih =>
  refine t_in Tryz.func52 ?_
  intro X hP hgl hf hfn hn hR hids hfit
  have hl1 := Val.fit_args (hfit v.dv (by simp))
  have hl2 := Val.fit_list (hfit v.dv (by simp))
  rw [Val.count_eq] at hc
  refine t_rg0 ?_
  refine t_rg0 ?_
  refine t_rg0 ?_
  refine t_rg0 ?_
  repeat (first | refine W_seq ?_ | refine W_skip ?_ | refine W_inBlock ?_ | refine W_label ?_)
  refine W_cut [(.slot 5, .one (.v (dbool v.okB))), (.loc 1, .row ([.v (dint v.kind), .v (dint v.num), .v (.sl (ints v.list)), .v (.sl (v.args.map Val.cells))])), (.slot 1, .one (.loc 1 0))] ?_ ?_
  · intro hrest
    by_cases h1 : v.kind = 1
    · refine t_rg @h1 ?_
      refine t_yes ?_
      by_cases q1 : 0 ≤ v.num
      · by_cases q2 : v.list.length = 0
        · refine t_rg (j2 @h1 (j2 @q1 @q2)) ?_
          repeat (first | refine W_inBlock ?_ | refine W_skip ?_ | refine W_label ?_ | refine W_exit rfl ?_)
          refine W_sub [] (by simp [go_sem]) (by simp [go_sem, Val.okB, h1, q1, q2] <;> omega) (by simp [go_sem]) hrest
        · refine t_rg (j2 @h1 (j2 @q1 @q2)) ?_
          repeat (first | refine W_inBlock ?_ | refine W_skip ?_ | refine W_label ?_ | refine W_exit rfl ?_)
          refine W_sub [] (by simp [go_sem]) (by simp [go_sem, Val.okB, h1, q1, q2] <;> omega) (by simp [go_sem]) hrest
      · refine t_rg (j2 @h1 @q1) ?_
        repeat (first | refine W_inBlock ?_ | refine W_skip ?_ | refine W_label ?_ | refine W_exit rfl ?_)
        refine W_sub [] (by simp [go_sem]) (by simp [go_sem, Val.okB, h1, q1] <;> omega) (by simp [go_sem]) hrest
    by_cases h2 : v.kind = 2
    · refine t_rg @h2 ?_
      refine t_no ?_
      refine t_rg @h2 ?_
      refine t_yes ?_
      by_cases q1 : v.num = 0
      · refine t_a ?_
        first | refine W_reg [] fun K hK => ?_ | refine W_regd (by rw [hP]; exact mixed) [] fun K hK => ?_
        refine t_s (j2 @h2 @q1) ?_
        refine t_c trivial (contains_ok v.list) ?_
        by_cases q2 : v.list.any (fun n => decide (n < 0)) = true
        · simp [go_sem, hP, hn, q2]
          refine t_e ?_
          clear hK K
          repeat (first | refine W_inBlock ?_ | refine W_skip ?_ | refine W_label ?_ | refine W_exit rfl ?_)
          refine W_sub [] (by simp [go_sem]) (by simp [go_sem, Val.okB, h2, q1, q2] <;> omega) (by simp [go_sem]) hrest
        · simp only [Bool.not_eq_true] at q2
          simp [go_sem, hP, hn, q2]
          refine t_e ?_
          clear hK K
          repeat (first | refine W_inBlock ?_ | refine W_skip ?_ | refine W_label ?_ | refine W_exit rfl ?_)
          refine W_sub [] (by simp [go_sem]) (by simp [go_sem, Val.okB, h2, q1, q2] <;> omega) (by simp [go_sem]) hrest
      · refine t_rg (j2 @h2 @q1) ?_
        repeat (first | refine W_inBlock ?_ | refine W_skip ?_ | refine W_label ?_ | refine W_exit rfl ?_)
        refine W_sub [] (by simp [go_sem]) (by simp [go_sem, Val.okB, h2, q1] <;> omega) (by simp [go_sem]) hrest
    by_cases h3 : v.kind = 3
    · refine t_rg @h3 ?_
      refine t_no ?_
      refine t_rg @h3 ?_
      refine t_no ?_
      refine t_rg @h3 ?_
      refine t_yes ?_
      by_cases q1 : v.num = 0
      · by_cases q2 : v.list.length = 0
        · refine t_rg (j2 @h3 (j2 @q1 @q2)) ?_
          repeat (first | refine W_inBlock ?_ | refine W_skip ?_ | refine W_label ?_ | refine W_exit rfl ?_)
          refine W_sub [] (by simp [go_sem]) (by simp [go_sem, Val.okB, h3, q1, q2] <;> omega) (by simp [go_sem]) hrest
        · refine t_rg (j2 @h3 (j2 @q1 @q2)) ?_
          repeat (first | refine W_inBlock ?_ | refine W_skip ?_ | refine W_label ?_ | refine W_exit rfl ?_)
          refine W_sub [] (by simp [go_sem]) (by simp [go_sem, Val.okB, h3, q1, q2] <;> omega) (by simp [go_sem]) hrest
      · refine t_rg (j2 @h3 @q1) ?_
        repeat (first | refine W_inBlock ?_ | refine W_skip ?_ | refine W_label ?_ | refine W_exit rfl ?_)
        refine W_sub [] (by simp [go_sem]) (by simp [go_sem, Val.okB, h3, q1] <;> omega) (by simp [go_sem]) hrest
    by_cases h4 : v.kind = 4
    · refine t_rg @h4 ?_
      refine t_no ?_
      refine t_rg @h4 ?_
      refine t_no ?_
      refine t_rg @h4 ?_
      refine t_no ?_
      refine t_rg @h4 ?_
      refine t_yes ?_
      by_cases q1 : v.num = 0
      · by_cases q2 : v.list.length = 0
        · refine t_rg (j2 @h4 (j2 @q1 @q2)) ?_
          repeat (first | refine W_inBlock ?_ | refine W_skip ?_ | refine W_label ?_ | refine W_exit rfl ?_)
          refine W_sub [] (by simp [go_sem]) (by simp [go_sem, Val.okB, h4, q1, q2] <;> omega) (by simp [go_sem]) hrest
        · refine t_rg (j2 @h4 (j2 @q1 @q2)) ?_
          repeat (first | refine W_inBlock ?_ | refine W_skip ?_ | refine W_label ?_ | refine W_exit rfl ?_)
          refine W_sub [] (by simp [go_sem]) (by simp [go_sem, Val.okB, h4, q1, q2] <;> omega) (by simp [go_sem]) hrest
      · refine t_rg (j2 @h4 @q1) ?_
        repeat (first | refine W_inBlock ?_ | refine W_skip ?_ | refine W_label ?_ | refine W_exit rfl ?_)
        refine W_sub [] (by simp [go_sem]) (by simp [go_sem, Val.okB, h4, q1] <;> omega) (by simp [go_sem]) hrest
    refine t_rg @h1 ?_
    refine t_no ?_
    refine t_rg @h2 ?_
    refine t_no ?_
    refine t_rg @h3 ?_
    refine t_no ?_
    refine t_rg @h4 ?_
    refine t_no ?_
    repeat (first | refine W_inBlock ?_ | refine W_skip ?_ | refine W_label ?_ | refine W_exit rfl ?_)
    refine W_sub [] (by simp [go_sem]) (by simp [go_sem, Val.okB, h1, h2, h3, h4] <;> omega) (by simp [go_sem]) hrest
  · refine t_rg0 ?_
    refine t_rg0 ?_
    refine t_a ?_
    refine W_sub [] (by simp [go_sem]) (by simp [go_sem, Val.nodesN.nodesL] <;> omega) (by simp [go_sem]) (W_list (v.args) (fun done rest => [(.slot 84, .one (.v (dint done.length))), (.slot 83, .one (.v (dint v.args.length))), (.slot 82, .one (.v (.sl (v.args.map Val.cells)))), (.slot 6, .one (.v (dint (Val.nodesN.nodesL done (1, v.okB)).1))), (.slot 5, .one (.v (dbool (Val.nodesN.nodesL done (1, v.okB)).2)))]) ?_ ?_)
    · intro done x rest hL hg hnext
      have hlt : done.length < v.args.length := by rw [hL]; simp
      have hcx : Val.count.counts v.args = Val.count.counts done + (x.count + Val.count.counts rest) := by rw [hL, Val.counts_append]; rfl
      have hb := Val.nodesL_le (v := v) (fun a _ => Val.nodes_le a) done (fun a ha => by rw [hL]; simp [ha]) 1 v.okB
      have hx := Val.nodes_le x
      obtain ⟨n, ok, hp⟩ : ∃ n ok, Val.nodesN.nodesL done (1, v.okB) = (n, ok) := ⟨_, _, rfl⟩
      rw [hp] at hb
      simp only [Val.nodesL_append, hp] at hnext ⊢
      refine t_rg0 ?_
      refine t_yes ?_
      refine t_rg @hg ?_
      cases ok with
      | false =>
        refine t_rg0 ?_
        refine t_yes ?_
        refine t_rg0 ?_
        refine t_r ?_
        simp [go_sem, hP, hgl, hn, Val.nodesN_eq, hL, Val.nodesL_append, hp, Val.nodesL_no] <;> (try omega)
      | true =>
        refine t_rg0 ?_
        refine t_no ?_
        refine t_rg0 ?_
        refine t_a ?_
        first | refine W_reg [] fun K hK => ?_ | refine W_regd (by rw [hP]; exact mixed) [] fun K hK => ?_
        refine t_s0 ?_
        refine t_c trivial (ih x (List.mem_of_getElem? hg) (by omega)) ?_
        refine t_e ?_
        clear hK K
        refine t_rg0 ?_
        refine t_rg0 ?_
        repeat (first | refine W_inBlock ?_ | refine W_skip ?_ | refine W_label ?_ | refine W_exit rfl ?_)
        refine W_sub [] (by simp [go_sem]) (by simp [go_sem, Val.nodesN.nodesL] <;> omega) (by simp [go_sem]) hnext
    · refine t_rg0 ?_
      refine t_no ?_
      refine t_rg0 ?_
      refine t_r ?_
      simp [go_sem, hP, hgl, hn, Val.nodesN_eq] <;> (try omega)

theorem check_ok (v : Val) (hc : v.count ≤ 2147483648) : Con1 Tryz.prog gl 16 [v.dv] [] (dint (if v.nodesN.2 = true then if v.nodesN.1 > 64 then 4 else 0 else 2)) [] := by
  refine t_in Tryz.func16 ?_
  intro X hP hgl hf hfn hn hR hids hfit
  refine t_rg0 ?_
  refine t_a ?_
  first | refine W_reg [] fun K hK => ?_ | refine W_regd (by rw [hP]; exact mixed) [] fun K hK => ?_
  refine t_s0 ?_
  refine t_c trivial (nodes_ok v hc) ?_
  refine t_e ?_
  clear hK K
  obtain ⟨n, ok, hp⟩ : ∃ n ok, v.nodesN = (n, ok) := ⟨_, _, rfl⟩
  simp only [hp]
  cases ok with
  | false =>
    refine t_rg0 ?_
    refine t_yes ?_
    refine t_rg0 ?_
    refine t_r ?_
    simp [go_sem, hP, hgl, hn, hp] <;> (try omega)
  | true =>
    refine t_rg0 ?_
    refine t_no ?_
    by_cases h : 64 < n
    · refine t_rg @h ?_
      refine t_yes ?_
      refine t_rg0 ?_
      refine t_r ?_
      simp [go_sem, hP, hgl, hn, hp, h] <;> (try omega)
    · refine t_rg @h ?_
      refine t_no ?_
      refine t_rg0 ?_
      refine t_r ?_
      simp [go_sem, hP, hgl, hn, hp, h] <;> (try omega)
end Go.Proofs.YtbmnlkfgkdallaaGreatDoor.Lift
