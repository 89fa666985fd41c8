import Derived.Test.YtbmnlkfgkdallaaGreatDoorN1
import Derived.Test.YtbmnlkfgkdallaaGreatDoorH6
import Derived.Test.YtbmnlkfgkdallaaGreatDoorG1
namespace Go.Proofs.YtbmnlkfgkdallaaGreatDoor.Lift
set_option linter.unusedSimpArgs false
set_option linter.unusedVariables false
set_option linter.unnecessarySimpa false
open Go
variable {gl : Globs}

/-- the parts of a node, by its form -/
theorem Val.okB_kind {v : Val} (h : v.okB = true) : (v.kind = 1 ∧ 0 ≤ v.num ∧ v.list = [] ∧ v.args = []) ∨ (v.kind = 2 ∧ v.num = 0 ∧ (∀ n ∈ v.list, 0 ≤ n) ∧ v.args = []) ∨ (v.kind = 3 ∧ v.num = 0 ∧ v.list = [] ∧ ∃ a b, v.args = [a, b]) ∨ (v.kind = 4 ∧ v.num = 0 ∧ v.list = [] ∧ v.args = []) := by
  unfold Val.okB at h
  by_cases h1 : v.kind = 1
  · simp [h1] at h; exact .inl ⟨h1, h.1.1, h.1.2, h.2⟩
  by_cases h2 : v.kind = 2
  · simp [h2] at h; exact .inr (.inl ⟨h2, h.1.1, h.1.2, h.2⟩)
  by_cases h3 : v.kind = 3
  · simp [h3] at h
    refine .inr (.inr (.inl ⟨h3, h.1.1, h.1.2, ?_⟩))
    match hq : v.args, h.2 with
    | [a, b], _ => exact ⟨a, b, rfl⟩
  by_cases h4 : v.kind = 4
  · simp [h4] at h; exact .inr (.inr (.inr ⟨h4, h.1.1, h.1.2, h.2⟩))
  simp [h1, h2, h3, h4] at h

/-- whether all nodes have a form -/
theorem Val.nodes_flat {v : Val} (h : v.args = []) : v.nodesN.2 = v.okB := by rw [nodesN_eq, h]; rfl
theorem Val.nodes_pair {v a b : Val} (h : v.args = [a, b]) : v.nodesN.2 = (v.okB && (a.nodesN.2 && b.nodesN.2)) := by
  rw [nodesN_eq, h]
  cases ho : v.okB <;> simp [nodesN.nodesL]
  cases ha : a.nodesN.2 <;> simp
theorem Val.nodes_bad {v : Val} (h : v.okB = false) : v.nodesN.2 = false := by rw [nodesN_eq, h, nodesL_no]
theorem Val.nodes_count (v : Val) (h : v.nodesN.2 = true) : v.nodesN.1 = v.count := by
  induction v using Val.ind with
  | h v ih =>
  have key : ∀ l : List Val, (∀ a ∈ l, a.nodesN.2 = true → a.nodesN.1 = a.count) → ∀ (n : Int) (ok : Bool), (nodesN.nodesL l (n, ok)).2 = true → (nodesN.nodesL l (n, ok)).1 = n + count.counts l := by
    intro l
    induction l with
    | nil => intro _ n ok _; simp [nodesN.nodesL, count.counts]
    | cons a r ihr =>
      intro hl n ok hok
      cases ok with
      | false => rw [nodesL_no] at hok; cases hok
      | true =>
        simp only [nodesN.nodesL, if_true] at hok ⊢
        have ha : a.nodesN.2 = true := (nodesL_ok hok).1
        rw [ihr (fun b hb => hl b (List.mem_cons_of_mem _ hb)) _ _ hok, hl a (by simp) ha]
        simp only [count.counts]
        omega
  rw [nodesN_eq] at h ⊢
  rw [key v.args ih _ _ h, count_eq]
  omega

theorem snocI {l : List Int} {i : Nat} {Q : Int → Prop} (h : ∀ (j : Nat) (x : Int), j < i → l[j]? = some x → Q x) (h1 : ∀ x, l[i]? = some x → Q x) : ∀ (j : Nat) (x : Int), j < i + 1 → l[j]? = some x → Q x := by
  intro j x hj hx
  by_cases e : j = i
  · rw [e] at hx; exact h1 x hx
  · exact h j x (by omega) hx

set_option maxHeartbeats 2000000 in
theorem shape5_ok (v : Val) : Con1 Tryz.prog gl 53 [v.dv] [] (dbool v.nodesN.2) [] := by
  induction v using Val.ind with
  | h v ih =>
  refine t_in Tryz.func53 ?_
  intro X hP hgl hf hfn hn hR hids hfit
  have hl1 := Val.fit_args (hfit v.dv (by simp))
  have hl2 := Val.fit_list (hfit v.dv (by simp))
  by_cases h1 : v.kind = 1
  · have hv : v.nodesN.2 = v.okB := by
      by_cases ha : v.args = []
      · exact Val.nodes_flat ha
      · have : v.okB = false := by unfold Val.okB; simp [h1, ha]
        rw [Val.nodes_bad this, this]
    have hb : v.okB = (decide (0 ≤ v.num) && decide (v.list.length = 0) && decide (v.args.length = 0)) := by unfold Val.okB; simp [h1]
    rw [hv, hb] at hR
    by_cases q1 : 0 ≤ v.num
    · by_cases q2 : v.list.length = 0
      · by_cases q3 : v.args.length = 0
        · refine t_g (j2 @h1 (j2 @q1 (j2 @q2 @q3))) ?_
          refine t_r ?_
          simp [go_sem, hP, hgl, hn, q1, q2, q3] <;> (try omega)
        · refine t_g (j2 @h1 (j2 @q1 (j2 @q2 @q3))) ?_
          refine t_r ?_
          simp [go_sem, hP, hgl, hn, q1, q2, q3] <;> (try omega)
      · refine t_g (j2 @h1 (j2 @q1 @q2)) ?_
        refine t_r ?_
        simp [go_sem, hP, hgl, hn, q1, q2] <;> (try omega)
    · refine t_g (j2 @h1 @q1) ?_
      refine t_r ?_
      simp [go_sem, hP, hgl, hn, q1] <;> (try omega)
  by_cases h2 : v.kind = 2
  · have hv : v.nodesN.2 = v.okB := by
      by_cases ha : v.args = []
      · exact Val.nodes_flat ha
      · have : v.okB = false := by unfold Val.okB; simp [h2, ha]
        rw [Val.nodes_bad this, this]
    have hb : v.okB = (decide (v.num = 0) && !v.list.any (fun n => decide (n < 0)) && decide (v.args.length = 0)) := by unfold Val.okB; simp [h2]
    rw [hv, hb] at hR
    refine t_g @h2 ?_
    refine t_a ?_
    refine t_sub [] trivial (W_upto (v.list.length) (fun i => ∀ (j : Nat) (x : Int), j < i → v.list[j]? = some x → 0 ≤ x) (fun i => [(.slot 29, .one (.v (dint i))), (.slot 28, .one (.v (dint v.list.length))), (.slot 27, .one (.v (.sl (ints v.list)))), (.loc 1, .row ([.v (dint v.kind), .v (dint v.num), .v (.sl (ints v.list)), .v (.sl (v.args.map Val.cells))])), (.slot 1, .one (.loc 1 0))]) (by intro j x h; omega) ?_ ?_)
    · intro i hi hI hnext
      obtain ⟨x, hx⟩ : ∃ x, v.list[i]? = some x := ⟨_, List.getElem?_eq_getElem hi⟩
      have hgi := ints_get hx
      refine t_rg0 ?_
      refine t_yes ?_
      by_cases hneg : x < 0
      · have hany : v.list.any (fun n => decide (n < 0)) = true := List.any_eq_true.2 ⟨x, List.mem_of_getElem? hx, by simpa using hneg⟩
        refine t_g (j2 @hgi @hneg) ?_
        refine t_r ?_
        simp [go_sem, hP, hgl, hn, hany] <;> (try omega)
      · refine t_gt (wr []) trivial (j2 @hgi @hneg) (hnext (snocI hI fun y hy => by rw [hx] at hy; cases hy; omega))
    · intro hI
      have hany : v.list.any (fun n => decide (n < 0)) = false := by
        rw [List.any_eq_false]
        intro x hx
        obtain ⟨j, hj, rfl⟩ := List.mem_iff_getElem.1 hx
        have := hI j _ hj (List.getElem?_eq_getElem hj)
        simpa using this
      refine t_rg0 ?_
      refine t_no ?_
      by_cases q1 : v.num = 0
      · by_cases q3 : v.args.length = 0
        · refine t_g (j2 @q1 @q3) ?_
          refine t_r ?_
          simp [go_sem, hP, hgl, hn, hany, q1, q3] <;> (try omega)
        · refine t_g (j2 @q1 @q3) ?_
          refine t_r ?_
          simp [go_sem, hP, hgl, hn, hany, q1, q3] <;> (try omega)
      · refine t_g @q1 ?_
        refine t_r ?_
        simp [go_sem, hP, hgl, hn, hany, q1] <;> (try omega)
  by_cases h4 : v.kind = 4
  · have hv : v.nodesN.2 = v.okB := by
      by_cases ha : v.args = []
      · exact Val.nodes_flat ha
      · have : v.okB = false := by unfold Val.okB; simp [h4, ha]
        rw [Val.nodes_bad this, this]
    have hb : v.okB = (decide (v.num = 0) && decide (v.list.length = 0) && decide (v.args.length = 0)) := by unfold Val.okB; simp [h4]
    rw [hv, hb] at hR
    by_cases q1 : v.num = 0
    · by_cases q2 : v.list.length = 0
      · by_cases q3 : v.args.length = 0
        · refine t_g (j2 @h4 (j2 @q1 (j2 @q2 @q3))) ?_
          refine t_r ?_
          simp [go_sem, hP, hgl, hn, q1, q2, q3] <;> (try omega)
        · refine t_g (j2 @h4 (j2 @q1 (j2 @q2 @q3))) ?_
          refine t_r ?_
          simp [go_sem, hP, hgl, hn, q1, q2, q3] <;> (try omega)
      · refine t_g (j2 @h4 (j2 @q1 @q2)) ?_
        refine t_r ?_
        simp [go_sem, hP, hgl, hn, q1, q2] <;> (try omega)
    · refine t_g (j2 @h4 @q1) ?_
      refine t_r ?_
      simp [go_sem, hP, hgl, hn, q1] <;> (try omega)
  by_cases h3 : v.kind = 3
  · have hb : v.okB = (decide (v.num = 0) && decide (v.list.length = 0) && decide (v.args.length = 2)) := by unfold Val.okB; simp [h3]
    by_cases q1 : v.num = 0
    · by_cases q2 : v.list.length = 0
      · by_cases q3 : v.args.length = 2
        · obtain ⟨a, b, hab⟩ : ∃ a b, v.args = [a, b] := by
            match hq : v.args, q3 with
            | [a, b], _ => exact ⟨a, b, rfl⟩
          have hv := Val.nodes_pair hab
          rw [hv, hb] at hR
          by_cases ha : a.nodesN.2 = true
          · refine t_g @h3 ?_
            refine t_c2 (j2 @h3 (j2 @q1 (j2 @q2 (j2 @hab @ha)))) (ih a (by rw [hab]; simp)) (ih b (by rw [hab]; simp)) ?_
            refine t_r ?_
            simp [go_sem, hP, hgl, hn, q1, q2, q3, ha] <;> (try omega)
          · have ha' : a.nodesN.2 = false := by simpa using ha
            refine t_g @h3 ?_
            refine t_c1 (j2 @h3 (j2 @q1 (j2 @q2 (j2 @hab @ha')))) (ih a (by rw [hab]; simp)) ?_
            refine t_r ?_
            simp [go_sem, hP, hgl, hn, q1, q2, q3, ha'] <;> (try omega)
        · rw [Val.nodes_bad (by rw [hb]; simp [q3])] at hR
          have q4 : ¬ (v.args.length : Int) = 2 := by omega
          refine t_g (j2 @h3 (j2 @q1 (j2 @q2 @q4))) ?_
          refine t_r ?_
          simp [go_sem, hP, hgl, hn] <;> (try omega)
      · rw [Val.nodes_bad (by rw [hb]; simp [q2])] at hR
        refine t_g (j2 @h3 (j2 @q1 @q2)) ?_
        refine t_r ?_
        simp [go_sem, hP, hgl, hn] <;> (try omega)
    · rw [Val.nodes_bad (by rw [hb]; simp [q1])] at hR
      refine t_g (j2 @h3 @q1) ?_
      refine t_r ?_
      simp [go_sem, hP, hgl, hn] <;> (try omega)
  rw [Val.nodes_bad (by unfold Val.okB; simp [h1, h2, h3, h4])] at hR
  refine t_g (j2 @h1 (j2 @h2 (j2 @h3 @h4))) ?_
  refine t_r ?_
  simp [go_sem, hP, hgl, hn] <;> (try omega)

theorem nodes5_ok (v : Val) (hc : v.count ≤ 1073741824) : Con1 Tryz.prog gl 54 [v.dv] [] (dint v.count) [] := by
  induction v using Val.ind with
  | h v ih =>
  refine t_in Tryz.func54 ?_
  intro X hP hgl hf hfn hn hR hids hfit
  have hl1 := Val.fit_args (hfit v.dv (by simp))
  have hcv := Val.count_eq v
  refine t_g0 ?_
  refine t_a ?_
  refine W_sub [] (by simp [go_sem]) (by simp [go_sem, Val.count.counts] <;> omega) (by simp [go_sem]) (W_list (v.args) (fun done rest => [(.slot 9, .one (.v (dint done.length))), (.slot 8, .one (.v (dint v.args.length))), (.slot 7, .one (.v (.sl (v.args.map Val.cells)))), (.slot 3, .one (.v (dint (1 + Val.count.counts done : Nat)))), (.slot 2, .one (.v (dint 0)))]) ?_ ?_)
  · intro done x rest hL hg0 hnext
    have hlt : done.length < v.args.length := by rw [hL]; simp
    have hxm := List.mem_of_getElem? hg0
    have hca := Val.counts_append done (x :: rest)
    have hcs := Val.counts_append done [x]
    rw [← hL] at hca
    simp only [Val.count.counts] at hca hcs
    refine t_rg0 ?_
    refine t_yes ?_
    refine t_g @hg0 ?_
    refine t_c1 @hg0 (ih x hxm (by omega)) ?_
    refine t_gt (wr []) @hcs trivial hnext
  · refine t_rg0 ?_
    refine t_no ?_
    refine t_g0 ?_
    refine t_r ?_
    simp [go_sem, hP, hgl, hn, hcv] <;> (try omega)

theorem Val.checkN_eq (v : Val) : v.checkN = if v.nodesN.2 = true then if 64 < v.count then 4 else 0 else 2 := by
  unfold Val.checkN
  by_cases h : v.nodesN.2 = true
  · rw [if_pos h, if_pos h, Val.nodes_count v h]
    by_cases h2 : 64 < v.count
    · rw [if_pos (by omega), if_pos h2]
    · rw [if_neg (by omega), if_neg h2]
  · rw [if_neg h, if_neg h]

theorem check5_ok (v : Val) (hc : v.count ≤ 1073741824) : Con1 Tryz.prog gl 17 [v.dv] [] (dint v.checkN) [] := by
  refine t_in Tryz.func17 ?_
  intro X hP hgl hf hfn hn hR hids hfit
  rw [Val.checkN_eq] at hR
  refine t_g0 ?_
  refine t_c1 trivial (shape5_ok v) ?_
  by_cases h : v.nodesN.2 = true
  · rw [if_pos h] at hR
    refine t_g @h ?_
    refine t_c1 trivial (nodes5_ok v hc) ?_
    by_cases h2 : 64 < v.count
    · refine t_g @h2 ?_
      refine t_r ?_
      simp [go_sem, hP, hgl, hn, h2] <;> (try omega)
    · refine t_g @h2 ?_
      refine t_r ?_
      simp [go_sem, hP, hgl, hn, h2] <;> (try omega)
  · rw [if_neg h] at hR
    refine t_g @h ?_
    refine t_r ?_
    simp [go_sem, hP, hgl, hn] <;> (try omega)

theorem typed5_ok (v : Val) (ht : v.nodesN.2 = true) : Con1 Tryz.prog gl 47 [v.dv] [] v.tyN.dv [] := by
  induction v using Val.ind with
  | h v ih =>
  refine t_in Tryz.func47 ?_
  intro X hP hgl hf hfn hn hR hids hfit
  have hok : v.okB = true := by
    cases hq : v.okB with
    | true => rfl
    | false => rw [Val.nodes_bad hq] at ht; cases ht
  rw [Val.tyN_eq] at hR
  rcases Val.okB_kind hok with ⟨h, -⟩ | ⟨h, -⟩ | ⟨h, -, -, a, b, hab⟩ | ⟨h, -⟩
  · refine t_g @h ?_
    refine t_c1 trivial ref01_nat_ok ?_
    refine t_r ?_
    simp [go_sem, hP, hgl, hn, h] <;> (try omega)
    all_goals exact t_f
  · refine t_g @h ?_
    refine t_c1 trivial ref01_list_ok ?_
    refine t_r ?_
    simp [go_sem, hP, hgl, hn, h] <;> (try omega)
    all_goals exact t_f
  · have hv := Val.nodes_pair hab
    rw [ht, hok] at hv
    simp at hv
    refine t_g @h ?_
    refine t_c3 (j2 @h @hab) (ih a (by rw [hab]; simp) hv.1) (ih b (by rw [hab]; simp) hv.2) (ref01_two_ok a.tyN b.tyN) ?_
    refine t_r ?_
    simp [go_sem, hP, hgl, hn, h, hab] <;> (try omega)
    all_goals exact t_f
  · refine t_g @h ?_
    refine t_c1 trivial ref01_unit_ok ?_
    refine t_r ?_
    simp [go_sem, hP, hgl, hn, h] <;> (try omega)
    all_goals exact t_f

theorem typeE5_ok (v : Val) (hc : v.count ≤ 1073741824) : Con1 Tryz.prog gl 13 [v.dv] [] (.tup [v.typeE.1.dv, dint v.typeE.2]) [] := by
  refine t_in Tryz.func13 ?_
  intro X hP hgl hf hfn hn hR hids hfit
  refine t_g0 ?_
  refine t_c1 trivial (check5_ok v hc) ?_
  by_cases h : v.checkN = 0
  · have hok : v.nodesN.2 = true := by
      unfold Val.checkN at h
      split at h
      · assumption
      · cases h
    refine t_g @h ?_
    refine t_c1 trivial (typed5_ok v hok) ?_
    refine t_r ?_
    simp [go_sem, hP, hgl, hn, Val.typeE, h] <;> (try omega)
    all_goals exact t_f
  · refine t_g @h ?_
    refine t_r ?_
    simp [go_sem, hP, hgl, hn, Val.typeE, h, zeroTy] <;> (try omega)
    all_goals exact t_f
end Go.Proofs.YtbmnlkfgkdallaaGreatDoor.Lift
