import Derived.Test.YtbmnlkfgkdallaaGreatDoorG1
namespace Go.Proofs.YtbmnlkfgkdallaaGreatDoor.Lift
set_option linter.unusedSimpArgs false
set_option linter.unusedVariables false
set_option linter.unnecessarySimpa false
open Go
variable {gl : Globs}

theorem sane05_ok : Con1 Tryz.prog gl 4 [] [] (dbool true) [] := by
  refine t_in Tryz.func4 ?_
  intro X hP hgl hf hfn hn hR hids hfit
  have h := termE_ok (gl := gl) (Val.mk 1 2 [] []) (by decide)
  rw [show (Val.mk 1 2 [] []).termE = (numTm 2, 0) from rfl, Val.dv, Val.cells_mk, ints_nil, List.map_nil] at h
  refine t_rg0 ?_
  refine t_a ?_
  first | refine W_reg [] fun K hK => ?_ | refine W_regd (by rw [hP]; exact mixed) [] fun K hK => ?_
  refine t_s0 ?_
  refine t_c trivial (h) ?_
  refine t_e ?_
  clear hK K
  refine t_a ?_
  first | refine W_reg [] fun K hK => ?_ | refine W_regd (by rw [hP]; exact mixed) [] fun K hK => ?_
  refine t_s0 ?_
  refine t_c trivial (ref02_n_ok 4 []) ?_
  refine t_c trivial (ref02_n_ok 5 [Tm.mk 4 0 (Ty.mk 0 []) []]) ?_
  refine t_c trivial (ref02_n_ok 5 [Tm.mk 5 0 (Ty.mk 0 []) [Tm.mk 4 0 (Ty.mk 0 []) []]]) ?_
  refine t_c trivial (ref02_same_ok (numTm 2) (Tm.mk 5 0 (Ty.mk 0 []) [Tm.mk 5 0 (Ty.mk 0 []) [Tm.mk 4 0 (Ty.mk 0 []) []]])) ?_
  refine t_e ?_
  clear hK K
  have hs : (numTm 2).same (Tm.mk 5 0 (Ty.mk 0 []) [Tm.mk 5 0 (Ty.mk 0 []) [Tm.mk 4 0 (Ty.mk 0 []) []]]) = true := rfl
  refine t_r ?_
  simp [go_sem, hP, hgl, hn, hs] <;> (try omega)

theorem plainD_cases (l : List Int) (p : Nat) : (plainD l p).1 = Ty.mk 1 [] ∨ (plainD l p).1 = Ty.mk 2 [] ∨ (plainD l p).1 = Ty.mk 5 [] ∨ (plainD l p).1 = Ty.mk 3 [Ty.mk 1 [], Ty.mk 2 []] ∨ (plainD l p).1 = Ty.mk 3 [Ty.mk 1 [], Ty.mk 1 []] := by
  unfold plainD
  generalize nextD l p 6 = q
  obtain ⟨k, p'⟩ := q
  simp only
  by_cases h1 : k = 0 ∨ k = 1
  · rw [if_pos h1]; simp
  · rw [if_neg h1]
    by_cases h2 : k = 2
    · rw [if_pos h2]; simp
    · rw [if_neg h2]
      by_cases h3 : k = 3
      · rw [if_pos h3]; simp
      · rw [if_neg h3]
        by_cases h4 : k = 4
        · rw [if_pos h4]; simp
        · rw [if_neg h4]; simp
theorem plainD_plain (l : List Int) (p : Nat) : (plainD l p).1.plain := by
  rcases plainD_cases l p with h | h | h | h | h <;> rw [h] <;> simp [Ty.plain, Ty.plain.plains]

theorem numsD_len (l : List Int) : ∀ (n p : Nat), (numsD l p n).1.length = n
  | 0, _ => rfl
  | n + 1, _ => by simp [numsD, numsD_len l n]
theorem numsD_bd (l : List Int) : ∀ (n p : Nat), ∀ x ∈ (numsD l p n).1, 0 ≤ x ∧ x ≤ 3
  | 0, _, x, h => by simp [numsD] at h
  | n + 1, p, x, h => by
    simp only [numsD, List.mem_cons] at h
    rcases h with rfl | h
    · have := nextD_bd (l := l) (p := p) (n := 4) (by omega); omega
    · exact numsD_bd l n _ x h

/-- the value that is made of a flat type is flat -/
theorem mkVal_flat (l : List Int) (k : Int) (h : k ≠ 3) (p : Nat) : (mkVal l (Ty.mk k []) p).1.flat := by
  rw [mkVal_eq]
  by_cases h1 : k = 1
  · rw [if_pos (show (Ty.mk k []).kind = 1 from h1)]
    have := nextD_bd (l := l) (p := p) (n := 5) (by omega)
    exact ⟨rfl, .inl ⟨rfl, this.1, by simp [Val.num]; omega, rfl⟩⟩
  · rw [if_neg (show ¬(Ty.mk k []).kind = 1 from h1)]
    by_cases h2 : k = 2
    · rw [if_pos (show (Ty.mk k []).kind = 2 from h2)]
      have := nextD_bd (l := l) (p := p) (n := 4) (by omega)
      refine ⟨rfl, .inr (.inl ⟨rfl, rfl, ?_, ?_⟩)⟩
      · simp only [Val.list]; rw [numsD_len]; omega
      · simp only [Val.list]; exact numsD_bd _ _ _
    · rw [if_neg (show ¬(Ty.mk k []).kind = 2 from h2), if_neg (show ¬(Ty.mk k []).kind = 3 from h)]
      exact ⟨rfl, .inr (.inr ⟨rfl, rfl, rfl⟩)⟩

theorem mkVal_good (l : List Int) (q p : Nat) : (mkVal l (plainD l q).1 p).1.good := by
  have pair : ∀ k m : Int, k ≠ 3 → m ≠ 3 → (mkVal l (Ty.mk 3 [Ty.mk k [], Ty.mk m []]) p).1.good := by
    intro k m hk hm
    refine .inr ⟨(mkVal l (Ty.mk k []) p).1, (mkVal l (Ty.mk m []) (mkVal l (Ty.mk k []) p).2).1, ?_, mkVal_flat l k hk _, mkVal_flat l m hm _⟩
    rw [mkVal_eq]
    simp [mkVal.mkVals, Ty.kind, Ty.args]
  rcases plainD_cases l q with h | h | h | h | h <;> rw [h]
  · exact .inl (mkVal_flat l 1 (by decide) p)
  · exact .inl (mkVal_flat l 2 (by decide) p)
  · exact .inl (mkVal_flat l 5 (by decide) p)
  · exact pair 1 2 (by decide) (by decide)
  · exact pair 1 1 (by decide) (by decide)

theorem numTm_count : ∀ n : Nat, (numTm n).count = n + 1
  | 0 => rfl
  | n + 1 => by rw [numTm, Tm.count_eq]; simp [Tm.args, Tm.count.counts, numTm_count n]; omega
theorem listTm_count : ∀ l : List Int, (∀ x ∈ l, 0 ≤ x) → ((listTm l).count : Int) = 1 + sumL l
  | [], _ => by simp [listTm, sumL, Tm.count_eq, Tm.args, Tm.count.counts]
  | x :: r, h => by
    have h1 := h x (by simp)
    have h2 := listTm_count r fun y hy => h y (by simp [hy])
    have e : listTm (x :: r) = Tm.mk 8 0 (Ty.mk 0 []) [numTm x.toNat, listTm r] := rfl
    rw [e, Tm.count_eq]
    have : sumL (x :: r) = x + 2 + sumL r := by simp [sumL]
    simp only [Tm.args, Tm.count.counts, numTm_count]
    rw [this]
    omega

theorem lenL_small : ∀ (l : List Int) (n : Int), (∀ x ∈ l, 0 ≤ x ∧ x ≤ 3) → 0 ≤ n → n + 10 * l.length ≤ 4096 → (lenL l n).2 = false ∧ (lenL l n).1 ≤ n + 10 * l.length
  | [], n, _, _, _ => by simp [lenL]
  | x :: r, n, h, h0, hn => by
    have hx := h x (by simp)
    have hs : sizeI x = x + 1 := by unfold sizeI; omega
    simp only [List.length_cons] at hn
    unfold lenL
    rw [if_neg (by omega)]
    have := lenL_small r (n + (1 + sizeI x)) (fun y hy => h y (by simp [hy])) (by omega) (by omega)
    exact ⟨this.1, by simp only [List.length_cons]; omega⟩

theorem Val.flat_facts {v : Val} (h : v.flat) : v.nodesN = (1, true) ∧ v.lengthN ≤ 100 ∧ 0 ≤ v.lengthN ∧ (v.termN.count : Int) = v.flatSize ∧ v.count = 1 ∧ v.kind ≠ 3 := by
  obtain ⟨h0, h⟩ := h
  rcases h with ⟨h1, h2, h3, h4⟩ | ⟨h1, h2, h3, h4⟩ | ⟨h1, h2, h3⟩
  · have hs : sizeI v.num = v.num + 1 := by unfold sizeI; omega
    refine ⟨?_, ?_, ?_, ?_, ?_, by omega⟩
    · rw [nodesN_eq]; simp [h0, nodesN.nodesL, okB, h1, h2, h4]
    · rw [lengthN_eq]; simp [h0, h1, lengthN.lengths]; omega
    · rw [lengthN_eq]; simp [h0, h1, lengthN.lengths]; omega
    · rw [termN_eq]; simp [h1, flatSize, numTm_count]; omega
    · rw [count_eq, h0]; rfl
  · have hl := lenL_small v.list 1 h4 (by omega) (by omega)
    refine ⟨?_, ?_, ?_, ?_, ?_, by omega⟩
    · rw [nodesN_eq]; simp [h0, nodesN.nodesL, okB, h1, h2]
      intro x hx; exact (h4 x hx).1
    · rw [lengthN_eq]; simp [h0, h1, lengthN.lengths, hl.1]; omega
    · rw [lengthN_eq]; simp [h0, h1, lengthN.lengths, hl.1]
      have := lenL_bd v.list 1 (fun x hx => (h4 x hx).1) (by decide)
      omega
    · rw [termN_eq]; simp only [h1, if_true, flatSize]; rw [listTm_count _ fun x hx => (h4 x hx).1]; simp
    · rw [count_eq, h0]; rfl
  · refine ⟨?_, ?_, ?_, ?_, ?_, by omega⟩
    · rw [nodesN_eq]; simp [h0, nodesN.nodesL, okB, h1, h2, h3]
    · rw [lengthN_eq]; simp [h0, h1, lengthN.lengths]
    · rw [lengthN_eq]; simp [h0, h1, lengthN.lengths]
    · rw [termN_eq]; simp [h1, flatSize, Tm.count_eq, Tm.args, Tm.count.counts]
    · rw [count_eq, h0]; rfl

theorem Val.good_facts {v : Val} (h : v.good) : v.termE = (v.termN, 0) ∧ (v.termN.count : Int) = (if v.kind = 3 then 1 + ((v.args.map Val.flatSize).sum) else v.flatSize) ∧ v.count ≤ 3 ∧ v.termN.count ≤ 100 := by
  rcases h with h | ⟨a, b, rfl, ha, hb⟩
  · obtain ⟨h1, h2, h3, h4, h5, h6⟩ := flat_facts h
    have := flatSize_bd h
    refine ⟨?_, by rw [if_neg h6]; exact h4, by omega, by omega⟩
    have hc : v.checkN = 0 := by simp [checkN, h1]
    simp [termE, hc]; omega
  · obtain ⟨a1, a2, a3, a4, a5, a6⟩ := flat_facts ha
    obtain ⟨b1, b2, b3, b4, b5, b6⟩ := flat_facts hb
    have q1 := flatSize_bd ha
    have q2 := flatSize_bd hb
    have hn : (Val.mk 3 0 [] [a, b]).nodesN = (3, true) := by
      rw [nodesN_eq]; simp [args, nodesN.nodesL, okB, kind, num, list, a1, b1]
    have hc : (Val.mk 3 0 [] [a, b]).checkN = 0 := by simp [checkN, hn]
    have hl : (Val.mk 3 0 [] [a, b]).lengthN = 1 + a.lengthN + b.lengthN := by
      rw [lengthN_eq]; simp [args, kind, lengthN.lengths]
    have ht : (Val.mk 3 0 [] [a, b]).termN = Tm.mk 10 0 (Ty.mk 0 []) [a.termN, b.termN] := by
      rw [termN_eq]; simp [args, kind]
    have htc : (Val.mk 3 0 [] [a, b]).termN.count = 1 + (a.termN.count + (b.termN.count + 0)) := by
      rw [ht, Tm.count_eq]; rfl
    refine ⟨?_, ?_, ?_, ?_⟩
    · simp [termE, hc, hl]; omega
    · rw [htc]; simp [kind, args]; omega
    · rw [count_eq]; simp [args, count.counts, a5, b5]
    · rw [htc]; omega
end Go.Proofs.YtbmnlkfgkdallaaGreatDoor.Lift
