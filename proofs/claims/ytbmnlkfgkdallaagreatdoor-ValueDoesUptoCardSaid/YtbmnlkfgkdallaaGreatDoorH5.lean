import Derived.Test.YtbmnlkfgkdallaaGreatDoorH4
namespace Go.Proofs.YtbmnlkfgkdallaaGreatDoor.Lift
set_option linter.unusedSimpArgs false
set_option linter.unusedVariables false
set_option linter.unnecessarySimpa false
open Go
variable {gl : Globs}

theorem Tm.readL_len {t : Tm} {p : List Int × Int} (h : t.readL = some p) : p.1.length < t.count := by
  induction t using Tm.ind generalizing p with
  | h t ih =>
  by_cases hk : t.kind = 8 ∧ ∃ x r, t.args = [x, r]
  · obtain ⟨hk, x, r, ha⟩ := hk
    rw [readL_cons t x r hk ha] at h
    split at h
    · cases hr : r.readL with
      | none => rw [hr] at h; cases h
      | some q =>
        rw [hr] at h
        cases h
        have := ih r (by rw [ha]; simp) hr
        have hx := count_pos x
        rw [count_eq, ha]
        simp [count.counts]; omega
    · cases h
  · have : t.readL = some ([], t.kind) := by
      cases t with
      | mk k i ty l =>
        unfold readL
        split
        · rename_i h1
          cases h1
          exact absurd ⟨rfl, _, _, rfl⟩ hk
        · rfl
    rw [this] at h
    cases h
    have := count_pos t
    exact this

theorem Tm.readV_count (t : Tm) : t.readV.1.count ≤ t.count := by
  induction t using Tm.ind with
  | h t ih =>
  have one : ∀ k n l, (Val.mk k n l []).count = 1 := fun k n l => rfl
  have hp := count_pos t
  rw [readV_eq]
  split
  · simp only [one]; omega
  · split
    · split <;> simp only [zeroV, one] <;> omega
    · split
      · simp only [one]; omega
      · split
        · have key : ∀ l : List Tm, (∀ a ∈ l, a ∈ t.args) → Val.count.counts (readV.reads l).1 ≤ count.counts l := by
            intro l
            induction l with
            | nil => intro _; exact Nat.le_refl _
            | cons a r ihr =>
              intro h
              have h1 := ih a (h a (by simp))
              have h2 := ihr fun b hb => h b (by simp [hb])
              simp only [readV.reads, Val.count.counts, count.counts]
              omega
          have := key t.args fun _ h => h
          rw [count_eq t, Val.count_eq]
          simp only [Val.args]
          omega
        · simp only [zeroV, one]; omega

def Tm.readE (t : Tm) : Val × Int := if t.checkN ≠ 0 then (zeroV, t.checkN) else if t.readV.2 = false then (zeroV, 2) else if t.readV.1.nodesN.1 > 64 then (zeroV, 4) else (t.readV.1, 0)

theorem readE_ok (har : globOf gl 0 = some arEls) (t : Tm) (ht : t.tys) (hc : t.count ≤ 1073741824) : Con1 Tryz.prog gl 24 [t.dv] [] (.tup [t.readE.1.dv, dint t.readE.2]) [] := by
  refine t_in Tryz.func24 ?_
  intro X hP hgl hf hfn hn hR hids hfit
  refine t_g0 ?_
  refine t_c1 trivial (termscheck_ok har t ht (by omega)) ?_
  by_cases h : t.checkN = 0
  · have hsh : t.shape = true := by
      unfold Tm.checkN at h
      split at h
      · assumption
      · cases h
    have hcv := t.readV_count
    refine t_g @h ?_
    refine t_c1 trivial (read_ok t hsh hc) ?_
    by_cases h2 : t.readV.2 = true
    · refine t_g @h2 ?_
      refine t_c1 trivial (nodes_ok t.readV.1 (by omega)) ?_
      by_cases h3 : 64 < t.readV.1.nodesN.1
      · refine t_g @h3 ?_
        refine t_r ?_
        simp [go_sem, hP, hgl, hn, Tm.readE, h, h2, h3, zeroV] <;> (try omega)
        all_goals exact t_f
      · refine t_g @h3 ?_
        refine t_r ?_
        simp [go_sem, hP, hgl, hn, Tm.readE, h, h2, h3] <;> (try omega)
    · refine t_g @h2 ?_
      refine t_r ?_
      simp [go_sem, hP, hgl, hn, Tm.readE, h, h2, zeroV] <;> (try omega)
      all_goals exact t_f
  · refine t_g @h ?_
    refine t_r ?_
    simp [go_sem, hP, hgl, hn, Tm.readE, h, zeroV] <;> (try omega)
    all_goals exact t_f

theorem list_ok : Con1 Tryz.prog gl 84 [] [] (Ty.mk 2 []).dv [] := by
  refine t_in Tryz.func84 ?_
  intro X hP hgl hf hfn hn hR hids hfit
  refine t_g0 ?_
  refine t_r ?_
  simp [go_sem, hP, hgl, hn] <;> (try omega)
  all_goals exact t_f
theorem nat_ok : Con1 Tryz.prog gl 75 [] [] (Ty.mk 1 []).dv [] := by
  refine t_in Tryz.func75 ?_
  intro X hP hgl hf hfn hn hR hids hfit
  refine t_g0 ?_
  refine t_r ?_
  simp [go_sem, hP, hgl, hn] <;> (try omega)
  all_goals exact t_f

/-- the type of a valid value -/
def Val.tyN : Val → Ty
  | .mk k _ _ a => if k = 2 then Ty.mk 2 [] else if k = 4 then Ty.mk 5 [] else if k = 3 then Ty.mk 3 (tys a) else Ty.mk 1 []
where
  tys : List Val → List Ty
    | [] => []
    | a :: r => a.tyN :: tys r
theorem Val.tys_map (l : List Val) : tyN.tys l = l.map Val.tyN := by
  induction l with
  | nil => rfl
  | cons a r ih => simp [tyN.tys, ih]
theorem Val.tyN_eq (v : Val) : v.tyN = if v.kind = 2 then Ty.mk 2 [] else if v.kind = 4 then Ty.mk 5 [] else if v.kind = 3 then Ty.mk 3 (v.args.map Val.tyN) else Ty.mk 1 [] := by
  cases v; rw [tyN, tys_map]; rfl

end Go.Proofs.YtbmnlkfgkdallaaGreatDoor.Lift
