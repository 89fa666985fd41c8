import Derived.Test.YtbmnlkfgkdallaaGreatDoorF9
namespace Go.Proofs.YtbmnlkfgkdallaaGreatDoor.Lift
set_option linter.unusedSimpArgs false
set_option linter.unusedVariables false
set_option linter.unnecessarySimpa false
open Go
variable {gl : Globs}

theorem Val.nodesL_ok {l : List Val} {n : Int} {ok : Bool} (h : (nodesN.nodesL l (n, ok)).2 = true) : ok = true ∧ ∀ a ∈ l, a.nodesN.2 = true := by
  induction l generalizing n ok with
  | nil => simp [nodesN.nodesL] at h; exact ⟨h, by simp⟩
  | cons a r ih =>
    cases ok with
    | false => rw [nodesL_no] at h; cases h
    | true =>
      simp only [nodesN.nodesL, if_true] at h
      obtain ⟨h1, h2⟩ := ih h
      exact ⟨rfl, by simpa using ⟨h1, h2⟩⟩

/-- a value that has a form has no negative numbers, and pairs of two parts -/
theorem Val.ok_all (v : Val) (h : v.nodesN.2 = true) : v.allPos ∧ v.two := by
  induction v using Val.ind with
  | h v ih =>
  rw [nodesN_eq] at h
  obtain ⟨h1, h2⟩ := nodesL_ok h
  rw [allPos_eq, two_eq]
  have hpos : v.pos ∧ (v.kind = 3 → v.args.length = 2) := by
    unfold okB at h1
    unfold pos
    split at h1
    · rename_i hk
      simp at h1
      simp [hk, h1]
    · split at h1
      · rename_i hk
        simp at h1
        simp [hk]
        obtain ⟨⟨q1, q2⟩, q3⟩ := h1
        rw [q1]
        exact ⟨by omega, fun n hn => by have := q2 n hn; omega⟩
      · split at h1
        · simp at h1; simp [h1]
        · split at h1
          · rename_i hk; simp at h1; simp [h1, hk]
          · cases h1
  exact ⟨⟨hpos.1, fun a ha => (ih a ha (h2 a ha)).1⟩, hpos.2, fun a ha => (ih a ha (h2 a ha)).2⟩

def zeroTm : Tm := Tm.mk 0 0 (Ty.mk 0 []) []

def Val.checkN (v : Val) : Int := if v.nodesN.2 = true then if v.nodesN.1 > 64 then 4 else 0 else 2

def Val.termE (v : Val) : Tm × Int := if v.checkN ≠ 0 then (zeroTm, v.checkN) else if v.lengthN > 4096 then (zeroTm, 4) else (v.termN, 0)

theorem termE_ok (v : Val) (hc : v.count ≤ 1048576) : Con1 Tryz.prog gl 14 [v.dv] [] (.tup [v.termE.1.dv, dint v.termE.2]) [] := by
  refine t_in Tryz.func14 ?_
  intro X hP hgl hf hfn hn hR hids hfit
  refine t_rg0 ?_
  refine t_a ?_
  first | refine W_reg [] fun K hK => ?_ | refine W_regd (by rw [hP]; exact mixed) [] fun K hK => ?_
  refine t_s0 ?_
  refine t_c trivial (check_ok v (by omega)) ?_
  refine t_e ?_
  clear hK K
  have hck : (if v.nodesN.2 = true then if v.nodesN.1 > 64 then 4 else 0 else 2) = v.checkN := rfl
  rw [hck]
  by_cases h : v.checkN = 0
  · refine t_rg @h ?_
    refine t_no ?_
    have hok : v.nodesN.2 = true := by
      unfold Val.checkN at h
      split at h
      · assumption
      · cases h
    obtain ⟨ha, ht⟩ := v.ok_all hok
    refine t_a ?_
    first | refine W_reg [] fun K hK => ?_ | refine W_regd (by rw [hP]; exact mixed) [] fun K hK => ?_
    refine t_s0 ?_
    refine t_c trivial (length_ok v ha hc) ?_
    refine t_e ?_
    clear hK K
    by_cases hl : 4096 < v.lengthN
    · refine t_yes ?_
      refine t_rg0 ?_
      refine t_r ?_
      simp [go_sem, hP, hgl, hn, Val.termE, h, hl] <;> (try omega)
      simp [zeroTm, Tm.dv, Tm.cells_mk, Ty.kind, Ty.args]
    · refine t_no ?_
      refine t_a ?_
      first | refine W_reg [] fun K hK => ?_ | refine W_regd (by rw [hP]; exact mixed) [] fun K hK => ?_
      refine t_s0 ?_
      refine t_c trivial (term_ok v ht) ?_
      refine t_e ?_
      clear hK K
      refine t_r ?_
      simp [go_sem, hP, hgl, hn, Val.termE, h, hl] <;> (try omega)
  · refine t_rg @h ?_
    refine t_yes ?_
    refine t_rg0 ?_
    refine t_r ?_
    simp [go_sem, hP, hgl, hn, Val.termE, h] <;> (try omega)
    simp [zeroTm, Tm.dv, Tm.cells_mk, Ty.kind, Ty.args]

/-- values without parts, with small numbers -/
def Val.flat (v : Val) : Prop :=
  v.args = [] ∧ ((v.kind = 1 ∧ 0 ≤ v.num ∧ v.num ≤ 4 ∧ v.list = []) ∨ (v.kind = 2 ∧ v.num = 0 ∧ v.list.length ≤ 3 ∧ ∀ x ∈ v.list, 0 ≤ x ∧ x ≤ 3) ∨ (v.kind = 4 ∧ v.num = 0 ∧ v.list = []))
def Val.good (v : Val) : Prop := v.flat ∨ ∃ a b, v = Val.mk 3 0 [] [a, b] ∧ a.flat ∧ b.flat


def sumL (l : List Int) : Int := (l.map (· + 2)).sum
theorem sumL_append (l m : List Int) : sumL (l ++ m) = sumL l + sumL m := by simp [sumL]
theorem sumL_bd : ∀ (l : List Int), (∀ x ∈ l, 0 ≤ x ∧ x ≤ 3) → 0 ≤ sumL l ∧ sumL l ≤ 5 * l.length
  | [], _ => by simp [sumL]
  | x :: r, h => by
    have h1 := h x (by simp)
    have h2 := sumL_bd r fun y hy => h y (by simp [hy])
    have : sumL (x :: r) = x + 2 + sumL r := by simp [sumL]
    rw [this]
    simp only [List.length_cons]
    omega

def Val.flatSize (v : Val) : Int := if v.kind = 1 then 1 + v.num else if v.kind = 2 then 1 + sumL v.list else 1

theorem Val.flatSize_bd {v : Val} (h : v.flat) : 1 ≤ v.flatSize ∧ v.flatSize ≤ 16 := by
  obtain ⟨-, h⟩ := h
  unfold flatSize
  rcases h with ⟨h1, h2, h3, h4⟩ | ⟨h1, h2, h3, h4⟩ | ⟨h1, h2, h3⟩
  · simp [h1]; omega
  · have := sumL_bd v.list h4
    simp [h1]; omega
  · simp [h1]

end Go.Proofs.YtbmnlkfgkdallaaGreatDoor.Lift
