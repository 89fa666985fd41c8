import Derived.Test.YtbmnlkfgkdallaaDoorH13
namespace Go.Proofs.YtbmnlkfgkdallaaDoor.Lift
set_option linter.unusedSimpArgs false
set_option linter.unusedVariables false
set_option linter.unnecessarySimpa false
open Go
variable {gl : Globs}

/-- all terms that are met are valid, with small indexes -/
def Tm.runOK : Nat → Tm → Bool
  | 0, t => decide (t.checkN = 0) && t.leastN 549755813888
  | s + 1, t => decide (t.checkN = 0) && t.leastN 549755813888 && match t.nextN (4096 - t.count) with
    | (x, true, true) => runOK s x
    | _ => true

theorem Tm.idx_of (t : Tm) (m : Int) (h : t.shape = true) (hm : t.leastN m = true) : t.idx m := by
  induction t using Tm.ind with
  | h t ih =>
  have hs := Tm.shape_node h
  rw [leastN_eq, Bool.and_eq_true] at hm
  have key : ∀ l : List Tm, leastN.leasts l m = true → ∀ a ∈ l, a.leastN m = true := by
    intro l
    induction l with
    | nil => simp
    | cons a r ihr =>
      intro hl x hx
      simp only [leastN.leasts, Bool.and_eq_true] at hl
      rcases List.mem_cons.1 hx with rfl | hx
      · exact hl.1
      · exact ihr hl.2 x hx
  rw [idx_eq]
  refine ⟨⟨hs.2.1, ?_⟩, fun a ha => ih a ha (hs.2.2.2.2 a ha) (key _ hm.2 a ha)⟩
  have := hm.1
  simp at this
  exact this

theorem Tm.runOK_head {n : Nat} {t : Tm} (h : t.runOK n = true) : t.checkN = 0 ∧ t.leastN 549755813888 = true := by
  cases n with
  | zero => simpa [runOK] using h
  | succ n => simp only [runOK, Bool.and_eq_true, decide_eq_true_eq] at h; exact h.1
theorem Tm.runOK_next {n : Nat} {t x : Tm} (h : t.runOK (n + 1) = true) (hx : t.nextN (4096 - t.count) = (x, true, true)) : x.runOK n = true := by
  simp only [runOK, Bool.and_eq_true] at h
  rw [hx] at h
  exact h.2
theorem Tm.loopN_end {k : Nat} {t : Tm} {n : Int} (h : (t.nextN (4096 - t.count)).2.1 = false) : loopN k t n = (t, n, 0) := by
  rcases hq : t.nextN (4096 - t.count) with ⟨u, v, w⟩
  rw [hq] at h
  simp only at h
  subst h
  cases k <;> simp [loopN, hq]
theorem Tm.loopN_zero {t : Tm} {n : Int} (h : (t.nextN (4096 - t.count)).2.1 = true) : loopN 0 t n = (zeroTm, 0, 5) := by
  rcases hq : t.nextN (4096 - t.count) with ⟨u, v, w⟩
  rw [hq] at h
  simp only at h
  subst h
  simp [loopN, hq]
theorem Tm.loopN_big {k : Nat} {t : Tm} {n : Int} (h : (t.nextN (4096 - t.count)).2.1 = true) (h2 : (t.nextN (4096 - t.count)).2.2 = false) : loopN (k + 1) t n = (zeroTm, 0, 4) := by
  rcases hq : t.nextN (4096 - t.count) with ⟨u, v, w⟩
  rw [hq] at h h2
  simp only at h h2
  subst h h2
  simp [loopN, hq]
theorem Tm.loopN_on {k : Nat} {t : Tm} {n : Int} (h : (t.nextN (4096 - t.count)).2.1 = true) (h2 : (t.nextN (4096 - t.count)).2.2 = true) : loopN (k + 1) t n = loopN k (t.nextN (4096 - t.count)).1 (n + 1) := by
  rcases hq : t.nextN (4096 - t.count) with ⟨u, v, w⟩
  rw [hq] at h h2
  simp only at h h2
  subst h h2
  simp [loopN, hq]

theorem normal_ok (t : Tm) (n : Nat) (ht : t.tys) (hm : t.leastN 536870912 = true) (hn2 : n ≤ 65536) (hrun : t.runOK n = true) : Con1 Tryd.prog gl 40 [t.dv, dint n] [] (.tup [(Tm.loopN n t 0).1.dv, dint (Tm.loopN n t 0).2.1, dint (Tm.loopN n t 0).2.2]) [] := by
  have hk := (Tm.runOK_head hrun).1
  have hck := (Tm.checkN_iff t).1 hk
  refine t_in Tryd.func40 ?_
  intro X hP hgl hf hfn hn hR hids hfit
  refine t_g0 ?_
  refine t_c1 trivial (ref02_check_ok t ht (by omega)) ?_
  have e1 : ¬ (n : Int) < 0 := by omega
  have e2 : ¬ 65536 < (n : Int) := by omega
  refine t_g @hk ?_
  refine t_c1 (j2 @e1 (j2 @e2 @hm)) (least_ok t 536870912) ?_
  refine t_g @hm ?_
  refine t_a ?_
  refine t_sub [] trivial (W_rounds (fun x : Tm × Nat => x.2 ≤ n ∧ Tm.loopN x.2 x.1 ((n : Int) - x.2) = Tm.loopN n t 0 ∧ x.1.runOK x.2 = true) (fun x : Tm × Nat => [(.slot 1, .one (.v (dint n))), (.slot 8, .one (.v (dint ((n : Int) - x.2)))), (.loc 4, .row ([.v (dint 0), .v (dint 0), .v (dint 0), .own 0 [], .own 0 []])), (.slot 4, .one (.loc 4 0)), (.loc 2, .row ([.v (dint x.1.kind), .v (dint x.1.index), .v (dint x.1.type.kind), .v (.sl (x.1.type.args.map Ty.cells)), .v (.sl (x.1.args.map Tm.cells))])), (.slot 2, .one (.loc 2 0))]) (fun x : Tm × Nat => x.2) (t, n) (⟨Nat.le_refl _, by simp, hrun⟩) ?_)
  rintro ⟨u, k⟩ ⟨hkn, hl, hu⟩ ih2
  simp only at hkn hl hu ⊢
  obtain ⟨u1, u2⟩ := Tm.runOK_head hu
  have uck := (Tm.checkN_iff u).1 u1
  have uix := Tm.idx_of u _ uck.1 u2
  refine t_g0 ?_
  refine t_c2 trivial (ref02_count_ok u (by omega)) (next4_ok u (4096 - u.count) uck.1 uix (by omega)) ?_
  by_cases hfo : (u.nextN (4096 - u.count)).2.1 = true
  · cases k with
    | zero =>
      rw [Tm.loopN_zero hfo] at hl
      refine t_g @hfo ?_
      refine t_r ?_
      simp [go_sem, hP, hgl, hn, ← hl, zeroTm] <;> (try omega)
      all_goals exact t_f
    | succ k =>
      have hne : ¬ (n : Int) - ((k + 1 : Nat) : Int) = n := by omega
      by_cases hg : (u.nextN (4096 - u.count)).2.2 = true
      · rw [Tm.loopN_on hfo hg] at hl
        have hnx : u.nextN (4096 - u.count) = ((u.nextN (4096 - u.count)).1, true, true) := Prod.ext rfl (Prod.ext hfo hg)
        have hrx := Tm.runOK_next hu hnx
        refine t_gt (wr []) trivial (j2 @hfo (j2 @hg @hne)) (ih2 ((u.nextN (4096 - u.count)).1, k) ⟨by omega, by rw [← hl]; congr 1; simp only; omega, hrx⟩ (by simp only; omega))
      · have hg' : (u.nextN (4096 - u.count)).2.2 = false := by simpa using hg
        rw [Tm.loopN_big hfo hg'] at hl
        refine t_g (j2 @hfo (j2 @hg' @hne)) ?_
        refine t_r ?_
        simp [go_sem, hP, hgl, hn, ← hl, zeroTm] <;> (try omega)
        all_goals exact t_f
  · have hfo' : (u.nextN (4096 - u.count)).2.1 = false := by simpa using hfo
    rw [Tm.loopN_end hfo'] at hl
    refine t_g @hfo' ?_
    refine t_c1 trivial (ref02_copy_ok u) ?_
    refine t_r ?_
    simp [go_sem, hP, hgl, hn, ← hl] <;> (try omega)
    all_goals exact t_f
end Go.Proofs.YtbmnlkfgkdallaaDoor.Lift
