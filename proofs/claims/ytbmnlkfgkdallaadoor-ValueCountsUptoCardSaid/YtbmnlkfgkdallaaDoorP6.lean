/-
  Plain facts: what the closed terms do with small numbers, reckoned out.
-/
import Derived.Test.YtbmnlkfgkdallaaDoorH14
import Derived.Test.YtbmnlkfgkdallaaDoorP4
namespace Go.Proofs.YtbmnlkfgkdallaaDoor.Lift
set_option linter.unusedSimpArgs false
set_option linter.unusedVariables false
set_option linter.unnecessarySimpa false
open Go

theorem Ty.zero_count {t : Ty} (h : t.zero = true) : t.count = 1 := by
  simp [Ty.zero] at h
  rw [Ty.count_eq, h.2]
  rfl
theorem Tm.shape_tys (t : Tm) (h : t.shape = true) : t.tys := by
  induction t using Tm.ind with
  | h t ih =>
  obtain ⟨-, -, -, hty, hs⟩ := Tm.shape_node h
  rw [tys_eq]
  refine ⟨?_, fun a ha => ih a ha (hs a ha)⟩
  split at hty
  · have := hty.2; omega
  · rw [Ty.zero_count hty]; omega

def fiveL (m n : Nat) : List (Tm × Int) :=
  [(appsT predT [numTm m], max ((m : Int) - 1) 0), (appsT plusT [numTm m, numTm n], (m : Int) + n), (appsT timesT [numTm m, numTm n], (m : Int) * n), (appsT subT [numTm m, numTm n], max ((m : Int) - n) 0), (appsT distT [numTm m, numTm n], max ((m : Int) - n) ((n : Int) - m))]

/-- the normal form is there, and reads as the number -/
def goodP (p : Tm × Int) : Bool :=
  p.1.leastN 536870912 && p.1.runOK 2000 && (match p.1.loopN 2000 0 with
    | (r, _, e) => decide (e = 0) && decide (r.checkN = 0) && r.readE.1.same (Val.mk 1 p.2 [] []) && decide (r.readE.2 = 0))

set_option maxRecDepth 100000 in
theorem five_all : ((List.range 5).all fun m => (List.range 5).all fun n => (fiveL m n).all goodP) = true := by decide +kernel

theorem five_good {m n : Nat} (hm : m < 5) (hn : n < 5) {p : Tm × Int} (hp : p ∈ fiveL m n) : goodP p = true := by
  have h := five_all
  rw [List.all_eq_true] at h
  have h1 := h m (List.mem_range.2 hm)
  rw [List.all_eq_true] at h1
  have h2 := h1 n (List.mem_range.2 hn)
  rw [List.all_eq_true] at h2
  exact h2 p hp

theorem goodP_facts {p : Tm × Int} (h : goodP p = true) : p.1.leastN 536870912 = true ∧ p.1.runOK 2000 = true ∧ p.1.tys ∧ ∃ r c, Tm.loopN 2000 p.1 0 = (r, c, 0) ∧ r.tys ∧ r.count ≤ 4096 ∧ r.readE = (Val.mk 1 p.2 [] [], 0) := by
  unfold goodP at h
  simp only [Bool.and_eq_true] at h
  obtain ⟨⟨h1, h2⟩, h3⟩ := h
  have hc := (Tm.checkN_iff _).1 (Tm.runOK_head h2).1
  refine ⟨h1, h2, Tm.shape_tys _ hc.1, ?_⟩
  rcases hq : Tm.loopN 2000 p.1 0 with ⟨r, c, e⟩
  rw [hq] at h3
  simp only [Bool.and_eq_true, decide_eq_true_eq] at h3
  obtain ⟨⟨⟨rfl, k2⟩, k3⟩, k4⟩ := h3
  have hr := (Tm.checkN_iff _).1 k2
  refine ⟨r, c, rfl, Tm.shape_tys _ hr.1, hr.2, ?_⟩
  rw [Val.same_iff] at k3
  exact Prod.ext k3 k4
end Go.Proofs.YtbmnlkfgkdallaaDoor.Lift
