/-
  Plain facts: lifting, putting in, reducing.
-/
import Derived.Test.YtbmnlkfgkdallaaGreatDoorH9
namespace Go.Proofs.YtbmnlkfgkdallaaGreatDoor.Lift
set_option linter.unusedSimpArgs false
set_option linter.unusedVariables false
set_option linter.unnecessarySimpa false
open Go

def bindI (k : Int) : Int := if k = 2 then 1 else 0

namespace Tm
set_option linter.unusedSimpArgs false
set_option linter.unusedVariables false
set_option linter.unnecessarySimpa false
def upN : Tm → Int → Int → Tm
  | .mk k i ty a, f, b => .mk k (if k = 1 ∧ f ≤ i then i + b else i) ty (ups a (f + bindI k) b)
where
  ups : List Tm → Int → Int → List Tm
    | [], _, _ => []
    | x :: r, f, b => x.upN f b :: ups r f b
theorem ups_map (l : List Tm) (f b : Int) : upN.ups l f b = l.map fun x => x.upN f b := by
  induction l with
  | nil => rfl
  | cons a r ih => simp [upN.ups, ih]
theorem upN_eq (t : Tm) (f b : Int) : t.upN f b = .mk t.kind (if t.kind = 1 ∧ f ≤ t.index then t.index + b else t.index) t.type (t.args.map fun x => x.upN (f + bindI t.kind) b) := by
  cases t; rw [upN, ups_map]; rfl

def timesN : Tm → Int → Nat
  | .mk k i _ a, p => (if k = 1 ∧ i = p then 1 else 0) + timess a (p + bindI k)
where
  timess : List Tm → Int → Nat
    | [], _ => 0
    | x :: r, p => x.timesN p + timess r p
theorem timesN_eq (t : Tm) (p : Int) : t.timesN p = (if t.kind = 1 ∧ t.index = p then 1 else 0) + timesN.timess t.args (p + bindI t.kind) := by cases t; rfl
theorem timess_append (l m : List Tm) (p : Int) : timesN.timess (l ++ m) p = timesN.timess l p + timesN.timess m p := by
  induction l with
  | nil => simp [timesN.timess]
  | cons a r ih => simp [timesN.timess, ih]; omega
theorem timesN_le (t : Tm) (p : Int) : t.timesN p ≤ t.count := by
  induction t using Tm.ind generalizing p with
  | h t ih =>
  have key : ∀ l : List Tm, (∀ a ∈ l, a ∈ t.args) → timesN.timess l (p + bindI t.kind) ≤ count.counts l := by
    intro l
    induction l with
    | nil => intro _; exact Nat.le_refl _
    | cons a r ihr =>
      intro h
      have h1 := ih a (h a (by simp)) (p + bindI t.kind)
      have h2 := ihr fun b hb => h b (by simp [hb])
      simp only [timesN.timess, count.counts]
      omega
  have := key t.args fun _ h => h
  rw [timesN_eq, count_eq]
  split <;> omega

theorem timess_le (l : List Tm) (p : Int) : timesN.timess l p ≤ count.counts l := by
  induction l with
  | nil => exact Nat.le_refl _
  | cons a r ih => have := timesN_le a p; simp only [timesN.timess, count.counts]; omega

def inN : Tm → Int → Int → Tm → Tm
  | .mk k i ty a, p, d, s =>
    if k = 1 then if i = p + d then s.upN 0 (p + d) else if p + d < i then .mk 1 (i - 1) (Ty.mk 0 []) [] else .mk k i ty a
    else .mk k i ty (ins a p (d + bindI k) s)
where
  ins : List Tm → Int → Int → Tm → List Tm
    | [], _, _, _ => []
    | x :: r, p, d, s => x.inN p d s :: ins r p d s
theorem ins_map (l : List Tm) (p d : Int) (s : Tm) : inN.ins l p d s = l.map fun x => x.inN p d s := by
  induction l with
  | nil => rfl
  | cons a r ih => simp [inN.ins, ih]
theorem inN_eq (t : Tm) (p d : Int) (s : Tm) : t.inN p d s =
    if t.kind = 1 then if t.index = p + d then s.upN 0 (p + d) else if p + d < t.index then .mk 1 (t.index - 1) (Ty.mk 0 []) [] else t
    else .mk t.kind t.index t.type (t.args.map fun x => x.inN p (d + bindI t.kind) s) := by
  cases t; rw [inN, ins_map]; rfl

/-- all indexes are numbers up to m -/
def idx : Tm → Int → Prop
  | .mk _ i _ a, m => (0 ≤ i ∧ i ≤ m) ∧ idxs a m
where
  idxs : List Tm → Int → Prop
    | [], _ => True
    | x :: r, m => x.idx m ∧ idxs r m
theorem idxs_iff (l : List Tm) (m : Int) : idx.idxs l m ↔ ∀ x ∈ l, x.idx m := by
  induction l with
  | nil => simp [idx.idxs]
  | cons a r ih => simp [idx.idxs, ih]
theorem idx_eq (t : Tm) (m : Int) : t.idx m ↔ (0 ≤ t.index ∧ t.index ≤ m) ∧ ∀ x ∈ t.args, x.idx m := by cases t; simp only [idx, idxs_iff, index, args]
theorem idx_mono {t : Tm} {m n : Int} (h : m ≤ n) (hi : t.idx m) : t.idx n := by
  induction t using Tm.ind with
  | h t ih =>
  rw [idx_eq] at hi ⊢
  exact ⟨⟨hi.1.1, by omega⟩, fun x hx => ih x hx (hi.2 x hx)⟩
end Tm
end Go.Proofs.YtbmnlkfgkdallaaGreatDoor.Lift
