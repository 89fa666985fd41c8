/-
  Plain facts: the types of terms.
-/
import Derived.Test.YtbmnlkfgkdallaaGreatDoorP1
namespace Go.Proofs.YtbmnlkfgkdallaaGreatDoor.Lift
set_option linter.unusedSimpArgs false
set_option linter.unusedVariables false
set_option linter.unnecessarySimpa false
open Go

def zeroTy : Ty := Ty.mk 0 []
def Ty.arg (t : Ty) (i : Nat) : Ty := t.args.getD i zeroTy
def Ty.ok (t : Ty) : Prop := t.shape = true ∧ t.count ≤ 64

theorem Ty.checkN_iff (t : Ty) : t.checkN = 0 ↔ t.ok := by
  unfold Ty.checkN Ty.ok
  split
  · split
    · rename_i h; simp; omega
    · rename_i h; simp; constructor <;> first | assumption | omega
  · rename_i h; simp [h]

def okN (t : Ty) : Ty × Int := if t.checkN = 0 then (t, 0) else (zeroTy, 4)

theorem okN_ok (t : Ty) (h : (okN t).2 = 0) : (okN t).1.ok ∧ okN t = (t, 0) := by
  unfold okN at h ⊢
  split
  · rename_i h2; exact ⟨(Ty.checkN_iff t).1 h2, rfl⟩
  · rename_i h2; rw [if_neg h2] at h; cases h

/-- the type of a node, of the types of its parts -/
def ruleN (k : Int) (ty : Ty) (l : List Ty) : Ty × Int :=
  if k = 2 then okN (Ty.mk 4 [ty, l.getD 0 zeroTy])
  else if k = 3 then if (l.getD 0 zeroTy).kind = 4 ∧ ((l.getD 0 zeroTy).arg 0).same (l.getD 1 zeroTy) = true then ((l.getD 0 zeroTy).arg 1, 0) else (zeroTy, 7)
  else if k = 4 then (Ty.mk 1 [], 0)
  else if k = 5 then if (l.getD 0 zeroTy).same (Ty.mk 1 []) = true then (Ty.mk 1 [], 0) else (zeroTy, 7)
  else if k = 6 then if (l.getD 0 zeroTy).same ty = true ∧ (l.getD 1 zeroTy).same (Ty.mk 4 [Ty.mk 1 [], Ty.mk 4 [ty, ty]]) = true ∧ (l.getD 2 zeroTy).same (Ty.mk 1 []) = true then (ty, 0) else (zeroTy, 7)
  else if k = 7 then (Ty.mk 2 [], 0)
  else if k = 8 then if (l.getD 0 zeroTy).same (Ty.mk 1 []) = true ∧ (l.getD 1 zeroTy).same (Ty.mk 2 []) = true then (Ty.mk 2 [], 0) else (zeroTy, 7)
  else if k = 9 then if (l.getD 0 zeroTy).same ty = true ∧ (l.getD 1 zeroTy).same (Ty.mk 4 [Ty.mk 1 [], Ty.mk 4 [Ty.mk 2 [], Ty.mk 4 [ty, ty]]]) = true ∧ (l.getD 2 zeroTy).same (Ty.mk 2 []) = true then (ty, 0) else (zeroTy, 7)
  else if k = 10 then okN (Ty.mk 3 [l.getD 0 zeroTy, l.getD 1 zeroTy])
  else if k = 11 then if (l.getD 0 zeroTy).kind = 3 then ((l.getD 0 zeroTy).arg 0, 0) else (zeroTy, 7)
  else if k = 12 then if (l.getD 0 zeroTy).kind = 3 then ((l.getD 0 zeroTy).arg 1, 0) else (zeroTy, 7)
  else (Ty.mk 5 [], 0)

namespace Tm
set_option linter.unusedSimpArgs false
set_option linter.unusedVariables false
set_option linter.unnecessarySimpa false
def inferN : Tm → List Ty → Ty × Int
  | .mk k i ty a, g =>
    if k = 1 then if (g.length : Int) ≤ i then (zeroTy, 6) else (g.getD (g.length - 1 - i.toNat) zeroTy, 0)
    else if (infers a (if k = 2 then g ++ [ty] else g)).2 = 0 then ruleN k ty (infers a (if k = 2 then g ++ [ty] else g)).1
    else (zeroTy, (infers a (if k = 2 then g ++ [ty] else g)).2)
where
  infers : List Tm → List Ty → List Ty × Int
    | [], _ => ([], 0)
    | a :: r, g => if (a.inferN g).2 = 0 then if (infers r g).2 = 0 then ((a.inferN g).1 :: (infers r g).1, 0) else ([], (infers r g).2) else ([], (a.inferN g).2)

theorem inferN_eq (t : Tm) (g : List Ty) : t.inferN g =
    if t.kind = 1 then if (g.length : Int) ≤ t.index then (zeroTy, 6) else (g.getD (g.length - 1 - t.index.toNat) zeroTy, 0)
    else if (inferN.infers t.args (if t.kind = 2 then g ++ [t.type] else g)).2 = 0 then ruleN t.kind t.type (inferN.infers t.args (if t.kind = 2 then g ++ [t.type] else g)).1
    else (zeroTy, (inferN.infers t.args (if t.kind = 2 then g ++ [t.type] else g)).2) := by
  cases t; rw [inferN]; rfl

theorem infers_snoc (l : List Tm) (x : Tm) (g : List Ty) (h : (inferN.infers l g).2 = 0) (hx : (x.inferN g).2 = 0) :
    inferN.infers (l ++ [x]) g = ((inferN.infers l g).1 ++ [(x.inferN g).1], 0) := by
  induction l with
  | nil => simp [inferN.infers, hx]
  | cons a r ih =>
    simp only [inferN.infers] at h
    by_cases ha : (a.inferN g).2 = 0
    · by_cases hr : (inferN.infers r g).2 = 0
      · simp [inferN.infers, ha, hr, ih hr]
      · simp [ha, hr] at h
    · simp [ha] at h

theorem infers_stop (l : List Tm) (x : Tm) (m : List Tm) (g : List Ty) (h : (inferN.infers l g).2 = 0) (hx : ¬ (x.inferN g).2 = 0) :
    inferN.infers (l ++ x :: m) g = ([], (x.inferN g).2) := by
  induction l with
  | nil => simp [inferN.infers, hx]
  | cons a r ih =>
    simp only [inferN.infers] at h
    by_cases ha : (a.inferN g).2 = 0
    · by_cases hr : (inferN.infers r g).2 = 0
      · simp [inferN.infers, ha, ih hr, hx]
      · simp [ha, hr] at h
    · simp [ha] at h

theorem infers_all (l : List Tm) (g : List Ty) (h : (inferN.infers l g).2 = 0) :
    (inferN.infers l g).1.length = l.length ∧ ∀ (i : Nat) (x : Tm), l[i]? = some x → (x.inferN g).2 = 0 ∧ (inferN.infers l g).1[i]? = some (x.inferN g).1 := by
  induction l with
  | nil => simp [inferN.infers]
  | cons a r ih =>
    simp only [inferN.infers] at h ⊢
    by_cases ha : (a.inferN g).2 = 0
    · by_cases hr : (inferN.infers r g).2 = 0
      · simp only [ha, hr, if_true]
        obtain ⟨h1, h2⟩ := ih hr
        refine ⟨by simp [h1], ?_⟩
        intro i x hx
        cases i with
        | zero => simp at hx; subst hx; exact ⟨ha, by simp⟩
        | succ i => simp at hx; simpa using h2 i x hx
      · simp [ha, hr] at h
    · simp [ha] at h
end Tm

theorem Ty.ok_arg {t : Ty} (h : t.ok) {a : Ty} (ha : a ∈ t.args) : a.ok := by
  obtain ⟨h1, h2⟩ := h
  rw [Ty.shape_eq, Bool.and_eq_true, Ty.shapes_iff] at h1
  have := Ty.count_mem ha
  rw [Ty.count_eq] at h2
  exact ⟨h1.2 a ha, by omega⟩

theorem Ty.ok_two {t : Ty} (h : t.ok) (hk : t.kind = 3 ∨ t.kind = 4) : t.args.length = 2 := by
  obtain ⟨h1, h2⟩ := h
  rw [Ty.shape_eq, Bool.and_eq_true] at h1
  rcases hk with hk | hk <;> simpa [tyKind, hk] using h1.1

theorem Ty.ok_args {t : Ty} (h : t.ok) (hk : t.kind = 3 ∨ t.kind = 4) : ∃ a b, t.args = [a, b] ∧ a.ok ∧ b.ok ∧ t.arg 0 = a ∧ t.arg 1 = b := by
  have h2 := Ty.ok_two h hk
  match ha : t.args, h2 with
  | [a, b], _ => exact ⟨a, b, rfl, Ty.ok_arg h (by rw [ha]; simp), Ty.ok_arg h (by rw [ha]; simp), by simp [Ty.arg, ha], by simp [Ty.arg, ha]⟩

theorem ok_nat : (Ty.mk 1 []).ok := ⟨rfl, by decide⟩
theorem ok_list : (Ty.mk 2 []).ok := ⟨rfl, by decide⟩
theorem ok_unit : (Ty.mk 5 []).ok := ⟨rfl, by decide⟩

/-- what a valid term says about its node -/
theorem Tm.shape_node {t : Tm} (h : t.shape = true) : ((t.args.length : Int) = arityI t.kind) ∧ 0 ≤ t.index ∧ (t.kind = 1 ∨ t.index = 0) ∧ (if t.kind = 2 ∨ t.kind = 6 ∨ t.kind = 9 then t.type.ok else t.type.zero = true) ∧ ∀ a ∈ t.args, a.shape = true := by
  rw [Tm.shape_eq, Bool.and_eq_true, Tm.shapes_iff] at h
  obtain ⟨h1, h2⟩ := h
  simp only [tmKind, Bool.and_eq_true, Bool.or_eq_true, decide_eq_true_eq, tyOfKind] at h1
  refine ⟨h1.1.1.1, h1.1.1.2, h1.1.2, ?_, h2⟩
  by_cases hk : t.kind = 2 ∨ t.kind = 6 ∨ t.kind = 9
  · rw [if_pos hk] at h1 ⊢; exact (Ty.checkN_iff _).1 (by simpa using h1.2)
  · rw [if_neg hk] at h1 ⊢; exact h1.2

theorem Tm.inferN_ok (t : Tm) (g : List Ty) (ht : t.shape = true) (hg : ∀ x ∈ g, x.ok) (h : (t.inferN g).2 = 0) : (t.inferN g).1.ok := by
  induction t using Tm.ind generalizing g with
  | h t ih =>
  obtain ⟨ha, hi, hv, hty, hs⟩ := Tm.shape_node ht
  rw [inferN_eq] at h ⊢
  by_cases h1 : t.kind = 1
  · rw [if_pos h1] at h ⊢
    by_cases h2 : (g.length : Int) ≤ t.index
    · rw [if_pos h2] at h; cases h
    · rw [if_neg h2]
      have : g.length - 1 - t.index.toNat < g.length := by omega
      simp only [List.getD_eq_getElem?_getD, List.getElem?_eq_getElem this, Option.getD_some]
      exact hg _ (List.getElem_mem _)
  · rw [if_neg h1] at h ⊢
    generalize hge : (if t.kind = 2 then g ++ [t.type] else g) = g' at h ⊢
    have hg' : ∀ x ∈ g', x.ok := by
      subst hge
      split
      · rename_i h2
        intro x hx
        rcases List.mem_append.1 hx with hx | hx
        · exact hg x hx
        · rw [List.mem_singleton.1 hx]; rwa [if_pos (.inl h2)] at hty
      · exact hg
    by_cases h2 : (inferN.infers t.args g').2 = 0
    · rw [if_pos h2] at h ⊢
      obtain ⟨hl, hx⟩ := infers_all _ _ h2
      have key : ∀ i : Nat, i < t.args.length → ((inferN.infers t.args g').1.getD i zeroTy).ok := by
        intro i hi
        obtain ⟨x1, x2⟩ := hx i t.args[i] (List.getElem?_eq_getElem hi)
        rw [List.getD_eq_getElem?_getD, x2, Option.getD_some]
        exact ih _ (List.getElem_mem _) g' (hs _ (List.getElem_mem _)) hg' x1
      generalize (inferN.infers t.args g').1 = l at h key ⊢
      unfold ruleN at h ⊢
      by_cases hk : t.kind = 2
      · rw [if_pos hk] at h ⊢
        exact (okN_ok _ h).1
      rw [if_neg hk] at h ⊢
      by_cases hk : t.kind = 3
      · rw [if_pos hk] at h ⊢
        by_cases hx : (l.getD 0 zeroTy).kind = 4 ∧ ((l.getD 0 zeroTy).arg 0).same (l.getD 1 zeroTy) = true
        · rw [if_pos hx] at h ⊢
          obtain ⟨a, b, e, oa, ob, e0, e1⟩ := Ty.ok_args (key 0 (by rw [hk] at ha; simp [arityI] at ha; omega)) (.inr hx.1)
          rw [e1]; exact ob
        · rw [if_neg hx] at h; cases h
      rw [if_neg hk] at h ⊢
      by_cases hk : t.kind = 4
      · rw [if_pos hk] at h ⊢
        exact ok_nat
      rw [if_neg hk] at h ⊢
      by_cases hk : t.kind = 5
      · rw [if_pos hk] at h ⊢
        by_cases hx : (l.getD 0 zeroTy).same (Ty.mk 1 []) = true
        · rw [if_pos hx] at h ⊢
          exact ok_nat
        · rw [if_neg hx] at h; cases h
      rw [if_neg hk] at h ⊢
      by_cases hk : t.kind = 6
      · rw [if_pos hk] at h ⊢
        by_cases hx : (l.getD 0 zeroTy).same t.type = true ∧ (l.getD 1 zeroTy).same (Ty.mk 4 [Ty.mk 1 [], Ty.mk 4 [t.type, t.type]]) = true ∧ (l.getD 2 zeroTy).same (Ty.mk 1 []) = true
        · rw [if_pos hx] at h ⊢
          rwa [if_pos (.inr (.inl hk))] at hty
        · rw [if_neg hx] at h; cases h
      rw [if_neg hk] at h ⊢
      by_cases hk : t.kind = 7
      · rw [if_pos hk] at h ⊢
        exact ok_list
      rw [if_neg hk] at h ⊢
      by_cases hk : t.kind = 8
      · rw [if_pos hk] at h ⊢
        by_cases hx : (l.getD 0 zeroTy).same (Ty.mk 1 []) = true ∧ (l.getD 1 zeroTy).same (Ty.mk 2 []) = true
        · rw [if_pos hx] at h ⊢
          exact ok_list
        · rw [if_neg hx] at h; cases h
      rw [if_neg hk] at h ⊢
      by_cases hk : t.kind = 9
      · rw [if_pos hk] at h ⊢
        by_cases hx : (l.getD 0 zeroTy).same t.type = true ∧ (l.getD 1 zeroTy).same (Ty.mk 4 [Ty.mk 1 [], Ty.mk 4 [Ty.mk 2 [], Ty.mk 4 [t.type, t.type]]]) = true ∧ (l.getD 2 zeroTy).same (Ty.mk 2 []) = true
        · rw [if_pos hx] at h ⊢
          rwa [if_pos (.inr (.inr hk))] at hty
        · rw [if_neg hx] at h; cases h
      rw [if_neg hk] at h ⊢
      by_cases hk : t.kind = 10
      · rw [if_pos hk] at h ⊢
        exact (okN_ok _ h).1
      rw [if_neg hk] at h ⊢
      by_cases hk : t.kind = 11
      · rw [if_pos hk] at h ⊢
        by_cases hx : (l.getD 0 zeroTy).kind = 3
        · rw [if_pos hx] at h ⊢
          obtain ⟨a, b, e, oa, ob, e0, e1⟩ := Ty.ok_args (key 0 (by rw [hk] at ha; simp [arityI] at ha; omega)) (.inl hx)
          rw [e0]; exact oa
        · rw [if_neg hx] at h; cases h
      rw [if_neg hk] at h ⊢
      by_cases hk : t.kind = 12
      · rw [if_pos hk] at h ⊢
        by_cases hx : (l.getD 0 zeroTy).kind = 3
        · rw [if_pos hx] at h ⊢
          obtain ⟨a, b, e, oa, ob, e0, e1⟩ := Ty.ok_args (key 0 (by rw [hk] at ha; simp [arityI] at ha; omega)) (.inl hx)
          rw [e1]; exact ob
        · rw [if_neg hx] at h; cases h
      rw [if_neg hk] at h ⊢
      exact ok_unit
    · rw [if_neg h2] at h
      exact absurd h h2
end Go.Proofs.YtbmnlkfgkdallaaGreatDoor.Lift
