import Derived.Test.YtgfjcbofbbcnmaaGreatDoorQ2
import Derived.Test.YtgfjcbofbbcnmaaGreatDoorProg
/-
  Plain data of the program: types, terms and values as trees, and how they read as data (printed by a program of ours).
-/
namespace Go.Proofs.YtgfjcbofbbcnmaaGreatDoor.Lift
set_option linter.unusedSimpArgs false
set_option linter.unusedVariables false
set_option linter.unnecessarySimpa false
open Go

/-- a list of numbers as a slice's elements -/
def ints (l : List Int) : List (List DV) := l.map fun n => [dint n]

theorem slFit {α : Type} (f : α → List DV) (g : α → DV) (hg : ∀ a, g a = .agg (f a)) (l : List α) : DV.fit (.sl (l.map f)) ↔ l.length ≤ BIG ∧ ∀ a ∈ l, (g a).fit := by
  simp only [DV.fit, List.length_map]
  refine and_congr Iff.rfl ?_
  rw [fitss_iff]
  constructor
  · intro h a ha
    obtain ⟨i, hi, rfl⟩ := List.mem_iff_getElem.1 ha
    rw [hg]
    show DV.fit.fits _
    rw [fits_iff]
    intro j c hc
    exact h i j _ c (by simp [hi]) hc
  · intro h i j e c he hc
    rw [List.getElem?_map] at he
    cases hq : l[i]? with
    | none => simp [hq] at he
    | some a =>
      simp [hq] at he
      subst he
      have := h a (List.mem_of_getElem? hq)
      rw [hg] at this
      exact (fits_iff _).1 this j c hc

theorem slFit' {α : Type} (f : α → List DV) (g : α → DV) (hg : ∀ a, g a = .agg (f a)) {p : α → Prop} (hp : ∀ a, (g a).fit ↔ p a) (l : List α) : DV.fit (.sl (l.map f)) ↔ l.length ≤ BIG ∧ ∀ a ∈ l, p a := by
  rw [slFit f g hg]
  simp only [hp]

theorem ints_fit (l : List Int) : DV.fit (.sl (ints l)) ↔ l.length ≤ BIG ∧ ∀ n ∈ l, intOK .i64 n := by
  unfold ints
  rw [slFit' (fun n => [dint n]) (fun n => .agg [dint n]) (fun _ => rfl) (p := fun n => intOK .i64 n) (fun n => by simp [DV.fit, DV.fit.fits, primOK, intOK])]

theorem samesIff {α : Type} (f : α → α → Bool) (g : List α → List α → Bool) (h0 : g [] [] = true) (h1 : ∀ a r, g (a :: r) [] = false) (h2 : ∀ a r, g [] (a :: r) = false) (h3 : ∀ a r b t, g (a :: r) (b :: t) = (f a b && g r t)) (az bs : List α) :
    g az bs = true ↔ az.length = bs.length ∧ ∀ (i : Nat) (a b : α), az[i]? = some a → bs[i]? = some b → f a b = true := by
  induction az generalizing bs with
  | nil => cases bs <;> simp [h0, h2]
  | cons a r ih =>
    cases bs with
    | nil => simp [h1]
    | cons b t =>
      simp only [h3, Bool.and_eq_true, ih, List.length_cons, Nat.add_right_cancel_iff]
      constructor
      · rintro ⟨h1, h2, h3⟩
        refine ⟨h2, fun i x y hx hy => ?_⟩
        cases i with
        | zero => simp at hx hy; subst hx hy; exact h1
        | succ i => exact h3 i x y (by simpa using hx) (by simpa using hy)
      · rintro ⟨h1, h2⟩
        exact ⟨h2 0 a b rfl rfl, h1, fun i x y hx hy => h2 (i + 1) x y (by simpa using hx) (by simpa using hy)⟩

theorem listSame {α : Type} {f : α → α → Bool} {b : Bool} {az bs : List α} (h : b = true ↔ az.length = bs.length ∧ ∀ (i : Nat) (a b : α), az[i]? = some a → bs[i]? = some b → f a b = true) (ih : ∀ a ∈ az, ∀ b, f a b = true ↔ a = b) : b = true ↔ az = bs := by
  rw [h]
  constructor
  · rintro ⟨h2, h3⟩
    apply List.ext_getElem h2
    intro i hi hj
    exact (ih _ (List.getElem_mem hi) _).1 (h3 i _ _ (List.getElem?_eq_getElem hi) (List.getElem?_eq_getElem hj))
  · rintro rfl
    exact ⟨rfl, fun i x y hx hy => by rw [hx] at hy; cases hy; exact (ih x (List.mem_of_getElem? hx) x).2 rfl⟩

theorem ints_length (l : List Int) : (ints l).length = l.length := by simp [ints]
theorem ints_get {l : List Int} {i : Nat} {n : Int} (h : l[i]? = some n) : (ints l)[i]? = some [dint n] := by simp [ints, h]
theorem ints_nil : ints [] = [] := rfl
theorem ints_append (l m : List Int) : ints (l ++ m) = ints l ++ ints m := by simp [ints]
theorem ints_cons (n : Int) (m : List Int) : ints (n :: m) = [dint n] :: ints m := rfl
theorem ints_wide (l : List Int) : (∀ e ∈ ints l, e.length = 1) = True := by simp [ints]
attribute [go_sem] ints_length ints_wide ints_append

/-! Ty -/
inductive Ty where
  | mk (kind : Int) (args : List Ty)
namespace Ty
set_option linter.unusedSimpArgs false
set_option linter.unusedVariables false
set_option linter.unnecessarySimpa false
def kind : Ty → Int | .mk x _ => x
def args : Ty → List Ty | .mk _ x => x
theorem ind {p : Ty → Prop} (h : ∀ t : Ty, (∀ a ∈ t.args, p a) → p t) (t : Ty) : p t :=
  Ty.rec (motive_1 := p) (motive_2 := fun az => ∀ a ∈ az, p a) (fun v0 v1 ih => h (.mk v0 v1) ih) (fun a ha => by cases ha)
    (fun a r ha hr b hb => by
      rcases List.mem_cons.1 hb with rfl | hb
      · exact ha
      · exact hr b hb) t
def cells : Ty → List DV
  | .mk v0 v1 => [dint v0, .sl (all v1)]
where
  all : List Ty → List (List DV)
    | [] => []
    | a :: r => cells a :: all r
theorem all_map (az : List Ty) : cells.all az = az.map cells := by
  induction az with
  | nil => rfl
  | cons a r ih => simp [cells.all, ih]
theorem cells_eq (t : Ty) : t.cells = [dint t.kind, .sl (List.map cells t.args)] := by
  cases t with
  | mk v0 v1 => simp [cells, kind, args, all_map]
def dv (t : Ty) : DV := .agg t.cells
theorem fold (t : Ty) : DV.agg [dint t.kind, .sl (List.map Ty.cells t.args)] = t.dv := by rw [Ty.dv, Ty.cells_eq]
theorem cellsD_dv (t : Ty) : cellsD t.dv = [dint t.kind, .sl (List.map Ty.cells t.args)] := by rw [Ty.dv, cellsD, Ty.cells_eq]
theorem length_cells (t : Ty) : t.cells.length = 2 := by rw [cells_eq]; rfl
theorem isCell_dv (t : Ty) : t.dv.isCell = false := rfl
theorem isAgg_dv (t : Ty) : t.dv.isAgg = true := rfl
theorem eta (t : Ty) : Ty.mk t.kind t.args = t := by cases t; rfl
theorem kind_mk (kind : Int) (args : List Ty) : (mk kind args).kind = kind := rfl
theorem args_mk (kind : Int) (args : List Ty) : (mk kind args).args = args := rfl
def fit : Ty → Prop
  | .mk v0 v1 => intOK .i64 v0 ∧ v1.length ≤ BIG ∧ fits v1
where
  fits : List Ty → Prop
    | [] => True
    | a :: r => fit a ∧ fits r
theorem fits_iff (az : List Ty) : fit.fits az ↔ ∀ a ∈ az, a.fit := by
  induction az with
  | nil => simp [fit.fits]
  | cons a r ih => simp [fit.fits, ih]
theorem fit_eq (t : Ty) : t.fit ↔ intOK .i64 t.kind ∧ t.args.length ≤ BIG ∧ ∀ a ∈ t.args, a.fit := by
  cases t with
  | mk v0 v1 => simp only [fit, fits_iff, kind, args]
theorem dv_fit (t : Ty) : t.dv.fit ↔ t.fit := by
  induction t using Ty.ind with
  | h t ih =>
    rw [fit_eq, ← fold]
    have hs : DV.fit (.sl (t.args.map cells)) ↔ t.args.length ≤ BIG ∧ ∀ a ∈ t.args, a.fit := by
      rw [slFit cells dv (fun _ => rfl)]
      exact and_congr Iff.rfl ⟨fun h a ha => (ih a ha).1 (h a ha), fun h a ha => (ih a ha).2 (h a ha)⟩
    rw [← hs]
    simp only [DV.fit, DV.fit.fits, primOK, intOK, and_true, and_assoc]
def same : Ty → Ty → Bool
  | .mk v0 v1, .mk w0 w1 => v0 == w0 && sames v1 w1
where
  sames : List Ty → List Ty → Bool
    | [], [] => true
    | a :: r, b :: t => same a b && sames r t
    | _, _ => false
theorem sames_iff (az bs : List Ty) : same.sames az bs = true ↔ az.length = bs.length ∧ ∀ (i : Nat) (a b : Ty), az[i]? = some a → bs[i]? = some b → a.same b = true :=
  samesIff same same.sames rfl (fun _ _ => rfl) (fun _ _ => rfl) (fun _ _ _ _ => rfl) az bs
theorem same_eq (a b : Ty) : a.same b = (a.kind == b.kind && same.sames a.args b.args) := by
  cases a; cases b; rfl
theorem same_iff (a b : Ty) : a.same b = true ↔ a = b := by
  induction a using Ty.ind generalizing b with
  | h a ih =>
    have hs : same.sames a.args b.args = true ↔ a.args = b.args := listSame (sames_iff _ _) ih
    rw [same_eq]
    simp only [Bool.and_eq_true, beq_iff_eq, hs]
    constructor
    · intro h
      cases a; cases b
      simp only [kind, args] at h
      simp_all
    · rintro rfl
      simp
end Ty
attribute [go_sem] Ty.cells_eq Ty.fold Ty.cellsD_dv Ty.isCell_dv Ty.isAgg_dv Ty.kind_mk Ty.args_mk

/-! Tm -/
inductive Tm where
  | mk (kind : Int) (index : Int) (type : Ty) (args : List Tm)
namespace Tm
set_option linter.unusedSimpArgs false
set_option linter.unusedVariables false
set_option linter.unnecessarySimpa false
def kind : Tm → Int | .mk x _ _ _ => x
def index : Tm → Int | .mk _ x _ _ => x
def type : Tm → Ty | .mk _ _ x _ => x
def args : Tm → List Tm | .mk _ _ _ x => x
theorem ind {p : Tm → Prop} (h : ∀ t : Tm, (∀ a ∈ t.args, p a) → p t) (t : Tm) : p t :=
  Tm.rec (motive_1 := p) (motive_2 := fun az => ∀ a ∈ az, p a) (fun v0 v1 v2 v3 ih => h (.mk v0 v1 v2 v3) ih) (fun a ha => by cases ha)
    (fun a r ha hr b hb => by
      rcases List.mem_cons.1 hb with rfl | hb
      · exact ha
      · exact hr b hb) t
def cells : Tm → List DV
  | .mk v0 v1 v2 v3 => [dint v0, dint v1, dint v2.kind, .sl (List.map Ty.cells v2.args), .sl (all v3)]
where
  all : List Tm → List (List DV)
    | [] => []
    | a :: r => cells a :: all r
theorem all_map (az : List Tm) : cells.all az = az.map cells := by
  induction az with
  | nil => rfl
  | cons a r ih => simp [cells.all, ih]
theorem cells_eq (t : Tm) : t.cells = [dint t.kind, dint t.index, dint t.type.kind, .sl (List.map Ty.cells t.type.args), .sl (List.map cells t.args)] := by
  cases t with
  | mk v0 v1 v2 v3 => simp [cells, kind, index, type, args, all_map]
def dv (t : Tm) : DV := .agg t.cells
theorem fold (t : Tm) : DV.agg [dint t.kind, dint t.index, dint t.type.kind, .sl (List.map Ty.cells t.type.args), .sl (List.map Tm.cells t.args)] = t.dv := by rw [Tm.dv, Tm.cells_eq]
theorem cellsD_dv (t : Tm) : cellsD t.dv = [dint t.kind, dint t.index, dint t.type.kind, .sl (List.map Ty.cells t.type.args), .sl (List.map Tm.cells t.args)] := by rw [Tm.dv, cellsD, Tm.cells_eq]
theorem length_cells (t : Tm) : t.cells.length = 5 := by rw [cells_eq]; rfl
theorem isCell_dv (t : Tm) : t.dv.isCell = false := rfl
theorem isAgg_dv (t : Tm) : t.dv.isAgg = true := rfl
theorem eta (t : Tm) : Tm.mk t.kind t.index t.type t.args = t := by cases t; rfl
theorem kind_mk (kind : Int) (index : Int) (type : Ty) (args : List Tm) : (mk kind index type args).kind = kind := rfl
theorem index_mk (kind : Int) (index : Int) (type : Ty) (args : List Tm) : (mk kind index type args).index = index := rfl
theorem type_mk (kind : Int) (index : Int) (type : Ty) (args : List Tm) : (mk kind index type args).type = type := rfl
theorem args_mk (kind : Int) (index : Int) (type : Ty) (args : List Tm) : (mk kind index type args).args = args := rfl
def fit : Tm → Prop
  | .mk v0 v1 v2 v3 => intOK .i64 v0 ∧ intOK .i64 v1 ∧ v2.fit ∧ v3.length ≤ BIG ∧ fits v3
where
  fits : List Tm → Prop
    | [] => True
    | a :: r => fit a ∧ fits r
theorem fits_iff (az : List Tm) : fit.fits az ↔ ∀ a ∈ az, a.fit := by
  induction az with
  | nil => simp [fit.fits]
  | cons a r ih => simp [fit.fits, ih]
theorem fit_eq (t : Tm) : t.fit ↔ intOK .i64 t.kind ∧ intOK .i64 t.index ∧ t.type.fit ∧ t.args.length ≤ BIG ∧ ∀ a ∈ t.args, a.fit := by
  cases t with
  | mk v0 v1 v2 v3 => simp only [fit, fits_iff, kind, index, type, args]
theorem dv_fit (t : Tm) : t.dv.fit ↔ t.fit := by
  induction t using Tm.ind with
  | h t ih =>
    rw [fit_eq, ← fold]
    have hs : DV.fit (.sl (t.args.map cells)) ↔ t.args.length ≤ BIG ∧ ∀ a ∈ t.args, a.fit := by
      rw [slFit cells dv (fun _ => rfl)]
      exact and_congr Iff.rfl ⟨fun h a ha => (ih a ha).1 (h a ha), fun h a ha => (ih a ha).2 (h a ha)⟩
    have htype : DV.fit (dint t.type.kind) ∧ DV.fit (.sl (List.map Ty.cells t.type.args)) ↔ t.type.fit := by
      rw [← Ty.dv_fit, ← Ty.fold]
      simp only [DV.fit, DV.fit.fits, and_true, and_assoc]
    rw [← hs, ← htype]
    simp only [DV.fit, DV.fit.fits, primOK, intOK, and_true, and_assoc]
def same : Tm → Tm → Bool
  | .mk v0 v1 v2 v3, .mk w0 w1 w2 w3 => v0 == w0 && v1 == w1 && v2.same w2 && sames v3 w3
where
  sames : List Tm → List Tm → Bool
    | [], [] => true
    | a :: r, b :: t => same a b && sames r t
    | _, _ => false
theorem sames_iff (az bs : List Tm) : same.sames az bs = true ↔ az.length = bs.length ∧ ∀ (i : Nat) (a b : Tm), az[i]? = some a → bs[i]? = some b → a.same b = true :=
  samesIff same same.sames rfl (fun _ _ => rfl) (fun _ _ => rfl) (fun _ _ _ _ => rfl) az bs
theorem same_eq (a b : Tm) : a.same b = (a.kind == b.kind && a.index == b.index && a.type.same b.type && same.sames a.args b.args) := by
  cases a; cases b; rfl
theorem same_iff (a b : Tm) : a.same b = true ↔ a = b := by
  induction a using Tm.ind generalizing b with
  | h a ih =>
    have hs : same.sames a.args b.args = true ↔ a.args = b.args := listSame (sames_iff _ _) ih
    rw [same_eq]
    simp only [Bool.and_eq_true, beq_iff_eq, hs, Ty.same_iff]
    constructor
    · intro h
      cases a; cases b
      simp only [kind, index, type, args] at h
      simp_all
    · rintro rfl
      simp
end Tm
attribute [go_sem] Tm.cells_eq Tm.fold Tm.cellsD_dv Tm.isCell_dv Tm.isAgg_dv Tm.kind_mk Tm.index_mk Tm.type_mk Tm.args_mk

/-! Val -/
inductive Val where
  | mk (kind : Int) (num : Int) (list : List Int) (args : List Val)
namespace Val
set_option linter.unusedSimpArgs false
set_option linter.unusedVariables false
set_option linter.unnecessarySimpa false
def kind : Val → Int | .mk x _ _ _ => x
def num : Val → Int | .mk _ x _ _ => x
def list : Val → List Int | .mk _ _ x _ => x
def args : Val → List Val | .mk _ _ _ x => x
theorem ind {p : Val → Prop} (h : ∀ t : Val, (∀ a ∈ t.args, p a) → p t) (t : Val) : p t :=
  Val.rec (motive_1 := p) (motive_2 := fun az => ∀ a ∈ az, p a) (fun v0 v1 v2 v3 ih => h (.mk v0 v1 v2 v3) ih) (fun a ha => by cases ha)
    (fun a r ha hr b hb => by
      rcases List.mem_cons.1 hb with rfl | hb
      · exact ha
      · exact hr b hb) t
def cells : Val → List DV
  | .mk v0 v1 v2 v3 => [dint v0, dint v1, .sl (ints v2), .sl (all v3)]
where
  all : List Val → List (List DV)
    | [] => []
    | a :: r => cells a :: all r
theorem all_map (az : List Val) : cells.all az = az.map cells := by
  induction az with
  | nil => rfl
  | cons a r ih => simp [cells.all, ih]
theorem cells_eq (t : Val) : t.cells = [dint t.kind, dint t.num, .sl (ints t.list), .sl (List.map cells t.args)] := by
  cases t with
  | mk v0 v1 v2 v3 => simp [cells, kind, num, list, args, all_map]
def dv (t : Val) : DV := .agg t.cells
theorem fold (t : Val) : DV.agg [dint t.kind, dint t.num, .sl (ints t.list), .sl (List.map Val.cells t.args)] = t.dv := by rw [Val.dv, Val.cells_eq]
theorem cellsD_dv (t : Val) : cellsD t.dv = [dint t.kind, dint t.num, .sl (ints t.list), .sl (List.map Val.cells t.args)] := by rw [Val.dv, cellsD, Val.cells_eq]
theorem length_cells (t : Val) : t.cells.length = 4 := by rw [cells_eq]; rfl
theorem isCell_dv (t : Val) : t.dv.isCell = false := rfl
theorem isAgg_dv (t : Val) : t.dv.isAgg = true := rfl
theorem eta (t : Val) : Val.mk t.kind t.num t.list t.args = t := by cases t; rfl
theorem kind_mk (kind : Int) (num : Int) (list : List Int) (args : List Val) : (mk kind num list args).kind = kind := rfl
theorem num_mk (kind : Int) (num : Int) (list : List Int) (args : List Val) : (mk kind num list args).num = num := rfl
theorem list_mk (kind : Int) (num : Int) (list : List Int) (args : List Val) : (mk kind num list args).list = list := rfl
theorem args_mk (kind : Int) (num : Int) (list : List Int) (args : List Val) : (mk kind num list args).args = args := rfl
def fit : Val → Prop
  | .mk v0 v1 v2 v3 => intOK .i64 v0 ∧ intOK .i64 v1 ∧ (v2.length ≤ BIG ∧ ∀ n ∈ v2, intOK .i64 n) ∧ v3.length ≤ BIG ∧ fits v3
where
  fits : List Val → Prop
    | [] => True
    | a :: r => fit a ∧ fits r
theorem fits_iff (az : List Val) : fit.fits az ↔ ∀ a ∈ az, a.fit := by
  induction az with
  | nil => simp [fit.fits]
  | cons a r ih => simp [fit.fits, ih]
theorem fit_eq (t : Val) : t.fit ↔ intOK .i64 t.kind ∧ intOK .i64 t.num ∧ (t.list.length ≤ BIG ∧ ∀ n ∈ t.list, intOK .i64 n) ∧ t.args.length ≤ BIG ∧ ∀ a ∈ t.args, a.fit := by
  cases t with
  | mk v0 v1 v2 v3 => simp only [fit, fits_iff, kind, num, list, args]
theorem dv_fit (t : Val) : t.dv.fit ↔ t.fit := by
  induction t using Val.ind with
  | h t ih =>
    rw [fit_eq, ← fold]
    have hs : DV.fit (.sl (t.args.map cells)) ↔ t.args.length ≤ BIG ∧ ∀ a ∈ t.args, a.fit := by
      rw [slFit cells dv (fun _ => rfl)]
      exact and_congr Iff.rfl ⟨fun h a ha => (ih a ha).1 (h a ha), fun h a ha => (ih a ha).2 (h a ha)⟩
    rw [← hs]
    rw [← ints_fit t.list]
    simp only [DV.fit, DV.fit.fits, primOK, intOK, and_true, and_assoc]
def same : Val → Val → Bool
  | .mk v0 v1 v2 v3, .mk w0 w1 w2 w3 => v0 == w0 && v1 == w1 && v2 == w2 && sames v3 w3
where
  sames : List Val → List Val → Bool
    | [], [] => true
    | a :: r, b :: t => same a b && sames r t
    | _, _ => false
theorem sames_iff (az bs : List Val) : same.sames az bs = true ↔ az.length = bs.length ∧ ∀ (i : Nat) (a b : Val), az[i]? = some a → bs[i]? = some b → a.same b = true :=
  samesIff same same.sames rfl (fun _ _ => rfl) (fun _ _ => rfl) (fun _ _ _ _ => rfl) az bs
theorem same_eq (a b : Val) : a.same b = (a.kind == b.kind && a.num == b.num && a.list == b.list && same.sames a.args b.args) := by
  cases a; cases b; rfl
theorem same_iff (a b : Val) : a.same b = true ↔ a = b := by
  induction a using Val.ind generalizing b with
  | h a ih =>
    have hs : same.sames a.args b.args = true ↔ a.args = b.args := listSame (sames_iff _ _) ih
    rw [same_eq]
    simp only [Bool.and_eq_true, beq_iff_eq, hs]
    constructor
    · intro h
      cases a; cases b
      simp only [kind, num, list, args] at h
      simp_all
    · rintro rfl
      simp
end Val
attribute [go_sem] Val.cells_eq Val.fold Val.cellsD_dv Val.isCell_dv Val.isAgg_dv Val.kind_mk Val.num_mk Val.list_mk Val.args_mk

end Go.Proofs.YtgfjcbofbbcnmaaGreatDoor.Lift

/-
  Facts of the seat's types, printed by a program: each is proved by reckoning.
-/
namespace Go.Proofs.YtgfjcbofbbcnmaaGreatDoor.Lift
set_option linter.unusedVariables false
open Go

theorem mixed : Tryz.prog.follows .mixedOrders = true := by kernel_rfl
-- 0: ()
theorem lay0 : layT Tryz.prog 0 = some (false, 1) := by kernel_rfl
theorem con0 : concT Tryz.prog 0 = true := by kernel_rfl
-- 1: func()
theorem lay1 : layT Tryz.prog 1 = some (false, 1) := by kernel_rfl
theorem zer1 : zeroT Tryz.prog 1 = some [.v (.prim .nilFunc)] := by kernel_rfl
theorem con1 : concT Tryz.prog 1 = true := by kernel_rfl
-- 2: int64
theorem lay2 : layT Tryz.prog 2 = some (false, 1) := by kernel_rfl
theorem zer2 : zeroT Tryz.prog 2 = some [.v (.prim (.int .i64 (0)))] := by kernel_rfl
theorem zrp2 : zeroP Tryz.prog 2 = some (.int .i64 (0)) := by kernel_rfl
theorem con2 : concT Tryz.prog 2 = true := by kernel_rfl
theorem int2 : intT Tryz.prog 2 = some .i64 := by kernel_rfl
-- 3: int
theorem lay3 : layT Tryz.prog 3 = some (false, 1) := by kernel_rfl
theorem zer3 : zeroT Tryz.prog 3 = some [.v (.prim (.int .i64 (0)))] := by kernel_rfl
theorem zrp3 : zeroP Tryz.prog 3 = some (.int .i64 (0)) := by kernel_rfl
theorem con3 : concT Tryz.prog 3 = true := by kernel_rfl
theorem int3 : intT Tryz.prog 3 = some .i64 := by kernel_rfl
-- 4: bool
theorem lay4 : layT Tryz.prog 4 = some (false, 1) := by kernel_rfl
theorem zer4 : zeroT Tryz.prog 4 = some [.v (.prim (.bool false))] := by kernel_rfl
theorem boo4 : boolT Tryz.prog 4 = true := by kernel_rfl
theorem con4 : concT Tryz.prog 4 = true := by kernel_rfl
-- 5: uint8
theorem lay5 : layT Tryz.prog 5 = some (false, 1) := by kernel_rfl
theorem zer5 : zeroT Tryz.prog 5 = some [.v (.prim (.int .u8 (0)))] := by kernel_rfl
theorem zrp5 : zeroP Tryz.prog 5 = some (.int .u8 (0)) := by kernel_rfl
theorem con5 : concT Tryz.prog 5 = true := by kernel_rfl
theorem int5 : intT Tryz.prog 5 = some .u8 := by kernel_rfl
-- 6: abi.BoundsErrorCode
theorem lay6 : layT Tryz.prog 6 = some (false, 1) := by kernel_rfl
theorem zer6 : zeroT Tryz.prog 6 = some [.v (.prim (.int .u8 (0)))] := by kernel_rfl
theorem zrp6 : zeroP Tryz.prog 6 = some (.int .u8 (0)) := by kernel_rfl
theorem con6 : concT Tryz.prog 6 = true := by kernel_rfl
theorem int6 : intT Tryz.prog 6 = some .u8 := by kernel_rfl
-- 7: struct { x int64; y int; signed bool; code abi.BoundsErrorCode }
theorem lay7 : layT Tryz.prog 7 = some (true, 4) := by kernel_rfl
theorem zer7 : zeroT Tryz.prog 7 = some [.v (.prim (.int .i64 (0))), .v (.prim (.int .i64 (0))), .v (.prim (.bool false)), .v (.prim (.int .u8 (0)))] := by kernel_rfl
theorem pla7 : placesT Tryz.prog 7 = some [(0, 1), (1, 1), (2, 1), (3, 1)] := by kernel_rfl
theorem con7 : concT Tryz.prog 7 = true := by kernel_rfl
theorem fld7_0 : fieldT Tryz.prog 7 0 = some (false, 0, 1) := by kernel_rfl
theorem fld7_1 : fieldT Tryz.prog 7 1 = some (false, 1, 1) := by kernel_rfl
theorem fld7_2 : fieldT Tryz.prog 7 2 = some (false, 2, 1) := by kernel_rfl
theorem fld7_3 : fieldT Tryz.prog 7 3 = some (false, 3, 1) := by kernel_rfl
-- 8: runtime.boundsError
theorem lay8 : layT Tryz.prog 8 = some (true, 4) := by kernel_rfl
theorem zer8 : zeroT Tryz.prog 8 = some [.v (.prim (.int .i64 (0))), .v (.prim (.int .i64 (0))), .v (.prim (.bool false)), .v (.prim (.int .u8 (0)))] := by kernel_rfl
theorem pla8 : placesT Tryz.prog 8 = some [(0, 1), (1, 1), (2, 1), (3, 1)] := by kernel_rfl
theorem con8 : concT Tryz.prog 8 = true := by kernel_rfl
theorem fld8_0 : fieldT Tryz.prog 8 0 = some (false, 0, 1) := by kernel_rfl
theorem fld8_1 : fieldT Tryz.prog 8 1 = some (false, 1, 1) := by kernel_rfl
theorem fld8_2 : fieldT Tryz.prog 8 2 = some (false, 2, 1) := by kernel_rfl
theorem fld8_3 : fieldT Tryz.prog 8 3 = some (false, 3, 1) := by kernel_rfl
-- 9: string
theorem lay9 : layT Tryz.prog 9 = some (false, 1) := by kernel_rfl
theorem zer9 : zeroT Tryz.prog 9 = some [.v (.prim (.string ByteArray.empty))] := by kernel_rfl
theorem con9 : concT Tryz.prog 9 = true := by kernel_rfl
-- 10: runtime.errorString
theorem lay10 : layT Tryz.prog 10 = some (false, 1) := by kernel_rfl
theorem zer10 : zeroT Tryz.prog 10 = some [.v (.prim (.string ByteArray.empty))] := by kernel_rfl
theorem con10 : concT Tryz.prog 10 = true := by kernel_rfl
-- 11: runtime.plainError
theorem lay11 : layT Tryz.prog 11 = some (false, 1) := by kernel_rfl
theorem zer11 : zeroT Tryz.prog 11 = some [.v (.prim (.string ByteArray.empty))] := by kernel_rfl
theorem con11 : concT Tryz.prog 11 = true := by kernel_rfl
-- 12: uintptr
theorem lay12 : layT Tryz.prog 12 = some (false, 1) := by kernel_rfl
theorem zer12 : zeroT Tryz.prog 12 = some [.v (.prim (.int .u64 (0)))] := by kernel_rfl
theorem zrp12 : zeroP Tryz.prog 12 = some (.int .u64 (0)) := by kernel_rfl
theorem con12 : concT Tryz.prog 12 = true := by kernel_rfl
theorem int12 : intT Tryz.prog 12 = some .u64 := by kernel_rfl
-- 13: struct { msg string; addr uintptr }
theorem lay13 : layT Tryz.prog 13 = some (true, 2) := by kernel_rfl
theorem zer13 : zeroT Tryz.prog 13 = some [.v (.prim (.string ByteArray.empty)), .v (.prim (.int .u64 (0)))] := by kernel_rfl
theorem pla13 : placesT Tryz.prog 13 = some [(0, 1), (1, 1)] := by kernel_rfl
theorem con13 : concT Tryz.prog 13 = true := by kernel_rfl
theorem fld13_0 : fieldT Tryz.prog 13 0 = some (false, 0, 1) := by kernel_rfl
theorem fld13_1 : fieldT Tryz.prog 13 1 = some (false, 1, 1) := by kernel_rfl
-- 14: runtime.errorAddressString
theorem lay14 : layT Tryz.prog 14 = some (true, 2) := by kernel_rfl
theorem zer14 : zeroT Tryz.prog 14 = some [.v (.prim (.string ByteArray.empty)), .v (.prim (.int .u64 (0)))] := by kernel_rfl
theorem pla14 : placesT Tryz.prog 14 = some [(0, 1), (1, 1)] := by kernel_rfl
theorem con14 : concT Tryz.prog 14 = true := by kernel_rfl
theorem fld14_0 : fieldT Tryz.prog 14 0 = some (false, 0, 1) := by kernel_rfl
theorem fld14_1 : fieldT Tryz.prog 14 1 = some (false, 1, 1) := by kernel_rfl
-- 15: *runtime.TypeAssertionError
theorem lay15 : layT Tryz.prog 15 = some (false, 1) := by kernel_rfl
theorem zer15 : zeroT Tryz.prog 15 = some [.v (.prim (.pointer none))] := by kernel_rfl
theorem ptr15 : ptrT Tryz.prog 15 = true := by kernel_rfl
theorem zrp15 : zeroP Tryz.prog 15 = some (.pointer none) := by kernel_rfl
theorem con15 : concT Tryz.prog 15 = true := by kernel_rfl
-- 16: *runtime.PanicNilError
theorem lay16 : layT Tryz.prog 16 = some (false, 1) := by kernel_rfl
theorem zer16 : zeroT Tryz.prog 16 = some [.v (.prim (.pointer none))] := by kernel_rfl
theorem ptr16 : ptrT Tryz.prog 16 = true := by kernel_rfl
theorem zrp16 : zeroP Tryz.prog 16 = some (.pointer none) := by kernel_rfl
theorem con16 : concT Tryz.prog 16 = true := by kernel_rfl
-- 17: *abi.Type
theorem lay17 : layT Tryz.prog 17 = some (false, 1) := by kernel_rfl
theorem zer17 : zeroT Tryz.prog 17 = some [.v (.prim (.pointer none))] := by kernel_rfl
theorem ptr17 : ptrT Tryz.prog 17 = true := by kernel_rfl
theorem zrp17 : zeroP Tryz.prog 17 = some (.pointer none) := by kernel_rfl
theorem con17 : concT Tryz.prog 17 = true := by kernel_rfl
-- 18: struct { typ *abi.Type }
theorem lay18 : layT Tryz.prog 18 = some (true, 1) := by kernel_rfl
theorem zer18 : zeroT Tryz.prog 18 = some [.v (.prim (.pointer none))] := by kernel_rfl
theorem pla18 : placesT Tryz.prog 18 = some [(0, 1)] := by kernel_rfl
theorem con18 : concT Tryz.prog 18 = true := by kernel_rfl
theorem fld18_0 : fieldT Tryz.prog 18 0 = some (false, 0, 1) := by kernel_rfl
-- 19: maps.unhashableTypeError
theorem lay19 : layT Tryz.prog 19 = some (true, 1) := by kernel_rfl
theorem zer19 : zeroT Tryz.prog 19 = some [.v (.prim (.pointer none))] := by kernel_rfl
theorem pla19 : placesT Tryz.prog 19 = some [(0, 1)] := by kernel_rfl
theorem con19 : concT Tryz.prog 19 = true := by kernel_rfl
theorem fld19_0 : fieldT Tryz.prog 19 0 = some (false, 0, 1) := by kernel_rfl
-- 20: interface {}
theorem lay20 : layT Tryz.prog 20 = some (false, 1) := by kernel_rfl
theorem zer20 : zeroT Tryz.prog 20 = some [.v (.prim .nilIface)] := by kernel_rfl
-- 21: int32
theorem lay21 : layT Tryz.prog 21 = some (false, 1) := by kernel_rfl
theorem zer21 : zeroT Tryz.prog 21 = some [.v (.prim (.int .i32 (0)))] := by kernel_rfl
theorem zrp21 : zeroP Tryz.prog 21 = some (.int .i32 (0)) := by kernel_rfl
theorem con21 : concT Tryz.prog 21 = true := by kernel_rfl
theorem int21 : intT Tryz.prog 21 = some .i32 := by kernel_rfl
-- 22: []int
theorem lay22 : layT Tryz.prog 22 = some (false, 1) := by kernel_rfl
theorem zer22 : zeroT Tryz.prog 22 = some [.own 0 []] := by kernel_rfl
theorem ele22 : elemT Tryz.prog 22 = some 1 := by kernel_rfl
theorem elz22 : elemZ Tryz.prog 22 = some (1, 8) := by kernel_rfl
theorem con22 : concT Tryz.prog 22 = true := by kernel_rfl
-- 23: func() bool
theorem lay23 : layT Tryz.prog 23 = some (false, 1) := by kernel_rfl
theorem zer23 : zeroT Tryz.prog 23 = some [.v (.prim .nilFunc)] := by kernel_rfl
theorem con23 : concT Tryz.prog 23 = true := by kernel_rfl
-- 24: func([]int) bool
theorem lay24 : layT Tryz.prog 24 = some (false, 1) := by kernel_rfl
theorem zer24 : zeroT Tryz.prog 24 = some [.v (.prim .nilFunc)] := by kernel_rfl
theorem con24 : concT Tryz.prog 24 = true := by kernel_rfl
-- 25: *proofprogramsmake.Deck
theorem lay25 : layT Tryz.prog 25 = some (false, 1) := by kernel_rfl
theorem zer25 : zeroT Tryz.prog 25 = some [.v (.prim (.pointer none))] := by kernel_rfl
theorem ptr25 : ptrT Tryz.prog 25 = true := by kernel_rfl
theorem zrp25 : zeroP Tryz.prog 25 = some (.pointer none) := by kernel_rfl
theorem con25 : concT Tryz.prog 25 = true := by kernel_rfl
-- 26: func([]int) *proofprogramsmake.Deck
theorem lay26 : layT Tryz.prog 26 = some (false, 1) := by kernel_rfl
theorem zer26 : zeroT Tryz.prog 26 = some [.v (.prim .nilFunc)] := by kernel_rfl
theorem con26 : concT Tryz.prog 26 = true := by kernel_rfl
-- 27: []api.Type
theorem lay27 : layT Tryz.prog 27 = some (false, 1) := by kernel_rfl
theorem zer27 : zeroT Tryz.prog 27 = some [.own 0 []] := by kernel_rfl
theorem ele27 : elemT Tryz.prog 27 = some 2 := by kernel_rfl
theorem elz27 : elemZ Tryz.prog 27 = some (2, 32) := by kernel_rfl
theorem con27 : concT Tryz.prog 27 = true := by kernel_rfl
-- 28: struct { Kind int; Args []api.Type }
theorem lay28 : layT Tryz.prog 28 = some (true, 2) := by kernel_rfl
theorem zer28 : zeroT Tryz.prog 28 = some [.v (.prim (.int .i64 (0))), .own 0 []] := by kernel_rfl
theorem pla28 : placesT Tryz.prog 28 = some [(0, 1), (1, 1)] := by kernel_rfl
theorem con28 : concT Tryz.prog 28 = true := by kernel_rfl
theorem fld28_0 : fieldT Tryz.prog 28 0 = some (false, 0, 1) := by kernel_rfl
theorem fld28_1 : fieldT Tryz.prog 28 1 = some (false, 1, 1) := by kernel_rfl
-- 29: api.Type
theorem lay29 : layT Tryz.prog 29 = some (true, 2) := by kernel_rfl
theorem zer29 : zeroT Tryz.prog 29 = some [.v (.prim (.int .i64 (0))), .own 0 []] := by kernel_rfl
theorem pla29 : placesT Tryz.prog 29 = some [(0, 1), (1, 1)] := by kernel_rfl
theorem con29 : concT Tryz.prog 29 = true := by kernel_rfl
theorem fld29_0 : fieldT Tryz.prog 29 0 = some (false, 0, 1) := by kernel_rfl
theorem fld29_1 : fieldT Tryz.prog 29 1 = some (false, 1, 1) := by kernel_rfl
-- 30: []api.Term
theorem lay30 : layT Tryz.prog 30 = some (false, 1) := by kernel_rfl
theorem zer30 : zeroT Tryz.prog 30 = some [.own 0 []] := by kernel_rfl
theorem ele30 : elemT Tryz.prog 30 = some 5 := by kernel_rfl
theorem elz30 : elemZ Tryz.prog 30 = some (5, 72) := by kernel_rfl
theorem con30 : concT Tryz.prog 30 = true := by kernel_rfl
-- 31: struct { Kind int; Index int; Type api.Type; Args []api.Term }
theorem lay31 : layT Tryz.prog 31 = some (true, 5) := by kernel_rfl
theorem zer31 : zeroT Tryz.prog 31 = some [.v (.prim (.int .i64 (0))), .v (.prim (.int .i64 (0))), .v (.prim (.int .i64 (0))), .own 0 [], .own 0 []] := by kernel_rfl
theorem pla31 : placesT Tryz.prog 31 = some [(0, 1), (1, 1), (2, 2), (4, 1)] := by kernel_rfl
theorem con31 : concT Tryz.prog 31 = true := by kernel_rfl
theorem fld31_0 : fieldT Tryz.prog 31 0 = some (false, 0, 1) := by kernel_rfl
theorem fld31_1 : fieldT Tryz.prog 31 1 = some (false, 1, 1) := by kernel_rfl
theorem fld31_2 : fieldT Tryz.prog 31 2 = some (true, 2, 2) := by kernel_rfl
theorem fld31_3 : fieldT Tryz.prog 31 3 = some (false, 4, 1) := by kernel_rfl
-- 32: api.Term
theorem lay32 : layT Tryz.prog 32 = some (true, 5) := by kernel_rfl
theorem zer32 : zeroT Tryz.prog 32 = some [.v (.prim (.int .i64 (0))), .v (.prim (.int .i64 (0))), .v (.prim (.int .i64 (0))), .own 0 [], .own 0 []] := by kernel_rfl
theorem pla32 : placesT Tryz.prog 32 = some [(0, 1), (1, 1), (2, 2), (4, 1)] := by kernel_rfl
theorem con32 : concT Tryz.prog 32 = true := by kernel_rfl
theorem fld32_0 : fieldT Tryz.prog 32 0 = some (false, 0, 1) := by kernel_rfl
theorem fld32_1 : fieldT Tryz.prog 32 1 = some (false, 1, 1) := by kernel_rfl
theorem fld32_2 : fieldT Tryz.prog 32 2 = some (true, 2, 2) := by kernel_rfl
theorem fld32_3 : fieldT Tryz.prog 32 3 = some (false, 4, 1) := by kernel_rfl
-- 33: func(*proofprogramsmake.Deck, []api.Type, api.Type, int) api.Term
theorem lay33 : layT Tryz.prog 33 = some (false, 1) := by kernel_rfl
theorem zer33 : zeroT Tryz.prog 33 = some [.v (.prim .nilFunc)] := by kernel_rfl
theorem con33 : concT Tryz.prog 33 = true := by kernel_rfl
-- 34: func(*proofprogramsmake.Deck) api.Type
theorem lay34 : layT Tryz.prog 34 = some (false, 1) := by kernel_rfl
theorem zer34 : zeroT Tryz.prog 34 = some [.v (.prim .nilFunc)] := by kernel_rfl
theorem con34 : concT Tryz.prog 34 = true := by kernel_rfl
-- 35: []api.Value
theorem lay35 : layT Tryz.prog 35 = some (false, 1) := by kernel_rfl
theorem zer35 : zeroT Tryz.prog 35 = some [.own 0 []] := by kernel_rfl
theorem ele35 : elemT Tryz.prog 35 = some 4 := by kernel_rfl
theorem elz35 : elemZ Tryz.prog 35 = some (4, 64) := by kernel_rfl
theorem con35 : concT Tryz.prog 35 = true := by kernel_rfl
-- 36: struct { Kind int; Num int; List []int; Args []api.Value }
theorem lay36 : layT Tryz.prog 36 = some (true, 4) := by kernel_rfl
theorem zer36 : zeroT Tryz.prog 36 = some [.v (.prim (.int .i64 (0))), .v (.prim (.int .i64 (0))), .own 0 [], .own 0 []] := by kernel_rfl
theorem pla36 : placesT Tryz.prog 36 = some [(0, 1), (1, 1), (2, 1), (3, 1)] := by kernel_rfl
theorem con36 : concT Tryz.prog 36 = true := by kernel_rfl
theorem fld36_0 : fieldT Tryz.prog 36 0 = some (false, 0, 1) := by kernel_rfl
theorem fld36_1 : fieldT Tryz.prog 36 1 = some (false, 1, 1) := by kernel_rfl
theorem fld36_2 : fieldT Tryz.prog 36 2 = some (false, 2, 1) := by kernel_rfl
theorem fld36_3 : fieldT Tryz.prog 36 3 = some (false, 3, 1) := by kernel_rfl
-- 37: api.Value
theorem lay37 : layT Tryz.prog 37 = some (true, 4) := by kernel_rfl
theorem zer37 : zeroT Tryz.prog 37 = some [.v (.prim (.int .i64 (0))), .v (.prim (.int .i64 (0))), .own 0 [], .own 0 []] := by kernel_rfl
theorem pla37 : placesT Tryz.prog 37 = some [(0, 1), (1, 1), (2, 1), (3, 1)] := by kernel_rfl
theorem con37 : concT Tryz.prog 37 = true := by kernel_rfl
theorem fld37_0 : fieldT Tryz.prog 37 0 = some (false, 0, 1) := by kernel_rfl
theorem fld37_1 : fieldT Tryz.prog 37 1 = some (false, 1, 1) := by kernel_rfl
theorem fld37_2 : fieldT Tryz.prog 37 2 = some (false, 2, 1) := by kernel_rfl
theorem fld37_3 : fieldT Tryz.prog 37 3 = some (false, 3, 1) := by kernel_rfl
-- 38: api.Errno
theorem lay38 : layT Tryz.prog 38 = some (false, 1) := by kernel_rfl
theorem zer38 : zeroT Tryz.prog 38 = some [.v (.prim (.int .i64 (0)))] := by kernel_rfl
theorem zrp38 : zeroP Tryz.prog 38 = some (.int .i64 (0)) := by kernel_rfl
theorem con38 : concT Tryz.prog 38 = true := by kernel_rfl
theorem int38 : intT Tryz.prog 38 = some .i64 := by kernel_rfl
-- 39: (api.Value, int, api.Errno)
theorem lay39 : layT Tryz.prog 39 = some (false, 1) := by kernel_rfl
theorem con39 : concT Tryz.prog 39 = true := by kernel_rfl
-- 40: func(api.Term, int) (api.Value, int, api.Errno)
theorem lay40 : layT Tryz.prog 40 = some (false, 1) := by kernel_rfl
theorem zer40 : zeroT Tryz.prog 40 = some [.v (.prim .nilFunc)] := by kernel_rfl
theorem con40 : concT Tryz.prog 40 = true := by kernel_rfl
-- 41: (api.Term, int, api.Errno)
theorem lay41 : layT Tryz.prog 41 = some (false, 1) := by kernel_rfl
theorem con41 : concT Tryz.prog 41 = true := by kernel_rfl
-- 42: func(api.Term, int) (api.Term, int, api.Errno)
theorem lay42 : layT Tryz.prog 42 = some (false, 1) := by kernel_rfl
theorem zer42 : zeroT Tryz.prog 42 = some [.v (.prim .nilFunc)] := by kernel_rfl
theorem con42 : concT Tryz.prog 42 = true := by kernel_rfl
-- 43: (api.Value, api.Errno)
theorem lay43 : layT Tryz.prog 43 = some (false, 1) := by kernel_rfl
theorem con43 : concT Tryz.prog 43 = true := by kernel_rfl
-- 44: func(api.Term) (api.Value, api.Errno)
theorem lay44 : layT Tryz.prog 44 = some (false, 1) := by kernel_rfl
theorem zer44 : zeroT Tryz.prog 44 = some [.v (.prim .nilFunc)] := by kernel_rfl
theorem con44 : concT Tryz.prog 44 = true := by kernel_rfl
-- 45: func(api.Value, api.Value) bool
theorem lay45 : layT Tryz.prog 45 = some (false, 1) := by kernel_rfl
theorem zer45 : zeroT Tryz.prog 45 = some [.v (.prim .nilFunc)] := by kernel_rfl
theorem con45 : concT Tryz.prog 45 = true := by kernel_rfl
-- 46: func(int, ...api.Term) api.Term
theorem lay46 : layT Tryz.prog 46 = some (false, 1) := by kernel_rfl
theorem zer46 : zeroT Tryz.prog 46 = some [.v (.prim .nilFunc)] := by kernel_rfl
theorem con46 : concT Tryz.prog 46 = true := by kernel_rfl
-- 47: struct { L []int; At int }
theorem lay47 : layT Tryz.prog 47 = some (true, 2) := by kernel_rfl
theorem zer47 : zeroT Tryz.prog 47 = some [.own 0 [], .v (.prim (.int .i64 (0)))] := by kernel_rfl
theorem pla47 : placesT Tryz.prog 47 = some [(0, 1), (1, 1)] := by kernel_rfl
theorem con47 : concT Tryz.prog 47 = true := by kernel_rfl
theorem fld47_0 : fieldT Tryz.prog 47 0 = some (false, 0, 1) := by kernel_rfl
theorem fld47_1 : fieldT Tryz.prog 47 1 = some (false, 1, 1) := by kernel_rfl
-- 48: proofprogramsmake.Deck
theorem lay48 : layT Tryz.prog 48 = some (true, 2) := by kernel_rfl
theorem zer48 : zeroT Tryz.prog 48 = some [.own 0 [], .v (.prim (.int .i64 (0)))] := by kernel_rfl
theorem pla48 : placesT Tryz.prog 48 = some [(0, 1), (1, 1)] := by kernel_rfl
theorem con48 : concT Tryz.prog 48 = true := by kernel_rfl
theorem fld48_0 : fieldT Tryz.prog 48 0 = some (false, 0, 1) := by kernel_rfl
theorem fld48_1 : fieldT Tryz.prog 48 1 = some (false, 1, 1) := by kernel_rfl
-- 49: func([]api.Type, api.Type) []int
theorem lay49 : layT Tryz.prog 49 = some (false, 1) := by kernel_rfl
theorem zer49 : zeroT Tryz.prog 49 = some [.v (.prim .nilFunc)] := by kernel_rfl
theorem con49 : concT Tryz.prog 49 = true := by kernel_rfl
-- 50: func(int) int
theorem lay50 : layT Tryz.prog 50 = some (false, 1) := by kernel_rfl
theorem zer50 : zeroT Tryz.prog 50 = some [.v (.prim .nilFunc)] := by kernel_rfl
theorem con50 : concT Tryz.prog 50 = true := by kernel_rfl
-- 51: func(int) api.Term
theorem lay51 : layT Tryz.prog 51 = some (false, 1) := by kernel_rfl
theorem zer51 : zeroT Tryz.prog 51 = some [.v (.prim .nilFunc)] := by kernel_rfl
theorem con51 : concT Tryz.prog 51 = true := by kernel_rfl
-- 52: func(*proofprogramsmake.Deck, int) api.Type
theorem lay52 : layT Tryz.prog 52 = some (false, 1) := by kernel_rfl
theorem zer52 : zeroT Tryz.prog 52 = some [.v (.prim .nilFunc)] := by kernel_rfl
theorem con52 : concT Tryz.prog 52 = true := by kernel_rfl
-- 53: func(int, api.Type, ...api.Term) api.Term
theorem lay53 : layT Tryz.prog 53 = some (false, 1) := by kernel_rfl
theorem zer53 : zeroT Tryz.prog 53 = some [.v (.prim .nilFunc)] := by kernel_rfl
theorem con53 : concT Tryz.prog 53 = true := by kernel_rfl
-- 54: func([]api.Type, ...api.Type) []api.Type
theorem lay54 : layT Tryz.prog 54 = some (false, 1) := by kernel_rfl
theorem zer54 : zeroT Tryz.prog 54 = some [.v (.prim .nilFunc)] := by kernel_rfl
theorem con54 : concT Tryz.prog 54 = true := by kernel_rfl
-- 55: func() api.Type
theorem lay55 : layT Tryz.prog 55 = some (false, 1) := by kernel_rfl
theorem zer55 : zeroT Tryz.prog 55 = some [.v (.prim .nilFunc)] := by kernel_rfl
theorem con55 : concT Tryz.prog 55 = true := by kernel_rfl
-- 56: func(api.Type, api.Type) bool
theorem lay56 : layT Tryz.prog 56 = some (false, 1) := by kernel_rfl
theorem zer56 : zeroT Tryz.prog 56 = some [.v (.prim .nilFunc)] := by kernel_rfl
theorem con56 : concT Tryz.prog 56 = true := by kernel_rfl
-- 57: func(api.Term, ...api.Term) api.Term
theorem lay57 : layT Tryz.prog 57 = some (false, 1) := by kernel_rfl
theorem zer57 : zeroT Tryz.prog 57 = some [.v (.prim .nilFunc)] := by kernel_rfl
theorem con57 : concT Tryz.prog 57 = true := by kernel_rfl
-- 58: func() api.Term
theorem lay58 : layT Tryz.prog 58 = some (false, 1) := by kernel_rfl
theorem zer58 : zeroT Tryz.prog 58 = some [.v (.prim .nilFunc)] := by kernel_rfl
theorem con58 : concT Tryz.prog 58 = true := by kernel_rfl
-- 59: func(api.Type, api.Type) api.Type
theorem lay59 : layT Tryz.prog 59 = some (false, 1) := by kernel_rfl
theorem zer59 : zeroT Tryz.prog 59 = some [.v (.prim .nilFunc)] := by kernel_rfl
theorem con59 : concT Tryz.prog 59 = true := by kernel_rfl
-- 60: func(api.Term, []api.Value, int) (api.Value, int, api.Errno)
theorem lay60 : layT Tryz.prog 60 = some (false, 1) := by kernel_rfl
theorem zer60 : zeroT Tryz.prog 60 = some [.v (.prim .nilFunc)] := by kernel_rfl
theorem con60 : concT Tryz.prog 60 = true := by kernel_rfl
-- 61: func(api.Term) api.Errno
theorem lay61 : layT Tryz.prog 61 = some (false, 1) := by kernel_rfl
theorem zer61 : zeroT Tryz.prog 61 = some [.v (.prim .nilFunc)] := by kernel_rfl
theorem con61 : concT Tryz.prog 61 = true := by kernel_rfl
-- 62: func(api.Term, int) bool
theorem lay62 : layT Tryz.prog 62 = some (false, 1) := by kernel_rfl
theorem zer62 : zeroT Tryz.prog 62 = some [.v (.prim .nilFunc)] := by kernel_rfl
theorem con62 : concT Tryz.prog 62 = true := by kernel_rfl
-- 63: (api.Term, bool, bool)
theorem lay63 : layT Tryz.prog 63 = some (false, 1) := by kernel_rfl
theorem con63 : concT Tryz.prog 63 = true := by kernel_rfl
-- 64: func(api.Term, int) (api.Term, bool, bool)
theorem lay64 : layT Tryz.prog 64 = some (false, 1) := by kernel_rfl
theorem zer64 : zeroT Tryz.prog 64 = some [.v (.prim .nilFunc)] := by kernel_rfl
theorem con64 : concT Tryz.prog 64 = true := by kernel_rfl
-- 65: func(api.Term) int
theorem lay65 : layT Tryz.prog 65 = some (false, 1) := by kernel_rfl
theorem zer65 : zeroT Tryz.prog 65 = some [.v (.prim .nilFunc)] := by kernel_rfl
theorem con65 : concT Tryz.prog 65 = true := by kernel_rfl
-- 66: func(api.Term) api.Term
theorem lay66 : layT Tryz.prog 66 = some (false, 1) := by kernel_rfl
theorem zer66 : zeroT Tryz.prog 66 = some [.v (.prim .nilFunc)] := by kernel_rfl
theorem con66 : concT Tryz.prog 66 = true := by kernel_rfl
-- 67: (api.Value, bool)
theorem lay67 : layT Tryz.prog 67 = some (false, 1) := by kernel_rfl
theorem con67 : concT Tryz.prog 67 = true := by kernel_rfl
-- 68: func(api.Term) (api.Value, bool)
theorem lay68 : layT Tryz.prog 68 = some (false, 1) := by kernel_rfl
theorem zer68 : zeroT Tryz.prog 68 = some [.v (.prim .nilFunc)] := by kernel_rfl
theorem con68 : concT Tryz.prog 68 = true := by kernel_rfl
-- 69: func(api.Value) int
theorem lay69 : layT Tryz.prog 69 = some (false, 1) := by kernel_rfl
theorem zer69 : zeroT Tryz.prog 69 = some [.v (.prim .nilFunc)] := by kernel_rfl
theorem con69 : concT Tryz.prog 69 = true := by kernel_rfl
-- 70: func([]int, []int) bool
theorem lay70 : layT Tryz.prog 70 = some (false, 1) := by kernel_rfl
theorem zer70 : zeroT Tryz.prog 70 = some [.v (.prim .nilFunc)] := by kernel_rfl
theorem con70 : concT Tryz.prog 70 = true := by kernel_rfl
-- 71: func(int, int) int
theorem lay71 : layT Tryz.prog 71 = some (false, 1) := by kernel_rfl
theorem zer71 : zeroT Tryz.prog 71 = some [.v (.prim .nilFunc)] := by kernel_rfl
theorem con71 : concT Tryz.prog 71 = true := by kernel_rfl
-- 72: func(api.Type) api.Type
theorem lay72 : layT Tryz.prog 72 = some (false, 1) := by kernel_rfl
theorem zer72 : zeroT Tryz.prog 72 = some [.v (.prim .nilFunc)] := by kernel_rfl
theorem con72 : concT Tryz.prog 72 = true := by kernel_rfl
-- 73: (api.Term, api.Errno)
theorem lay73 : layT Tryz.prog 73 = some (false, 1) := by kernel_rfl
theorem con73 : concT Tryz.prog 73 = true := by kernel_rfl
-- 74: func(int) (api.Term, api.Errno)
theorem lay74 : layT Tryz.prog 74 = some (false, 1) := by kernel_rfl
theorem zer74 : zeroT Tryz.prog 74 = some [.v (.prim .nilFunc)] := by kernel_rfl
theorem con74 : concT Tryz.prog 74 = true := by kernel_rfl
-- 75: func(api.Term, api.Term, api.Term) api.Term
theorem lay75 : layT Tryz.prog 75 = some (false, 1) := by kernel_rfl
theorem zer75 : zeroT Tryz.prog 75 = some [.v (.prim .nilFunc)] := by kernel_rfl
theorem con75 : concT Tryz.prog 75 = true := by kernel_rfl
-- 76: (api.Type, api.Errno)
theorem lay76 : layT Tryz.prog 76 = some (false, 1) := by kernel_rfl
theorem con76 : concT Tryz.prog 76 = true := by kernel_rfl
-- 77: func([]api.Type, api.Term) (api.Type, api.Errno)
theorem lay77 : layT Tryz.prog 77 = some (false, 1) := by kernel_rfl
theorem zer77 : zeroT Tryz.prog 77 = some [.v (.prim .nilFunc)] := by kernel_rfl
theorem con77 : concT Tryz.prog 77 = true := by kernel_rfl
-- 78: []machine.thing
theorem lay78 : layT Tryz.prog 78 = some (false, 1) := by kernel_rfl
theorem zer78 : zeroT Tryz.prog 78 = some [.own 0 []] := by kernel_rfl
theorem ele78 : elemT Tryz.prog 78 = some 1 := by kernel_rfl
theorem elz78 : elemZ Tryz.prog 78 = some (1, 16) := by kernel_rfl
theorem con78 : concT Tryz.prog 78 = true := by kernel_rfl
-- 79: func(api.Value) (api.Type, api.Errno)
theorem lay79 : layT Tryz.prog 79 = some (false, 1) := by kernel_rfl
theorem zer79 : zeroT Tryz.prog 79 = some [.v (.prim .nilFunc)] := by kernel_rfl
theorem con79 : concT Tryz.prog 79 = true := by kernel_rfl
-- 80: machine.thing
theorem lay80 : layT Tryz.prog 80 = some (false, 1) := by kernel_rfl
theorem zer80 : zeroT Tryz.prog 80 = some [.v (.prim .nilIface)] := by kernel_rfl
-- 81: func(api.Value) machine.thing
theorem lay81 : layT Tryz.prog 81 = some (false, 1) := by kernel_rfl
theorem zer81 : zeroT Tryz.prog 81 = some [.v (.prim .nilFunc)] := by kernel_rfl
theorem con81 : concT Tryz.prog 81 = true := by kernel_rfl
-- 82: (bool, api.Errno)
theorem lay82 : layT Tryz.prog 82 = some (false, 1) := by kernel_rfl
theorem con82 : concT Tryz.prog 82 = true := by kernel_rfl
-- 83: func(api.Type) (bool, api.Errno)
theorem lay83 : layT Tryz.prog 83 = some (false, 1) := by kernel_rfl
theorem zer83 : zeroT Tryz.prog 83 = some [.v (.prim .nilFunc)] := by kernel_rfl
theorem con83 : concT Tryz.prog 83 = true := by kernel_rfl
-- 84: *machine.machine
theorem lay84 : layT Tryz.prog 84 = some (false, 1) := by kernel_rfl
theorem zer84 : zeroT Tryz.prog 84 = some [.v (.prim (.pointer none))] := by kernel_rfl
theorem ptr84 : ptrT Tryz.prog 84 = true := by kernel_rfl
theorem zrp84 : zeroP Tryz.prog 84 = some (.pointer none) := by kernel_rfl
theorem con84 : concT Tryz.prog 84 = true := by kernel_rfl
-- 85: struct { work int; limit int }
theorem lay85 : layT Tryz.prog 85 = some (true, 2) := by kernel_rfl
theorem zer85 : zeroT Tryz.prog 85 = some [.v (.prim (.int .i64 (0))), .v (.prim (.int .i64 (0)))] := by kernel_rfl
theorem pla85 : placesT Tryz.prog 85 = some [(0, 1), (1, 1)] := by kernel_rfl
theorem con85 : concT Tryz.prog 85 = true := by kernel_rfl
theorem fld85_0 : fieldT Tryz.prog 85 0 = some (false, 0, 1) := by kernel_rfl
theorem fld85_1 : fieldT Tryz.prog 85 1 = some (false, 1, 1) := by kernel_rfl
-- 86: machine.machine
theorem lay86 : layT Tryz.prog 86 = some (true, 2) := by kernel_rfl
theorem zer86 : zeroT Tryz.prog 86 = some [.v (.prim (.int .i64 (0))), .v (.prim (.int .i64 (0)))] := by kernel_rfl
theorem pla86 : placesT Tryz.prog 86 = some [(0, 1), (1, 1)] := by kernel_rfl
theorem con86 : concT Tryz.prog 86 = true := by kernel_rfl
theorem fld86_0 : fieldT Tryz.prog 86 0 = some (false, 0, 1) := by kernel_rfl
theorem fld86_1 : fieldT Tryz.prog 86 1 = some (false, 1, 1) := by kernel_rfl
-- 87: (machine.thing, bool)
theorem lay87 : layT Tryz.prog 87 = some (false, 1) := by kernel_rfl
theorem con87 : concT Tryz.prog 87 = true := by kernel_rfl
-- 88: func(api.Term, *machine.env) (machine.thing, bool)
theorem lay88 : layT Tryz.prog 88 = some (false, 1) := by kernel_rfl
theorem zer88 : zeroT Tryz.prog 88 = some [.v (.prim .nilFunc)] := by kernel_rfl
theorem con88 : concT Tryz.prog 88 = true := by kernel_rfl
-- 89: func(machine.thing, ...machine.thing) (machine.thing, bool)
theorem lay89 : layT Tryz.prog 89 = some (false, 1) := by kernel_rfl
theorem zer89 : zeroT Tryz.prog 89 = some [.v (.prim .nilFunc)] := by kernel_rfl
theorem con89 : concT Tryz.prog 89 = true := by kernel_rfl
-- 90: func(machine.thing) api.Value
theorem lay90 : layT Tryz.prog 90 = some (false, 1) := by kernel_rfl
theorem zer90 : zeroT Tryz.prog 90 = some [.v (.prim .nilFunc)] := by kernel_rfl
theorem con90 : concT Tryz.prog 90 = true := by kernel_rfl
-- 91: func(api.Term) bool
theorem lay91 : layT Tryz.prog 91 = some (false, 1) := by kernel_rfl
theorem zer91 : zeroT Tryz.prog 91 = some [.v (.prim .nilFunc)] := by kernel_rfl
theorem con91 : concT Tryz.prog 91 = true := by kernel_rfl
-- 92: (int, bool)
theorem lay92 : layT Tryz.prog 92 = some (false, 1) := by kernel_rfl
theorem con92 : concT Tryz.prog 92 = true := by kernel_rfl
-- 93: func(api.Term) (int, bool)
theorem lay93 : layT Tryz.prog 93 = some (false, 1) := by kernel_rfl
theorem zer93 : zeroT Tryz.prog 93 = some [.v (.prim .nilFunc)] := by kernel_rfl
theorem con93 : concT Tryz.prog 93 = true := by kernel_rfl
-- 94: func([]api.Type) api.Errno
theorem lay94 : layT Tryz.prog 94 = some (false, 1) := by kernel_rfl
theorem zer94 : zeroT Tryz.prog 94 = some [.v (.prim .nilFunc)] := by kernel_rfl
theorem con94 : concT Tryz.prog 94 = true := by kernel_rfl
-- 95: struct { api.Type; nodes int }
theorem lay95 : layT Tryz.prog 95 = some (true, 3) := by kernel_rfl
theorem zer95 : zeroT Tryz.prog 95 = some [.v (.prim (.int .i64 (0))), .own 0 [], .v (.prim (.int .i64 (0)))] := by kernel_rfl
theorem pla95 : placesT Tryz.prog 95 = some [(0, 2), (2, 1)] := by kernel_rfl
theorem con95 : concT Tryz.prog 95 = true := by kernel_rfl
theorem fld95_0 : fieldT Tryz.prog 95 0 = some (true, 0, 2) := by kernel_rfl
theorem fld95_1 : fieldT Tryz.prog 95 1 = some (false, 2, 1) := by kernel_rfl
-- 96: typing.Sized
theorem lay96 : layT Tryz.prog 96 = some (true, 3) := by kernel_rfl
theorem zer96 : zeroT Tryz.prog 96 = some [.v (.prim (.int .i64 (0))), .own 0 [], .v (.prim (.int .i64 (0)))] := by kernel_rfl
theorem pla96 : placesT Tryz.prog 96 = some [(0, 2), (2, 1)] := by kernel_rfl
theorem con96 : concT Tryz.prog 96 = true := by kernel_rfl
theorem fld96_0 : fieldT Tryz.prog 96 0 = some (true, 0, 2) := by kernel_rfl
theorem fld96_1 : fieldT Tryz.prog 96 1 = some (false, 2, 1) := by kernel_rfl
-- 97: (typing.Sized, api.Errno)
theorem lay97 : layT Tryz.prog 97 = some (false, 1) := by kernel_rfl
theorem con97 : concT Tryz.prog 97 = true := by kernel_rfl
-- 98: []typing.Sized
theorem lay98 : layT Tryz.prog 98 = some (false, 1) := by kernel_rfl
theorem zer98 : zeroT Tryz.prog 98 = some [.own 0 []] := by kernel_rfl
theorem ele98 : elemT Tryz.prog 98 = some 3 := by kernel_rfl
theorem elz98 : elemZ Tryz.prog 98 = some (3, 40) := by kernel_rfl
theorem con98 : concT Tryz.prog 98 = true := by kernel_rfl
-- 99: typing.Context
theorem lay99 : layT Tryz.prog 99 = some (false, 1) := by kernel_rfl
theorem zer99 : zeroT Tryz.prog 99 = some [.own 0 []] := by kernel_rfl
theorem ele99 : elemT Tryz.prog 99 = some 3 := by kernel_rfl
theorem elz99 : elemZ Tryz.prog 99 = some (3, 40) := by kernel_rfl
theorem con99 : concT Tryz.prog 99 = true := by kernel_rfl
-- 100: func([]api.Type) typing.Context
theorem lay100 : layT Tryz.prog 100 = some (false, 1) := by kernel_rfl
theorem zer100 : zeroT Tryz.prog 100 = some [.v (.prim .nilFunc)] := by kernel_rfl
theorem con100 : concT Tryz.prog 100 = true := by kernel_rfl
-- 101: func(api.Term) (typing.Sized, api.Errno)
theorem lay101 : layT Tryz.prog 101 = some (false, 1) := by kernel_rfl
theorem zer101 : zeroT Tryz.prog 101 = some [.v (.prim .nilFunc)] := by kernel_rfl
theorem con101 : concT Tryz.prog 101 = true := by kernel_rfl
-- 102: func(api.Value) api.Errno
theorem lay102 : layT Tryz.prog 102 = some (false, 1) := by kernel_rfl
theorem zer102 : zeroT Tryz.prog 102 = some [.v (.prim .nilFunc)] := by kernel_rfl
theorem con102 : concT Tryz.prog 102 = true := by kernel_rfl
-- 103: func(api.Value) api.Type
theorem lay103 : layT Tryz.prog 103 = some (false, 1) := by kernel_rfl
theorem zer103 : zeroT Tryz.prog 103 = some [.v (.prim .nilFunc)] := by kernel_rfl
theorem con103 : concT Tryz.prog 103 = true := by kernel_rfl
-- 104: *machine.cell
theorem lay104 : layT Tryz.prog 104 = some (false, 1) := by kernel_rfl
theorem zer104 : zeroT Tryz.prog 104 = some [.v (.prim (.pointer none))] := by kernel_rfl
theorem ptr104 : ptrT Tryz.prog 104 = true := by kernel_rfl
theorem zrp104 : zeroP Tryz.prog 104 = some (.pointer none) := by kernel_rfl
theorem con104 : concT Tryz.prog 104 = true := by kernel_rfl
-- 105: func(func(int, int) bool)
theorem lay105 : layT Tryz.prog 105 = some (false, 1) := by kernel_rfl
theorem zer105 : zeroT Tryz.prog 105 = some [.v (.prim .nilFunc)] := by kernel_rfl
theorem con105 : concT Tryz.prog 105 = true := by kernel_rfl
-- 106: iter.Seq2[int,int]
theorem lay106 : layT Tryz.prog 106 = some (false, 1) := by kernel_rfl
theorem zer106 : zeroT Tryz.prog 106 = some [.v (.prim .nilFunc)] := by kernel_rfl
theorem con106 : concT Tryz.prog 106 = true := by kernel_rfl
-- 107: func([]int) iter.Seq2[int,int]
theorem lay107 : layT Tryz.prog 107 = some (false, 1) := by kernel_rfl
theorem zer107 : zeroT Tryz.prog 107 = some [.v (.prim .nilFunc)] := by kernel_rfl
theorem con107 : concT Tryz.prog 107 = true := by kernel_rfl
-- 108: struct { head int; tail *machine.cell }
theorem lay108 : layT Tryz.prog 108 = some (true, 2) := by kernel_rfl
theorem zer108 : zeroT Tryz.prog 108 = some [.v (.prim (.int .i64 (0))), .v (.prim (.pointer none))] := by kernel_rfl
theorem pla108 : placesT Tryz.prog 108 = some [(0, 1), (1, 1)] := by kernel_rfl
theorem con108 : concT Tryz.prog 108 = true := by kernel_rfl
theorem fld108_0 : fieldT Tryz.prog 108 0 = some (false, 0, 1) := by kernel_rfl
theorem fld108_1 : fieldT Tryz.prog 108 1 = some (false, 1, 1) := by kernel_rfl
-- 109: machine.cell
theorem lay109 : layT Tryz.prog 109 = some (true, 2) := by kernel_rfl
theorem zer109 : zeroT Tryz.prog 109 = some [.v (.prim (.int .i64 (0))), .v (.prim (.pointer none))] := by kernel_rfl
theorem pla109 : placesT Tryz.prog 109 = some [(0, 1), (1, 1)] := by kernel_rfl
theorem con109 : concT Tryz.prog 109 = true := by kernel_rfl
theorem fld109_0 : fieldT Tryz.prog 109 0 = some (false, 0, 1) := by kernel_rfl
theorem fld109_1 : fieldT Tryz.prog 109 1 = some (false, 1, 1) := by kernel_rfl
-- 110: *machine.both
theorem lay110 : layT Tryz.prog 110 = some (false, 1) := by kernel_rfl
theorem zer110 : zeroT Tryz.prog 110 = some [.v (.prim (.pointer none))] := by kernel_rfl
theorem ptr110 : ptrT Tryz.prog 110 = true := by kernel_rfl
theorem zrp110 : zeroP Tryz.prog 110 = some (.pointer none) := by kernel_rfl
theorem con110 : concT Tryz.prog 110 = true := by kernel_rfl
-- 111: struct { first machine.thing; second machine.thing }
theorem lay111 : layT Tryz.prog 111 = some (true, 2) := by kernel_rfl
theorem zer111 : zeroT Tryz.prog 111 = some [.v (.prim .nilIface), .v (.prim .nilIface)] := by kernel_rfl
theorem pla111 : placesT Tryz.prog 111 = some [(0, 1), (1, 1)] := by kernel_rfl
theorem con111 : concT Tryz.prog 111 = true := by kernel_rfl
theorem fld111_0 : fieldT Tryz.prog 111 0 = some (false, 0, 1) := by kernel_rfl
theorem fld111_1 : fieldT Tryz.prog 111 1 = some (false, 1, 1) := by kernel_rfl
-- 112: machine.both
theorem lay112 : layT Tryz.prog 112 = some (true, 2) := by kernel_rfl
theorem zer112 : zeroT Tryz.prog 112 = some [.v (.prim .nilIface), .v (.prim .nilIface)] := by kernel_rfl
theorem pla112 : placesT Tryz.prog 112 = some [(0, 1), (1, 1)] := by kernel_rfl
theorem con112 : concT Tryz.prog 112 = true := by kernel_rfl
theorem fld112_0 : fieldT Tryz.prog 112 0 = some (false, 0, 1) := by kernel_rfl
theorem fld112_1 : fieldT Tryz.prog 112 1 = some (false, 1, 1) := by kernel_rfl
-- 113: struct {}
theorem lay113 : layT Tryz.prog 113 = some (true, 0) := by kernel_rfl
theorem zer113 : zeroT Tryz.prog 113 = some [] := by kernel_rfl
theorem pla113 : placesT Tryz.prog 113 = some [] := by kernel_rfl
theorem con113 : concT Tryz.prog 113 = true := by kernel_rfl
-- 114: machine.unit
theorem lay114 : layT Tryz.prog 114 = some (true, 0) := by kernel_rfl
theorem zer114 : zeroT Tryz.prog 114 = some [] := by kernel_rfl
theorem pla114 : placesT Tryz.prog 114 = some [] := by kernel_rfl
theorem con114 : concT Tryz.prog 114 = true := by kernel_rfl
-- 115: func(api.Type) api.Errno
theorem lay115 : layT Tryz.prog 115 = some (false, 1) := by kernel_rfl
theorem zer115 : zeroT Tryz.prog 115 = some [.v (.prim .nilFunc)] := by kernel_rfl
theorem con115 : concT Tryz.prog 115 = true := by kernel_rfl
-- 116: func(func(api.Type) bool)
theorem lay116 : layT Tryz.prog 116 = some (false, 1) := by kernel_rfl
theorem zer116 : zeroT Tryz.prog 116 = some [.v (.prim .nilFunc)] := by kernel_rfl
theorem con116 : concT Tryz.prog 116 = true := by kernel_rfl
-- 117: iter.Seq[proofprograms/api.Type]
theorem lay117 : layT Tryz.prog 117 = some (false, 1) := by kernel_rfl
theorem zer117 : zeroT Tryz.prog 117 = some [.v (.prim .nilFunc)] := by kernel_rfl
theorem con117 : concT Tryz.prog 117 = true := by kernel_rfl
-- 118: func(api.Type) iter.Seq[proofprograms/api.Type]
theorem lay118 : layT Tryz.prog 118 = some (false, 1) := by kernel_rfl
theorem zer118 : zeroT Tryz.prog 118 = some [.v (.prim .nilFunc)] := by kernel_rfl
theorem con118 : concT Tryz.prog 118 = true := by kernel_rfl
-- 119: *machine.env
theorem lay119 : layT Tryz.prog 119 = some (false, 1) := by kernel_rfl
theorem zer119 : zeroT Tryz.prog 119 = some [.v (.prim (.pointer none))] := by kernel_rfl
theorem ptr119 : ptrT Tryz.prog 119 = true := by kernel_rfl
theorem zrp119 : zeroP Tryz.prog 119 = some (.pointer none) := by kernel_rfl
theorem con119 : concT Tryz.prog 119 = true := by kernel_rfl
-- 120: func(int) machine.thing
theorem lay120 : layT Tryz.prog 120 = some (false, 1) := by kernel_rfl
theorem zer120 : zeroT Tryz.prog 120 = some [.v (.prim .nilFunc)] := by kernel_rfl
theorem con120 : concT Tryz.prog 120 = true := by kernel_rfl
-- 121: *machine.closure
theorem lay121 : layT Tryz.prog 121 = some (false, 1) := by kernel_rfl
theorem zer121 : zeroT Tryz.prog 121 = some [.v (.prim (.pointer none))] := by kernel_rfl
theorem ptr121 : ptrT Tryz.prog 121 = true := by kernel_rfl
theorem zrp121 : zeroP Tryz.prog 121 = some (.pointer none) := by kernel_rfl
theorem con121 : concT Tryz.prog 121 = true := by kernel_rfl
-- 122: struct { body api.Term; env *machine.env }
theorem lay122 : layT Tryz.prog 122 = some (true, 6) := by kernel_rfl
theorem zer122 : zeroT Tryz.prog 122 = some [.v (.prim (.int .i64 (0))), .v (.prim (.int .i64 (0))), .v (.prim (.int .i64 (0))), .own 0 [], .own 0 [], .v (.prim (.pointer none))] := by kernel_rfl
theorem pla122 : placesT Tryz.prog 122 = some [(0, 5), (5, 1)] := by kernel_rfl
theorem con122 : concT Tryz.prog 122 = true := by kernel_rfl
theorem fld122_0 : fieldT Tryz.prog 122 0 = some (true, 0, 5) := by kernel_rfl
theorem fld122_1 : fieldT Tryz.prog 122 1 = some (false, 5, 1) := by kernel_rfl
-- 123: machine.closure
theorem lay123 : layT Tryz.prog 123 = some (true, 6) := by kernel_rfl
theorem zer123 : zeroT Tryz.prog 123 = some [.v (.prim (.int .i64 (0))), .v (.prim (.int .i64 (0))), .v (.prim (.int .i64 (0))), .own 0 [], .own 0 [], .v (.prim (.pointer none))] := by kernel_rfl
theorem pla123 : placesT Tryz.prog 123 = some [(0, 5), (5, 1)] := by kernel_rfl
theorem con123 : concT Tryz.prog 123 = true := by kernel_rfl
theorem fld123_0 : fieldT Tryz.prog 123 0 = some (true, 0, 5) := by kernel_rfl
theorem fld123_1 : fieldT Tryz.prog 123 1 = some (false, 5, 1) := by kernel_rfl
-- 124: [3]machine.thing
theorem lay124 : layT Tryz.prog 124 = some (true, 3) := by kernel_rfl
theorem zer124 : zeroT Tryz.prog 124 = some [.v (.prim .nilIface), .v (.prim .nilIface), .v (.prim .nilIface)] := by kernel_rfl
theorem eln124 : elemT Tryz.prog 124 = none := by kernel_rfl
theorem arr124 : arrT Tryz.prog 124 = some (3, 1) := by kernel_rfl
theorem pla124 : placesT Tryz.prog 124 = some [(0, 1), (1, 1), (2, 1)] := by kernel_rfl
theorem con124 : concT Tryz.prog 124 = true := by kernel_rfl
-- 125: ([3]machine.thing, bool)
theorem lay125 : layT Tryz.prog 125 = some (false, 1) := by kernel_rfl
theorem con125 : concT Tryz.prog 125 = true := by kernel_rfl
-- 126: func([]api.Term, *machine.env) ([3]machine.thing, bool)
theorem lay126 : layT Tryz.prog 126 = some (false, 1) := by kernel_rfl
theorem zer126 : zeroT Tryz.prog 126 = some [.v (.prim .nilFunc)] := by kernel_rfl
theorem con126 : concT Tryz.prog 126 = true := by kernel_rfl
-- 127: func([3]machine.thing) (machine.thing, bool)
theorem lay127 : layT Tryz.prog 127 = some (false, 1) := by kernel_rfl
theorem zer127 : zeroT Tryz.prog 127 = some [.v (.prim .nilFunc)] := by kernel_rfl
theorem con127 : concT Tryz.prog 127 = true := by kernel_rfl
-- 128: struct { value machine.thing; next *machine.env }
theorem lay128 : layT Tryz.prog 128 = some (true, 2) := by kernel_rfl
theorem zer128 : zeroT Tryz.prog 128 = some [.v (.prim .nilIface), .v (.prim (.pointer none))] := by kernel_rfl
theorem pla128 : placesT Tryz.prog 128 = some [(0, 1), (1, 1)] := by kernel_rfl
theorem con128 : concT Tryz.prog 128 = true := by kernel_rfl
theorem fld128_0 : fieldT Tryz.prog 128 0 = some (false, 0, 1) := by kernel_rfl
theorem fld128_1 : fieldT Tryz.prog 128 1 = some (false, 1, 1) := by kernel_rfl
-- 129: machine.env
theorem lay129 : layT Tryz.prog 129 = some (true, 2) := by kernel_rfl
theorem zer129 : zeroT Tryz.prog 129 = some [.v (.prim .nilIface), .v (.prim (.pointer none))] := by kernel_rfl
theorem pla129 : placesT Tryz.prog 129 = some [(0, 1), (1, 1)] := by kernel_rfl
theorem con129 : concT Tryz.prog 129 = true := by kernel_rfl
theorem fld129_0 : fieldT Tryz.prog 129 0 = some (false, 0, 1) := by kernel_rfl
theorem fld129_1 : fieldT Tryz.prog 129 1 = some (false, 1, 1) := by kernel_rfl
-- 130: func(api.Type) bool
theorem lay130 : layT Tryz.prog 130 = some (false, 1) := by kernel_rfl
theorem zer130 : zeroT Tryz.prog 130 = some [.v (.prim .nilFunc)] := by kernel_rfl
theorem con130 : concT Tryz.prog 130 = true := by kernel_rfl
-- 131: func(api.Term, int) int
theorem lay131 : layT Tryz.prog 131 = some (false, 1) := by kernel_rfl
theorem zer131 : zeroT Tryz.prog 131 = some [.v (.prim .nilFunc)] := by kernel_rfl
theorem con131 : concT Tryz.prog 131 = true := by kernel_rfl
-- 132: func(api.Term, int, int, api.Term) api.Term
theorem lay132 : layT Tryz.prog 132 = some (false, 1) := by kernel_rfl
theorem zer132 : zeroT Tryz.prog 132 = some [.v (.prim .nilFunc)] := by kernel_rfl
theorem con132 : concT Tryz.prog 132 = true := by kernel_rfl
-- 133: (int, api.Errno)
theorem lay133 : layT Tryz.prog 133 = some (false, 1) := by kernel_rfl
theorem con133 : concT Tryz.prog 133 = true := by kernel_rfl
-- 134: func(api.Term) (int, api.Errno)
theorem lay134 : layT Tryz.prog 134 = some (false, 1) := by kernel_rfl
theorem zer134 : zeroT Tryz.prog 134 = some [.v (.prim .nilFunc)] := by kernel_rfl
theorem con134 : concT Tryz.prog 134 = true := by kernel_rfl
-- 135: func(api.Type) typing.Sized
theorem lay135 : layT Tryz.prog 135 = some (false, 1) := by kernel_rfl
theorem zer135 : zeroT Tryz.prog 135 = some [.v (.prim .nilFunc)] := by kernel_rfl
theorem con135 : concT Tryz.prog 135 = true := by kernel_rfl
-- 136: func(int, typing.Sized, typing.Sized) (typing.Sized, api.Errno)
theorem lay136 : layT Tryz.prog 136 = some (false, 1) := by kernel_rfl
theorem zer136 : zeroT Tryz.prog 136 = some [.v (.prim .nilFunc)] := by kernel_rfl
theorem con136 : concT Tryz.prog 136 = true := by kernel_rfl
-- 137: [3]typing.Sized
theorem lay137 : layT Tryz.prog 137 = some (true, 9) := by kernel_rfl
theorem zer137 : zeroT Tryz.prog 137 = some [.v (.prim (.int .i64 (0))), .own 0 [], .v (.prim (.int .i64 (0))), .v (.prim (.int .i64 (0))), .own 0 [], .v (.prim (.int .i64 (0))), .v (.prim (.int .i64 (0))), .own 0 [], .v (.prim (.int .i64 (0)))] := by kernel_rfl
theorem eln137 : elemT Tryz.prog 137 = none := by kernel_rfl
theorem arr137 : arrT Tryz.prog 137 = some (3, 3) := by kernel_rfl
theorem pla137 : placesT Tryz.prog 137 = some [(0, 3), (3, 3), (6, 3)] := by kernel_rfl
theorem con137 : concT Tryz.prog 137 = true := by kernel_rfl
-- 138: func(api.Term, [3]typing.Sized) (typing.Sized, api.Errno)
theorem lay138 : layT Tryz.prog 138 = some (false, 1) := by kernel_rfl
theorem zer138 : zeroT Tryz.prog 138 = some [.v (.prim .nilFunc)] := by kernel_rfl
theorem con138 : concT Tryz.prog 138 = true := by kernel_rfl
-- 139: func(api.Value) (int, bool)
theorem lay139 : layT Tryz.prog 139 = some (false, 1) := by kernel_rfl
theorem zer139 : zeroT Tryz.prog 139 = some [.v (.prim .nilFunc)] := by kernel_rfl
theorem con139 : concT Tryz.prog 139 = true := by kernel_rfl
-- 140: func(int, int) bool
theorem lay140 : layT Tryz.prog 140 = some (false, 1) := by kernel_rfl
theorem zer140 : zeroT Tryz.prog 140 = some [.v (.prim .nilFunc)] := by kernel_rfl
theorem con140 : concT Tryz.prog 140 = true := by kernel_rfl
-- 141: func(api.Type) (int, api.Errno)
theorem lay141 : layT Tryz.prog 141 = some (false, 1) := by kernel_rfl
theorem zer141 : zeroT Tryz.prog 141 = some [.v (.prim .nilFunc)] := by kernel_rfl
theorem con141 : concT Tryz.prog 141 = true := by kernel_rfl
-- 142: []*machine.cell
theorem lay142 : layT Tryz.prog 142 = some (false, 1) := by kernel_rfl
theorem zer142 : zeroT Tryz.prog 142 = some [.own 0 []] := by kernel_rfl
theorem ele142 : elemT Tryz.prog 142 = some 1 := by kernel_rfl
theorem elz142 : elemZ Tryz.prog 142 = some (1, 8) := by kernel_rfl
theorem con142 : concT Tryz.prog 142 = true := by kernel_rfl
-- 143: func(func(int, *machine.cell) bool)
theorem lay143 : layT Tryz.prog 143 = some (false, 1) := by kernel_rfl
theorem zer143 : zeroT Tryz.prog 143 = some [.v (.prim .nilFunc)] := by kernel_rfl
theorem con143 : concT Tryz.prog 143 = true := by kernel_rfl
-- 144: iter.Seq2[int,*proofprograms/machine.cell]
theorem lay144 : layT Tryz.prog 144 = some (false, 1) := by kernel_rfl
theorem zer144 : zeroT Tryz.prog 144 = some [.v (.prim .nilFunc)] := by kernel_rfl
theorem con144 : concT Tryz.prog 144 = true := by kernel_rfl
-- 145: func([]*machine.cell) iter.Seq2[int,*proofprograms/machine.cell]
theorem lay145 : layT Tryz.prog 145 = some (false, 1) := by kernel_rfl
theorem zer145 : zeroT Tryz.prog 145 = some [.v (.prim .nilFunc)] := by kernel_rfl
theorem con145 : concT Tryz.prog 145 = true := by kernel_rfl
-- 146: func(api.Type) int
theorem lay146 : layT Tryz.prog 146 = some (false, 1) := by kernel_rfl
theorem zer146 : zeroT Tryz.prog 146 = some [.v (.prim .nilFunc)] := by kernel_rfl
theorem con146 : concT Tryz.prog 146 = true := by kernel_rfl
-- 147: func(api.Term, int, int) api.Term
theorem lay147 : layT Tryz.prog 147 = some (false, 1) := by kernel_rfl
theorem zer147 : zeroT Tryz.prog 147 = some [.v (.prim .nilFunc)] := by kernel_rfl
theorem con147 : concT Tryz.prog 147 = true := by kernel_rfl
-- 148: func(int) []int
theorem lay148 : layT Tryz.prog 148 = some (false, 1) := by kernel_rfl
theorem zer148 : zeroT Tryz.prog 148 = some [.v (.prim .nilFunc)] := by kernel_rfl
theorem con148 : concT Tryz.prog 148 = true := by kernel_rfl
-- 149: func(int) bool
theorem lay149 : layT Tryz.prog 149 = some (false, 1) := by kernel_rfl
theorem zer149 : zeroT Tryz.prog 149 = some [.v (.prim .nilFunc)] := by kernel_rfl
theorem con149 : concT Tryz.prog 149 = true := by kernel_rfl
-- 150: func(int) typing.Sized
theorem lay150 : layT Tryz.prog 150 = some (false, 1) := by kernel_rfl
theorem zer150 : zeroT Tryz.prog 150 = some [.v (.prim .nilFunc)] := by kernel_rfl
theorem con150 : concT Tryz.prog 150 = true := by kernel_rfl
-- 151: func(typing.Sized) bool
theorem lay151 : layT Tryz.prog 151 = some (false, 1) := by kernel_rfl
theorem zer151 : zeroT Tryz.prog 151 = some [.v (.prim .nilFunc)] := by kernel_rfl
theorem con151 : concT Tryz.prog 151 = true := by kernel_rfl
-- 152: func(api.Term) api.Type
theorem lay152 : layT Tryz.prog 152 = some (false, 1) := by kernel_rfl
theorem zer152 : zeroT Tryz.prog 152 = some [.v (.prim .nilFunc)] := by kernel_rfl
theorem con152 : concT Tryz.prog 152 = true := by kernel_rfl
-- 153: func([]int, func(int) bool) bool
theorem lay153 : layT Tryz.prog 153 = some (false, 1) := by kernel_rfl
theorem zer153 : zeroT Tryz.prog 153 = some [.v (.prim .nilFunc)] := by kernel_rfl
theorem con153 : concT Tryz.prog 153 = true := by kernel_rfl
-- 154: func(api.Type) (int, bool)
theorem lay154 : layT Tryz.prog 154 = some (false, 1) := by kernel_rfl
theorem zer154 : zeroT Tryz.prog 154 = some [.v (.prim .nilFunc)] := by kernel_rfl
theorem con154 : concT Tryz.prog 154 = true := by kernel_rfl
-- 155: func(int, *machine.cell) bool
theorem lay155 : layT Tryz.prog 155 = some (false, 1) := by kernel_rfl
theorem zer155 : zeroT Tryz.prog 155 = some [.v (.prim .nilFunc)] := by kernel_rfl
theorem con155 : concT Tryz.prog 155 = true := by kernel_rfl
-- 156: func(int) (int, bool)
theorem lay156 : layT Tryz.prog 156 = some (false, 1) := by kernel_rfl
theorem zer156 : zeroT Tryz.prog 156 = some [.v (.prim .nilFunc)] := by kernel_rfl
theorem con156 : concT Tryz.prog 156 = true := by kernel_rfl
-- 157: func(api.Type, ...api.Type) api.Type
theorem lay157 : layT Tryz.prog 157 = some (false, 1) := by kernel_rfl
theorem zer157 : zeroT Tryz.prog 157 = some [.v (.prim .nilFunc)] := by kernel_rfl
theorem con157 : concT Tryz.prog 157 = true := by kernel_rfl
-- 158: func([]int, func(int) bool) int
theorem lay158 : layT Tryz.prog 158 = some (false, 1) := by kernel_rfl
theorem zer158 : zeroT Tryz.prog 158 = some [.v (.prim .nilFunc)] := by kernel_rfl
theorem con158 : concT Tryz.prog 158 = true := by kernel_rfl
-- 159: [14]int
theorem lay159 : layT Tryz.prog 159 = some (true, 14) := by kernel_rfl
theorem zer159 : zeroT Tryz.prog 159 = some [.v (.prim (.int .i64 (0))), .v (.prim (.int .i64 (0))), .v (.prim (.int .i64 (0))), .v (.prim (.int .i64 (0))), .v (.prim (.int .i64 (0))), .v (.prim (.int .i64 (0))), .v (.prim (.int .i64 (0))), .v (.prim (.int .i64 (0))), .v (.prim (.int .i64 (0))), .v (.prim (.int .i64 (0))), .v (.prim (.int .i64 (0))), .v (.prim (.int .i64 (0))), .v (.prim (.int .i64 (0))), .v (.prim (.int .i64 (0)))] := by kernel_rfl
theorem eln159 : elemT Tryz.prog 159 = none := by kernel_rfl
theorem arr159 : arrT Tryz.prog 159 = some (14, 1) := by kernel_rfl
theorem pla159 : placesT Tryz.prog 159 = some [(0, 1), (1, 1), (2, 1), (3, 1), (4, 1), (5, 1), (6, 1), (7, 1), (8, 1), (9, 1), (10, 1), (11, 1), (12, 1), (13, 1)] := by kernel_rfl
theorem con159 : concT Tryz.prog 159 = true := by kernel_rfl
-- 160: func() string
theorem lay160 : layT Tryz.prog 160 = some (false, 1) := by kernel_rfl
theorem zer160 : zeroT Tryz.prog 160 = some [.v (.prim .nilFunc)] := by kernel_rfl
theorem con160 : concT Tryz.prog 160 = true := by kernel_rfl
-- 161: struct { _interface *abi.Type; concrete *abi.Type; asserted *abi.Type; missingMethod string }
theorem lay161 : layT Tryz.prog 161 = some (true, 4) := by kernel_rfl
theorem zer161 : zeroT Tryz.prog 161 = some [.v (.prim (.pointer none)), .v (.prim (.pointer none)), .v (.prim (.pointer none)), .v (.prim (.string ByteArray.empty))] := by kernel_rfl
theorem pla161 : placesT Tryz.prog 161 = some [(0, 1), (1, 1), (2, 1), (3, 1)] := by kernel_rfl
theorem con161 : concT Tryz.prog 161 = true := by kernel_rfl
theorem fld161_0 : fieldT Tryz.prog 161 0 = some (false, 0, 1) := by kernel_rfl
theorem fld161_1 : fieldT Tryz.prog 161 1 = some (false, 1, 1) := by kernel_rfl
theorem fld161_2 : fieldT Tryz.prog 161 2 = some (false, 2, 1) := by kernel_rfl
theorem fld161_3 : fieldT Tryz.prog 161 3 = some (false, 3, 1) := by kernel_rfl
-- 162: runtime.TypeAssertionError
theorem lay162 : layT Tryz.prog 162 = some (true, 4) := by kernel_rfl
theorem zer162 : zeroT Tryz.prog 162 = some [.v (.prim (.pointer none)), .v (.prim (.pointer none)), .v (.prim (.pointer none)), .v (.prim (.string ByteArray.empty))] := by kernel_rfl
theorem pla162 : placesT Tryz.prog 162 = some [(0, 1), (1, 1), (2, 1), (3, 1)] := by kernel_rfl
theorem con162 : concT Tryz.prog 162 = true := by kernel_rfl
theorem fld162_0 : fieldT Tryz.prog 162 0 = some (false, 0, 1) := by kernel_rfl
theorem fld162_1 : fieldT Tryz.prog 162 1 = some (false, 1, 1) := by kernel_rfl
theorem fld162_2 : fieldT Tryz.prog 162 2 = some (false, 2, 1) := by kernel_rfl
theorem fld162_3 : fieldT Tryz.prog 162 3 = some (false, 3, 1) := by kernel_rfl
-- 163: [0]*runtime.PanicNilError
theorem lay163 : layT Tryz.prog 163 = some (true, 0) := by kernel_rfl
theorem zer163 : zeroT Tryz.prog 163 = some [] := by kernel_rfl
theorem eln163 : elemT Tryz.prog 163 = none := by kernel_rfl
theorem arr163 : arrT Tryz.prog 163 = some (0, 1) := by kernel_rfl
theorem pla163 : placesT Tryz.prog 163 = some [] := by kernel_rfl
theorem con163 : concT Tryz.prog 163 = true := by kernel_rfl
-- 164: struct { _ [0]*runtime.PanicNilError }
theorem lay164 : layT Tryz.prog 164 = some (true, 0) := by kernel_rfl
theorem zer164 : zeroT Tryz.prog 164 = some [] := by kernel_rfl
theorem pla164 : placesT Tryz.prog 164 = some [(0, 0)] := by kernel_rfl
theorem con164 : concT Tryz.prog 164 = true := by kernel_rfl
-- 165: runtime.PanicNilError
theorem lay165 : layT Tryz.prog 165 = some (true, 0) := by kernel_rfl
theorem zer165 : zeroT Tryz.prog 165 = some [] := by kernel_rfl
theorem pla165 : placesT Tryz.prog 165 = some [(0, 0)] := by kernel_rfl
theorem con165 : concT Tryz.prog 165 = true := by kernel_rfl
-- 166: func() int
theorem lay166 : layT Tryz.prog 166 = some (false, 1) := by kernel_rfl
theorem zer166 : zeroT Tryz.prog 166 = some [.v (.prim .nilFunc)] := by kernel_rfl
theorem con166 : concT Tryz.prog 166 = true := by kernel_rfl
-- 167: uint32
theorem lay167 : layT Tryz.prog 167 = some (false, 1) := by kernel_rfl
theorem zer167 : zeroT Tryz.prog 167 = some [.v (.prim (.int .u32 (0)))] := by kernel_rfl
theorem zrp167 : zeroP Tryz.prog 167 = some (.int .u32 (0)) := by kernel_rfl
theorem con167 : concT Tryz.prog 167 = true := by kernel_rfl
theorem int167 : intT Tryz.prog 167 = some .u32 := by kernel_rfl
-- 168: abi.TFlag
theorem lay168 : layT Tryz.prog 168 = some (false, 1) := by kernel_rfl
theorem zer168 : zeroT Tryz.prog 168 = some [.v (.prim (.int .u8 (0)))] := by kernel_rfl
theorem zrp168 : zeroP Tryz.prog 168 = some (.int .u8 (0)) := by kernel_rfl
theorem con168 : concT Tryz.prog 168 = true := by kernel_rfl
theorem int168 : intT Tryz.prog 168 = some .u8 := by kernel_rfl
-- 169: abi.Kind
theorem lay169 : layT Tryz.prog 169 = some (false, 1) := by kernel_rfl
theorem zer169 : zeroT Tryz.prog 169 = some [.v (.prim (.int .u8 (0)))] := by kernel_rfl
theorem zrp169 : zeroP Tryz.prog 169 = some (.int .u8 (0)) := by kernel_rfl
theorem con169 : concT Tryz.prog 169 = true := by kernel_rfl
theorem int169 : intT Tryz.prog 169 = some .u8 := by kernel_rfl
-- 170: func(unsafe.Pointer, unsafe.Pointer) bool
theorem lay170 : layT Tryz.prog 170 = some (false, 1) := by kernel_rfl
theorem zer170 : zeroT Tryz.prog 170 = some [.v (.prim .nilFunc)] := by kernel_rfl
theorem con170 : concT Tryz.prog 170 = true := by kernel_rfl
-- 171: *uint8
theorem lay171 : layT Tryz.prog 171 = some (false, 1) := by kernel_rfl
theorem zer171 : zeroT Tryz.prog 171 = some [.v (.prim (.pointer none))] := by kernel_rfl
theorem ptr171 : ptrT Tryz.prog 171 = true := by kernel_rfl
theorem zrp171 : zeroP Tryz.prog 171 = some (.pointer none) := by kernel_rfl
theorem con171 : concT Tryz.prog 171 = true := by kernel_rfl
-- 172: abi.NameOff
theorem lay172 : layT Tryz.prog 172 = some (false, 1) := by kernel_rfl
theorem zer172 : zeroT Tryz.prog 172 = some [.v (.prim (.int .i32 (0)))] := by kernel_rfl
theorem zrp172 : zeroP Tryz.prog 172 = some (.int .i32 (0)) := by kernel_rfl
theorem con172 : concT Tryz.prog 172 = true := by kernel_rfl
theorem int172 : intT Tryz.prog 172 = some .i32 := by kernel_rfl
-- 173: abi.TypeOff
theorem lay173 : layT Tryz.prog 173 = some (false, 1) := by kernel_rfl
theorem zer173 : zeroT Tryz.prog 173 = some [.v (.prim (.int .i32 (0)))] := by kernel_rfl
theorem zrp173 : zeroP Tryz.prog 173 = some (.int .i32 (0)) := by kernel_rfl
theorem con173 : concT Tryz.prog 173 = true := by kernel_rfl
theorem int173 : intT Tryz.prog 173 = some .i32 := by kernel_rfl
-- 174: struct { Size_ uintptr; PtrBytes uintptr; Hash uint32; TFlag abi.TFlag; Align_ uint8; FieldAlign_ uint8; Kind_ abi.Kind; Equal func(unsafe.Pointer, unsafe.Pointer) bool; GCData *uint8; Str abi.NameOff; PtrToThis abi.TypeOff }
theorem lay174 : layT Tryz.prog 174 = some (true, 11) := by kernel_rfl
theorem zer174 : zeroT Tryz.prog 174 = some [.v (.prim (.int .u64 (0))), .v (.prim (.int .u64 (0))), .v (.prim (.int .u32 (0))), .v (.prim (.int .u8 (0))), .v (.prim (.int .u8 (0))), .v (.prim (.int .u8 (0))), .v (.prim (.int .u8 (0))), .v (.prim .nilFunc), .v (.prim (.pointer none)), .v (.prim (.int .i32 (0))), .v (.prim (.int .i32 (0)))] := by kernel_rfl
theorem pla174 : placesT Tryz.prog 174 = some [(0, 1), (1, 1), (2, 1), (3, 1), (4, 1), (5, 1), (6, 1), (7, 1), (8, 1), (9, 1), (10, 1)] := by kernel_rfl
theorem con174 : concT Tryz.prog 174 = true := by kernel_rfl
theorem fld174_0 : fieldT Tryz.prog 174 0 = some (false, 0, 1) := by kernel_rfl
theorem fld174_1 : fieldT Tryz.prog 174 1 = some (false, 1, 1) := by kernel_rfl
theorem fld174_2 : fieldT Tryz.prog 174 2 = some (false, 2, 1) := by kernel_rfl
theorem fld174_3 : fieldT Tryz.prog 174 3 = some (false, 3, 1) := by kernel_rfl
theorem fld174_4 : fieldT Tryz.prog 174 4 = some (false, 4, 1) := by kernel_rfl
theorem fld174_5 : fieldT Tryz.prog 174 5 = some (false, 5, 1) := by kernel_rfl
theorem fld174_6 : fieldT Tryz.prog 174 6 = some (false, 6, 1) := by kernel_rfl
theorem fld174_7 : fieldT Tryz.prog 174 7 = some (false, 7, 1) := by kernel_rfl
theorem fld174_8 : fieldT Tryz.prog 174 8 = some (false, 8, 1) := by kernel_rfl
theorem fld174_9 : fieldT Tryz.prog 174 9 = some (false, 9, 1) := by kernel_rfl
theorem fld174_10 : fieldT Tryz.prog 174 10 = some (false, 10, 1) := by kernel_rfl
-- 175: abi.Type
theorem lay175 : layT Tryz.prog 175 = some (true, 11) := by kernel_rfl
theorem zer175 : zeroT Tryz.prog 175 = some [.v (.prim (.int .u64 (0))), .v (.prim (.int .u64 (0))), .v (.prim (.int .u32 (0))), .v (.prim (.int .u8 (0))), .v (.prim (.int .u8 (0))), .v (.prim (.int .u8 (0))), .v (.prim (.int .u8 (0))), .v (.prim .nilFunc), .v (.prim (.pointer none)), .v (.prim (.int .i32 (0))), .v (.prim (.int .i32 (0)))] := by kernel_rfl
theorem pla175 : placesT Tryz.prog 175 = some [(0, 1), (1, 1), (2, 1), (3, 1), (4, 1), (5, 1), (6, 1), (7, 1), (8, 1), (9, 1), (10, 1)] := by kernel_rfl
theorem con175 : concT Tryz.prog 175 = true := by kernel_rfl
theorem fld175_0 : fieldT Tryz.prog 175 0 = some (false, 0, 1) := by kernel_rfl
theorem fld175_1 : fieldT Tryz.prog 175 1 = some (false, 1, 1) := by kernel_rfl
theorem fld175_2 : fieldT Tryz.prog 175 2 = some (false, 2, 1) := by kernel_rfl
theorem fld175_3 : fieldT Tryz.prog 175 3 = some (false, 3, 1) := by kernel_rfl
theorem fld175_4 : fieldT Tryz.prog 175 4 = some (false, 4, 1) := by kernel_rfl
theorem fld175_5 : fieldT Tryz.prog 175 5 = some (false, 5, 1) := by kernel_rfl
theorem fld175_6 : fieldT Tryz.prog 175 6 = some (false, 6, 1) := by kernel_rfl
theorem fld175_7 : fieldT Tryz.prog 175 7 = some (false, 7, 1) := by kernel_rfl
theorem fld175_8 : fieldT Tryz.prog 175 8 = some (false, 8, 1) := by kernel_rfl
theorem fld175_9 : fieldT Tryz.prog 175 9 = some (false, 9, 1) := by kernel_rfl
theorem fld175_10 : fieldT Tryz.prog 175 10 = some (false, 10, 1) := by kernel_rfl
-- 176: func(api.Formula) api.Errno
theorem lay176 : layT Tryz.prog 176 = some (false, 1) := by kernel_rfl
theorem zer176 : zeroT Tryz.prog 176 = some [.v (.prim .nilFunc)] := by kernel_rfl
theorem con176 : concT Tryz.prog 176 = true := by kernel_rfl
-- 177: unsafe.Pointer
theorem lay177 : layT Tryz.prog 177 = some (false, 1) := by kernel_rfl
theorem zer177 : zeroT Tryz.prog 177 = some [.v (.prim (.pointer none))] := by kernel_rfl
theorem zrp177 : zeroP Tryz.prog 177 = some (.pointer none) := by kernel_rfl
theorem con177 : concT Tryz.prog 177 = true := by kernel_rfl
-- 178: []api.Formula
theorem lay178 : layT Tryz.prog 178 = some (false, 1) := by kernel_rfl
theorem zer178 : zeroT Tryz.prog 178 = some [.own 0 []] := by kernel_rfl
theorem ele178 : elemT Tryz.prog 178 = some 5 := by kernel_rfl
theorem elz178 : elemZ Tryz.prog 178 = some (5, 88) := by kernel_rfl
theorem con178 : concT Tryz.prog 178 = true := by kernel_rfl
-- 179: struct { Kind int; Type api.Type; Terms []api.Term; Args []api.Formula }
theorem lay179 : layT Tryz.prog 179 = some (true, 5) := by kernel_rfl
theorem zer179 : zeroT Tryz.prog 179 = some [.v (.prim (.int .i64 (0))), .v (.prim (.int .i64 (0))), .own 0 [], .own 0 [], .own 0 []] := by kernel_rfl
theorem pla179 : placesT Tryz.prog 179 = some [(0, 1), (1, 2), (3, 1), (4, 1)] := by kernel_rfl
theorem con179 : concT Tryz.prog 179 = true := by kernel_rfl
theorem fld179_0 : fieldT Tryz.prog 179 0 = some (false, 0, 1) := by kernel_rfl
theorem fld179_1 : fieldT Tryz.prog 179 1 = some (true, 1, 2) := by kernel_rfl
theorem fld179_2 : fieldT Tryz.prog 179 2 = some (false, 3, 1) := by kernel_rfl
theorem fld179_3 : fieldT Tryz.prog 179 3 = some (false, 4, 1) := by kernel_rfl
-- 180: api.Formula
theorem lay180 : layT Tryz.prog 180 = some (true, 5) := by kernel_rfl
theorem zer180 : zeroT Tryz.prog 180 = some [.v (.prim (.int .i64 (0))), .v (.prim (.int .i64 (0))), .own 0 [], .own 0 [], .own 0 []] := by kernel_rfl
theorem pla180 : placesT Tryz.prog 180 = some [(0, 1), (1, 2), (3, 1), (4, 1)] := by kernel_rfl
theorem con180 : concT Tryz.prog 180 = true := by kernel_rfl
theorem fld180_0 : fieldT Tryz.prog 180 0 = some (false, 0, 1) := by kernel_rfl
theorem fld180_1 : fieldT Tryz.prog 180 1 = some (true, 1, 2) := by kernel_rfl
theorem fld180_2 : fieldT Tryz.prog 180 2 = some (false, 3, 1) := by kernel_rfl
theorem fld180_3 : fieldT Tryz.prog 180 3 = some (false, 4, 1) := by kernel_rfl

attribute [go_sem] lay0 con0 lay1 zer1 con1 lay2 zer2 zrp2 con2 int2 lay3 zer3 zrp3 con3 int3 lay4 zer4 boo4 con4 lay5 zer5 zrp5 con5 int5 lay6 zer6 zrp6 con6 int6 lay7 zer7 pla7 con7 fld7_0 fld7_1 fld7_2 fld7_3 lay8 zer8 pla8 con8 fld8_0 fld8_1 fld8_2 fld8_3 lay9 zer9 con9 lay10 zer10 con10 lay11 zer11 con11 lay12 zer12 zrp12 con12 int12 lay13 zer13 pla13 con13 fld13_0 fld13_1 lay14 zer14 pla14 con14 fld14_0 fld14_1 lay15 zer15 ptr15 zrp15 con15 lay16 zer16 ptr16 zrp16 con16 lay17 zer17 ptr17 zrp17 con17 lay18 zer18 pla18 con18 fld18_0 lay19 zer19 pla19 con19 fld19_0 lay20 zer20 lay21 zer21 zrp21 con21 int21 lay22 zer22 ele22 elz22 con22 lay23 zer23 con23 lay24 zer24 con24 lay25 zer25 ptr25 zrp25 con25 lay26 zer26 con26 lay27 zer27 ele27 elz27 con27 lay28 zer28 pla28 con28 fld28_0 fld28_1 lay29 zer29 pla29 con29 fld29_0 fld29_1 lay30 zer30 ele30 elz30 con30 lay31 zer31 pla31 con31 fld31_0 fld31_1 fld31_2 fld31_3 lay32 zer32 pla32 con32 fld32_0 fld32_1 fld32_2 fld32_3 lay33 zer33 con33 lay34 zer34 con34 lay35 zer35 ele35 elz35 con35 lay36 zer36 pla36 con36 fld36_0 fld36_1 fld36_2 fld36_3 lay37 zer37 pla37 con37 fld37_0 fld37_1 fld37_2 fld37_3 lay38 zer38 zrp38 con38 int38 lay39 con39 lay40 zer40 con40 lay41 con41 lay42 zer42 con42 lay43 con43 lay44 zer44 con44 lay45 zer45 con45 lay46 zer46 con46 lay47 zer47 pla47 con47 fld47_0 fld47_1 lay48 zer48 pla48 con48 fld48_0 fld48_1 lay49 zer49 con49 lay50 zer50 con50 lay51 zer51 con51 lay52 zer52 con52 lay53 zer53 con53 lay54 zer54 con54 lay55 zer55 con55 lay56 zer56 con56 lay57 zer57 con57 lay58 zer58 con58 lay59 zer59 con59 lay60 zer60 con60 lay61 zer61 con61 lay62 zer62 con62 lay63 con63 lay64 zer64 con64 lay65 zer65 con65 lay66 zer66 con66 lay67 con67 lay68 zer68 con68 lay69 zer69 con69 lay70 zer70 con70 lay71 zer71 con71 lay72 zer72 con72 lay73 con73 lay74 zer74 con74 lay75 zer75 con75 lay76 con76 lay77 zer77 con77 lay78 zer78 ele78 elz78 con78 lay79 zer79 con79 lay80 zer80 lay81 zer81 con81 lay82 con82 lay83 zer83 con83 lay84 zer84 ptr84 zrp84 con84 lay85 zer85 pla85 con85 fld85_0 fld85_1 lay86 zer86 pla86 con86 fld86_0 fld86_1 lay87 con87 lay88 zer88 con88 lay89 zer89 con89 lay90 zer90 con90 lay91 zer91 con91 lay92 con92 lay93 zer93 con93 lay94 zer94 con94 lay95 zer95 pla95 con95 fld95_0 fld95_1 lay96 zer96 pla96 con96 fld96_0 fld96_1 lay97 con97 lay98 zer98 ele98 elz98 con98 lay99 zer99 ele99 elz99 con99 lay100 zer100 con100 lay101 zer101 con101 lay102 zer102 con102 lay103 zer103 con103 lay104 zer104 ptr104 zrp104 con104 lay105 zer105 con105 lay106 zer106 con106 lay107 zer107 con107 lay108 zer108 pla108 con108 fld108_0 fld108_1 lay109 zer109 pla109 con109 fld109_0 fld109_1 lay110 zer110 ptr110 zrp110 con110 lay111 zer111 pla111 con111 fld111_0 fld111_1 lay112 zer112 pla112 con112 fld112_0 fld112_1 lay113 zer113 pla113 con113 lay114 zer114 pla114 con114 lay115 zer115 con115 lay116 zer116 con116 lay117 zer117 con117 lay118 zer118 con118 lay119 zer119 ptr119 zrp119 con119 lay120 zer120 con120 lay121 zer121 ptr121 zrp121 con121 lay122 zer122 pla122 con122 fld122_0 fld122_1 lay123 zer123 pla123 con123 fld123_0 fld123_1 lay124 zer124 eln124 arr124 pla124 con124 lay125 con125 lay126 zer126 con126 lay127 zer127 con127 lay128 zer128 pla128 con128 fld128_0 fld128_1 lay129 zer129 pla129 con129 fld129_0 fld129_1 lay130 zer130 con130 lay131 zer131 con131 lay132 zer132 con132 lay133 con133 lay134 zer134 con134 lay135 zer135 con135 lay136 zer136 con136 lay137 zer137 eln137 arr137 pla137 con137 lay138 zer138 con138 lay139 zer139 con139 lay140 zer140 con140 lay141 zer141 con141 lay142 zer142 ele142 elz142 con142 lay143 zer143 con143 lay144 zer144 con144 lay145 zer145 con145 lay146 zer146 con146 lay147 zer147 con147 lay148 zer148 con148 lay149 zer149 con149 lay150 zer150 con150 lay151 zer151 con151 lay152 zer152 con152 lay153 zer153 con153 lay154 zer154 con154 lay155 zer155 con155 lay156 zer156 con156 lay157 zer157 con157 lay158 zer158 con158 lay159 zer159 eln159 arr159 pla159 con159 lay160 zer160 con160 lay161 zer161 pla161 con161 fld161_0 fld161_1 fld161_2 fld161_3 lay162 zer162 pla162 con162 fld162_0 fld162_1 fld162_2 fld162_3 lay163 zer163 eln163 arr163 pla163 con163 lay164 zer164 pla164 con164 lay165 zer165 pla165 con165 lay166 zer166 con166 lay167 zer167 zrp167 con167 int167 lay168 zer168 zrp168 con168 int168 lay169 zer169 zrp169 con169 int169 lay170 zer170 con170 lay171 zer171 ptr171 zrp171 con171 lay172 zer172 zrp172 con172 int172 lay173 zer173 zrp173 con173 int173 lay174 zer174 pla174 con174 fld174_0 fld174_1 fld174_2 fld174_3 fld174_4 fld174_5 fld174_6 fld174_7 fld174_8 fld174_9 fld174_10 lay175 zer175 pla175 con175 fld175_0 fld175_1 fld175_2 fld175_3 fld175_4 fld175_5 fld175_6 fld175_7 fld175_8 fld175_9 fld175_10 lay176 zer176 con176 lay177 zer177 zrp177 con177 lay178 zer178 ele178 elz178 con178 lay179 zer179 pla179 con179 fld179_0 fld179_1 fld179_2 fld179_3 lay180 zer180 pla180 con180 fld180_0 fld180_1 fld180_2 fld180_3
end Go.Proofs.YtgfjcbofbbcnmaaGreatDoor.Lift

namespace Go.Proofs.YtgfjcbofbbcnmaaGreatDoor.Lift
set_option linter.unusedSimpArgs false
set_option linter.unusedVariables false
set_option linter.unnecessarySimpa false
open Go
variable {gl : Globs}

theorem ref01_copy_ok (t : Ty) : Con1 Tryz.prog gl 40 [t.dv] [] t.dv [] := by
  induction t using Ty.ind with
  | h t ih =>
  refine t_in Tryz.func40 ?_
  intro X hP hgl hf hfn hn hR hids hfit
  have htf : t.fit := (Ty.dv_fit t).1 (hfit _ (by simp))
  have hlen : t.args.length ≤ 2147483648 := ((Ty.fit_eq t).1 htf).2.1
  refine t_rg0 ?_
  refine t_rg0 ?_
  refine t_rg0 ?_
  refine t_a ?_
  refine W_sub [(1003, 0)] ?_ ?_ ?_ (W_list t.args (fun done rest => [(.slot 2, .one (.loc 2 0)), (.loc 2, .row [.v (dint 0), .own 0 []]), (.slot 1, .one (.loc 1 0)), (.loc 1, .row [.v (dint t.kind), .v (.sl (t.args.map Ty.cells))]),
      (.slot 3, .one (.own 1003 (done.map Ty.cells))), (.tok 1003, .tk 2 done.length), (.slot 7, .one (.v (.sl (t.args.map Ty.cells)))), (.slot 8, .one (.v (dint t.args.length))), (.slot 9, .one (.v (dint done.length)))]) ?_ ?_)
  · simp [go_sem]
  · simp [go_sem]
  · simp [go_sem]
  · intro done x rest hL hg hnext
    have hlt : done.length < t.args.length := by rw [hL]; simp
    refine t_rg0 ?_
    refine t_yes ?_
    refine t_rg @hg ?_
    refine t_a ?_
    first | refine W_reg [] fun K hK => ?_ | refine W_regd (by rw [hP]; exact mixed) [] fun K hK => ?_
    refine t_s0 ?_
    refine t_c trivial (ih x (List.mem_of_getElem? hg)) ?_
    refine t_e ?_
    clear hK K
    refine t_rg0 ?_
    refine t_b ?_
    refine t_sub [(1003, 17)] trivial hnext
  · refine t_rg0 ?_
    refine t_no ?_
    refine t_rg0 ?_
    refine t_r ?_
    simp [go_sem, hP, hgl, hn] <;> (try omega)

theorem ref01_same_ok (a b : Ty) : Con1 Tryz.prog gl 23 [a.dv, b.dv] [] (dbool (a.same b)) [] := by
  induction a using Ty.ind generalizing b with
  | h a ih =>
  refine t_in Tryz.func23 ?_
  intro X hP hgl hf hfn hn hR hids hfit
  have hfa : a.fit := (Ty.dv_fit a).1 (hfit _ (by simp))
  have hfb : b.fit := (Ty.dv_fit b).1 (hfit _ (by simp))
  have hla : a.args.length ≤ 2147483648 := ((Ty.fit_eq a).1 hfa).2.1
  have hlb : b.args.length ≤ 2147483648 := ((Ty.fit_eq b).1 hfb).2.1
  refine t_rg0 ?_
  by_cases hk : a.kind = b.kind
  · refine t_rg @hk ?_
    by_cases hl : a.args.length = b.args.length
    · refine t_a ?_
      refine W_cond rfl ?_ ?_
      · intro h; simp [hl] at h
      intro _
      refine t_rg0 ?_
      refine t_a ?_
      refine W_sub [] ?_ ?_ ?_ (W_upto a.args.length (fun i => ∀ (j : Nat) (x y : Ty), j < i → a.args[j]? = some x → b.args[j]? = some y → x.same y = true)
        (fun i => [(.slot 2, .one (.loc 2 0)), (.loc 2, .row [.v (dint a.kind), .v (.sl (a.args.map Ty.cells))]), (.slot 3, .one (.loc 3 0)), (.loc 3, .row [.v (dint b.kind), .v (.sl (b.args.map Ty.cells))]), (.slot 22, .one (.v (dint a.args.length))), (.slot 23, .one (.v (dint i)))]) (by intro j x y h; omega) ?_ ?_)
      · simp [go_sem]
      · simp [go_sem, hk, hl]
      · simp [go_sem]
      · intro i hi hI hnext
        obtain ⟨x, hx⟩ : ∃ x, a.args[i]? = some x := ⟨_, List.getElem?_eq_getElem hi⟩
        obtain ⟨y, hy⟩ : ∃ y, b.args[i]? = some y := ⟨_, List.getElem?_eq_getElem (by omega)⟩
        refine t_rg0 ?_
        refine t_yes ?_
        refine t_rg0 ?_
        refine t_a ?_
        first | refine W_reg [] fun K hK => ?_ | refine W_regd (by rw [hP]; exact mixed) [] fun K hK => ?_
        refine t_s (j2 @hx @hy) ?_
        refine t_c trivial (ih x (List.mem_of_getElem? hx) y) ?_
        refine t_e ?_
        clear hK K
        by_cases hs : x.same y = true
        · refine t_a ?_
          refine W_cond rfl ?_ ?_
          · intro h; simp [hs] at h
          intro _
          refine t_rg0 ?_
          refine t_b ?_
          refine t_sub [] trivial (hnext ?_)
          intro j x' y' hj hx' hy'
          by_cases hji : j = i
          · subst hji; rw [hx] at hx'; rw [hy] at hy'; cases hx'; cases hy'; exact hs
          · exact hI j x' y' (by omega) hx' hy'
        · refine t_a ?_
          refine W_cond rfl ?_ ?_
          rotate_left
          · intro h; simp [hs] at h
          intro _
          refine t_rg0 ?_
          refine t_r ?_
          simp [go_sem, hP, hgl, hn] <;> (try omega)
          refine Bool.eq_false_iff.2 ?_
          intro h
          rw [Ty.same_eq, Bool.and_eq_true, Ty.sames_iff] at h
          exact hs (h.2.2 i x y hx hy)
      · intro hI
        refine t_rg0 ?_
        refine t_no ?_
        refine t_rg0 ?_
        refine t_r ?_
        simp [go_sem, hP, hgl, hn] <;> (try omega)
        rw [Ty.same_eq, Bool.and_eq_true, Ty.sames_iff]
        exact ⟨by simp [hk], hl, fun i x y hx hy => hI i x y (List.getElem?_eq_some_iff.1 hx).1 hx hy⟩
    · refine t_a ?_
      refine W_cond rfl ?_ ?_
      rotate_left
      · intro h; simp at h; omega
      intro _
      refine t_rg0 ?_
      refine t_r ?_
      simp [go_sem, hP, hgl, hn] <;> (try omega)
      refine Bool.eq_false_iff.2 ?_
      intro h
      rw [Ty.same_eq, Bool.and_eq_true, Ty.sames_iff] at h
      exact hl h.2.1
  · refine t_rg @hk ?_
    refine t_a ?_
    refine W_cond rfl ?_ ?_
    rotate_left
    · intro h; simp at h
    intro _
    refine t_rg0 ?_
    refine t_r ?_
    simp [go_sem, hP, hgl, hn] <;> (try omega)
    simp [Ty.same_eq, hk]

theorem ref01_nat_ok : Con1 Tryz.prog gl 20 [] [] (Ty.mk 1 []).dv [] := by
  refine t_in Tryz.func20 ?_
  intro X hP hgl hf hfn hn hR hids hfit
  refine t_rg0 ?_
  refine t_rg0 ?_
  refine t_r ?_
  simp [go_sem, hP, hgl, hn] <;> (try omega)
  all_goals exact t_f

theorem ref01_list_ok : Con1 Tryz.prog gl 22 [] [] (Ty.mk 2 []).dv [] := by
  refine t_in Tryz.func22 ?_
  intro X hP hgl hf hfn hn hR hids hfit
  refine t_rg0 ?_
  refine t_rg0 ?_
  refine t_r ?_
  simp [go_sem, hP, hgl, hn] <;> (try omega)
  all_goals exact t_f

theorem ref01_unit_ok : Con1 Tryz.prog gl 27 [] [] (Ty.mk 5 []).dv [] := by
  refine t_in Tryz.func27 ?_
  intro X hP hgl hf hfn hn hR hids hfit
  refine t_rg0 ?_
  refine t_rg0 ?_
  refine t_r ?_
  simp [go_sem, hP, hgl, hn] <;> (try omega)
  all_goals exact t_f

theorem ref01_two_ok (a b : Ty) : Con1 Tryz.prog gl 28 [a.dv, b.dv] [] (Ty.mk 3 [a, b]).dv [] := by
  refine t_in Tryz.func28 ?_
  intro X hP hgl hf hfn hn hR hids hfit
  refine t_rg0 ?_
  refine t_a ?_
  first | refine W_reg [] fun K hK => ?_ | refine W_regd (by rw [hP]; exact mixed) [] fun K hK => ?_
  refine t_s0 ?_
  refine t_c trivial (ref01_copy_ok a) ?_
  refine t_c trivial (ref01_copy_ok b) ?_
  refine t_e ?_
  clear hK K
  refine t_r ?_
  simp [go_sem, hP, hgl, hn] <;> (try omega)
  all_goals exact t_f
end Go.Proofs.YtgfjcbofbbcnmaaGreatDoor.Lift

namespace Go.Proofs.YtgfjcbofbbcnmaaGreatDoor.Lift
set_option linter.unusedSimpArgs false
set_option linter.unusedVariables false
set_option linter.unnecessarySimpa false
open Go
variable {gl : Globs}

theorem Tm.fit_len {t : Tm} (h : t.dv.fit) : t.args.length ≤ 2147483648 := ((Tm.fit_eq t).1 ((Tm.dv_fit t).1 h)).2.2.2.1
theorem sl_len {l : List (List DV)} (h : DV.fit (.sl l)) : l.length ≤ 2147483648 := by simp [DV.fit, BIG] at h; exact h.1

theorem ref02_copy_ok (t : Tm) : Con1 Tryz.prog gl 34 [t.dv] [] t.dv [] := by
  induction t using Tm.ind with
  | h t ih =>
  refine t_in Tryz.func34 ?_
  intro X hP hgl hf hfn hn hR hids hfit
  have hlen := Tm.fit_len (hfit t.dv (by simp))
  refine t_rg0 ?_
  refine t_rg0 ?_
  refine t_rg0 ?_
  refine t_a ?_
  refine t_sub [(1003, 0)] trivial (W_list (t.args) (fun done rest => [(.slot 9, .one (.v (dint done.length))), (.slot 8, .one (.v (dint t.args.length))), (.slot 7, .one (.v (.sl (t.args.map Tm.cells)))), (.slot 3, .one (.own 1003 (done.map Tm.cells))), (.tok 1003, .tk 5 done.length), (.loc 2, .row ([.v (dint 0), .v (dint 0), .v (dint 0), .own 0 [], .own 0 []])), (.slot 2, .one (.loc 2 0)), (.loc 1, .row ([.v (dint t.kind), .v (dint t.index), .v (dint t.type.kind), .v (.sl (t.type.args.map Ty.cells)), .v (.sl (t.args.map Tm.cells))])), (.slot 1, .one (.loc 1 0))]) ?_ ?_)
  · intro done x rest hL hg hnext
    have hlt : done.length < t.args.length := by rw [hL]; simp
    refine t_rg0 ?_
    refine t_yes ?_
    refine t_rg @hg ?_
    refine t_a ?_
    first | refine W_reg [] fun K hK => ?_ | refine W_regd (by rw [hP]; exact mixed) [] fun K hK => ?_
    refine t_s0 ?_
    refine t_c trivial (ih x (List.mem_of_getElem? hg)) ?_
    refine t_e ?_
    clear hK K
    refine t_rg0 ?_
    refine t_b ?_
    refine t_sub [(1003, 17)] trivial hnext
  · refine t_rg0 ?_
    refine t_no ?_
    refine t_a ?_
    first | refine W_reg [] fun K hK => ?_ | refine W_regd (by rw [hP]; exact mixed) [] fun K hK => ?_
    refine t_s0 ?_
    refine t_c trivial (ref01_copy_ok t.type) ?_
    refine t_e ?_
    clear hK K
    refine t_r ?_
    simp [go_sem, hP, hgl, hn] <;> (try omega)

/-- the number of nodes -/
def Tm.count : Tm → Nat
  | .mk _ _ _ l => 1 + counts l
where
  counts : List Tm → Nat
    | [] => 0
    | a :: r => a.count + counts r
theorem Tm.count_eq (t : Tm) : t.count = 1 + Tm.count.counts t.args := by cases t; rfl
theorem Tm.counts_append (l m : List Tm) : Tm.count.counts (l ++ m) = Tm.count.counts l + Tm.count.counts m := by
  induction l with
  | nil => simp [Tm.count.counts]
  | cons a r ih => simp [Tm.count.counts, ih]; omega

theorem ref02_count_ok (t : Tm) (hc : t.count ≤ 2147483648) : Con1 Tryz.prog gl 33 [t.dv] [] (dint t.count) [] := by
  induction t using Tm.ind with
  | h t ih =>
  refine t_in Tryz.func33 ?_
  intro X hP hgl hf hfn hn hR hids hfit
  have hlen := Tm.fit_len (hfit t.dv (by simp))
  rw [Tm.count_eq] at hc
  refine t_rg0 ?_
  refine t_rg0 ?_
  refine t_rg0 ?_
  refine t_a ?_
  refine W_sub [] (by simp [go_sem]) (by simp [go_sem, Tm.count.counts] <;> omega) (by simp [go_sem]) (W_list (t.args) (fun done rest => [(.slot 9, .one (.v (dint done.length))), (.slot 8, .one (.v (dint t.args.length))), (.slot 7, .one (.v (.sl (t.args.map Tm.cells)))), (.slot 3, .one (.v (dint (1 + Tm.count.counts done : Nat))))]) ?_ ?_)
  · intro done x rest hL hg hnext
    have hlt : done.length < t.args.length := by rw [hL]; simp
    have hcx : Tm.count.counts t.args = Tm.count.counts done + (x.count + Tm.count.counts rest) := by rw [hL, Tm.counts_append]; rfl
    refine t_rg0 ?_
    refine t_yes ?_
    refine t_rg @hg ?_
    refine t_a ?_
    first | refine W_reg [] fun K hK => ?_ | refine W_regd (by rw [hP]; exact mixed) [] fun K hK => ?_
    refine t_s0 ?_
    refine t_c trivial (ih x (List.mem_of_getElem? hg) (by omega)) ?_
    refine t_e ?_
    clear hK K
    refine t_rg0 ?_
    repeat (first | refine W_inBlock ?_ | refine W_skip ?_ | refine W_label ?_ | refine W_exit rfl ?_)
    refine W_sub [] (by simp [go_sem]) (by simp [go_sem, Tm.counts_append, Tm.count.counts] <;> omega) (by simp [go_sem]) hnext
  · refine t_rg0 ?_
    refine t_no ?_
    refine t_rg0 ?_
    refine t_r ?_
    simp [go_sem, hP, hgl, hn, Tm.count_eq] <;> (try omega)

theorem ref02_n_ok (k : Int) (l : List Tm) : Con1 Tryz.prog gl 13 [dint k, .sl (l.map Tm.cells)] [] (Tm.mk k 0 (Ty.mk 0 []) l).dv [] := by
  refine t_in Tryz.func13 ?_
  intro X hP hgl hf hfn hn hR hids hfit
  have hlen : l.length ≤ 2147483648 := by simpa using sl_len (hfit (.sl (l.map Tm.cells)) (by simp))
  refine t_rg0 ?_
  refine t_rg0 ?_
  refine t_rg0 ?_
  refine t_a ?_
  refine t_sub [(1005, 0)] trivial (W_list (l) (fun done rest => [(.slot 10, .one (.v (dint done.length))), (.slot 9, .one (.v (dint l.length))), (.slot 8, .one (.v (.sl (l.map Tm.cells)))), (.slot 5, .one (.own 1005 (done.map Tm.cells))), (.tok 1005, .tk 5 done.length), (.loc 4, .row ([.v (dint 0), .v (dint 0), .v (dint 0), .own 0 [], .own 0 []])), (.slot 4, .one (.loc 4 0)), (.slot 0, .one (.v (dint k)))]) ?_ ?_)
  · intro done x rest hL hg hnext
    have hlt : done.length < l.length := by rw [hL]; simp
    refine t_rg0 ?_
    refine t_yes ?_
    refine t_rg @hg ?_
    refine t_a ?_
    first | refine W_reg [] fun K hK => ?_ | refine W_regd (by rw [hP]; exact mixed) [] fun K hK => ?_
    refine t_s0 ?_
    refine t_c trivial (ref02_copy_ok x) ?_
    refine t_e ?_
    clear hK K
    refine t_rg0 ?_
    refine t_b ?_
    refine t_sub [(1005, 18)] trivial hnext
  · refine t_rg0 ?_
    refine t_no ?_
    refine t_rg0 ?_
    refine t_r ?_
    simp [go_sem, hP, hgl, hn] <;> (try omega)
    all_goals exact t_f

end Go.Proofs.YtgfjcbofbbcnmaaGreatDoor.Lift

/-
  Plain facts: forms and sizes of types and terms.
-/
namespace Go.Proofs.YtgfjcbofbbcnmaaGreatDoor.Lift
set_option linter.unusedSimpArgs false
set_option linter.unusedVariables false
set_option linter.unnecessarySimpa false
open Go

def tyKind (k : Int) (n : Nat) : Bool := (decide (k = 1 ∨ k = 2 ∨ k = 5) && n == 0) || (decide (k = 3 ∨ k = 4) && n == 2)

namespace Ty
set_option linter.unusedSimpArgs false
set_option linter.unusedVariables false
set_option linter.unnecessarySimpa false
def shape : Ty → Bool
  | .mk k a => tyKind k a.length && shapes a
where
  shapes : List Ty → Bool
    | [] => true
    | a :: r => a.shape && shapes r
theorem shape_eq (t : Ty) : t.shape = (tyKind t.kind t.args.length && shape.shapes t.args) := by cases t; rfl
theorem shapes_append (l m : List Ty) : shape.shapes (l ++ m) = (shape.shapes l && shape.shapes m) := by
  induction l with
  | nil => simp [shape.shapes]
  | cons a r ih => simp [shape.shapes, ih, Bool.and_assoc]
theorem shapes_iff (l : List Ty) : shape.shapes l = true ↔ ∀ a ∈ l, a.shape = true := by
  induction l with
  | nil => simp [shape.shapes]
  | cons a r ih => simp [shape.shapes, ih]
def count : Ty → Nat
  | .mk _ a => 1 + counts a
where
  counts : List Ty → Nat
    | [] => 0
    | a :: r => a.count + counts r
theorem count_eq (t : Ty) : t.count = 1 + count.counts t.args := by cases t; rfl
theorem counts_append (l m : List Ty) : count.counts (l ++ m) = count.counts l + count.counts m := by
  induction l with
  | nil => simp [count.counts]
  | cons a r ih => simp [count.counts, ih]; omega
theorem count_mem {l : List Ty} {a : Ty} (h : a ∈ l) : a.count ≤ count.counts l := by
  induction l with
  | nil => cases h
  | cons b r ih =>
    simp only [count.counts]
    rcases List.mem_cons.1 h with rfl | h
    · omega
    · have := ih h; omega
/-- the first error of a type -/
def checkN (t : Ty) : Int := if t.shape = true then if 64 < t.count then 4 else 0 else 2
def zero (t : Ty) : Bool := decide (t.kind = 0) && decide (t.args.length = 0)
end Ty

/-- how many parts a kind of terms has -/
def arityI (k : Int) : Int :=
  if k = 1 ∨ k = 4 ∨ k = 7 ∨ k = 13 then 0 else if k = 2 ∨ k = 5 ∨ k = 11 ∨ k = 12 then 1 else if k = 3 ∨ k = 8 ∨ k = 10 then 2 else if k = 6 ∨ k = 9 then 3 else -1

def tyOfKind (k : Int) (t : Ty) : Bool := if k = 2 ∨ k = 6 ∨ k = 9 then decide (t.checkN = 0) else t.zero

def tmKind (k i : Int) (t : Ty) (n : Nat) : Bool := decide ((n : Int) = arityI k) && decide (0 ≤ i) && (decide (k = 1) || decide (i = 0)) && tyOfKind k t

namespace Tm
set_option linter.unusedSimpArgs false
set_option linter.unusedVariables false
set_option linter.unnecessarySimpa false
def shape : Tm → Bool
  | .mk k i t a => tmKind k i t a.length && shapes a
where
  shapes : List Tm → Bool
    | [] => true
    | a :: r => a.shape && shapes r
theorem shape_eq (t : Tm) : t.shape = (tmKind t.kind t.index t.type t.args.length && shape.shapes t.args) := by cases t; rfl
theorem shapes_append (l m : List Tm) : shape.shapes (l ++ m) = (shape.shapes l && shape.shapes m) := by
  induction l with
  | nil => simp [shape.shapes]
  | cons a r ih => simp [shape.shapes, ih, Bool.and_assoc]
theorem shapes_iff (l : List Tm) : shape.shapes l = true ↔ ∀ a ∈ l, a.shape = true := by
  induction l with
  | nil => simp [shape.shapes]
  | cons a r ih => simp [shape.shapes, ih]
theorem count_mem {l : List Tm} {a : Tm} (h : a ∈ l) : a.count ≤ count.counts l := by
  induction l with
  | nil => cases h
  | cons b r ih =>
    simp only [count.counts]
    rcases List.mem_cons.1 h with rfl | h
    · omega
    · have := ih h; omega
theorem count_pos (t : Tm) : 1 ≤ t.count := by rw [count_eq]; omega
/-- all types of a term are small enough to be counted -/
def tys : Tm → Prop
  | .mk _ _ t a => t.count ≤ 1073741824 ∧ tyss a
where
  tyss : List Tm → Prop
    | [] => True
    | a :: r => a.tys ∧ tyss r
theorem tyss_iff (l : List Tm) : tys.tyss l ↔ ∀ a ∈ l, a.tys := by
  induction l with
  | nil => simp [tys.tyss]
  | cons a r ih => simp [tys.tyss, ih]
theorem tys_eq (t : Tm) : t.tys ↔ t.type.count ≤ 1073741824 ∧ ∀ a ∈ t.args, a.tys := by cases t; simp only [tys, tyss_iff, type, args]
/-- the first error of a term -/
def checkN (t : Tm) : Int := if t.shape = true then if 4096 < t.count then 4 else 0 else 2
end Tm
theorem Ty.fit_len {t : Ty} (h : t.dv.fit) : t.args.length ≤ 2147483648 := ((Ty.fit_eq t).1 ((Ty.dv_fit t).1 h)).2.1
end Go.Proofs.YtgfjcbofbbcnmaaGreatDoor.Lift

namespace Go.Proofs.YtgfjcbofbbcnmaaGreatDoor.Lift
set_option linter.unusedSimpArgs false
set_option linter.unusedVariables false
set_option linter.unnecessarySimpa false
open Go
variable {gl : Globs}

abbrev ptr (b : Nat) : DV := .prim (.pointer (some ⟨b, 0, none⟩))
/-- a deck of numbers, as an object's cells -/
abbrev deck (l : List Int) (p : Nat) : List DV := [.sl (ints l), dint p]

def modz (n k : Int) : Int := (n.tmod k + k).tmod k
theorem modz_bd (n k : Int) (h : 1 ≤ k) : 0 ≤ modz n k ∧ modz n k < k ∧ -k < n.tmod k ∧ n.tmod k < k := by
  have h1 : -k < n.tmod k := by
    have := Int.lt_tmod_of_pos n (show 0 < k by omega); omega
  have h2 : n.tmod k < k := Int.tmod_lt_of_pos n (by omega)
  refine ⟨?_, Int.tmod_lt_of_pos _ (by omega), h1, h2⟩
  exact Int.tmod_nonneg _ (by omega)

theorem mod_ok (n k : Int) (h1 : 1 ≤ k) (h2 : k ≤ 2147483648) : Con1 Tryz.prog gl 38 [dint n, dint k] [] (dint (modz n k)) [] := by
  refine t_in Tryz.func38 ?_
  intro X hP hgl hf hfn hn hR hids hfit
  have hb := modz_bd n k h1
  unfold modz at hb
  refine t_rg0 ?_
  refine t_a ?_
  first | refine W_reg [] fun K hK => ?_ | refine W_regd (by rw [hP]; exact mixed) [] fun K hK => ?_
  refine t_s0 ?_
  have hk0 : ¬ k = 0 := by omega
  refine ⟨⟨hk0, by omega⟩, ?_⟩
  refine ⟨by omega, ⟨hk0, by omega⟩, ?_⟩
  refine t_e ?_
  clear hK K
  refine t_r ?_
  simp [go_sem, hP, hgl, hn, modz] <;> (try omega)

theorem few_ok (l : List Int) : Con1 Tryz.prog gl 5 [.sl (ints l)] [] (dbool (decide (l.length ≤ 500))) [] := by
  refine t_in Tryz.func5 ?_
  intro X hP hgl hf hfn hn hR hids hfit
  refine t_rg0 ?_
  refine t_rg0 ?_
  refine t_r ?_
  simp [go_sem, hP, hgl, hn] <;> (try omega)

theorem new_ok (l : List Int) : Con Tryz.prog gl 6 [.sl (ints l)] [] fun r φ => ∃ b, r = ptr b ∧ φ = [(b, deck l 0)] := by
  refine t_in Tryz.func6 ?_
  intro X hP hgl hf hfn hn hR hids hfit
  refine t_rg0 ?_
  refine t_rg0 ?_
  refine W_expose 5 (by simp [go_sem]; rfl) ?_
  intro b hb
  simp [go_sem]
  refine W_retR hP hf hfn (ptr b) [(b, deck l 0)] (by simp [go_sem, hP, hgl, hn]) (by simp [go_sem]) (by simp) (by rw [hR.1]; exact ⟨b, rfl, rfl⟩) hR.2

/-- the next number below n -/
def nextD (l : List Int) (p : Nat) (n : Int) : Int × Nat :=
  if n < 1 then (0, p) else match l[p]? with
    | some x => (modz x n, p + 1)
    | none => (0, p)

theorem next_ok (b : Nat) (l : List Int) (p : Nat) (n : Int) (hn2 : n ≤ 2147483648) (hp : p ≤ 2147483648) :
    Con1 Tryz.prog gl 15 [ptr b, dint n] [(b, deck l p)] (dint (nextD l p n).1) [(b, deck l (nextD l p n).2)] := by
  refine t_in Tryz.func15 ?_
  intro X hP hgl hf hfn hn hR hids hfit
  refine t_rg0 ?_
  by_cases hlt : n < 1
  · refine t_rg @hlt ?_
    refine t_a ?_
    refine W_cond rfl ?_ ?_
    rotate_left
    · intro h; simp at h
    intro _
    refine t_rg0 ?_
    repeat (first | refine W_seq ?_ | refine W_skip ?_ | refine W_block ?_ | refine W_inBlock ?_ | refine W_label ?_ | refine W_exit rfl ?_)
    first | refine W_retR hP hf hfn _ ([(b, deck l p)]) (by first | (simp [go_sem, hP, hgl, hn, nextD, hlt]; done) | (simp [go_sem, hP, hgl, hn, nextD, hlt]; rfl)) (by simp [go_sem, hP, hgl, hn, nextD, hlt]) (by simp) ?_ hR.2 | refine W_endR hP hf hfn _ ([(b, deck l p)]) (by first | (simp [go_sem, hP, hgl, hn, nextD, hlt]; done) | (simp [go_sem, hP, hgl, hn, nextD, hlt]; rfl)) (by simp [go_sem, hP, hgl, hn, nextD, hlt]) (by simp) ?_ hR.2
    rw [hR.1]
    refine ⟨?_, by simp [nextD, hlt]⟩
    try simp [nextD, hlt]
    try all_goals (simp [Ty.dv, Ty.cells_eq, Ty.kind_mk, Ty.args_mk, Tm.dv, Tm.cells_eq, Tm.kind_mk, Tm.index_mk, Tm.type_mk, Tm.args_mk, Val.dv, Val.cells_eq, Val.kind_mk, Val.num_mk, Val.list_mk, Val.args_mk, ints])
  · by_cases hle : l.length ≤ p
    · refine t_rg (j2 @hlt @hle) ?_
      refine t_a ?_
      refine W_cond rfl ?_ ?_
      rotate_left
      · intro h; simp [hle] at h
      intro _
      refine t_rg0 ?_
      have hg : l[p]? = none := List.getElem?_eq_none hle
      repeat (first | refine W_seq ?_ | refine W_skip ?_ | refine W_block ?_ | refine W_inBlock ?_ | refine W_label ?_ | refine W_exit rfl ?_)
      first | refine W_retR hP hf hfn _ ([(b, deck l p)]) (by first | (simp [go_sem, hP, hgl, hn, nextD, hlt, hg]; done) | (simp [go_sem, hP, hgl, hn, nextD, hlt, hg]; rfl)) (by simp [go_sem, hP, hgl, hn, nextD, hlt, hg]) (by simp) ?_ hR.2 | refine W_endR hP hf hfn _ ([(b, deck l p)]) (by first | (simp [go_sem, hP, hgl, hn, nextD, hlt, hg]; done) | (simp [go_sem, hP, hgl, hn, nextD, hlt, hg]; rfl)) (by simp [go_sem, hP, hgl, hn, nextD, hlt, hg]) (by simp) ?_ hR.2
      rw [hR.1]
      refine ⟨?_, by simp [nextD, hlt, hg]⟩
      try simp [nextD, hlt, hg]
      try all_goals (simp [Ty.dv, Ty.cells_eq, Ty.kind_mk, Ty.args_mk, Tm.dv, Tm.cells_eq, Tm.kind_mk, Tm.index_mk, Tm.type_mk, Tm.args_mk, Val.dv, Val.cells_eq, Val.kind_mk, Val.num_mk, Val.list_mk, Val.args_mk, ints])
    · refine t_rg (j2 @hlt @hle) ?_
      refine t_a ?_
      refine W_cond rfl ?_ ?_
      · intro h; simp [hle] at h
      intro _
      obtain ⟨x, hx⟩ : ∃ x, l[p]? = some x := ⟨_, List.getElem?_eq_getElem (by omega)⟩
      have hg := ints_get hx
      refine t_rg @hg ?_
      refine t_rg0 ?_
      refine t_a ?_
      first | refine W_reg [] fun K hK => ?_ | refine W_regd (by rw [hP]; exact mixed) [] fun K hK => ?_
      refine t_s0 ?_
      refine t_c trivial (mod_ok x n (by omega) hn2) ?_
      refine t_e ?_
      clear hK K
      repeat (first | refine W_seq ?_ | refine W_skip ?_ | refine W_block ?_ | refine W_inBlock ?_ | refine W_label ?_ | refine W_exit rfl ?_)
      first | refine W_retR hP hf hfn _ ([(b, deck l (p + 1))]) (by first | (simp [go_sem, hP, hgl, hn, nextD, hlt, hx]; done) | (simp [go_sem, hP, hgl, hn, nextD, hlt, hx]; rfl)) (by simp [go_sem, hP, hgl, hn, nextD, hlt, hx]) (by simp) ?_ hR.2 | refine W_endR hP hf hfn _ ([(b, deck l (p + 1))]) (by first | (simp [go_sem, hP, hgl, hn, nextD, hlt, hx]; done) | (simp [go_sem, hP, hgl, hn, nextD, hlt, hx]; rfl)) (by simp [go_sem, hP, hgl, hn, nextD, hlt, hx]) (by simp) ?_ hR.2
      rw [hR.1]
      refine ⟨?_, by simp [nextD, hlt, hx]⟩
      try simp [nextD, hlt, hx]
      try all_goals (simp [Ty.dv, Ty.cells_eq, Ty.kind_mk, Ty.args_mk, Tm.dv, Tm.cells_eq, Tm.kind_mk, Tm.index_mk, Tm.type_mk, Tm.args_mk, Val.dv, Val.cells_eq, Val.kind_mk, Val.num_mk, Val.list_mk, Val.args_mk, ints])
end Go.Proofs.YtgfjcbofbbcnmaaGreatDoor.Lift

namespace Go.Proofs.YtgfjcbofbbcnmaaGreatDoor.Lift
set_option linter.unusedSimpArgs false
set_option linter.unusedVariables false
set_option linter.unnecessarySimpa false
open Go
variable {gl : Globs}

def wantI (k : Int) : Int := if k = 3 ∨ k = 4 then 2 else 0

theorem ref01_shape_ok (t : Ty) : Con1 Tryz.prog gl 89 [t.dv] [] (dbool t.shape) [] := by
  induction t using Ty.ind with
  | h t ih =>
  refine t_in Tryz.func89 ?_
  intro X hP hgl hf hfn hn hR hids hfit
  have hlen := Ty.fit_len (hfit t.dv (by simp))
  have hs := Ty.shape_eq t
  refine t_rg0 ?_
  refine t_rg0 ?_
  refine t_rg0 ?_
  repeat (first | refine W_seq ?_ | refine W_skip ?_ | refine W_inBlock ?_ | refine W_label ?_)
  refine W_cutP (t.kind = 1 ∨ t.kind = 2 ∨ t.kind = 5 ∨ t.kind = 3 ∨ t.kind = 4) [(.slot 3, .one (.v (dint (wantI t.kind)))), (.loc 1, .row ([.v (dint t.kind), .v (.sl (t.args.map Ty.cells))])), (.slot 1, .one (.loc 1 0))] ?_ ?_
  · intro hrest
    by_cases h1 : t.kind = 1
    · repeat (first | (refine W_sub [] (by simp [go_sem]) (by simp [go_sem, wantI, h1] <;> omega) (by simp [go_sem]) (hrest (by simp [h1]))) | refine W_seq ?_ | refine W_skip ?_ | refine W_block ?_ | refine W_inBlock ?_ | refine W_label ?_ | refine W_exit rfl ?_ | ((first | refine W_reg [] fun K hK => ?_ | refine W_regd (by rw [hP]; exact mixed) [] fun K hK => ?_); simp [go_sem, hP, hgl, hn, h1]; (repeat (refine ⟨by omega, ?_⟩)); (first | refine hK _ ?_ | refine ⟨by rfl, hK _ ?_⟩); clear hK K) | refine W_cond rfl (fun _ => ?_) (fun hq => False.elim (by first | (simp [h1]; done) | (simp [h1]; omega) | (simp [h1] at hq; done) | (simp [h1] at hq; omega))) | refine W_cond rfl (fun hq => False.elim (by first | (simp [h1]; done) | (simp [h1]; omega) | (simp [h1] at hq; done) | (simp [h1] at hq; omega))) (fun _ => ?_))
    by_cases h2 : t.kind = 2
    · repeat (first | (refine W_sub [] (by simp [go_sem]) (by simp [go_sem, wantI, h2] <;> omega) (by simp [go_sem]) (hrest (by simp [h2]))) | refine W_seq ?_ | refine W_skip ?_ | refine W_block ?_ | refine W_inBlock ?_ | refine W_label ?_ | refine W_exit rfl ?_ | ((first | refine W_reg [] fun K hK => ?_ | refine W_regd (by rw [hP]; exact mixed) [] fun K hK => ?_); simp [go_sem, hP, hgl, hn, h2]; (repeat (refine ⟨by omega, ?_⟩)); (first | refine hK _ ?_ | refine ⟨by rfl, hK _ ?_⟩); clear hK K) | refine W_cond rfl (fun _ => ?_) (fun hq => False.elim (by first | (simp [h2]; done) | (simp [h2]; omega) | (simp [h2] at hq; done) | (simp [h2] at hq; omega))) | refine W_cond rfl (fun hq => False.elim (by first | (simp [h2]; done) | (simp [h2]; omega) | (simp [h2] at hq; done) | (simp [h2] at hq; omega))) (fun _ => ?_))
    by_cases h3 : t.kind = 5
    · repeat (first | (refine W_sub [] (by simp [go_sem]) (by simp [go_sem, wantI, h3] <;> omega) (by simp [go_sem]) (hrest (by simp [h3]))) | refine W_seq ?_ | refine W_skip ?_ | refine W_block ?_ | refine W_inBlock ?_ | refine W_label ?_ | refine W_exit rfl ?_ | ((first | refine W_reg [] fun K hK => ?_ | refine W_regd (by rw [hP]; exact mixed) [] fun K hK => ?_); simp [go_sem, hP, hgl, hn, h3]; (repeat (refine ⟨by omega, ?_⟩)); (first | refine hK _ ?_ | refine ⟨by rfl, hK _ ?_⟩); clear hK K) | refine W_cond rfl (fun _ => ?_) (fun hq => False.elim (by first | (simp [h3]; done) | (simp [h3]; omega) | (simp [h3] at hq; done) | (simp [h3] at hq; omega))) | refine W_cond rfl (fun hq => False.elim (by first | (simp [h3]; done) | (simp [h3]; omega) | (simp [h3] at hq; done) | (simp [h3] at hq; omega))) (fun _ => ?_))
    by_cases h4 : t.kind = 3
    · repeat (first | (refine W_sub [] (by simp [go_sem]) (by simp [go_sem, wantI, h4] <;> omega) (by simp [go_sem]) (hrest (by simp [h4]))) | refine W_seq ?_ | refine W_skip ?_ | refine W_block ?_ | refine W_inBlock ?_ | refine W_label ?_ | refine W_exit rfl ?_ | ((first | refine W_reg [] fun K hK => ?_ | refine W_regd (by rw [hP]; exact mixed) [] fun K hK => ?_); simp [go_sem, hP, hgl, hn, h4]; (repeat (refine ⟨by omega, ?_⟩)); (first | refine hK _ ?_ | refine ⟨by rfl, hK _ ?_⟩); clear hK K) | refine W_cond rfl (fun _ => ?_) (fun hq => False.elim (by first | (simp [h4]; done) | (simp [h4]; omega) | (simp [h4] at hq; done) | (simp [h4] at hq; omega))) | refine W_cond rfl (fun hq => False.elim (by first | (simp [h4]; done) | (simp [h4]; omega) | (simp [h4] at hq; done) | (simp [h4] at hq; omega))) (fun _ => ?_))
    by_cases h5 : t.kind = 4
    · repeat (first | (refine W_sub [] (by simp [go_sem]) (by simp [go_sem, wantI, h5] <;> omega) (by simp [go_sem]) (hrest (by simp [h5]))) | refine W_seq ?_ | refine W_skip ?_ | refine W_block ?_ | refine W_inBlock ?_ | refine W_label ?_ | refine W_exit rfl ?_ | ((first | refine W_reg [] fun K hK => ?_ | refine W_regd (by rw [hP]; exact mixed) [] fun K hK => ?_); simp [go_sem, hP, hgl, hn, h5]; (repeat (refine ⟨by omega, ?_⟩)); (first | refine hK _ ?_ | refine ⟨by rfl, hK _ ?_⟩); clear hK K) | refine W_cond rfl (fun _ => ?_) (fun hq => False.elim (by first | (simp [h5]; done) | (simp [h5]; omega) | (simp [h5] at hq; done) | (simp [h5] at hq; omega))) | refine W_cond rfl (fun hq => False.elim (by first | (simp [h5]; done) | (simp [h5]; omega) | (simp [h5] at hq; done) | (simp [h5] at hq; omega))) (fun _ => ?_))
    refine t_g (j2 @h1 (j2 @h2 (j2 @h3 (j2 @h4 @h5)))) ?_
    refine t_r ?_
    simp [go_sem, hP, hgl, hn, hs, tyKind, h1, h2, h3, h4, h5] <;> (try omega)
  · intro hk
    by_cases hl : (t.args.length : Int) = wantI t.kind
    · have hty : tyKind t.kind t.args.length = true := by
        unfold wantI at hl
        unfold tyKind
        rcases hk with h | h | h | h | h <;> simp [h] at hl ⊢ <;> omega
      refine t_g @hl ?_
      refine t_a ?_
      refine W_sub [] (by simp [go_sem]) (by simp [go_sem, Ty.shape.shapes] <;> omega) (by simp [go_sem]) (W_listI (t.args) (fun done => Ty.shape.shapes done = true) (fun done rest => [(.slot 23, .one (.v (dint done.length))), (.slot 22, .one (.v (dint t.args.length))), (.slot 21, .one (.v (.sl (t.args.map Ty.cells))))]) (rfl) ?_ ?_)
      · intro done x rest hL hg hI hnext
        have hlt : done.length < t.args.length := by rw [hL]; simp
        refine t_rg0 ?_
        refine t_yes ?_
        refine t_rg @hg ?_
        refine t_c1 @hg (ih x (List.mem_of_getElem? hg)) ?_
        by_cases hx : x.shape = true
        · refine t_n @hx ?_
          refine t_gt (wr []) trivial @hx (hnext (by rw [Ty.shapes_append]; simp [hI, Ty.shape.shapes, hx]))
        · refine t_y @hx ?_
          refine t_g @hx ?_
          have : t.shape = false := by rw [hs, hL, Ty.shapes_append]; simp [Ty.shape.shapes, hx]
          refine t_r ?_
          simp [go_sem, hP, hgl, hn, this] <;> (try omega)
      · intro hI
        refine t_rg0 ?_
        refine t_no ?_
        refine t_g0 ?_
        refine t_r ?_
        simp [go_sem, hP, hgl, hn, hs, hty, hI] <;> (try omega)
    · have hty : tyKind t.kind t.args.length = false := by
        unfold wantI at hl
        unfold tyKind
        rcases hk with h | h | h | h | h <;> simp [h] at hl ⊢ <;> omega
      refine t_g @hl ?_
      refine t_r ?_
      simp [go_sem, hP, hgl, hn, hs, hty] <;> (try omega)

theorem ref01_size_ok (t : Ty) (hc : t.count ≤ 2147483648) : Con1 Tryz.prog gl 90 [t.dv] [] (dint t.count) [] := by
  induction t using Ty.ind with
  | h t ih =>
  refine t_in Tryz.func90 ?_
  intro X hP hgl hf hfn hn hR hids hfit
  have hlen := Ty.fit_len (hfit t.dv (by simp))
  rw [Ty.count_eq] at hc
  refine t_rg0 ?_
  refine t_rg0 ?_
  refine t_rg0 ?_
  refine t_a ?_
  refine W_sub [] (by simp [go_sem]) (by simp [go_sem, Ty.count.counts] <;> omega) (by simp [go_sem]) (W_list (t.args) (fun done rest => [(.slot 9, .one (.v (dint done.length))), (.slot 8, .one (.v (dint t.args.length))), (.slot 7, .one (.v (.sl (t.args.map Ty.cells)))), (.slot 3, .one (.v (dint (1 + Ty.count.counts done : Nat))))]) ?_ ?_)
  · intro done x rest hL hg hnext
    have hlt : done.length < t.args.length := by rw [hL]; simp
    have hcx : Ty.count.counts t.args = Ty.count.counts done + (x.count + Ty.count.counts rest) := by rw [hL, Ty.counts_append]; rfl
    rw [Ty.counts_append] at hnext
    refine t_rg0 ?_
    refine t_yes ?_
    refine t_rg @hg ?_
    refine t_a ?_
    first | refine W_reg [] fun K hK => ?_ | refine W_regd (by rw [hP]; exact mixed) [] fun K hK => ?_
    refine t_s0 ?_
    refine t_c trivial (ih x (List.mem_of_getElem? hg) (by omega)) ?_
    refine t_e ?_
    clear hK K
    refine t_rg0 ?_
    repeat (first | refine W_inBlock ?_ | refine W_skip ?_ | refine W_label ?_ | refine W_exit rfl ?_)
    refine W_sub [] (by simp [go_sem]) (by simp [go_sem, Ty.count.counts] <;> omega) (by simp [go_sem]) hnext
  · refine t_rg0 ?_
    refine t_no ?_
    refine t_rg0 ?_
    refine t_r ?_
    simp [go_sem, hP, hgl, hn, Ty.count_eq] <;> (try omega)

theorem ref01_zero_ok (t : Ty) : Con1 Tryz.prog gl 75 [t.dv] [] (dbool t.zero) [] := by
  refine t_in Tryz.func75 ?_
  intro X hP hgl hf hfn hn hR hids hfit
  refine t_rg0 ?_
  by_cases h : t.kind = 0
  · refine t_rg @h ?_
    refine t_r ?_
    simp [go_sem, hP, hgl, hn, Ty.zero, h] <;> (try omega)
  · refine t_rg @h ?_
    refine t_r ?_
    simp [go_sem, hP, hgl, hn, Ty.zero, h] <;> (try omega)

theorem ref01_check_ok (t : Ty) (hc : t.count ≤ 2147483648) : Con1 Tryz.prog gl 74 [t.dv] [] (dint t.checkN) [] := by
  refine t_in Tryz.func74 ?_
  intro X hP hgl hf hfn hn hR hids hfit
  refine t_rg0 ?_
  refine t_a ?_
  first | refine W_reg [] fun K hK => ?_ | refine W_regd (by rw [hP]; exact mixed) [] fun K hK => ?_
  refine t_s0 ?_
  refine t_c trivial (ref01_shape_ok t) ?_
  refine t_e ?_
  clear hK K
  by_cases h : t.shape = true
  · refine t_n @h ?_
    refine t_a ?_
    first | refine W_reg [] fun K hK => ?_ | refine W_regd (by rw [hP]; exact mixed) [] fun K hK => ?_
    refine t_s0 ?_
    refine t_c trivial (ref01_size_ok t hc) ?_
    refine t_e ?_
    clear hK K
    by_cases h2 : 64 < t.count
    · refine t_y @h2 ?_
      refine t_rg0 ?_
      refine t_r ?_
      simp [go_sem, hP, hgl, hn, Ty.checkN, h, h2] <;> (try omega)
    · refine t_n @h2 ?_
      refine t_rg0 ?_
      refine t_r ?_
      simp [go_sem, hP, hgl, hn, Ty.checkN, h, h2] <;> (try omega)
  · refine t_y @h ?_
    refine t_rg0 ?_
    refine t_r ?_
    simp [go_sem, hP, hgl, hn, Ty.checkN, h] <;> (try omega)
end Go.Proofs.YtgfjcbofbbcnmaaGreatDoor.Lift

namespace Go.Proofs.YtgfjcbofbbcnmaaGreatDoor.Lift
set_option linter.unusedSimpArgs false
set_option linter.unusedVariables false
set_option linter.unnecessarySimpa false
open Go
variable {gl : Globs}

/-- the first error of a list of types -/
def errTys : List Ty → Int
  | [] => 0
  | t :: r => if t.checkN = 0 then errTys r else t.checkN
def ctxN (l : List Ty) : Int := if 16 < l.length then 3 else errTys l
theorem ref02_args_ok (k : Int) : Con1 Tryz.prog gl 73 [dint k] [] (dint (arityI k)) [] := by
  refine t_in Tryz.func73 ?_
  intro X hP hgl hf hfn hn hR hids hfit
  by_cases hs0 : k = 1
  · refine t_g @hs0 ?_
    refine t_r ?_
    simp [go_sem, hP, hgl, hn, arityI, hs0] <;> (try omega)
  by_cases hs1 : k = 4
  · refine t_g @hs1 ?_
    refine t_r ?_
    simp [go_sem, hP, hgl, hn, arityI, hs1] <;> (try omega)
  by_cases hs2 : k = 7
  · refine t_g @hs2 ?_
    refine t_r ?_
    simp [go_sem, hP, hgl, hn, arityI, hs2] <;> (try omega)
  by_cases hs3 : k = 13
  · refine t_g @hs3 ?_
    refine t_r ?_
    simp [go_sem, hP, hgl, hn, arityI, hs3] <;> (try omega)
  by_cases hs4 : k = 2
  · refine t_g @hs4 ?_
    refine t_r ?_
    simp [go_sem, hP, hgl, hn, arityI, hs4] <;> (try omega)
  by_cases hs5 : k = 5
  · refine t_g @hs5 ?_
    refine t_r ?_
    simp [go_sem, hP, hgl, hn, arityI, hs5] <;> (try omega)
  by_cases hs6 : k = 11
  · refine t_g @hs6 ?_
    refine t_r ?_
    simp [go_sem, hP, hgl, hn, arityI, hs6] <;> (try omega)
  by_cases hs7 : k = 12
  · refine t_g @hs7 ?_
    refine t_r ?_
    simp [go_sem, hP, hgl, hn, arityI, hs7] <;> (try omega)
  by_cases hs8 : k = 3
  · refine t_g @hs8 ?_
    refine t_r ?_
    simp [go_sem, hP, hgl, hn, arityI, hs8] <;> (try omega)
  by_cases hs9 : k = 8
  · refine t_g @hs9 ?_
    refine t_r ?_
    simp [go_sem, hP, hgl, hn, arityI, hs9] <;> (try omega)
  by_cases hs10 : k = 10
  · refine t_g @hs10 ?_
    refine t_r ?_
    simp [go_sem, hP, hgl, hn, arityI, hs10] <;> (try omega)
  by_cases hs11 : k = 6
  · refine t_g @hs11 ?_
    refine t_r ?_
    simp [go_sem, hP, hgl, hn, arityI, hs11] <;> (try omega)
  by_cases hs12 : k = 9
  · refine t_g @hs12 ?_
    refine t_r ?_
    simp [go_sem, hP, hgl, hn, arityI, hs12] <;> (try omega)
  refine t_g (j2 @hs0 (j2 @hs1 (j2 @hs2 (j2 @hs3 (j2 @hs4 (j2 @hs5 (j2 @hs6 (j2 @hs7 (j2 @hs8 (j2 @hs9 (j2 @hs10 (j2 @hs11 @hs12)))))))))))) ?_
  refine t_r ?_
  simp [go_sem, hP, hgl, hn, arityI, hs0, hs1, hs2, hs3, hs4, hs5, hs6, hs7, hs8, hs9, hs10, hs11, hs12] <;> (try omega)

def okNode (t : Tm) : Bool := decide ((t.args.length : Int) = arityI t.kind) && decide (0 ≤ t.index) && (decide (t.kind = 1) || decide (t.index = 0))

theorem ref02_shape_ok (t : Tm) (ht : t.tys) : Con1 Tryz.prog gl 53 [t.dv] [] (dbool t.shape) [] := by
  induction t using Tm.ind with
  | h t ih =>
  obtain ⟨ht1, ht2⟩ := (Tm.tys_eq t).1 ht
  refine t_in Tryz.func53 ?_
  intro X hP hgl hf hfn hn hR hids hfit
  have hlen := Tm.fit_len (hfit t.dv (by simp))
  have hs := Tm.shape_eq t
  refine t_rg0 ?_
  repeat (first | refine W_seq ?_ | refine W_skip ?_ | refine W_inBlock ?_ | refine W_label ?_)
  refine W_cut [(.slot 26, .one (.v (dbool (!okNode t)))), (.loc 1, .row ([.v (dint t.kind), .v (dint t.index), .v (dint t.type.kind), .v (.sl (t.type.args.map Ty.cells)), .v (.sl (t.args.map Tm.cells))])), (.slot 1, .one (.loc 1 0))] ?_ ?_
  · intro hrest
    by_cases hA : (t.args.length : Int) = arityI t.kind
    · by_cases hB : t.index < 0
      · refine t_c1 (j2 @hA @hB) (ref02_args_ok t.kind) ?_
        repeat (first | refine W_inBlock ?_ | refine W_skip ?_ | refine W_label ?_ | refine W_exit rfl ?_)
        refine W_sub [] (by simp [go_sem]) (by simp [go_sem, okNode, hA, hB] <;> omega) (by simp [go_sem]) hrest
      · by_cases hC : t.kind = 1
        · refine t_c1 (j2 @hA (j2 @hB @hC)) (ref02_args_ok t.kind) ?_
          repeat (first | refine W_inBlock ?_ | refine W_skip ?_ | refine W_label ?_ | refine W_exit rfl ?_)
          refine W_sub [] (by simp [go_sem]) (by simp [go_sem, okNode, hA, hB, hC] <;> omega) (by simp [go_sem]) hrest
        · by_cases hD : t.index = 0
          · refine t_c1 (j2 @hA (j2 @hB (j2 @hC @hD))) (ref02_args_ok t.kind) ?_
            repeat (first | refine W_inBlock ?_ | refine W_skip ?_ | refine W_label ?_ | refine W_exit rfl ?_)
            refine W_sub [] (by simp [go_sem]) (by simp [go_sem, okNode, hA, hB, hC, hD] <;> omega) (by simp [go_sem]) hrest
          · refine t_c1 (j2 @hA (j2 @hB (j2 @hC @hD))) (ref02_args_ok t.kind) ?_
            repeat (first | refine W_inBlock ?_ | refine W_skip ?_ | refine W_label ?_ | refine W_exit rfl ?_)
            refine W_sub [] (by simp [go_sem]) (by simp [go_sem, okNode, hA, hB, hC, hD] <;> omega) (by simp [go_sem]) hrest
    · refine t_c1 @hA (ref02_args_ok t.kind) ?_
      repeat (first | refine W_inBlock ?_ | refine W_skip ?_ | refine W_label ?_ | refine W_exit rfl ?_)
      refine W_sub [] (by simp [go_sem]) (by simp [go_sem, okNode, hA] <;> omega) (by simp [go_sem]) hrest
  · by_cases hok : okNode t = true
    · have hk : tmKind t.kind t.index t.type t.args.length = tyOfKind t.kind t.type := by
        simp only [okNode, Bool.and_eq_true, decide_eq_true_eq] at hok
        simp [tmKind, hok]
      refine t_n @hok ?_
      refine t_rg0 ?_
      repeat (first | refine W_seq ?_ | refine W_skip ?_ | refine W_inBlock ?_ | refine W_label ?_)
      refine W_cutP (tyOfKind t.kind t.type = true) [(.loc 1, .row ([.v (dint t.kind), .v (dint t.index), .v (dint t.type.kind), .v (.sl (t.type.args.map Ty.cells)), .v (.sl (t.args.map Tm.cells))])), (.slot 1, .one (.loc 1 0))] ?_ ?_
      · intro hrest
        by_cases k2 : t.kind = 2
        · refine t_g @k2 ?_
          refine t_c1 trivial (ref01_check_ok t.type (by omega)) ?_
          by_cases hc : t.type.checkN = 0
          · refine t_gt (wr []) @k2 (j2 @k2 @hc) (hrest (by simp [tyOfKind, k2, hc]))
          · have hz : tyOfKind t.kind t.type = false := by simp [tyOfKind, k2, hc]
            refine t_g @hc ?_
            refine t_r ?_
            simp [go_sem, hP, hgl, hn, hs, hk, hz] <;> (try omega)
        by_cases k6 : t.kind = 6
        · refine t_g @k6 ?_
          refine t_c1 trivial (ref01_check_ok t.type (by omega)) ?_
          by_cases hc : t.type.checkN = 0
          · refine t_gt (wr []) @k6 (j2 @k6 @hc) (hrest (by simp [tyOfKind, k6, hc]))
          · have hz : tyOfKind t.kind t.type = false := by simp [tyOfKind, k6, hc]
            refine t_g @hc ?_
            refine t_r ?_
            simp [go_sem, hP, hgl, hn, hs, hk, hz] <;> (try omega)
        by_cases k9 : t.kind = 9
        · refine t_g @k9 ?_
          refine t_c1 trivial (ref01_check_ok t.type (by omega)) ?_
          by_cases hc : t.type.checkN = 0
          · refine t_gt (wr []) @k9 (j2 @k9 @hc) (hrest (by simp [tyOfKind, k9, hc]))
          · have hz : tyOfKind t.kind t.type = false := by simp [tyOfKind, k9, hc]
            refine t_g @hc ?_
            refine t_r ?_
            simp [go_sem, hP, hgl, hn, hs, hk, hz] <;> (try omega)
        refine t_g (j2 @k2 (j2 @k6 @k9)) ?_
        refine t_c1 trivial (ref01_zero_ok t.type) ?_
        by_cases hc : t.type.zero = true
        · refine t_gt (wr []) trivial @hc (hrest (by simp [tyOfKind, k2, k6, k9, hc]))
        · have hz : tyOfKind t.kind t.type = false := by simp [tyOfKind, k2, k6, k9, hc]
          refine t_g @hc ?_
          refine t_r ?_
          simp [go_sem, hP, hgl, hn, hs, hk, hz] <;> (try omega)
      · intro hty
        refine t_g0 ?_
        refine t_a ?_
        refine W_sub [] (by simp [go_sem]) (by simp [go_sem, Tm.shape.shapes] <;> omega) (by simp [go_sem]) (W_listI (t.args) (fun done => Tm.shape.shapes done = true) (fun done rest => [(.slot 44, .one (.v (dint done.length))), (.slot 43, .one (.v (dint t.args.length))), (.slot 42, .one (.v (.sl (t.args.map Tm.cells))))]) (rfl) ?_ ?_)
        · intro done x rest hL hg hI hnext
          have hlt : done.length < t.args.length := by rw [hL]; simp
          refine t_rg0 ?_
          refine t_yes ?_
          refine t_rg @hg ?_
          refine t_c1 @hg (ih x (List.mem_of_getElem? hg) (ht2 x (List.mem_of_getElem? hg))) ?_
          by_cases hx : x.shape = true
          · refine t_gt (wr []) trivial @hx (hnext (by rw [Tm.shapes_append]; simp [hI, Tm.shape.shapes, hx]))
          · refine t_g @hx ?_
            have : t.shape = false := by rw [hs, hL, Tm.shapes_append]; simp [Tm.shape.shapes, hx]
            refine t_r ?_
            simp [go_sem, hP, hgl, hn, this] <;> (try omega)
        · intro hI
          refine t_rg0 ?_
          refine t_no ?_
          refine t_g0 ?_
          refine t_r ?_
          simp [go_sem, hP, hgl, hn, hs, hk, hty, hI] <;> (try omega)
    · have hk : tmKind t.kind t.index t.type t.args.length = false := by
        simp only [okNode, Bool.and_eq_true, decide_eq_true_eq] at hok
        simp only [tmKind]
        cases hh : (decide ((t.args.length : Int) = arityI t.kind) && decide (0 ≤ t.index) && (decide (t.kind = 1) || decide (t.index = 0))) with
        | true => exact absurd (by simpa using hh) hok
        | false => rfl
      refine t_g @hok ?_
      refine t_r ?_
      simp [go_sem, hP, hgl, hn, hs, hk] <;> (try omega)

theorem ref02_check_ok (t : Tm) (ht : t.tys) (hc : t.count ≤ 2147483648) : Con1 Tryz.prog gl 30 [t.dv] [] (dint t.checkN) [] := by
  refine t_in Tryz.func30 ?_
  intro X hP hgl hf hfn hn hR hids hfit
  refine t_g0 ?_
  refine t_c1 trivial (ref02_shape_ok t ht) ?_
  by_cases h : t.shape = true
  · refine t_g @h ?_
    refine t_c1 trivial (ref02_count_ok t hc) ?_
    by_cases h2 : 4096 < t.count
    · refine t_g @h2 ?_
      refine t_r ?_
      simp [go_sem, hP, hgl, hn, Tm.checkN, h, h2] <;> (try omega)
    · refine t_g @h2 ?_
      refine t_r ?_
      simp [go_sem, hP, hgl, hn, Tm.checkN, h, h2] <;> (try omega)
  · refine t_g @h ?_
    refine t_r ?_
    simp [go_sem, hP, hgl, hn, Tm.checkN, h] <;> (try omega)
end Go.Proofs.YtgfjcbofbbcnmaaGreatDoor.Lift

namespace Go.Proofs.YtgfjcbofbbcnmaaGreatDoor.Lift
set_option linter.unusedSimpArgs false
set_option linter.unusedVariables false
set_option linter.unnecessarySimpa false
open Go
variable {gl : Globs}

/-- the package's table of arities -/
def arEls : List (List DV) := ints [0, 0, 1, 2, 0, 1, 3, 0, 2, 3, 2, 1, 1, 0]
def known (k : Int) : Bool := decide (1 ≤ k) && decide (k ≤ 13)
theorem arityI_known (k : Int) : known k = decide (0 ≤ arityI k) := by
  unfold known arityI
  by_cases h : 1 ≤ k ∧ k ≤ 13
  · have : k = 1 ∨ k = 2 ∨ k = 3 ∨ k = 4 ∨ k = 5 ∨ k = 6 ∨ k = 7 ∨ k = 8 ∨ k = 9 ∨ k = 10 ∨ k = 11 ∨ k = 12 ∨ k = 13 := by omega
    rcases this with rfl | rfl | rfl | rfl | rfl | rfl | rfl | rfl | rfl | rfl | rfl | rfl | rfl <;> decide
  · rw [if_neg (by omega), if_neg (by omega), if_neg (by omega), if_neg (by omega)]
    simp; omega

theorem arity_ok (har : globOf gl 0 = some arEls) (k : Int) : Con1 Tryz.prog gl 103 [dint k] [] (.tup [dint (if known k = true then arityI k else 0), dbool (known k)]) [] := by
  refine t_in Tryz.func103 ?_
  intro X hP hgl hf hfn hn hR hids hfit
  have hk := har
  simp only [arEls, ints, List.map] at hk
  by_cases hs0 : k = 1
  · refine t_g (j2 @hs0 @hk) ?_
    refine t_r ?_
    simp [go_sem, hP, hgl, hn, known, arityI, hs0] <;> (try omega)
  by_cases hs1 : k = 2
  · refine t_g (j2 @hs1 @hk) ?_
    refine t_r ?_
    simp [go_sem, hP, hgl, hn, known, arityI, hs1] <;> (try omega)
  by_cases hs2 : k = 3
  · refine t_g (j2 @hs2 @hk) ?_
    refine t_r ?_
    simp [go_sem, hP, hgl, hn, known, arityI, hs2] <;> (try omega)
  by_cases hs3 : k = 4
  · refine t_g (j2 @hs3 @hk) ?_
    refine t_r ?_
    simp [go_sem, hP, hgl, hn, known, arityI, hs3] <;> (try omega)
  by_cases hs4 : k = 5
  · refine t_g (j2 @hs4 @hk) ?_
    refine t_r ?_
    simp [go_sem, hP, hgl, hn, known, arityI, hs4] <;> (try omega)
  by_cases hs5 : k = 6
  · refine t_g (j2 @hs5 @hk) ?_
    refine t_r ?_
    simp [go_sem, hP, hgl, hn, known, arityI, hs5] <;> (try omega)
  by_cases hs6 : k = 7
  · refine t_g (j2 @hs6 @hk) ?_
    refine t_r ?_
    simp [go_sem, hP, hgl, hn, known, arityI, hs6] <;> (try omega)
  by_cases hs7 : k = 8
  · refine t_g (j2 @hs7 @hk) ?_
    refine t_r ?_
    simp [go_sem, hP, hgl, hn, known, arityI, hs7] <;> (try omega)
  by_cases hs8 : k = 9
  · refine t_g (j2 @hs8 @hk) ?_
    refine t_r ?_
    simp [go_sem, hP, hgl, hn, known, arityI, hs8] <;> (try omega)
  by_cases hs9 : k = 10
  · refine t_g (j2 @hs9 @hk) ?_
    refine t_r ?_
    simp [go_sem, hP, hgl, hn, known, arityI, hs9] <;> (try omega)
  by_cases hs10 : k = 11
  · refine t_g (j2 @hs10 @hk) ?_
    refine t_r ?_
    simp [go_sem, hP, hgl, hn, known, arityI, hs10] <;> (try omega)
  by_cases hs11 : k = 12
  · refine t_g (j2 @hs11 @hk) ?_
    refine t_r ?_
    simp [go_sem, hP, hgl, hn, known, arityI, hs11] <;> (try omega)
  by_cases hs12 : k = 13
  · refine t_g (j2 @hs12 @hk) ?_
    refine t_r ?_
    simp [go_sem, hP, hgl, hn, known, arityI, hs12] <;> (try omega)
  by_cases hlo : k < 1
  · have : known k = false := by simp [known]; omega
    refine t_g @hlo ?_
    refine t_r ?_
    simp [go_sem, hP, hgl, hn, this] <;> (try omega)
  · have hhi : 14 ≤ k := by omega
    have : known k = false := by simp [known]; omega
    refine t_g (j2 @hlo @hhi) ?_
    refine t_r ?_
    simp [go_sem, hP, hgl, hn, this] <;> (try omega)

theorem typed_ok (k : Int) : Con1 Tryz.prog gl 104 [dint k] [] (dbool (decide (k = 2) || decide (k = 6) || decide (k = 9))) [] := by
  refine t_in Tryz.func104 ?_
  intro X hP hgl hf hfn hn hR hids hfit
  by_cases hs0 : k = 2
  · refine t_g @hs0 ?_
    refine t_r ?_
    simp [go_sem, hP, hgl, hn, hs0] <;> (try omega)
  by_cases hs1 : k = 6
  · refine t_g @hs1 ?_
    refine t_r ?_
    simp [go_sem, hP, hgl, hn, hs1] <;> (try omega)
  by_cases hs2 : k = 9
  · refine t_g @hs2 ?_
    refine t_r ?_
    simp [go_sem, hP, hgl, hn, hs2] <;> (try omega)
  refine t_g (j2 @hs0 (j2 @hs1 @hs2)) ?_
  refine t_r ?_
  simp [go_sem, hP, hgl, hn, hs0, hs1, hs2] <;> (try omega)

theorem notype_ok (t : Ty) : Con1 Tryz.prog gl 105 [t.dv] [] (dbool t.zero) [] := by
  refine t_in Tryz.func105 ?_
  intro X hP hgl hf hfn hn hR hids hfit
  by_cases h : t.kind = 0
  · refine t_g @h ?_
    refine t_r ?_
    simp [go_sem, hP, hgl, hn, Ty.zero, h] <;> (try omega)
  · refine t_g @h ?_
    refine t_r ?_
    simp [go_sem, hP, hgl, hn, Ty.zero, h] <;> (try omega)

def Ty.nodesR (t : Ty) : DV := .tup [dint (if t.shape = true then t.count else 0 : Nat), dbool t.shape]

theorem typenodes_ok (t : Ty) (hc : t.count ≤ 2147483648) : Con1 Tryz.prog gl 101 [t.dv] [] t.nodesR [] := by
  induction t using Ty.ind with
  | h t ih =>
  rw [Ty.count_eq] at hc
  refine t_in Tryz.func101 ?_
  intro X hP hgl hf hfn hn hR hids hfit
  have hlen := Ty.fit_len (hfit t.dv (by simp))
  have hs := Ty.shape_eq t
  have no : t.shape = false → t.nodesR = .tup [dint 0, dbool false] := fun h => by simp [Ty.nodesR, h]
  refine t_rg0 ?_
  refine t_rg0 ?_
  refine t_rg0 ?_
  repeat (first | refine W_seq ?_ | refine W_skip ?_ | refine W_inBlock ?_ | refine W_label ?_)
  refine W_cutP (t.kind = 1 ∨ t.kind = 2 ∨ t.kind = 5 ∨ t.kind = 3 ∨ t.kind = 4) [(.slot 4, .one (.v (dint (wantI t.kind)))), (.loc 1, .row ([.v (dint t.kind), .v (.sl (t.args.map Ty.cells))])), (.slot 1, .one (.loc 1 0))] ?_ ?_
  · intro hrest
    by_cases h1 : t.kind = 1
    · repeat (first | (refine W_sub [] (by simp [go_sem]) (by simp [go_sem, wantI, h1] <;> omega) (by simp [go_sem]) (hrest (by simp [h1]))) | refine W_seq ?_ | refine W_skip ?_ | refine W_block ?_ | refine W_inBlock ?_ | refine W_label ?_ | refine W_exit rfl ?_ | ((first | refine W_reg [] fun K hK => ?_ | refine W_regd (by rw [hP]; exact mixed) [] fun K hK => ?_); simp [go_sem, hP, hgl, hn, h1]; (repeat (refine ⟨by omega, ?_⟩)); (first | refine hK _ ?_ | refine ⟨by rfl, hK _ ?_⟩); clear hK K) | refine W_cond rfl (fun _ => ?_) (fun hq => False.elim (by first | (simp [h1]; done) | (simp [h1]; omega) | (simp [h1] at hq; done) | (simp [h1] at hq; omega))) | refine W_cond rfl (fun hq => False.elim (by first | (simp [h1]; done) | (simp [h1]; omega) | (simp [h1] at hq; done) | (simp [h1] at hq; omega))) (fun _ => ?_))
    by_cases h2 : t.kind = 2
    · repeat (first | (refine W_sub [] (by simp [go_sem]) (by simp [go_sem, wantI, h2] <;> omega) (by simp [go_sem]) (hrest (by simp [h2]))) | refine W_seq ?_ | refine W_skip ?_ | refine W_block ?_ | refine W_inBlock ?_ | refine W_label ?_ | refine W_exit rfl ?_ | ((first | refine W_reg [] fun K hK => ?_ | refine W_regd (by rw [hP]; exact mixed) [] fun K hK => ?_); simp [go_sem, hP, hgl, hn, h2]; (repeat (refine ⟨by omega, ?_⟩)); (first | refine hK _ ?_ | refine ⟨by rfl, hK _ ?_⟩); clear hK K) | refine W_cond rfl (fun _ => ?_) (fun hq => False.elim (by first | (simp [h2]; done) | (simp [h2]; omega) | (simp [h2] at hq; done) | (simp [h2] at hq; omega))) | refine W_cond rfl (fun hq => False.elim (by first | (simp [h2]; done) | (simp [h2]; omega) | (simp [h2] at hq; done) | (simp [h2] at hq; omega))) (fun _ => ?_))
    by_cases h3 : t.kind = 5
    · repeat (first | (refine W_sub [] (by simp [go_sem]) (by simp [go_sem, wantI, h3] <;> omega) (by simp [go_sem]) (hrest (by simp [h3]))) | refine W_seq ?_ | refine W_skip ?_ | refine W_block ?_ | refine W_inBlock ?_ | refine W_label ?_ | refine W_exit rfl ?_ | ((first | refine W_reg [] fun K hK => ?_ | refine W_regd (by rw [hP]; exact mixed) [] fun K hK => ?_); simp [go_sem, hP, hgl, hn, h3]; (repeat (refine ⟨by omega, ?_⟩)); (first | refine hK _ ?_ | refine ⟨by rfl, hK _ ?_⟩); clear hK K) | refine W_cond rfl (fun _ => ?_) (fun hq => False.elim (by first | (simp [h3]; done) | (simp [h3]; omega) | (simp [h3] at hq; done) | (simp [h3] at hq; omega))) | refine W_cond rfl (fun hq => False.elim (by first | (simp [h3]; done) | (simp [h3]; omega) | (simp [h3] at hq; done) | (simp [h3] at hq; omega))) (fun _ => ?_))
    by_cases h4 : t.kind = 3
    · repeat (first | (refine W_sub [] (by simp [go_sem]) (by simp [go_sem, wantI, h4] <;> omega) (by simp [go_sem]) (hrest (by simp [h4]))) | refine W_seq ?_ | refine W_skip ?_ | refine W_block ?_ | refine W_inBlock ?_ | refine W_label ?_ | refine W_exit rfl ?_ | ((first | refine W_reg [] fun K hK => ?_ | refine W_regd (by rw [hP]; exact mixed) [] fun K hK => ?_); simp [go_sem, hP, hgl, hn, h4]; (repeat (refine ⟨by omega, ?_⟩)); (first | refine hK _ ?_ | refine ⟨by rfl, hK _ ?_⟩); clear hK K) | refine W_cond rfl (fun _ => ?_) (fun hq => False.elim (by first | (simp [h4]; done) | (simp [h4]; omega) | (simp [h4] at hq; done) | (simp [h4] at hq; omega))) | refine W_cond rfl (fun hq => False.elim (by first | (simp [h4]; done) | (simp [h4]; omega) | (simp [h4] at hq; done) | (simp [h4] at hq; omega))) (fun _ => ?_))
    by_cases h5 : t.kind = 4
    · repeat (first | (refine W_sub [] (by simp [go_sem]) (by simp [go_sem, wantI, h5] <;> omega) (by simp [go_sem]) (hrest (by simp [h5]))) | refine W_seq ?_ | refine W_skip ?_ | refine W_block ?_ | refine W_inBlock ?_ | refine W_label ?_ | refine W_exit rfl ?_ | ((first | refine W_reg [] fun K hK => ?_ | refine W_regd (by rw [hP]; exact mixed) [] fun K hK => ?_); simp [go_sem, hP, hgl, hn, h5]; (repeat (refine ⟨by omega, ?_⟩)); (first | refine hK _ ?_ | refine ⟨by rfl, hK _ ?_⟩); clear hK K) | refine W_cond rfl (fun _ => ?_) (fun hq => False.elim (by first | (simp [h5]; done) | (simp [h5]; omega) | (simp [h5] at hq; done) | (simp [h5] at hq; omega))) | refine W_cond rfl (fun hq => False.elim (by first | (simp [h5]; done) | (simp [h5]; omega) | (simp [h5] at hq; done) | (simp [h5] at hq; omega))) (fun _ => ?_))
    have hz := no (by rw [hs]; simp [tyKind, h1, h2, h3, h4, h5])
    refine t_g (j2 @h1 (j2 @h2 (j2 @h3 (j2 @h4 @h5)))) ?_
    refine t_r ?_
    simp [go_sem, hP, hgl, hn, hz] <;> (try omega)
  · intro hk
    by_cases hl : (t.args.length : Int) = wantI t.kind
    · have hty : tyKind t.kind t.args.length = true := by
        unfold wantI at hl
        unfold tyKind
        rcases hk with h | h | h | h | h <;> simp [h] at hl ⊢ <;> omega
      refine t_g @hl ?_
      refine t_a ?_
      refine W_sub [] (by simp [go_sem]) (by simp [go_sem, Ty.count.counts] <;> omega) (by simp [go_sem]) (W_listI (t.args) (fun done => Ty.shape.shapes done = true) (fun done rest => [(.slot 5, .one (.v (dint (1 + Ty.count.counts done : Nat)))), (.slot 27, .one (.v (dint done.length))), (.slot 26, .one (.v (dint t.args.length))), (.slot 25, .one (.v (.sl (t.args.map Ty.cells))))]) (rfl) ?_ ?_)
      · intro done x rest hL hg hI hnext
        have hlt : done.length < t.args.length := by rw [hL]; simp
        have hcx : Ty.count.counts t.args = Ty.count.counts done + (x.count + Ty.count.counts rest) := by rw [hL, Ty.counts_append]; rfl
        rw [Ty.counts_append] at hnext
        refine t_rg0 ?_
        refine t_yes ?_
        refine t_rg @hg ?_
        by_cases hx : x.shape = true
        · refine t_a ?_
          first | refine W_reg [] fun K hK => ?_ | refine W_regd (by rw [hP]; exact mixed) [] fun K hK => ?_
          simp [go_sem, hP, hgl, hn, hg, Ty.nodesR, hx]
          repeat (refine ⟨by omega, ?_⟩)
          first | refine vcK_call hP hgl (ih x (List.mem_of_getElem? hg) (by omega)) (by simp [go_sem, hP, hgl, hn, hg, Ty.nodesR, hx]) rfl (by simp [go_sem]) (by simp) (by rw [hn]; exact Nat.le_of_ble_eq_true rfl) ?_ | refine vcdC_call (fun _ _ => vcd_sound) hP hgl (ih x (List.mem_of_getElem? hg) (by omega)) (by simp [go_sem, hP, hgl, hn, hg, Ty.nodesR, hx]) rfl (by simp [go_sem]) (by simp) (by rw [hn]; exact Nat.le_of_ble_eq_true rfl) ?_ | refine vcK_callG hP hgl (ih x (List.mem_of_getElem? hg) (by omega)) (by simp [go_sem, hP, hgl, hn, hg, Ty.nodesR, hx]) rfl (by simp [go_sem]) (by simp) (by rw [hn]; exact Nat.le_of_ble_eq_true rfl) (by simp [go_sem]; rfl) (by rw [hn]; exact Nat.le_of_ble_eq_true rfl) (by simp [go_sem]) ?_ | refine vcdC_callG (fun _ _ => vcd_sound) hP hgl (ih x (List.mem_of_getElem? hg) (by omega)) (by simp [go_sem, hP, hgl, hn, hg, Ty.nodesR, hx]) rfl (by simp [go_sem]) (by simp) (by rw [hn]; exact Nat.le_of_ble_eq_true rfl) (by simp [go_sem]; rfl) (by rw [hn]; exact Nat.le_of_ble_eq_true rfl) (by simp [go_sem]) ?_
          simp [go_sem, hP, hgl, hn, hg, Ty.nodesR, hx]
          refine t_e ?_
          clear hK K
          repeat (first | (refine W_sub [] (by simp [go_sem]) (by simp [go_sem, Ty.count.counts] <;> omega) (by simp [go_sem]) (hnext (by rw [Ty.shapes_append]; simp [hI, Ty.shape.shapes, hx]))) | refine W_seq ?_ | refine W_skip ?_ | refine W_block ?_ | refine W_inBlock ?_ | refine W_label ?_ | refine W_exit rfl ?_ | ((first | refine W_reg [] fun K hK => ?_ | refine W_regd (by rw [hP]; exact mixed) [] fun K hK => ?_); simp [go_sem, hP, hgl, hn, hx]; (repeat (refine ⟨by omega, ?_⟩)); (first | refine hK _ ?_ | refine ⟨by rfl, hK _ ?_⟩); clear hK K) | refine W_cond rfl (fun _ => ?_) (fun hq => False.elim (by first | (simp [hx]; done) | (simp [hx]; omega) | (simp [hx] at hq; done) | (simp [hx] at hq; omega))) | refine W_cond rfl (fun hq => False.elim (by first | (simp [hx]; done) | (simp [hx]; omega) | (simp [hx] at hq; done) | (simp [hx] at hq; omega))) (fun _ => ?_))
        · have hz := no (by rw [hs, hL, Ty.shapes_append]; simp [Ty.shape.shapes, hx])
          refine t_a ?_
          first | refine W_reg [] fun K hK => ?_ | refine W_regd (by rw [hP]; exact mixed) [] fun K hK => ?_
          simp [go_sem, hP, hgl, hn, hg, Ty.nodesR, hx]
          repeat (refine ⟨by omega, ?_⟩)
          first | refine vcK_call hP hgl (ih x (List.mem_of_getElem? hg) (by omega)) (by simp [go_sem, hP, hgl, hn, hg, Ty.nodesR, hx]) rfl (by simp [go_sem]) (by simp) (by rw [hn]; exact Nat.le_of_ble_eq_true rfl) ?_ | refine vcdC_call (fun _ _ => vcd_sound) hP hgl (ih x (List.mem_of_getElem? hg) (by omega)) (by simp [go_sem, hP, hgl, hn, hg, Ty.nodesR, hx]) rfl (by simp [go_sem]) (by simp) (by rw [hn]; exact Nat.le_of_ble_eq_true rfl) ?_ | refine vcK_callG hP hgl (ih x (List.mem_of_getElem? hg) (by omega)) (by simp [go_sem, hP, hgl, hn, hg, Ty.nodesR, hx]) rfl (by simp [go_sem]) (by simp) (by rw [hn]; exact Nat.le_of_ble_eq_true rfl) (by simp [go_sem]; rfl) (by rw [hn]; exact Nat.le_of_ble_eq_true rfl) (by simp [go_sem]) ?_ | refine vcdC_callG (fun _ _ => vcd_sound) hP hgl (ih x (List.mem_of_getElem? hg) (by omega)) (by simp [go_sem, hP, hgl, hn, hg, Ty.nodesR, hx]) rfl (by simp [go_sem]) (by simp) (by rw [hn]; exact Nat.le_of_ble_eq_true rfl) (by simp [go_sem]; rfl) (by rw [hn]; exact Nat.le_of_ble_eq_true rfl) (by simp [go_sem]) ?_
          simp [go_sem, hP, hgl, hn, hg, Ty.nodesR, hx]
          refine t_e ?_
          clear hK K
          refine t_g @hx ?_
          refine t_r ?_
          simp [go_sem, hP, hgl, hn, hz] <;> (try omega)
      · intro hI
        have hz : t.nodesR = .tup [dint t.count, dbool true] := by simp [Ty.nodesR, hs, hty, hI]
        refine t_rg0 ?_
        refine t_no ?_
        refine t_g0 ?_
        refine t_r ?_
        simp [go_sem, hP, hgl, hn, hz, Ty.count_eq] <;> (try omega)
    · have hz := no (by
        rw [hs]
        have : tyKind t.kind t.args.length = false := by
          unfold wantI at hl
          unfold tyKind
          rcases hk with h | h | h | h | h <;> simp [h] at hl ⊢ <;> omega
        simp [this])
      refine t_g @hl ?_
      refine t_r ?_
      simp [go_sem, hP, hgl, hn, hz] <;> (try omega)

theorem checktype_ok (t : Ty) (hc : t.count ≤ 2147483648) : Con1 Tryz.prog gl 86 [t.dv] [] (.tup [dint (if t.checkN = 0 then t.count else 0 : Nat), dint t.checkN]) [] := by
  refine t_in Tryz.func86 ?_
  intro X hP hgl hf hfn hn hR hids hfit
  refine t_g0 ?_
  by_cases h : t.shape = true
  · refine t_a ?_
    first | refine W_reg [] fun K hK => ?_ | refine W_regd (by rw [hP]; exact mixed) [] fun K hK => ?_
    simp [go_sem, hP, hgl, hn, Ty.nodesR, h]
    repeat (refine ⟨by omega, ?_⟩)
    first | refine vcK_call hP hgl (typenodes_ok t hc) (by simp [go_sem, hP, hgl, hn, Ty.nodesR, h]) rfl (by simp [go_sem]) (by simp) (by rw [hn]; exact Nat.le_of_ble_eq_true rfl) ?_ | refine vcdC_call (fun _ _ => vcd_sound) hP hgl (typenodes_ok t hc) (by simp [go_sem, hP, hgl, hn, Ty.nodesR, h]) rfl (by simp [go_sem]) (by simp) (by rw [hn]; exact Nat.le_of_ble_eq_true rfl) ?_ | refine vcK_callG hP hgl (typenodes_ok t hc) (by simp [go_sem, hP, hgl, hn, Ty.nodesR, h]) rfl (by simp [go_sem]) (by simp) (by rw [hn]; exact Nat.le_of_ble_eq_true rfl) (by simp [go_sem]; rfl) (by rw [hn]; exact Nat.le_of_ble_eq_true rfl) (by simp [go_sem]) ?_ | refine vcdC_callG (fun _ _ => vcd_sound) hP hgl (typenodes_ok t hc) (by simp [go_sem, hP, hgl, hn, Ty.nodesR, h]) rfl (by simp [go_sem]) (by simp) (by rw [hn]; exact Nat.le_of_ble_eq_true rfl) (by simp [go_sem]; rfl) (by rw [hn]; exact Nat.le_of_ble_eq_true rfl) (by simp [go_sem]) ?_
    simp [go_sem, hP, hgl, hn, Ty.nodesR, h]
    refine t_e ?_
    clear hK K
    by_cases h2 : 64 < t.count
    · refine t_g (j2 @h @h2) ?_
      refine t_r ?_
      simp [go_sem, hP, hgl, hn, Ty.checkN, h, h2] <;> (try omega)
    · refine t_g (j2 @h @h2) ?_
      refine t_r ?_
      simp [go_sem, hP, hgl, hn, Ty.checkN, h, h2] <;> (try omega)
  · refine t_a ?_
    first | refine W_reg [] fun K hK => ?_ | refine W_regd (by rw [hP]; exact mixed) [] fun K hK => ?_
    simp [go_sem, hP, hgl, hn, Ty.nodesR, h]
    repeat (refine ⟨by omega, ?_⟩)
    first | refine vcK_call hP hgl (typenodes_ok t hc) (by simp [go_sem, hP, hgl, hn, Ty.nodesR, h]) rfl (by simp [go_sem]) (by simp) (by rw [hn]; exact Nat.le_of_ble_eq_true rfl) ?_ | refine vcdC_call (fun _ _ => vcd_sound) hP hgl (typenodes_ok t hc) (by simp [go_sem, hP, hgl, hn, Ty.nodesR, h]) rfl (by simp [go_sem]) (by simp) (by rw [hn]; exact Nat.le_of_ble_eq_true rfl) ?_ | refine vcK_callG hP hgl (typenodes_ok t hc) (by simp [go_sem, hP, hgl, hn, Ty.nodesR, h]) rfl (by simp [go_sem]) (by simp) (by rw [hn]; exact Nat.le_of_ble_eq_true rfl) (by simp [go_sem]; rfl) (by rw [hn]; exact Nat.le_of_ble_eq_true rfl) (by simp [go_sem]) ?_ | refine vcdC_callG (fun _ _ => vcd_sound) hP hgl (typenodes_ok t hc) (by simp [go_sem, hP, hgl, hn, Ty.nodesR, h]) rfl (by simp [go_sem]) (by simp) (by rw [hn]; exact Nat.le_of_ble_eq_true rfl) (by simp [go_sem]; rfl) (by rw [hn]; exact Nat.le_of_ble_eq_true rfl) (by simp [go_sem]) ?_
    simp [go_sem, hP, hgl, hn, Ty.nodesR, h]
    refine t_e ?_
    clear hK K
    refine t_g @h ?_
    refine t_r ?_
    simp [go_sem, hP, hgl, hn, Ty.checkN, h] <;> (try omega)

def okNodeP (t : Tm) : Bool := known t.kind && decide ((t.args.length : Int) = arityI t.kind) && decide (0 ≤ t.index) && (decide (t.index = 0) || decide (t.kind = 1))
theorem okNodeP_eq (t : Tm) : okNodeP t = okNode t := by
  unfold okNodeP okNode
  rw [arityI_known]
  cases h : decide ((t.args.length : Int) = arityI t.kind) with
  | false => simp
  | true =>
    have h1 : (t.args.length : Int) = arityI t.kind := by simpa using h
    have : decide (0 ≤ arityI t.kind) = true := by simp; omega
    rw [this]
    cases decide (0 ≤ t.index) <;> cases decide (t.index = 0) <;> cases decide (t.kind = 1) <;> rfl

def Tm.nodesR (t : Tm) : DV := .tup [dint (if t.shape = true then t.count else 0 : Nat), dbool t.shape]

theorem termnodes_ok (har : globOf gl 0 = some arEls) (t : Tm) (ht : t.tys) (hc : t.count ≤ 2147483648) : Con1 Tryz.prog gl 93 [t.dv] [] t.nodesR [] := by
  induction t using Tm.ind with
  | h t ih =>
  obtain ⟨ht1, ht2⟩ := (Tm.tys_eq t).1 ht
  rw [Tm.count_eq] at hc
  refine t_in Tryz.func93 ?_
  intro X hP hgl hf hfn hn hR hids hfit
  have hlen := Tm.fit_len (hfit t.dv (by simp))
  have hs := Tm.shape_eq t
  have no : t.shape = false → t.nodesR = .tup [dint 0, dbool false] := fun h => by simp [Tm.nodesR, h]
  refine t_g0 ?_
  refine t_c1 trivial (arity_ok har t.kind) ?_
  repeat (first | refine W_seq ?_ | refine W_skip ?_ | refine W_inBlock ?_ | refine W_label ?_)
  refine W_cut [(.slot 42, .one (.v (dbool (!okNodeP t)))), (.loc 1, .row ([.v (dint t.kind), .v (dint t.index), .v (dint t.type.kind), .v (.sl (t.type.args.map Ty.cells)), .v (.sl (t.args.map Tm.cells))])), (.slot 1, .one (.loc 1 0))] ?_ ?_
  · intro hrest
    by_cases h0 : known t.kind = true
    · by_cases hA : (t.args.length : Int) = arityI t.kind
      · by_cases hB : t.index < 0
        · refine t_rg (j2 @h0 (j2 @hA @hB)) ?_
          repeat (first | refine W_inBlock ?_ | refine W_skip ?_ | refine W_label ?_ | refine W_exit rfl ?_)
          refine W_sub [] (by simp [go_sem]) (by simp [go_sem, okNodeP, h0, hA, hB] <;> omega) (by simp [go_sem]) hrest
        · by_cases hD : t.index = 0
          · refine t_rg (j2 @h0 (j2 @hA (j2 @hB @hD))) ?_
            repeat (first | refine W_inBlock ?_ | refine W_skip ?_ | refine W_label ?_ | refine W_exit rfl ?_)
            refine W_sub [] (by simp [go_sem]) (by simp [go_sem, okNodeP, h0, hA, hB, hD] <;> omega) (by simp [go_sem]) hrest
          · by_cases hC : t.kind = 1
            · have h01 : known 1 = true := rfl
              refine t_rg (j2 @h0 (j2 @hA (j2 @hB (j2 @hD (j2 @hC @h01))))) ?_
              repeat (first | refine W_inBlock ?_ | refine W_skip ?_ | refine W_label ?_ | refine W_exit rfl ?_)
              refine W_sub [] (by simp [go_sem]) (by simp [go_sem, okNodeP, h0, hA, hB, hD, hC, h01] <;> omega) (by simp [go_sem]) hrest
            · refine t_rg (j2 @h0 (j2 @hA (j2 @hB (j2 @hD @hC)))) ?_
              repeat (first | refine W_inBlock ?_ | refine W_skip ?_ | refine W_label ?_ | refine W_exit rfl ?_)
              refine W_sub [] (by simp [go_sem]) (by simp [go_sem, okNodeP, h0, hA, hB, hD, hC] <;> omega) (by simp [go_sem]) hrest
      · refine t_rg (j2 @h0 @hA) ?_
        repeat (first | refine W_inBlock ?_ | refine W_skip ?_ | refine W_label ?_ | refine W_exit rfl ?_)
        refine W_sub [] (by simp [go_sem]) (by simp [go_sem, okNodeP, h0, hA] <;> omega) (by simp [go_sem]) hrest
    · refine t_rg @h0 ?_
      repeat (first | refine W_inBlock ?_ | refine W_skip ?_ | refine W_label ?_ | refine W_exit rfl ?_)
      refine W_sub [] (by simp [go_sem]) (by simp [go_sem, okNodeP, h0] <;> omega) (by simp [go_sem]) hrest
  · rw [okNodeP_eq]
    by_cases hok : okNode t = true
    · have hk : tmKind t.kind t.index t.type t.args.length = tyOfKind t.kind t.type := by
        simp only [okNode, Bool.and_eq_true, decide_eq_true_eq] at hok
        simp [tmKind, hok]
      refine t_n @hok ?_
      refine t_c1 trivial (typed_ok t.kind) ?_
      repeat (first | refine W_seq ?_ | refine W_skip ?_ | refine W_inBlock ?_ | refine W_label ?_)
      refine W_cutP (tyOfKind t.kind t.type = true) [(.loc 1, .row ([.v (dint t.kind), .v (dint t.index), .v (dint t.type.kind), .v (.sl (t.type.args.map Ty.cells)), .v (.sl (t.args.map Tm.cells))])), (.slot 1, .one (.loc 1 0))] ?_ ?_
      · intro hrest
        by_cases k2 : t.kind = 2
        · refine t_g @k2 ?_
          refine t_c1 trivial (checktype_ok t.type (by omega)) ?_
          by_cases hc : t.type.checkN = 0
          · refine t_gt (wr []) @k2 (j2 @k2 @hc) (hrest (by simp [tyOfKind, k2, hc]))
          · have hz := no (by rw [hs, hk]; simp [tyOfKind, k2, hc])
            refine t_g @hc ?_
            refine t_r ?_
            simp [go_sem, hP, hgl, hn, hz] <;> (try omega)
        by_cases k6 : t.kind = 6
        · refine t_g @k6 ?_
          refine t_c1 trivial (checktype_ok t.type (by omega)) ?_
          by_cases hc : t.type.checkN = 0
          · refine t_gt (wr []) @k6 (j2 @k6 @hc) (hrest (by simp [tyOfKind, k6, hc]))
          · have hz := no (by rw [hs, hk]; simp [tyOfKind, k6, hc])
            refine t_g @hc ?_
            refine t_r ?_
            simp [go_sem, hP, hgl, hn, hz] <;> (try omega)
        by_cases k9 : t.kind = 9
        · refine t_g @k9 ?_
          refine t_c1 trivial (checktype_ok t.type (by omega)) ?_
          by_cases hc : t.type.checkN = 0
          · refine t_gt (wr []) @k9 (j2 @k9 @hc) (hrest (by simp [tyOfKind, k9, hc]))
          · have hz := no (by rw [hs, hk]; simp [tyOfKind, k9, hc])
            refine t_g @hc ?_
            refine t_r ?_
            simp [go_sem, hP, hgl, hn, hz] <;> (try omega)
        refine t_g (j2 @k2 (j2 @k6 @k9)) ?_
        refine t_c1 trivial (notype_ok t.type) ?_
        by_cases hc : t.type.zero = true
        · refine t_gt (wr []) trivial @hc (hrest (by simp [tyOfKind, k2, k6, k9, hc]))
        · have hz := no (by rw [hs, hk]; simp [tyOfKind, k2, k6, k9, hc])
          refine t_g @hc ?_
          refine t_r ?_
          simp [go_sem, hP, hgl, hn, hz] <;> (try omega)
      · intro hty
        refine t_g0 ?_
        refine t_a ?_
        refine W_sub [] (by simp [go_sem]) (by simp [go_sem, Tm.count.counts] <;> omega) (by simp [go_sem]) (W_listI (t.args) (fun done => Tm.shape.shapes done = true) (fun done rest => [(.slot 8, .one (.v (dint (1 + Tm.count.counts done : Nat)))), (.slot 61, .one (.v (dint done.length))), (.slot 60, .one (.v (dint t.args.length))), (.slot 59, .one (.v (.sl (t.args.map Tm.cells))))]) (rfl) ?_ ?_)
        · intro done x rest hL hg hI hnext
          have hlt : done.length < t.args.length := by rw [hL]; simp
          have hcx : Tm.count.counts t.args = Tm.count.counts done + (x.count + Tm.count.counts rest) := by rw [hL, Tm.counts_append]; rfl
          rw [Tm.counts_append] at hnext
          refine t_rg0 ?_
          refine t_yes ?_
          refine t_rg @hg ?_
          by_cases hx : x.shape = true
          · refine t_a ?_
            first | refine W_reg [] fun K hK => ?_ | refine W_regd (by rw [hP]; exact mixed) [] fun K hK => ?_
            simp [go_sem, hP, hgl, hn, hg, Tm.nodesR, hx]
            repeat (refine ⟨by omega, ?_⟩)
            first | refine vcK_call hP hgl (ih x (List.mem_of_getElem? hg) (ht2 x (List.mem_of_getElem? hg)) (by omega)) (by simp [go_sem, hP, hgl, hn, hg, Tm.nodesR, hx]) rfl (by simp [go_sem]) (by simp) (by rw [hn]; exact Nat.le_of_ble_eq_true rfl) ?_ | refine vcdC_call (fun _ _ => vcd_sound) hP hgl (ih x (List.mem_of_getElem? hg) (ht2 x (List.mem_of_getElem? hg)) (by omega)) (by simp [go_sem, hP, hgl, hn, hg, Tm.nodesR, hx]) rfl (by simp [go_sem]) (by simp) (by rw [hn]; exact Nat.le_of_ble_eq_true rfl) ?_ | refine vcK_callG hP hgl (ih x (List.mem_of_getElem? hg) (ht2 x (List.mem_of_getElem? hg)) (by omega)) (by simp [go_sem, hP, hgl, hn, hg, Tm.nodesR, hx]) rfl (by simp [go_sem]) (by simp) (by rw [hn]; exact Nat.le_of_ble_eq_true rfl) (by simp [go_sem]; rfl) (by rw [hn]; exact Nat.le_of_ble_eq_true rfl) (by simp [go_sem]) ?_ | refine vcdC_callG (fun _ _ => vcd_sound) hP hgl (ih x (List.mem_of_getElem? hg) (ht2 x (List.mem_of_getElem? hg)) (by omega)) (by simp [go_sem, hP, hgl, hn, hg, Tm.nodesR, hx]) rfl (by simp [go_sem]) (by simp) (by rw [hn]; exact Nat.le_of_ble_eq_true rfl) (by simp [go_sem]; rfl) (by rw [hn]; exact Nat.le_of_ble_eq_true rfl) (by simp [go_sem]) ?_
            simp [go_sem, hP, hgl, hn, hg, Tm.nodesR, hx]
            refine t_e ?_
            clear hK K
            repeat (first | (refine W_sub [] (by simp [go_sem]) (by simp [go_sem, Tm.count.counts] <;> omega) (by simp [go_sem]) (hnext (by rw [Tm.shapes_append]; simp [hI, Tm.shape.shapes, hx]))) | refine W_seq ?_ | refine W_skip ?_ | refine W_block ?_ | refine W_inBlock ?_ | refine W_label ?_ | refine W_exit rfl ?_ | ((first | refine W_reg [] fun K hK => ?_ | refine W_regd (by rw [hP]; exact mixed) [] fun K hK => ?_); simp [go_sem, hP, hgl, hn, hx]; (repeat (refine ⟨by omega, ?_⟩)); (first | refine hK _ ?_ | refine ⟨by rfl, hK _ ?_⟩); clear hK K) | refine W_cond rfl (fun _ => ?_) (fun hq => False.elim (by first | (simp [hx]; done) | (simp [hx]; omega) | (simp [hx] at hq; done) | (simp [hx] at hq; omega))) | refine W_cond rfl (fun hq => False.elim (by first | (simp [hx]; done) | (simp [hx]; omega) | (simp [hx] at hq; done) | (simp [hx] at hq; omega))) (fun _ => ?_))
          · have hz := no (by rw [hs, hL, Tm.shapes_append]; simp [Tm.shape.shapes, hx])
            refine t_a ?_
            first | refine W_reg [] fun K hK => ?_ | refine W_regd (by rw [hP]; exact mixed) [] fun K hK => ?_
            simp [go_sem, hP, hgl, hn, hg, Tm.nodesR, hx]
            repeat (refine ⟨by omega, ?_⟩)
            first | refine vcK_call hP hgl (ih x (List.mem_of_getElem? hg) (ht2 x (List.mem_of_getElem? hg)) (by omega)) (by simp [go_sem, hP, hgl, hn, hg, Tm.nodesR, hx]) rfl (by simp [go_sem]) (by simp) (by rw [hn]; exact Nat.le_of_ble_eq_true rfl) ?_ | refine vcdC_call (fun _ _ => vcd_sound) hP hgl (ih x (List.mem_of_getElem? hg) (ht2 x (List.mem_of_getElem? hg)) (by omega)) (by simp [go_sem, hP, hgl, hn, hg, Tm.nodesR, hx]) rfl (by simp [go_sem]) (by simp) (by rw [hn]; exact Nat.le_of_ble_eq_true rfl) ?_ | refine vcK_callG hP hgl (ih x (List.mem_of_getElem? hg) (ht2 x (List.mem_of_getElem? hg)) (by omega)) (by simp [go_sem, hP, hgl, hn, hg, Tm.nodesR, hx]) rfl (by simp [go_sem]) (by simp) (by rw [hn]; exact Nat.le_of_ble_eq_true rfl) (by simp [go_sem]; rfl) (by rw [hn]; exact Nat.le_of_ble_eq_true rfl) (by simp [go_sem]) ?_ | refine vcdC_callG (fun _ _ => vcd_sound) hP hgl (ih x (List.mem_of_getElem? hg) (ht2 x (List.mem_of_getElem? hg)) (by omega)) (by simp [go_sem, hP, hgl, hn, hg, Tm.nodesR, hx]) rfl (by simp [go_sem]) (by simp) (by rw [hn]; exact Nat.le_of_ble_eq_true rfl) (by simp [go_sem]; rfl) (by rw [hn]; exact Nat.le_of_ble_eq_true rfl) (by simp [go_sem]) ?_
            simp [go_sem, hP, hgl, hn, hg, Tm.nodesR, hx]
            refine t_e ?_
            clear hK K
            refine t_g @hx ?_
            refine t_r ?_
            simp [go_sem, hP, hgl, hn, hz] <;> (try omega)
        · intro hI
          have hz : t.nodesR = .tup [dint t.count, dbool true] := by simp [Tm.nodesR, hs, hk, hty, hI]
          refine t_rg0 ?_
          refine t_no ?_
          refine t_g0 ?_
          refine t_r ?_
          simp [go_sem, hP, hgl, hn, hz, Tm.count_eq] <;> (try omega)
    · have hk : tmKind t.kind t.index t.type t.args.length = false := by
        simp only [okNode, Bool.and_eq_true, decide_eq_true_eq] at hok
        simp only [tmKind]
        cases hh : (decide ((t.args.length : Int) = arityI t.kind) && decide (0 ≤ t.index) && (decide (t.kind = 1) || decide (t.index = 0))) with
        | true => exact absurd (by simpa using hh) hok
        | false => rfl
      have hz := no (by rw [hs, hk]; rfl)
      refine t_g @hok ?_
      refine t_r ?_
      simp [go_sem, hP, hgl, hn, hz] <;> (try omega)
end Go.Proofs.YtgfjcbofbbcnmaaGreatDoor.Lift

namespace Go.Proofs.YtgfjcbofbbcnmaaGreatDoor.Lift
set_option linter.unusedSimpArgs false
set_option linter.unusedVariables false
set_option linter.unnecessarySimpa false
open Go
variable {gl : Globs}

theorem nextD_le {l : List Int} {p : Nat} {n : Int} (h : p ≤ l.length) : (nextD l p n).2 ≤ l.length := by
  unfold nextD
  split
  · exact h
  · split
    · rename_i x hx
      have := (List.getElem?_eq_some_iff.1 hx).1
      simp only; omega
    · exact h

theorem nextD_bd {l : List Int} {p : Nat} {n : Int} (h : 1 ≤ n) : 0 ≤ (nextD l p n).1 ∧ (nextD l p n).1 < n := by
  unfold nextD
  rw [if_neg (by omega)]
  split
  · rename_i x hx
    have := modz_bd x n h
    exact ⟨this.1, this.2.1⟩
  · exact ⟨by simp, by simp; omega⟩

def plainD (l : List Int) (p : Nat) : Ty × Nat :=
  let k := (nextD l p 6).1
  (if k = 0 ∨ k = 1 then Ty.mk 1 [] else if k = 2 then Ty.mk 2 [] else if k = 3 then Ty.mk 5 [] else if k = 4 then Ty.mk 3 [Ty.mk 1 [], Ty.mk 2 []] else Ty.mk 3 [Ty.mk 1 [], Ty.mk 1 []], (nextD l p 6).2)

theorem plain_ok (b : Nat) (l : List Int) (p : Nat) (hl : l.length ≤ 500) (hp : p ≤ l.length) :
    Con1 Tryz.prog gl 8 [ptr b] [(b, deck l p)] (plainD l p).1.dv [(b, deck l (plainD l p).2)] := by
  refine t_in Tryz.func8 ?_
  intro X hP hgl hf hfn hn hR hids hfit
  have hp1 := nextD_le (n := 6) hp
  refine t_rg0 ?_
  refine t_a ?_
  first | refine W_reg [] fun K hK => ?_ | refine W_regd (by rw [hP]; exact mixed) [] fun K hK => ?_
  refine t_s0 ?_
  refine t_c trivial (next_ok b l p 6 (by decide) (by omega)) ?_
  refine t_e ?_
  clear hK K
  have hkb := nextD_bd (l := l) (p := p) (n := 6) (by decide)
  generalize hd : nextD l p 6 = d at *
  obtain ⟨k, q⟩ := d
  by_cases h0 : k = 0
  · refine t_rg @h0 ?_
    refine t_a ?_
    refine W_cond rfl ?_ ?_
    rotate_left
    · intro h; simp at h
    intro _
    refine t_a ?_
    refine W_cond rfl ?_ ?_
    rotate_left
    · intro h; simp at h
    intro _
    refine t_a ?_
    first | refine W_reg [] fun K hK => ?_ | refine W_regd (by rw [hP]; exact mixed) [] fun K hK => ?_
    refine t_s0 ?_
    refine t_c trivial (ref01_nat_ok) ?_
    refine t_e ?_
    clear hK K
    repeat (first | refine W_seq ?_ | refine W_skip ?_ | refine W_block ?_ | refine W_inBlock ?_ | refine W_label ?_ | refine W_exit rfl ?_)
    first | refine W_retR hP hf hfn _ ([(b, deck l q)]) (by first | (simp [go_sem, hP, hgl, hn, plainD, hd, h0]; done) | (simp [go_sem, hP, hgl, hn, plainD, hd, h0]; rfl)) (by simp [go_sem, hP, hgl, hn, plainD, hd, h0]) (by simp) ?_ hR.2 | refine W_endR hP hf hfn _ ([(b, deck l q)]) (by first | (simp [go_sem, hP, hgl, hn, plainD, hd, h0]; done) | (simp [go_sem, hP, hgl, hn, plainD, hd, h0]; rfl)) (by simp [go_sem, hP, hgl, hn, plainD, hd, h0]) (by simp) ?_ hR.2
    rw [hR.1]
    refine ⟨?_, by simp [plainD, hd, h0]⟩
    try simp [plainD, hd, h0]
    try all_goals (simp [Ty.dv, Ty.cells_eq, Ty.kind_mk, Ty.args_mk, Tm.dv, Tm.cells_eq, Tm.kind_mk, Tm.index_mk, Tm.type_mk, Tm.args_mk, Val.dv, Val.cells_eq, Val.kind_mk, Val.num_mk, Val.list_mk, Val.args_mk, ints])
  by_cases h1 : k = 1
  · refine t_rg @h1 ?_
    refine t_a ?_
    refine W_cond rfl ?_ ?_
    · intro h; simp at h
    intro _
    refine t_rg @h1 ?_
    refine t_a ?_
    refine W_cond rfl ?_ ?_
    rotate_left
    · intro h; simp at h
    intro _
    refine t_a ?_
    first | refine W_reg [] fun K hK => ?_ | refine W_regd (by rw [hP]; exact mixed) [] fun K hK => ?_
    refine t_s0 ?_
    refine t_c trivial (ref01_nat_ok) ?_
    refine t_e ?_
    clear hK K
    repeat (first | refine W_seq ?_ | refine W_skip ?_ | refine W_block ?_ | refine W_inBlock ?_ | refine W_label ?_ | refine W_exit rfl ?_)
    first | refine W_retR hP hf hfn _ ([(b, deck l q)]) (by first | (simp [go_sem, hP, hgl, hn, plainD, hd, h1]; done) | (simp [go_sem, hP, hgl, hn, plainD, hd, h1]; rfl)) (by simp [go_sem, hP, hgl, hn, plainD, hd, h1]) (by simp) ?_ hR.2 | refine W_endR hP hf hfn _ ([(b, deck l q)]) (by first | (simp [go_sem, hP, hgl, hn, plainD, hd, h1]; done) | (simp [go_sem, hP, hgl, hn, plainD, hd, h1]; rfl)) (by simp [go_sem, hP, hgl, hn, plainD, hd, h1]) (by simp) ?_ hR.2
    rw [hR.1]
    refine ⟨?_, by simp [plainD, hd, h1]⟩
    try simp [plainD, hd, h1]
    try all_goals (simp [Ty.dv, Ty.cells_eq, Ty.kind_mk, Ty.args_mk, Tm.dv, Tm.cells_eq, Tm.kind_mk, Tm.index_mk, Tm.type_mk, Tm.args_mk, Val.dv, Val.cells_eq, Val.kind_mk, Val.num_mk, Val.list_mk, Val.args_mk, ints])
  by_cases h2 : k = 2
  · refine t_rg @h2 ?_
    refine t_a ?_
    refine W_cond rfl ?_ ?_
    · intro h; simp at h
    intro _
    refine t_rg @h2 ?_
    refine t_a ?_
    refine W_cond rfl ?_ ?_
    · intro h; simp at h
    intro _
    refine t_rg @h2 ?_
    refine t_a ?_
    refine W_cond rfl ?_ ?_
    rotate_left
    · intro h; simp at h
    intro _
    refine t_a ?_
    first | refine W_reg [] fun K hK => ?_ | refine W_regd (by rw [hP]; exact mixed) [] fun K hK => ?_
    refine t_s0 ?_
    refine t_c trivial (ref01_list_ok) ?_
    refine t_e ?_
    clear hK K
    repeat (first | refine W_seq ?_ | refine W_skip ?_ | refine W_block ?_ | refine W_inBlock ?_ | refine W_label ?_ | refine W_exit rfl ?_)
    first | refine W_retR hP hf hfn _ ([(b, deck l q)]) (by first | (simp [go_sem, hP, hgl, hn, plainD, hd, h2]; done) | (simp [go_sem, hP, hgl, hn, plainD, hd, h2]; rfl)) (by simp [go_sem, hP, hgl, hn, plainD, hd, h2]) (by simp) ?_ hR.2 | refine W_endR hP hf hfn _ ([(b, deck l q)]) (by first | (simp [go_sem, hP, hgl, hn, plainD, hd, h2]; done) | (simp [go_sem, hP, hgl, hn, plainD, hd, h2]; rfl)) (by simp [go_sem, hP, hgl, hn, plainD, hd, h2]) (by simp) ?_ hR.2
    rw [hR.1]
    refine ⟨?_, by simp [plainD, hd, h2]⟩
    try simp [plainD, hd, h2]
    try all_goals (simp [Ty.dv, Ty.cells_eq, Ty.kind_mk, Ty.args_mk, Tm.dv, Tm.cells_eq, Tm.kind_mk, Tm.index_mk, Tm.type_mk, Tm.args_mk, Val.dv, Val.cells_eq, Val.kind_mk, Val.num_mk, Val.list_mk, Val.args_mk, ints])
  by_cases h3 : k = 3
  · refine t_rg @h3 ?_
    refine t_a ?_
    refine W_cond rfl ?_ ?_
    · intro h; simp at h
    intro _
    refine t_rg @h3 ?_
    refine t_a ?_
    refine W_cond rfl ?_ ?_
    · intro h; simp at h
    intro _
    refine t_rg @h3 ?_
    refine t_a ?_
    refine W_cond rfl ?_ ?_
    · intro h; simp at h
    intro _
    refine t_rg @h3 ?_
    refine t_a ?_
    refine W_cond rfl ?_ ?_
    rotate_left
    · intro h; simp at h
    intro _
    refine t_a ?_
    first | refine W_reg [] fun K hK => ?_ | refine W_regd (by rw [hP]; exact mixed) [] fun K hK => ?_
    refine t_s0 ?_
    refine t_c trivial (ref01_unit_ok) ?_
    refine t_e ?_
    clear hK K
    repeat (first | refine W_seq ?_ | refine W_skip ?_ | refine W_block ?_ | refine W_inBlock ?_ | refine W_label ?_ | refine W_exit rfl ?_)
    first | refine W_retR hP hf hfn _ ([(b, deck l q)]) (by first | (simp [go_sem, hP, hgl, hn, plainD, hd, h3]; done) | (simp [go_sem, hP, hgl, hn, plainD, hd, h3]; rfl)) (by simp [go_sem, hP, hgl, hn, plainD, hd, h3]) (by simp) ?_ hR.2 | refine W_endR hP hf hfn _ ([(b, deck l q)]) (by first | (simp [go_sem, hP, hgl, hn, plainD, hd, h3]; done) | (simp [go_sem, hP, hgl, hn, plainD, hd, h3]; rfl)) (by simp [go_sem, hP, hgl, hn, plainD, hd, h3]) (by simp) ?_ hR.2
    rw [hR.1]
    refine ⟨?_, by simp [plainD, hd, h3]⟩
    try simp [plainD, hd, h3]
    try all_goals (simp [Ty.dv, Ty.cells_eq, Ty.kind_mk, Ty.args_mk, Tm.dv, Tm.cells_eq, Tm.kind_mk, Tm.index_mk, Tm.type_mk, Tm.args_mk, Val.dv, Val.cells_eq, Val.kind_mk, Val.num_mk, Val.list_mk, Val.args_mk, ints])
  by_cases h4 : k = 4
  · refine t_rg @h4 ?_
    refine t_a ?_
    refine W_cond rfl ?_ ?_
    · intro h; simp at h
    intro _
    refine t_rg @h4 ?_
    refine t_a ?_
    refine W_cond rfl ?_ ?_
    · intro h; simp at h
    intro _
    refine t_rg @h4 ?_
    refine t_a ?_
    refine W_cond rfl ?_ ?_
    · intro h; simp at h
    intro _
    refine t_rg @h4 ?_
    refine t_a ?_
    refine W_cond rfl ?_ ?_
    · intro h; simp at h
    intro _
    refine t_rg @h4 ?_
    refine t_a ?_
    refine W_cond rfl ?_ ?_
    rotate_left
    · intro h; simp at h
    intro _
    refine t_a ?_
    first | refine W_reg [] fun K hK => ?_ | refine W_regd (by rw [hP]; exact mixed) [] fun K hK => ?_
    refine t_s0 ?_
    refine t_c trivial (ref01_nat_ok) ?_
    refine t_c trivial (ref01_list_ok) ?_
    refine t_c trivial (ref01_two_ok (Ty.mk 1 []) (Ty.mk 2 [])) ?_
    refine t_e ?_
    clear hK K
    repeat (first | refine W_seq ?_ | refine W_skip ?_ | refine W_block ?_ | refine W_inBlock ?_ | refine W_label ?_ | refine W_exit rfl ?_)
    first | refine W_retR hP hf hfn _ ([(b, deck l q)]) (by first | (simp [go_sem, hP, hgl, hn, plainD, hd, h4]; done) | (simp [go_sem, hP, hgl, hn, plainD, hd, h4]; rfl)) (by simp [go_sem, hP, hgl, hn, plainD, hd, h4]) (by simp) ?_ hR.2 | refine W_endR hP hf hfn _ ([(b, deck l q)]) (by first | (simp [go_sem, hP, hgl, hn, plainD, hd, h4]; done) | (simp [go_sem, hP, hgl, hn, plainD, hd, h4]; rfl)) (by simp [go_sem, hP, hgl, hn, plainD, hd, h4]) (by simp) ?_ hR.2
    rw [hR.1]
    refine ⟨?_, by simp [plainD, hd, h4]⟩
    try simp [plainD, hd, h4]
    try all_goals (simp [Ty.dv, Ty.cells_eq, Ty.kind_mk, Ty.args_mk, Tm.dv, Tm.cells_eq, Tm.kind_mk, Tm.index_mk, Tm.type_mk, Tm.args_mk, Val.dv, Val.cells_eq, Val.kind_mk, Val.num_mk, Val.list_mk, Val.args_mk, ints])
  · have h5 : k = 5 := by simp at hkb; omega
    refine t_rg @h5 ?_
    refine t_a ?_
    refine W_cond rfl ?_ ?_
    · intro h; simp at h
    intro _
    refine t_rg @h5 ?_
    refine t_a ?_
    refine W_cond rfl ?_ ?_
    · intro h; simp at h
    intro _
    refine t_rg @h5 ?_
    refine t_a ?_
    refine W_cond rfl ?_ ?_
    · intro h; simp at h
    intro _
    refine t_rg @h5 ?_
    refine t_a ?_
    refine W_cond rfl ?_ ?_
    · intro h; simp at h
    intro _
    refine t_rg @h5 ?_
    refine t_a ?_
    refine W_cond rfl ?_ ?_
    · intro h; simp at h
    intro _
    refine t_a ?_
    first | refine W_reg [] fun K hK => ?_ | refine W_regd (by rw [hP]; exact mixed) [] fun K hK => ?_
    refine t_s0 ?_
    refine t_c trivial (ref01_nat_ok) ?_
    refine t_c trivial (ref01_nat_ok) ?_
    refine t_c trivial (ref01_two_ok (Ty.mk 1 []) (Ty.mk 1 [])) ?_
    refine t_e ?_
    clear hK K
    repeat (first | refine W_seq ?_ | refine W_skip ?_ | refine W_block ?_ | refine W_inBlock ?_ | refine W_label ?_ | refine W_exit rfl ?_)
    first | refine W_retR hP hf hfn _ ([(b, deck l q)]) (by first | (simp [go_sem, hP, hgl, hn, plainD, hd, h5]; done) | (simp [go_sem, hP, hgl, hn, plainD, hd, h5]; rfl)) (by simp [go_sem, hP, hgl, hn, plainD, hd, h5]) (by simp) ?_ hR.2 | refine W_endR hP hf hfn _ ([(b, deck l q)]) (by first | (simp [go_sem, hP, hgl, hn, plainD, hd, h5]; done) | (simp [go_sem, hP, hgl, hn, plainD, hd, h5]; rfl)) (by simp [go_sem, hP, hgl, hn, plainD, hd, h5]) (by simp) ?_ hR.2
    rw [hR.1]
    refine ⟨?_, by simp [plainD, hd, h5]⟩
    try simp [plainD, hd, h5]
    try all_goals (simp [Ty.dv, Ty.cells_eq, Ty.kind_mk, Ty.args_mk, Tm.dv, Tm.cells_eq, Tm.kind_mk, Tm.index_mk, Tm.type_mk, Tm.args_mk, Val.dv, Val.cells_eq, Val.kind_mk, Val.num_mk, Val.list_mk, Val.args_mk, ints])

/-- the types of plain values: a pair has two parts -/
def Ty.plain : Ty → Prop
  | .mk k ts => (k = 3 → ts.length = 2) ∧ plains ts
where
  plains : List Ty → Prop
    | [] => True
    | t :: r => t.plain ∧ plains r

end Go.Proofs.YtgfjcbofbbcnmaaGreatDoor.Lift

namespace Go.Proofs.YtgfjcbofbbcnmaaGreatDoor.Lift
set_option linter.unusedSimpArgs false
set_option linter.unusedVariables false
set_option linter.unnecessarySimpa false
open Go
variable {gl : Globs}

theorem Val.fit_args {t : Val} (h : t.dv.fit) : t.args.length ≤ 2147483648 := ((Val.fit_eq t).1 ((Val.dv_fit t).1 h)).2.2.2.1
theorem Val.fit_list {t : Val} (h : t.dv.fit) : t.list.length ≤ 2147483648 := ((Val.fit_eq t).1 ((Val.dv_fit t).1 h)).2.2.1.1

def numTm : Nat → Tm
  | 0 => Tm.mk 4 0 (Ty.mk 0 []) []
  | n + 1 => Tm.mk 5 0 (Ty.mk 0 []) [numTm n]

def sizeI (n : Int) : Int := min n 4096 + 1
/-- the number of nodes of a value, and whether all have a form -/
def Val.okB (v : Val) : Bool :=
  if v.kind = 1 then decide (0 ≤ v.num) && decide (v.list.length = 0) && decide (v.args.length = 0)
  else if v.kind = 2 then decide (v.num = 0) && !v.list.any (fun n => decide (n < 0)) && decide (v.args.length = 0)
  else if v.kind = 3 then decide (v.num = 0) && decide (v.list.length = 0) && decide (v.args.length = 2)
  else if v.kind = 4 then decide (v.num = 0) && decide (v.list.length = 0) && decide (v.args.length = 0)
  else false

theorem negative_ok (n : Int) : Con1 Tryz.prog gl 99 [dint n] [] (dbool (decide (n < 0))) [] := by
  refine t_in Tryz.func99 ?_
  intro X hP hgl hf hfn hn hR hids hfit
  refine t_rg0 ?_
  refine t_rg0 ?_
  refine t_r ?_
  simp [go_sem, hP, hgl, hn] <;> (try omega)

abbrev fnv (f : Nat) : DV := .prim (.func (.func f) #[] #[])

/-- the first place of a negative number -/
def idxNeg (l : List Int) : Int := match l.findIdx? (fun n => decide (n < 0)) with
  | some k => k
  | none => -1

theorem indexNeg_ok (l : List Int) : Con1 Tryz.prog gl 107 [.sl (ints l), fnv 99] [] (dint (idxNeg l)) [] := by
  refine t_in Tryz.func107 ?_
  intro X hP hgl hf hfn hn hR hids hfit
  have hlen : l.length ≤ 2147483648 := by simpa [ints] using sl_len (hfit (.sl (ints l)) (by simp))
  refine t_rg0 ?_
  refine t_rg0 ?_
  refine t_a ?_
  refine t_sub [] trivial (W_upto (l.length) (fun i => ∀ (j : Nat) (x : Int), j < i → l[j]? = some x → 0 ≤ x) (fun i => [(.slot 8, .one (.v (dint i))), (.slot 7, .one (.v (dint l.length))), (.slot 6, .one (.v (.sl (ints l)))), (.slot 0, .one (.v (.sl (ints l)))), (.slot 1, .one (.v (fnv 99)))]) (by intro j x h; omega) ?_ ?_)
  · intro i hlt hI hnext
    obtain ⟨x, hx⟩ : ∃ x, l[i]? = some x := ⟨_, List.getElem?_eq_getElem hlt⟩
    have hg := ints_get hx
    refine t_rg0 ?_
    refine t_yes ?_
    refine t_rg0 ?_
    refine t_a ?_
    first | refine W_reg [] fun K hK => ?_ | refine W_regd (by rw [hP]; exact mixed) [] fun K hK => ?_
    refine t_s @hg ?_
    repeat (refine ⟨by omega, ?_⟩)
    refine vcK_callF hP hgl (negative_ok x) (by simp [go_sem]) (by simp [go_sem, hP, hgl, hn]) rfl (by simp [go_sem]) (by simp) (by rw [hn]; exact Nat.le_of_ble_eq_true rfl) ?_
    simp [go_sem, hP, hgl, hn]
    refine t_e ?_
    clear hK K
    by_cases hneg : x < 0
    · refine t_a ?_
      refine W_cond rfl ?_ ?_
      rotate_left
      · intro h; simp [hneg] at h
      intro _
      refine t_rg0 ?_
      refine t_r ?_
      simp [go_sem, hP, hgl, hn] <;> (try omega)
      unfold idxNeg
      have : l.findIdx? (fun n => decide (n < 0)) = some i := by
        rw [List.findIdx?_eq_some_iff_getElem]
        obtain ⟨h1, h2⟩ := List.getElem?_eq_some_iff.1 hx
        refine ⟨h1, by simp [h2, hneg], fun j hj => ?_⟩
        have := hI j l[j] hj (List.getElem?_eq_getElem (by omega))
        simp; omega
      rw [this]
    · refine t_a ?_
      refine W_cond rfl ?_ ?_
      · intro h; simp [hneg] at h
      intro _
      refine t_rg0 ?_
      refine t_b ?_
      refine t_sub [] trivial (hnext ?_)
      intro j y hj hy
      by_cases hji : j = i
      · subst hji; rw [hx] at hy; cases hy; omega
      · exact hI j y (by omega) hy
  · intro hI
    refine t_rg0 ?_
    refine t_no ?_
    refine t_rg0 ?_
    refine t_r ?_
    simp [go_sem, hP, hgl, hn] <;> (try omega)
    unfold idxNeg
    have : l.findIdx? (fun n => decide (n < 0)) = none := by
      rw [List.findIdx?_eq_none_iff]
      intro x hx
      obtain ⟨i, hi, rfl⟩ := List.mem_iff_getElem.1 hx
      have := hI i l[i] hi (List.getElem?_eq_getElem hi)
      simp; omega
    rw [this]

theorem contains_ok (l : List Int) : Con1 Tryz.prog gl 100 [.sl (ints l), fnv 99] [] (dbool (l.any (fun n => decide (n < 0)))) [] := by
  refine t_in Tryz.func100 ?_
  intro X hP hgl hf hfn hn hR hids hfit
  refine t_rg0 ?_
  refine t_a ?_
  first | refine W_reg [] fun K hK => ?_ | refine W_regd (by rw [hP]; exact mixed) [] fun K hK => ?_
  refine t_s0 ?_
  refine t_c trivial (indexNeg_ok l) ?_
  refine t_e ?_
  clear hK K
  refine t_r ?_
  simp [go_sem, hP, hgl, hn] <;> (try omega)
  unfold idxNeg
  cases h : l.findIdx? (fun n => decide (n < 0)) with
  | none =>
    rw [List.findIdx?_eq_none_iff] at h
    have : l.any (fun n => decide (n < 0)) = false := by
      rw [List.any_eq_false]
      intro x hx
      simp [h x hx]
    simp only [this]
    decide
  | some k =>
    obtain ⟨h1, h2, -⟩ := List.findIdx?_eq_some_iff_getElem.1 h
    have : l.any (fun n => decide (n < 0)) = true := by
      rw [List.any_eq_true]
      exact ⟨_, List.getElem_mem h1, h2⟩
    simp [this]

end Go.Proofs.YtgfjcbofbbcnmaaGreatDoor.Lift

namespace Go.Proofs.YtgfjcbofbbcnmaaGreatDoor.Lift
set_option linter.unusedSimpArgs false
set_option linter.unusedVariables false
set_option linter.unnecessarySimpa false
open Go
variable {gl : Globs}

def Val.nodesN : Val → Int × Bool
  | .mk k n l a => nodesL a (1, Val.okB (.mk k n l a))
where
  nodesL : List Val → Int × Bool → Int × Bool
    | [], p => p
    | a :: r, p => if p.2 then nodesL r (p.1 + (Val.nodesN a).1, (Val.nodesN a).2) else p
theorem Val.nodesN_eq (v : Val) : v.nodesN = nodesN.nodesL v.args (1, v.okB) := by cases v; simp [nodesN, args]
theorem Val.nodesL_no (l : List Val) (n : Int) : nodesN.nodesL l (n, false) = (n, false) := by cases l <;> simp [nodesN.nodesL]
theorem Val.nodesL_append (l m : List Val) (p : Int × Bool) : nodesN.nodesL (l ++ m) p = nodesN.nodesL m (nodesN.nodesL l p) := by
  induction l generalizing p with
  | nil => simp [nodesN.nodesL]
  | cons a r ih =>
    obtain ⟨n, ok⟩ := p
    cases ok with
    | true => simp [nodesN.nodesL, ih]
    | false => simp [nodesL_no]

/-- the number of nodes of a value -/
def Val.count : Val → Nat
  | .mk _ _ _ a => 1 + counts a
where
  counts : List Val → Nat
    | [] => 0
    | a :: r => a.count + counts r
theorem Val.count_eq (t : Val) : t.count = 1 + Val.count.counts t.args := by cases t; simp [count, args]
theorem Val.counts_append (l m : List Val) : Val.count.counts (l ++ m) = Val.count.counts l + Val.count.counts m := by
  induction l with
  | nil => simp [Val.count.counts]
  | cons a r ih => simp [Val.count.counts, ih]; omega

theorem Val.nodesL_le {v : Val} (ih : ∀ a ∈ v.args, 0 ≤ a.nodesN.1 ∧ a.nodesN.1 ≤ a.count) (l : List Val) : (∀ a ∈ l, a ∈ v.args) → ∀ (n : Int) (ok : Bool), n ≤ (nodesN.nodesL l (n, ok)).1 ∧ (nodesN.nodesL l (n, ok)).1 ≤ n + Val.count.counts l := by
  induction l with
  | nil => intro _ n ok; simp [nodesN.nodesL, Val.count.counts]
  | cons a r ihr =>
    intro h n ok
    have h1 := ih a (h a (by simp))
    cases ok with
    | false => simp [nodesL_no, Val.count.counts]; omega
    | true =>
      have h2 := ihr (fun b hb => h b (List.mem_cons_of_mem _ hb)) (n + a.nodesN.1) a.nodesN.2
      simp only [nodesN.nodesL, if_true, Val.count.counts]
      omega
theorem Val.nodes_le (v : Val) : 0 ≤ v.nodesN.1 ∧ v.nodesN.1 ≤ v.count := by
  induction v using Val.ind with
  | h v ih =>
  have := Val.nodesL_le ih v.args (fun _ h => h) 1 v.okB
  rw [nodesN_eq, count_eq]
  omega

theorem nodes_ok (v : Val) (hc : v.count ≤ 2147483648) : Con1 Tryz.prog gl 82 [v.dv] [] (.tup [dint v.nodesN.1, dbool v.nodesN.2]) [] := by
  induction v using Val.ind with
  | h v ih =>
  refine t_in Tryz.func82 ?_
  intro X hP hgl hf hfn hn hR hids hfit
  have hl1 := Val.fit_args (hfit v.dv (by simp))
  have hl2 := Val.fit_list (hfit v.dv (by simp))
  rw [Val.count_eq] at hc
  refine t_rg0 ?_
  refine t_rg0 ?_
  refine t_rg0 ?_
  refine t_rg0 ?_
  repeat (first | refine W_seq ?_ | refine W_skip ?_ | refine W_inBlock ?_ | refine W_label ?_)
  refine W_cut [(.slot 5, .one (.v (dbool v.okB))), (.loc 1, .row ([.v (dint v.kind), .v (dint v.num), .v (.sl (ints v.list)), .v (.sl (v.args.map Val.cells))])), (.slot 1, .one (.loc 1 0))] ?_ ?_
  · intro hrest
    by_cases h1 : v.kind = 1
    · refine t_rg @h1 ?_
      refine t_yes ?_
      by_cases q1 : 0 ≤ v.num
      · by_cases q2 : v.list.length = 0
        · refine t_rg (j2 @h1 (j2 @q1 @q2)) ?_
          repeat (first | refine W_inBlock ?_ | refine W_skip ?_ | refine W_label ?_ | refine W_exit rfl ?_)
          refine W_sub [] (by simp [go_sem]) (by simp [go_sem, Val.okB, h1, q1, q2] <;> omega) (by simp [go_sem]) hrest
        · refine t_rg (j2 @h1 (j2 @q1 @q2)) ?_
          repeat (first | refine W_inBlock ?_ | refine W_skip ?_ | refine W_label ?_ | refine W_exit rfl ?_)
          refine W_sub [] (by simp [go_sem]) (by simp [go_sem, Val.okB, h1, q1, q2] <;> omega) (by simp [go_sem]) hrest
      · refine t_rg (j2 @h1 @q1) ?_
        repeat (first | refine W_inBlock ?_ | refine W_skip ?_ | refine W_label ?_ | refine W_exit rfl ?_)
        refine W_sub [] (by simp [go_sem]) (by simp [go_sem, Val.okB, h1, q1] <;> omega) (by simp [go_sem]) hrest
    by_cases h2 : v.kind = 2
    · refine t_rg @h2 ?_
      refine t_no ?_
      refine t_rg @h2 ?_
      refine t_yes ?_
      by_cases q1 : v.num = 0
      · refine t_a ?_
        first | refine W_reg [] fun K hK => ?_ | refine W_regd (by rw [hP]; exact mixed) [] fun K hK => ?_
        refine t_s (j2 @h2 @q1) ?_
        refine t_c trivial (contains_ok v.list) ?_
        by_cases q2 : v.list.any (fun n => decide (n < 0)) = true
        · simp [go_sem, hP, hn, q2]
          refine t_e ?_
          clear hK K
          repeat (first | refine W_inBlock ?_ | refine W_skip ?_ | refine W_label ?_ | refine W_exit rfl ?_)
          refine W_sub [] (by simp [go_sem]) (by simp [go_sem, Val.okB, h2, q1, q2] <;> omega) (by simp [go_sem]) hrest
        · simp only [Bool.not_eq_true] at q2
          simp [go_sem, hP, hn, q2]
          refine t_e ?_
          clear hK K
          repeat (first | refine W_inBlock ?_ | refine W_skip ?_ | refine W_label ?_ | refine W_exit rfl ?_)
          refine W_sub [] (by simp [go_sem]) (by simp [go_sem, Val.okB, h2, q1, q2] <;> omega) (by simp [go_sem]) hrest
      · refine t_rg (j2 @h2 @q1) ?_
        repeat (first | refine W_inBlock ?_ | refine W_skip ?_ | refine W_label ?_ | refine W_exit rfl ?_)
        refine W_sub [] (by simp [go_sem]) (by simp [go_sem, Val.okB, h2, q1] <;> omega) (by simp [go_sem]) hrest
    by_cases h3 : v.kind = 3
    · refine t_rg @h3 ?_
      refine t_no ?_
      refine t_rg @h3 ?_
      refine t_no ?_
      refine t_rg @h3 ?_
      refine t_yes ?_
      by_cases q1 : v.num = 0
      · by_cases q2 : v.list.length = 0
        · refine t_rg (j2 @h3 (j2 @q1 @q2)) ?_
          repeat (first | refine W_inBlock ?_ | refine W_skip ?_ | refine W_label ?_ | refine W_exit rfl ?_)
          refine W_sub [] (by simp [go_sem]) (by simp [go_sem, Val.okB, h3, q1, q2] <;> omega) (by simp [go_sem]) hrest
        · refine t_rg (j2 @h3 (j2 @q1 @q2)) ?_
          repeat (first | refine W_inBlock ?_ | refine W_skip ?_ | refine W_label ?_ | refine W_exit rfl ?_)
          refine W_sub [] (by simp [go_sem]) (by simp [go_sem, Val.okB, h3, q1, q2] <;> omega) (by simp [go_sem]) hrest
      · refine t_rg (j2 @h3 @q1) ?_
        repeat (first | refine W_inBlock ?_ | refine W_skip ?_ | refine W_label ?_ | refine W_exit rfl ?_)
        refine W_sub [] (by simp [go_sem]) (by simp [go_sem, Val.okB, h3, q1] <;> omega) (by simp [go_sem]) hrest
    by_cases h4 : v.kind = 4
    · refine t_rg @h4 ?_
      refine t_no ?_
      refine t_rg @h4 ?_
      refine t_no ?_
      refine t_rg @h4 ?_
      refine t_no ?_
      refine t_rg @h4 ?_
      refine t_yes ?_
      by_cases q1 : v.num = 0
      · by_cases q2 : v.list.length = 0
        · refine t_rg (j2 @h4 (j2 @q1 @q2)) ?_
          repeat (first | refine W_inBlock ?_ | refine W_skip ?_ | refine W_label ?_ | refine W_exit rfl ?_)
          refine W_sub [] (by simp [go_sem]) (by simp [go_sem, Val.okB, h4, q1, q2] <;> omega) (by simp [go_sem]) hrest
        · refine t_rg (j2 @h4 (j2 @q1 @q2)) ?_
          repeat (first | refine W_inBlock ?_ | refine W_skip ?_ | refine W_label ?_ | refine W_exit rfl ?_)
          refine W_sub [] (by simp [go_sem]) (by simp [go_sem, Val.okB, h4, q1, q2] <;> omega) (by simp [go_sem]) hrest
      · refine t_rg (j2 @h4 @q1) ?_
        repeat (first | refine W_inBlock ?_ | refine W_skip ?_ | refine W_label ?_ | refine W_exit rfl ?_)
        refine W_sub [] (by simp [go_sem]) (by simp [go_sem, Val.okB, h4, q1] <;> omega) (by simp [go_sem]) hrest
    refine t_rg @h1 ?_
    refine t_no ?_
    refine t_rg @h2 ?_
    refine t_no ?_
    refine t_rg @h3 ?_
    refine t_no ?_
    refine t_rg @h4 ?_
    refine t_no ?_
    repeat (first | refine W_inBlock ?_ | refine W_skip ?_ | refine W_label ?_ | refine W_exit rfl ?_)
    refine W_sub [] (by simp [go_sem]) (by simp [go_sem, Val.okB, h1, h2, h3, h4] <;> omega) (by simp [go_sem]) hrest
  · refine t_rg0 ?_
    refine t_rg0 ?_
    refine t_a ?_
    refine W_sub [] (by simp [go_sem]) (by simp [go_sem, Val.nodesN.nodesL] <;> omega) (by simp [go_sem]) (W_list (v.args) (fun done rest => [(.slot 84, .one (.v (dint done.length))), (.slot 83, .one (.v (dint v.args.length))), (.slot 82, .one (.v (.sl (v.args.map Val.cells)))), (.slot 6, .one (.v (dint (Val.nodesN.nodesL done (1, v.okB)).1))), (.slot 5, .one (.v (dbool (Val.nodesN.nodesL done (1, v.okB)).2)))]) ?_ ?_)
    · intro done x rest hL hg hnext
      have hlt : done.length < v.args.length := by rw [hL]; simp
      have hcx : Val.count.counts v.args = Val.count.counts done + (x.count + Val.count.counts rest) := by rw [hL, Val.counts_append]; rfl
      have hb := Val.nodesL_le (v := v) (fun a _ => Val.nodes_le a) done (fun a ha => by rw [hL]; simp [ha]) 1 v.okB
      have hx := Val.nodes_le x
      obtain ⟨n, ok, hp⟩ : ∃ n ok, Val.nodesN.nodesL done (1, v.okB) = (n, ok) := ⟨_, _, rfl⟩
      rw [hp] at hb
      simp only [Val.nodesL_append, hp] at hnext ⊢
      refine t_rg0 ?_
      refine t_yes ?_
      refine t_rg @hg ?_
      cases ok with
      | false =>
        refine t_rg0 ?_
        refine t_yes ?_
        refine t_rg0 ?_
        refine t_r ?_
        simp [go_sem, hP, hgl, hn, Val.nodesN_eq, hL, Val.nodesL_append, hp, Val.nodesL_no] <;> (try omega)
      | true =>
        refine t_rg0 ?_
        refine t_no ?_
        refine t_rg0 ?_
        refine t_a ?_
        first | refine W_reg [] fun K hK => ?_ | refine W_regd (by rw [hP]; exact mixed) [] fun K hK => ?_
        refine t_s0 ?_
        refine t_c trivial (ih x (List.mem_of_getElem? hg) (by omega)) ?_
        refine t_e ?_
        clear hK K
        refine t_rg0 ?_
        refine t_rg0 ?_
        repeat (first | refine W_inBlock ?_ | refine W_skip ?_ | refine W_label ?_ | refine W_exit rfl ?_)
        refine W_sub [] (by simp [go_sem]) (by simp [go_sem, Val.nodesN.nodesL] <;> omega) (by simp [go_sem]) hnext
    · refine t_rg0 ?_
      refine t_no ?_
      refine t_rg0 ?_
      refine t_r ?_
      simp [go_sem, hP, hgl, hn, Val.nodesN_eq] <;> (try omega)

theorem check_ok (v : Val) (hc : v.count ≤ 2147483648) : Con1 Tryz.prog gl 64 [v.dv] [] (dint (if v.nodesN.2 = true then if v.nodesN.1 > 64 then 4 else 0 else 2)) [] := by
  refine t_in Tryz.func64 ?_
  intro X hP hgl hf hfn hn hR hids hfit
  refine t_rg0 ?_
  refine t_a ?_
  first | refine W_reg [] fun K hK => ?_ | refine W_regd (by rw [hP]; exact mixed) [] fun K hK => ?_
  refine t_s0 ?_
  refine t_c trivial (nodes_ok v hc) ?_
  refine t_e ?_
  clear hK K
  obtain ⟨n, ok, hp⟩ : ∃ n ok, v.nodesN = (n, ok) := ⟨_, _, rfl⟩
  simp only [hp]
  cases ok with
  | false =>
    refine t_rg0 ?_
    refine t_yes ?_
    refine t_rg0 ?_
    refine t_r ?_
    simp [go_sem, hP, hgl, hn, hp] <;> (try omega)
  | true =>
    refine t_rg0 ?_
    refine t_no ?_
    by_cases h : 64 < n
    · refine t_rg @h ?_
      refine t_yes ?_
      refine t_rg0 ?_
      refine t_r ?_
      simp [go_sem, hP, hgl, hn, hp, h] <;> (try omega)
    · refine t_rg @h ?_
      refine t_no ?_
      refine t_rg0 ?_
      refine t_r ?_
      simp [go_sem, hP, hgl, hn, hp, h] <;> (try omega)
end Go.Proofs.YtgfjcbofbbcnmaaGreatDoor.Lift

namespace Go.Proofs.YtgfjcbofbbcnmaaGreatDoor.Lift
set_option linter.unusedSimpArgs false
set_option linter.unusedVariables false
set_option linter.unnecessarySimpa false
open Go
variable {gl : Globs}

theorem checkterm_ok (har : globOf gl 0 = some arEls) (t : Tm) (ht : t.tys) (hc : t.count ≤ 2147483648) : Con1 Tryz.prog gl 78 [t.dv] [] (.tup [dint (if t.checkN = 0 then t.count else 0 : Nat), dint t.checkN]) [] := by
  refine t_in Tryz.func78 ?_
  intro X hP hgl hf hfn hn hR hids hfit
  refine t_g0 ?_
  by_cases h : t.shape = true
  · refine t_a ?_
    first | refine W_reg [] fun K hK => ?_ | refine W_regd (by rw [hP]; exact mixed) [] fun K hK => ?_
    simp [go_sem, hP, hgl, hn, Tm.nodesR, h]
    repeat (refine ⟨by omega, ?_⟩)
    first | refine vcK_call hP hgl (termnodes_ok har t ht hc) (by simp [go_sem, hP, hgl, hn, Tm.nodesR, h]) rfl (by simp [go_sem]) (by simp) (by rw [hn]; exact Nat.le_of_ble_eq_true rfl) ?_ | refine vcdC_call (fun _ _ => vcd_sound) hP hgl (termnodes_ok har t ht hc) (by simp [go_sem, hP, hgl, hn, Tm.nodesR, h]) rfl (by simp [go_sem]) (by simp) (by rw [hn]; exact Nat.le_of_ble_eq_true rfl) ?_ | refine vcK_callG hP hgl (termnodes_ok har t ht hc) (by simp [go_sem, hP, hgl, hn, Tm.nodesR, h]) rfl (by simp [go_sem]) (by simp) (by rw [hn]; exact Nat.le_of_ble_eq_true rfl) (by simp [go_sem]; rfl) (by rw [hn]; exact Nat.le_of_ble_eq_true rfl) (by simp [go_sem]) ?_ | refine vcdC_callG (fun _ _ => vcd_sound) hP hgl (termnodes_ok har t ht hc) (by simp [go_sem, hP, hgl, hn, Tm.nodesR, h]) rfl (by simp [go_sem]) (by simp) (by rw [hn]; exact Nat.le_of_ble_eq_true rfl) (by simp [go_sem]; rfl) (by rw [hn]; exact Nat.le_of_ble_eq_true rfl) (by simp [go_sem]) ?_
    simp [go_sem, hP, hgl, hn, Tm.nodesR, h]
    refine t_e ?_
    clear hK K
    by_cases h2 : 4096 < t.count
    · refine t_g (j2 @h @h2) ?_
      refine t_r ?_
      simp [go_sem, hP, hgl, hn, Tm.checkN, h, h2] <;> (try omega)
    · refine t_g (j2 @h @h2) ?_
      refine t_r ?_
      simp [go_sem, hP, hgl, hn, Tm.checkN, h, h2] <;> (try omega)
  · refine t_a ?_
    first | refine W_reg [] fun K hK => ?_ | refine W_regd (by rw [hP]; exact mixed) [] fun K hK => ?_
    simp [go_sem, hP, hgl, hn, Tm.nodesR, h]
    repeat (refine ⟨by omega, ?_⟩)
    first | refine vcK_call hP hgl (termnodes_ok har t ht hc) (by simp [go_sem, hP, hgl, hn, Tm.nodesR, h]) rfl (by simp [go_sem]) (by simp) (by rw [hn]; exact Nat.le_of_ble_eq_true rfl) ?_ | refine vcdC_call (fun _ _ => vcd_sound) hP hgl (termnodes_ok har t ht hc) (by simp [go_sem, hP, hgl, hn, Tm.nodesR, h]) rfl (by simp [go_sem]) (by simp) (by rw [hn]; exact Nat.le_of_ble_eq_true rfl) ?_ | refine vcK_callG hP hgl (termnodes_ok har t ht hc) (by simp [go_sem, hP, hgl, hn, Tm.nodesR, h]) rfl (by simp [go_sem]) (by simp) (by rw [hn]; exact Nat.le_of_ble_eq_true rfl) (by simp [go_sem]; rfl) (by rw [hn]; exact Nat.le_of_ble_eq_true rfl) (by simp [go_sem]) ?_ | refine vcdC_callG (fun _ _ => vcd_sound) hP hgl (termnodes_ok har t ht hc) (by simp [go_sem, hP, hgl, hn, Tm.nodesR, h]) rfl (by simp [go_sem]) (by simp) (by rw [hn]; exact Nat.le_of_ble_eq_true rfl) (by simp [go_sem]; rfl) (by rw [hn]; exact Nat.le_of_ble_eq_true rfl) (by simp [go_sem]) ?_
    simp [go_sem, hP, hgl, hn, Tm.nodesR, h]
    refine t_e ?_
    clear hK K
    refine t_g @h ?_
    refine t_r ?_
    simp [go_sem, hP, hgl, hn, Tm.checkN, h] <;> (try omega)

theorem termscheck_ok (har : globOf gl 0 = some arEls) (t : Tm) (ht : t.tys) (hc : t.count ≤ 2147483648) : Con1 Tryz.prog gl 60 [t.dv] [] (dint t.checkN) [] := by
  refine t_in Tryz.func60 ?_
  intro X hP hgl hf hfn hn hR hids hfit
  refine t_g0 ?_
  refine t_c1 trivial (checkterm_ok har t ht hc) ?_
  refine t_g0 ?_
  refine t_r ?_
  simp [go_sem, hP, hgl, hn] <;> (try omega)

/-- the number of which a term is the term: how many Succ, and what stands behind them -/
def Tm.peel : Tm → Nat × Int
  | .mk 5 _ _ [a] => ((a.peel).1 + 1, (a.peel).2)
  | t => (0, t.kind)
theorem Tm.peel_succ (t a : Tm) (h : t.kind = 5) (ha : t.args = [a]) : t.peel = (a.peel.1 + 1, a.peel.2) := by
  cases t with
  | mk k i ty l => simp only [kind, args] at h ha; subst h ha; rw [peel]
theorem Tm.peel_no (t : Tm) (h : t.kind ≠ 5) : t.peel = (0, t.kind) := by
  cases t with
  | mk k i ty l =>
    simp only [kind] at h
    unfold peel
    split
    · rename_i h1; simp_all
    · rfl

/-- Succ has one part, all the way down -/
theorem Tm.succ_one {t : Tm} (h : t.shape = true) (hk : t.kind = 5) : ∃ a, t.args = [a] ∧ a.shape = true := by
  rw [shape_eq] at h
  simp only [Bool.and_eq_true, tmKind, decide_eq_true_eq, hk] at h
  have hl : t.args.length = 1 := by have := h.1.1.1.1; simp [arityI] at this; omega
  match hq : t.args, hl with
  | [a], _ =>
    have h2 := h.2
    rw [hq] at h2
    simp [shape.shapes] at h2
    exact ⟨a, rfl, h2⟩

def zeroV : Val := Val.mk 0 0 [] []

/-- the numbers of a list's term, and what stands behind them; none where one of them is no number -/
def Tm.readL : Tm → Option (List Int × Int)
  | .mk 8 _ _ [h, r] => if h.peel.2 = 4 then (r.readL).map fun p => ((h.peel.1 : Int) :: p.1, p.2) else none
  | t => some ([], t.kind)
theorem Tm.readL_cons (t h r : Tm) (hk : t.kind = 8) (ha : t.args = [h, r]) : t.readL = if h.peel.2 = 4 then (r.readL).map fun p => ((h.peel.1 : Int) :: p.1, p.2) else none := by
  cases t with
  | mk k i ty l => simp only [kind, args] at hk ha; subst hk ha; rw [readL]
theorem Tm.readL_no (t : Tm) (h : t.kind ≠ 8) : t.readL = some ([], t.kind) := by
  cases t with
  | mk k i ty l =>
    simp only [kind] at h
    unfold readL
    split
    · rename_i h1; simp_all
    · rfl

/-- the value of which a term is the term -/
def Tm.readV : Tm → Val × Bool
  | .mk k i ty l =>
    if k = 4 ∨ k = 5 then (Val.mk 1 (Tm.mk k i ty l).peel.1 [] [], decide ((Tm.mk k i ty l).peel.2 = 4))
    else if k = 7 ∨ k = 8 then (match (Tm.mk k i ty l).readL with
      | none => (zeroV, false)
      | some p => (Val.mk 2 0 p.1 [], decide (p.2 = 7)))
    else if k = 13 then (Val.mk 4 0 [] [], true)
    else if k = 10 then (Val.mk 3 0 [] (reads l).1, (reads l).2)
    else (zeroV, false)
where
  reads : List Tm → List Val × Bool
    | [] => ([], true)
    | a :: r => ((a.readV).1 :: (reads r).1, (a.readV).2 && (reads r).2)
theorem Tm.readV_eq (t : Tm) : t.readV = if t.kind = 4 ∨ t.kind = 5 then (Val.mk 1 t.peel.1 [] [], decide (t.peel.2 = 4))
    else if t.kind = 7 ∨ t.kind = 8 then (match t.readL with
      | none => (zeroV, false)
      | some p => (Val.mk 2 0 p.1 [], decide (p.2 = 7)))
    else if t.kind = 13 then (Val.mk 4 0 [] [], true)
    else if t.kind = 10 then (Val.mk 3 0 [] (readV.reads t.args).1, (readV.reads t.args).2)
    else (zeroV, false) := by cases t; rw [readV]; rfl

theorem Tm.two_parts {t : Tm} (h : t.shape = true) (ha : arityI t.kind = 2) : ∃ a b, t.args = [a, b] ∧ a.shape = true ∧ b.shape = true := by
  rw [shape_eq] at h
  simp only [Bool.and_eq_true, tmKind, decide_eq_true_eq] at h
  have hl : t.args.length = 2 := by have := h.1.1.1.1; omega
  match hq : t.args, hl with
  | [a, b], _ =>
    have h2 := h.2
    rw [hq] at h2
    simp [shape.shapes] at h2
    exact ⟨a, b, rfl, h2.1, h2.2⟩

end Go.Proofs.YtgfjcbofbbcnmaaGreatDoor.Lift

namespace Go.Proofs.YtgfjcbofbbcnmaaGreatDoor.Lift
set_option linter.unusedSimpArgs false
set_option linter.unusedVariables false
set_option linter.unnecessarySimpa false
open Go
variable {gl : Globs}

def Tm.readE (t : Tm) : Val × Int := if t.checkN ≠ 0 then (zeroV, t.checkN) else if t.readV.2 = false then (zeroV, 2) else if t.readV.1.nodesN.1 > 64 then (zeroV, 4) else (t.readV.1, 0)

theorem list_ok : Con1 Tryz.prog gl 83 [] [] (Ty.mk 2 []).dv [] := by
  refine t_in Tryz.func83 ?_
  intro X hP hgl hf hfn hn hR hids hfit
  refine t_g0 ?_
  refine t_r ?_
  simp [go_sem, hP, hgl, hn] <;> (try omega)
  all_goals exact t_f
theorem nat_ok : Con1 Tryz.prog gl 84 [] [] (Ty.mk 1 []).dv [] := by
  refine t_in Tryz.func84 ?_
  intro X hP hgl hf hfn hn hR hids hfit
  refine t_g0 ?_
  refine t_r ?_
  simp [go_sem, hP, hgl, hn] <;> (try omega)
  all_goals exact t_f

/-- the type of a valid value -/
def Val.tyN : Val → Ty
  | .mk k _ _ a => if k = 2 then Ty.mk 2 [] else if k = 4 then Ty.mk 5 [] else if k = 3 then Ty.mk 3 (tys a) else Ty.mk 1 []
where
  tys : List Val → List Ty
    | [] => []
    | a :: r => a.tyN :: tys r
theorem Val.tys_map (l : List Val) : tyN.tys l = l.map Val.tyN := by
  induction l with
  | nil => rfl
  | cons a r ih => simp [tyN.tys, ih]
theorem Val.tyN_eq (v : Val) : v.tyN = if v.kind = 2 then Ty.mk 2 [] else if v.kind = 4 then Ty.mk 5 [] else if v.kind = 3 then Ty.mk 3 (v.args.map Val.tyN) else Ty.mk 1 [] := by
  cases v; rw [tyN, tys_map]; rfl

end Go.Proofs.YtgfjcbofbbcnmaaGreatDoor.Lift

namespace Go.Proofs.YtgfjcbofbbcnmaaGreatDoor.Lift
set_option linter.unusedSimpArgs false
set_option linter.unusedVariables false
set_option linter.unnecessarySimpa false
open Go
variable {gl : Globs}

/-- lengths of a list's numbers, until they are too many -/
def lenL : List Int → Int → Int × Bool
  | [], n => (n, false)
  | x :: r, n => if 4096 < n + (1 + sizeI x) then (n + (1 + sizeI x), true) else lenL r (n + (1 + sizeI x))

/-- no negative numbers -/
def Val.pos (v : Val) : Prop := 0 ≤ v.num ∧ ∀ n ∈ v.list, (0 : Int) ≤ n
def Val.allPos : Val → Prop
  | .mk k n l a => Val.pos (.mk k n l a) ∧ poss a
where
  poss : List Val → Prop
    | [] => True
    | a :: r => a.allPos ∧ poss r
theorem Val.poss_iff (l : List Val) : allPos.poss l ↔ ∀ a ∈ l, a.allPos := by
  induction l with
  | nil => simp [allPos.poss]
  | cons a r ih => simp [allPos.poss, ih]
theorem Val.allPos_eq (v : Val) : v.allPos ↔ v.pos ∧ ∀ a ∈ v.args, a.allPos := by
  cases v; simp only [allPos, poss_iff, args]

/-- the length ahead of the parts -/
def Val.head (v : Val) : Int := if v.kind = 1 then sizeI v.num else if v.kind = 2 then (lenL v.list 1).1 else 1
end Go.Proofs.YtgfjcbofbbcnmaaGreatDoor.Lift

namespace Go.Proofs.YtgfjcbofbbcnmaaGreatDoor.Lift
set_option linter.unusedSimpArgs false
set_option linter.unusedVariables false
set_option linter.unnecessarySimpa false
open Go
variable {gl : Globs}

theorem backward_ok (l : List Int) : Con Tryz.prog gl 66 [.sl (ints l)] [] fun r φ => ∃ b, r = .prim (.func (.func 85) #[] #[.pointer (some ⟨b, 0, none⟩)]) ∧ φ = [(b, [.sl (ints l)])] := by
  refine t_in Tryz.func66 ?_
  intro X hP hgl hf hfn hn hR hids hfit
  refine t_rg0 ?_
  refine W_expose 1 (by simp [go_sem]; rfl) ?_
  intro b hb
  simp [go_sem]
  refine t_rg0 ?_
  refine t_a ?_
  refine W_retR hP hf hfn (.prim (.func (.func 85) #[] #[.pointer (some ⟨b, 0, none⟩)])) [(b, [.sl (ints l)])] (by simp [go_sem, hP, hgl, hn]) (by simp [go_sem]) (by simp) (by rw [hR.1]; exact ⟨b, rfl, rfl⟩) hR.2

/-- what is asked of yield: the numbers from the last one on -/
def BackY (P : Program) (gl : Globs) (l : List Int) (φ : Nat → Objs) (Stop : Objs → Loop → Prop) (lp : Nat) (r : Loop) (D0 : Nat → Nat → Prop) (w0 : World) : Prop :=
  ∀ (i : Nat) (x : Int), l[i]? = some x → YC P gl D0 w0 lp r [dint i, dint x] (φ (i + 1)) fun b φ' r' => if b = true then φ' = φ i ∧ r' = r else Stop φ' r'

theorem backIt_ok (l : List Int) (hlen : l.length ≤ 2147483648) (b0 : Nat) (φ : Nat → Objs) (hφ : ∀ i, (φ i).map (·.1) = (φ 0).map (·.1)) (hnd : ((φ 0).map (·.1)).Nodup) (hb0 : b0 ∉ (φ 0).map (·.1)) {Stop : Objs → Loop → Prop} (hStop : ∀ ψ r', Stop ψ r' → ψ.map (·.1) = (φ 0).map (·.1)) (lp : Nat) (r : Loop) (hps : r.params.size = 2) :
    ItC Tryz.prog gl 85 [.prim (.func (.yield lp) #[] #[]), ptr b0] ((b0, [.sl (ints l)]) :: φ l.length) lp r (BackY Tryz.prog gl l φ Stop lp r) (fun φ' r' => (φ' = (b0, [.sl (ints l)]) :: φ 0 ∧ r' = r) ∨ ∃ ψ, φ' = (b0, [.sl (ints l)]) :: ψ ∧ Stop ψ r') := by
  refine ItC_intro Tryz.func85 rfl (by kernel_rfl) (Nat.le_of_ble_eq_true rfl) ?_
  intro X hP hgl hf hfn hn hmd hids hfit hlp hY
  simp only [List.map_cons, List.mem_cons, not_or, hφ] at hlp
  obtain ⟨hlb, hlφ⟩ := hlp
  have hin : ∀ (i : Nat) (A : St), (∀ m v, (m, v) ∈ A → ∀ b ∈ (φ 0).map (·.1), m ≠ .heap b) → objsIn (get (A ++ heapSt (φ i))) (φ i) := fun i A h => objsIn_tail (by rw [hφ]; exact hnd) (by rw [hφ]; exact h)
  simp only [entryL, entry, argSt, heapSt, List.map_cons, List.map_nil, List.cons_append, List.nil_append]
  refine t_rg @hlb ?_
  refine t_a ?_
  refine W_tail (A' := [(.slot 3, .one (.v (dint ((l.length : Int) - 1 - (0 : Nat))))), (.slot 0, .one (.v (.prim (.func (.yield lp) #[] #[])))), (.slot 1, .one (.v (ptr b0))), (.heap lp, .ob r), (.heap b0, .row [.v (.sl (ints l))])]) (A := [_, _, _, _, _, _, _, _]) ?_ ?_ ?_
  · intro m v h
    simp only [List.mem_cons, List.not_mem_nil, or_false, Prod.mk.injEq] at h
    rcases h with ⟨rfl, rfl⟩ | ⟨rfl, rfl⟩ | ⟨rfl, rfl⟩ | ⟨rfl, rfl⟩ | ⟨rfl, rfl⟩ <;> simp [go_sem, hlb]
  · simp only [List.cons_append, List.nil_append]
    refine W_upto (X := X) l.length (fun _ => True) (fun j => (.slot 3, .one (.v (dint ((l.length : Int) - 1 - (j : Nat))))) :: (.slot 0, .one (.v (.prim (.func (.yield lp) #[] #[])))) :: (.slot 1, .one (.v (ptr b0))) :: (.heap lp, .ob r) :: (.heap b0, .row [.v (.sl (ints l))]) :: heapSt (φ (l.length - j))) trivial ?_ ?_
    · intro j hj _ hnext
      obtain ⟨i, hi⟩ : ∃ i : Nat, l.length = j + 1 + i := ⟨l.length - (j + 1), by omega⟩
      have hi1 : (l.length : Int) - 1 - (j : Nat) = (i : Nat) := by omega
      have hi2 : l.length - j = i + 1 := by omega
      have hi3 : l.length - (j + 1) = i := by omega
      have hx : l[i]? = some l[i] := List.getElem?_eq_getElem (by omega)
      rw [hi1, hi2]
      rw [hi3] at hnext
      generalize l[i] = x at hx
      have hgi := ints_get hx
      refine t_rg0 ?_
      refine t_yes ?_
      refine t_a ?_
      first | refine W_reg [] fun K hK => ?_ | refine W_regd (by rw [hP]; exact mixed) [] fun K hK => ?_
      refine t_s (j2 @hlb @hgi) ?_
      repeat (refine ⟨by omega, ?_⟩)
      refine vcK_yieldA (by simp [go_sem]) hP hgl (hY i x hx) hps (by simp [go_sem]) rfl ?_ (by rw [hφ]; exact hnd) (by simp [go_sem]) (by rw [hn]; exact Nat.le_of_ble_eq_true rfl) [(.slot 3, .one (.v (dint (i : Nat)))), (.slot 0, .one (.v (.prim (.func (.yield lp) #[] #[])))), (.slot 1, .one (.v (ptr b0))), (.heap b0, .row [.v (.sl (ints l))])] ?_ ?_ ?_
      · repeat (first | refine objsIn_slot ?_ | refine objsIn_heap (by rw [hφ]; assumption) ?_)
        exact objsIn_self (by rw [hφ]; exact hnd)
      · intro m v h
        simp only [List.mem_cons, List.not_mem_nil, or_false, Prod.mk.injEq] at h
        rw [hφ]
        rcases h with ⟨rfl, rfl⟩ | ⟨rfl, rfl⟩ | ⟨rfl, rfl⟩ | ⟨rfl, rfl⟩
        · simp [go_sem]
        · simp [go_sem]
        · simp [go_sem]
        · refine ⟨by simp [go_sem, hlb], by simp, by simp; exact fun e => hlb e.symm, fun b hb e => ?_⟩
          cases e; exact hb0 hb
      · intro b φ' r' h
        have : φ'.map (·.1) = (φ 0).map (·.1) := by
          split at h
          · rw [h.1, hφ]
          · exact hStop _ _ h
        rw [this]
        exact ⟨hnd, hlφ⟩
      · intro b φ' r' h _
        simp only [List.cons_append, List.nil_append]
        cases b with
        | true =>
          simp only [if_true] at h
          obtain ⟨rfl, rfl⟩ := h
          simp [go_sem, hP, hgl, hn]
          refine t_e ?_
          clear hK K
          refine t_no ?_
          refine t_rg0 ?_
          refine t_a ?_
          refine W_tail (A' := [(.slot 3, .one (.v (dint ((l.length : Int) - 1 - (j + 1 : Nat))))), (.slot 0, .one (.v (.prim (.func (.yield lp) #[] #[])))), (.slot 1, .one (.v (ptr b0))), (.heap lp, .ob r'), (.heap b0, .row [.v (.sl (ints l))])]) (A := [_, _, _, _, _, _, _, _, _]) ?_ (hnext trivial) ?_
          · intro m v h
            simp only [List.mem_cons, List.not_mem_nil, or_false, Prod.mk.injEq] at h
            rcases h with ⟨rfl, rfl⟩ | ⟨rfl, rfl⟩ | ⟨rfl, rfl⟩ | ⟨rfl, rfl⟩ | ⟨rfl, rfl⟩ <;> simp [go_sem, hlb]
            omega
          · intro m v h
            simp only [List.mem_cons, List.not_mem_nil, or_false, Prod.mk.injEq] at h
            rw [hφ]
            intro b hb
            rcases h with ⟨rfl, rfl⟩ | ⟨rfl, rfl⟩ | ⟨rfl, rfl⟩ | ⟨rfl, rfl⟩ | ⟨rfl, rfl⟩ | ⟨rfl, rfl⟩ | ⟨rfl, rfl⟩ | ⟨rfl, rfl⟩ | ⟨rfl, rfl⟩ <;> first | (simp; done) | (intro e; cases e; first | exact hb0 hb | exact hlφ hb)
        | false =>
          simp only [Bool.false_eq_true, if_false] at h
          have hids' := hStop _ _ h
          simp [go_sem, hP, hgl, hn]
          refine t_e ?_
          clear hK K
          refine t_yes ?_
          refine t_a ?_
          refine W_itfin hmd (φ := (b0, [.sl (ints l)]) :: φ') (q := r') (r := .tup []) (by rw [hP, hf, hfn]; exact Tryz.func85) (by rw [hfn]; simp [go_sem]) (objsIn_one ?_ ?_) ?_ ?_ (.inr ⟨φ', rfl, h⟩) outs_ret
          · simp [go_sem, hlb]
          · repeat (first | refine objsIn_slot ?_ | refine objsIn_heap (by rw [hids']; assumption) ?_)
            exact objsIn_self (by rw [hids']; exact hnd)
          · simp only [List.map_cons, List.nodup_cons, hids']; exact ⟨hb0, hnd⟩
          · simp [go_sem, hlb]
    · intro _
      refine t_rg0 ?_
      refine t_no ?_
      refine t_a ?_
      refine W_itfin hmd (φ := (b0, [.sl (ints l)]) :: φ 0) (q := r) (r := .tup []) (by rw [hP, hf, hfn]; exact Tryz.func85) (by rw [hfn]; simp [go_sem]) (objsIn_one ?_ ?_) ?_ ?_ (.inl ⟨rfl, rfl⟩) outs_end
      · simp [go_sem, hlb]
      · repeat (first | refine objsIn_slot ?_ | refine objsIn_heap (by assumption) ?_)
        exact objsIn_self hnd
      · simp only [List.map_cons, List.nodup_cons]; exact ⟨hb0, hnd⟩
      · simp [go_sem, hlb]
  · intro m v h
    simp only [List.mem_cons, List.not_mem_nil, or_false, Prod.mk.injEq] at h
    rw [hφ]
    intro b hb
    rcases h with ⟨rfl, rfl⟩ | ⟨rfl, rfl⟩ | ⟨rfl, rfl⟩ | ⟨rfl, rfl⟩ | ⟨rfl, rfl⟩ | ⟨rfl, rfl⟩ | ⟨rfl, rfl⟩ | ⟨rfl, rfl⟩ <;> first | (simp; done) | (intro e; cases e; first | exact hb0 hb | exact hlφ hb)
end Go.Proofs.YtgfjcbofbbcnmaaGreatDoor.Lift

namespace Go.Proofs.YtgfjcbofbbcnmaaGreatDoor.Lift
set_option linter.unusedSimpArgs false
set_option linter.unusedVariables false
set_option linter.unnecessarySimpa false
open Go
variable {gl : Globs}

/-- pairs have two parts -/
def Val.two : Val → Prop
  | .mk k _ _ a => (k = 3 → a.length = 2) ∧ twos a
where
  twos : List Val → Prop
    | [] => True
    | a :: r => a.two ∧ twos r
theorem Val.twos_iff (l : List Val) : two.twos l ↔ ∀ a ∈ l, a.two := by
  induction l with
  | nil => simp [two.twos]
  | cons a r ih => simp [two.twos, ih]
theorem Val.two_eq (v : Val) : v.two ↔ (v.kind = 3 → v.args.length = 2) ∧ ∀ a ∈ v.args, a.two := by
  cases v; simp only [two, twos_iff, kind, args]

end Go.Proofs.YtgfjcbofbbcnmaaGreatDoor.Lift

namespace Go.Proofs.YtgfjcbofbbcnmaaGreatDoor.Lift
set_option linter.unusedSimpArgs false
set_option linter.unusedVariables false
set_option linter.unnecessarySimpa false
open Go
variable {gl : Globs}

theorem Val.nodesL_ok {l : List Val} {n : Int} {ok : Bool} (h : (nodesN.nodesL l (n, ok)).2 = true) : ok = true ∧ ∀ a ∈ l, a.nodesN.2 = true := by
  induction l generalizing n ok with
  | nil => simp [nodesN.nodesL] at h; exact ⟨h, by simp⟩
  | cons a r ih =>
    cases ok with
    | false => rw [nodesL_no] at h; cases h
    | true =>
      simp only [nodesN.nodesL, if_true] at h
      obtain ⟨h1, h2⟩ := ih h
      exact ⟨rfl, by simpa using ⟨h1, h2⟩⟩

/-- a value that has a form has no negative numbers, and pairs of two parts -/
theorem Val.ok_all (v : Val) (h : v.nodesN.2 = true) : v.allPos ∧ v.two := by
  induction v using Val.ind with
  | h v ih =>
  rw [nodesN_eq] at h
  obtain ⟨h1, h2⟩ := nodesL_ok h
  rw [allPos_eq, two_eq]
  have hpos : v.pos ∧ (v.kind = 3 → v.args.length = 2) := by
    unfold okB at h1
    unfold pos
    split at h1
    · rename_i hk
      simp at h1
      simp [hk, h1]
    · split at h1
      · rename_i hk
        simp at h1
        simp [hk]
        obtain ⟨⟨q1, q2⟩, q3⟩ := h1
        rw [q1]
        exact ⟨by omega, fun n hn => by have := q2 n hn; omega⟩
      · split at h1
        · simp at h1; simp [h1]
        · split at h1
          · rename_i hk; simp at h1; simp [h1, hk]
          · cases h1
  exact ⟨⟨hpos.1, fun a ha => (ih a ha (h2 a ha)).1⟩, hpos.2, fun a ha => (ih a ha (h2 a ha)).2⟩

def zeroTm : Tm := Tm.mk 0 0 (Ty.mk 0 []) []

def Val.checkN (v : Val) : Int := if v.nodesN.2 = true then if v.nodesN.1 > 64 then 4 else 0 else 2

end Go.Proofs.YtgfjcbofbbcnmaaGreatDoor.Lift

/-
  Plain facts: the types of terms.
-/
namespace Go.Proofs.YtgfjcbofbbcnmaaGreatDoor.Lift
set_option linter.unusedSimpArgs false
set_option linter.unusedVariables false
set_option linter.unnecessarySimpa false
open Go

def zeroTy : Ty := Ty.mk 0 []
def Ty.arg (t : Ty) (i : Nat) : Ty := t.args.getD i zeroTy
def Ty.ok (t : Ty) : Prop := t.shape = true ∧ t.count ≤ 64

theorem Ty.checkN_iff (t : Ty) : t.checkN = 0 ↔ t.ok := by
  unfold Ty.checkN Ty.ok
  split
  · split
    · rename_i h; simp; omega
    · rename_i h; simp; constructor <;> first | assumption | omega
  · rename_i h; simp [h]

def okN (t : Ty) : Ty × Int := if t.checkN = 0 then (t, 0) else (zeroTy, 4)

theorem okN_ok (t : Ty) (h : (okN t).2 = 0) : (okN t).1.ok ∧ okN t = (t, 0) := by
  unfold okN at h ⊢
  split
  · rename_i h2; exact ⟨(Ty.checkN_iff t).1 h2, rfl⟩
  · rename_i h2; rw [if_neg h2] at h; cases h

/-- the type of a node, of the types of its parts -/
def ruleN (k : Int) (ty : Ty) (l : List Ty) : Ty × Int :=
  if k = 2 then okN (Ty.mk 4 [ty, l.getD 0 zeroTy])
  else if k = 3 then if (l.getD 0 zeroTy).kind = 4 ∧ ((l.getD 0 zeroTy).arg 0).same (l.getD 1 zeroTy) = true then ((l.getD 0 zeroTy).arg 1, 0) else (zeroTy, 7)
  else if k = 4 then (Ty.mk 1 [], 0)
  else if k = 5 then if (l.getD 0 zeroTy).same (Ty.mk 1 []) = true then (Ty.mk 1 [], 0) else (zeroTy, 7)
  else if k = 6 then if (l.getD 0 zeroTy).same ty = true ∧ (l.getD 1 zeroTy).same (Ty.mk 4 [Ty.mk 1 [], Ty.mk 4 [ty, ty]]) = true ∧ (l.getD 2 zeroTy).same (Ty.mk 1 []) = true then (ty, 0) else (zeroTy, 7)
  else if k = 7 then (Ty.mk 2 [], 0)
  else if k = 8 then if (l.getD 0 zeroTy).same (Ty.mk 1 []) = true ∧ (l.getD 1 zeroTy).same (Ty.mk 2 []) = true then (Ty.mk 2 [], 0) else (zeroTy, 7)
  else if k = 9 then if (l.getD 0 zeroTy).same ty = true ∧ (l.getD 1 zeroTy).same (Ty.mk 4 [Ty.mk 1 [], Ty.mk 4 [Ty.mk 2 [], Ty.mk 4 [ty, ty]]]) = true ∧ (l.getD 2 zeroTy).same (Ty.mk 2 []) = true then (ty, 0) else (zeroTy, 7)
  else if k = 10 then okN (Ty.mk 3 [l.getD 0 zeroTy, l.getD 1 zeroTy])
  else if k = 11 then if (l.getD 0 zeroTy).kind = 3 then ((l.getD 0 zeroTy).arg 0, 0) else (zeroTy, 7)
  else if k = 12 then if (l.getD 0 zeroTy).kind = 3 then ((l.getD 0 zeroTy).arg 1, 0) else (zeroTy, 7)
  else (Ty.mk 5 [], 0)

namespace Tm
set_option linter.unusedSimpArgs false
set_option linter.unusedVariables false
set_option linter.unnecessarySimpa false
def inferN : Tm → List Ty → Ty × Int
  | .mk k i ty a, g =>
    if k = 1 then if (g.length : Int) ≤ i then (zeroTy, 6) else (g.getD (g.length - 1 - i.toNat) zeroTy, 0)
    else if (infers a (if k = 2 then g ++ [ty] else g)).2 = 0 then ruleN k ty (infers a (if k = 2 then g ++ [ty] else g)).1
    else (zeroTy, (infers a (if k = 2 then g ++ [ty] else g)).2)
where
  infers : List Tm → List Ty → List Ty × Int
    | [], _ => ([], 0)
    | a :: r, g => if (a.inferN g).2 = 0 then if (infers r g).2 = 0 then ((a.inferN g).1 :: (infers r g).1, 0) else ([], (infers r g).2) else ([], (a.inferN g).2)

theorem inferN_eq (t : Tm) (g : List Ty) : t.inferN g =
    if t.kind = 1 then if (g.length : Int) ≤ t.index then (zeroTy, 6) else (g.getD (g.length - 1 - t.index.toNat) zeroTy, 0)
    else if (inferN.infers t.args (if t.kind = 2 then g ++ [t.type] else g)).2 = 0 then ruleN t.kind t.type (inferN.infers t.args (if t.kind = 2 then g ++ [t.type] else g)).1
    else (zeroTy, (inferN.infers t.args (if t.kind = 2 then g ++ [t.type] else g)).2) := by
  cases t; rw [inferN]; rfl

theorem infers_all (l : List Tm) (g : List Ty) (h : (inferN.infers l g).2 = 0) :
    (inferN.infers l g).1.length = l.length ∧ ∀ (i : Nat) (x : Tm), l[i]? = some x → (x.inferN g).2 = 0 ∧ (inferN.infers l g).1[i]? = some (x.inferN g).1 := by
  induction l with
  | nil => simp [inferN.infers]
  | cons a r ih =>
    simp only [inferN.infers] at h ⊢
    by_cases ha : (a.inferN g).2 = 0
    · by_cases hr : (inferN.infers r g).2 = 0
      · simp only [ha, hr, if_true]
        obtain ⟨h1, h2⟩ := ih hr
        refine ⟨by simp [h1], ?_⟩
        intro i x hx
        cases i with
        | zero => simp at hx; subst hx; exact ⟨ha, by simp⟩
        | succ i => simp at hx; simpa using h2 i x hx
      · simp [ha, hr] at h
    · simp [ha] at h
end Tm

theorem Ty.ok_arg {t : Ty} (h : t.ok) {a : Ty} (ha : a ∈ t.args) : a.ok := by
  obtain ⟨h1, h2⟩ := h
  rw [Ty.shape_eq, Bool.and_eq_true, Ty.shapes_iff] at h1
  have := Ty.count_mem ha
  rw [Ty.count_eq] at h2
  exact ⟨h1.2 a ha, by omega⟩

theorem Ty.ok_two {t : Ty} (h : t.ok) (hk : t.kind = 3 ∨ t.kind = 4) : t.args.length = 2 := by
  obtain ⟨h1, h2⟩ := h
  rw [Ty.shape_eq, Bool.and_eq_true] at h1
  rcases hk with hk | hk <;> simpa [tyKind, hk] using h1.1

theorem Ty.ok_args {t : Ty} (h : t.ok) (hk : t.kind = 3 ∨ t.kind = 4) : ∃ a b, t.args = [a, b] ∧ a.ok ∧ b.ok ∧ t.arg 0 = a ∧ t.arg 1 = b := by
  have h2 := Ty.ok_two h hk
  match ha : t.args, h2 with
  | [a, b], _ => exact ⟨a, b, rfl, Ty.ok_arg h (by rw [ha]; simp), Ty.ok_arg h (by rw [ha]; simp), by simp [Ty.arg, ha], by simp [Ty.arg, ha]⟩

theorem ok_nat : (Ty.mk 1 []).ok := ⟨rfl, by decide⟩
theorem ok_list : (Ty.mk 2 []).ok := ⟨rfl, by decide⟩
theorem ok_unit : (Ty.mk 5 []).ok := ⟨rfl, by decide⟩

/-- what a valid term says about its node -/
theorem Tm.shape_node {t : Tm} (h : t.shape = true) : ((t.args.length : Int) = arityI t.kind) ∧ 0 ≤ t.index ∧ (t.kind = 1 ∨ t.index = 0) ∧ (if t.kind = 2 ∨ t.kind = 6 ∨ t.kind = 9 then t.type.ok else t.type.zero = true) ∧ ∀ a ∈ t.args, a.shape = true := by
  rw [Tm.shape_eq, Bool.and_eq_true, Tm.shapes_iff] at h
  obtain ⟨h1, h2⟩ := h
  simp only [tmKind, Bool.and_eq_true, Bool.or_eq_true, decide_eq_true_eq, tyOfKind] at h1
  refine ⟨h1.1.1.1, h1.1.1.2, h1.1.2, ?_, h2⟩
  by_cases hk : t.kind = 2 ∨ t.kind = 6 ∨ t.kind = 9
  · rw [if_pos hk] at h1 ⊢; exact (Ty.checkN_iff _).1 (by simpa using h1.2)
  · rw [if_neg hk] at h1 ⊢; exact h1.2

theorem Tm.inferN_ok (t : Tm) (g : List Ty) (ht : t.shape = true) (hg : ∀ x ∈ g, x.ok) (h : (t.inferN g).2 = 0) : (t.inferN g).1.ok := by
  induction t using Tm.ind generalizing g with
  | h t ih =>
  obtain ⟨ha, hi, hv, hty, hs⟩ := Tm.shape_node ht
  rw [inferN_eq] at h ⊢
  by_cases h1 : t.kind = 1
  · rw [if_pos h1] at h ⊢
    by_cases h2 : (g.length : Int) ≤ t.index
    · rw [if_pos h2] at h; cases h
    · rw [if_neg h2]
      have : g.length - 1 - t.index.toNat < g.length := by omega
      simp only [List.getD_eq_getElem?_getD, List.getElem?_eq_getElem this, Option.getD_some]
      exact hg _ (List.getElem_mem _)
  · rw [if_neg h1] at h ⊢
    generalize hge : (if t.kind = 2 then g ++ [t.type] else g) = g' at h ⊢
    have hg' : ∀ x ∈ g', x.ok := by
      subst hge
      split
      · rename_i h2
        intro x hx
        rcases List.mem_append.1 hx with hx | hx
        · exact hg x hx
        · rw [List.mem_singleton.1 hx]; rwa [if_pos (.inl h2)] at hty
      · exact hg
    by_cases h2 : (inferN.infers t.args g').2 = 0
    · rw [if_pos h2] at h ⊢
      obtain ⟨hl, hx⟩ := infers_all _ _ h2
      have key : ∀ i : Nat, i < t.args.length → ((inferN.infers t.args g').1.getD i zeroTy).ok := by
        intro i hi
        obtain ⟨x1, x2⟩ := hx i t.args[i] (List.getElem?_eq_getElem hi)
        rw [List.getD_eq_getElem?_getD, x2, Option.getD_some]
        exact ih _ (List.getElem_mem _) g' (hs _ (List.getElem_mem _)) hg' x1
      generalize (inferN.infers t.args g').1 = l at h key ⊢
      unfold ruleN at h ⊢
      by_cases hk : t.kind = 2
      · rw [if_pos hk] at h ⊢
        exact (okN_ok _ h).1
      rw [if_neg hk] at h ⊢
      by_cases hk : t.kind = 3
      · rw [if_pos hk] at h ⊢
        by_cases hx : (l.getD 0 zeroTy).kind = 4 ∧ ((l.getD 0 zeroTy).arg 0).same (l.getD 1 zeroTy) = true
        · rw [if_pos hx] at h ⊢
          obtain ⟨a, b, e, oa, ob, e0, e1⟩ := Ty.ok_args (key 0 (by rw [hk] at ha; simp [arityI] at ha; omega)) (.inr hx.1)
          rw [e1]; exact ob
        · rw [if_neg hx] at h; cases h
      rw [if_neg hk] at h ⊢
      by_cases hk : t.kind = 4
      · rw [if_pos hk] at h ⊢
        exact ok_nat
      rw [if_neg hk] at h ⊢
      by_cases hk : t.kind = 5
      · rw [if_pos hk] at h ⊢
        by_cases hx : (l.getD 0 zeroTy).same (Ty.mk 1 []) = true
        · rw [if_pos hx] at h ⊢
          exact ok_nat
        · rw [if_neg hx] at h; cases h
      rw [if_neg hk] at h ⊢
      by_cases hk : t.kind = 6
      · rw [if_pos hk] at h ⊢
        by_cases hx : (l.getD 0 zeroTy).same t.type = true ∧ (l.getD 1 zeroTy).same (Ty.mk 4 [Ty.mk 1 [], Ty.mk 4 [t.type, t.type]]) = true ∧ (l.getD 2 zeroTy).same (Ty.mk 1 []) = true
        · rw [if_pos hx] at h ⊢
          rwa [if_pos (.inr (.inl hk))] at hty
        · rw [if_neg hx] at h; cases h
      rw [if_neg hk] at h ⊢
      by_cases hk : t.kind = 7
      · rw [if_pos hk] at h ⊢
        exact ok_list
      rw [if_neg hk] at h ⊢
      by_cases hk : t.kind = 8
      · rw [if_pos hk] at h ⊢
        by_cases hx : (l.getD 0 zeroTy).same (Ty.mk 1 []) = true ∧ (l.getD 1 zeroTy).same (Ty.mk 2 []) = true
        · rw [if_pos hx] at h ⊢
          exact ok_list
        · rw [if_neg hx] at h; cases h
      rw [if_neg hk] at h ⊢
      by_cases hk : t.kind = 9
      · rw [if_pos hk] at h ⊢
        by_cases hx : (l.getD 0 zeroTy).same t.type = true ∧ (l.getD 1 zeroTy).same (Ty.mk 4 [Ty.mk 1 [], Ty.mk 4 [Ty.mk 2 [], Ty.mk 4 [t.type, t.type]]]) = true ∧ (l.getD 2 zeroTy).same (Ty.mk 2 []) = true
        · rw [if_pos hx] at h ⊢
          rwa [if_pos (.inr (.inr hk))] at hty
        · rw [if_neg hx] at h; cases h
      rw [if_neg hk] at h ⊢
      by_cases hk : t.kind = 10
      · rw [if_pos hk] at h ⊢
        exact (okN_ok _ h).1
      rw [if_neg hk] at h ⊢
      by_cases hk : t.kind = 11
      · rw [if_pos hk] at h ⊢
        by_cases hx : (l.getD 0 zeroTy).kind = 3
        · rw [if_pos hx] at h ⊢
          obtain ⟨a, b, e, oa, ob, e0, e1⟩ := Ty.ok_args (key 0 (by rw [hk] at ha; simp [arityI] at ha; omega)) (.inl hx)
          rw [e0]; exact oa
        · rw [if_neg hx] at h; cases h
      rw [if_neg hk] at h ⊢
      by_cases hk : t.kind = 12
      · rw [if_pos hk] at h ⊢
        by_cases hx : (l.getD 0 zeroTy).kind = 3
        · rw [if_pos hx] at h ⊢
          obtain ⟨a, b, e, oa, ob, e0, e1⟩ := Ty.ok_args (key 0 (by rw [hk] at ha; simp [arityI] at ha; omega)) (.inl hx)
          rw [e1]; exact ob
        · rw [if_neg hx] at h; cases h
      rw [if_neg hk] at h ⊢
      exact ok_unit
    · rw [if_neg h2] at h
      exact absurd h h2
end Go.Proofs.YtgfjcbofbbcnmaaGreatDoor.Lift

namespace Go.Proofs.YtgfjcbofbbcnmaaGreatDoor.Lift
set_option linter.unusedSimpArgs false
set_option linter.unusedVariables false
set_option linter.unnecessarySimpa false
open Go
variable {gl : Globs}

theorem typeof0_ok (v : Val) (ht : v.two) : Con1 Tryz.prog gl 65 [v.dv] [] v.tyN.dv [] := by
  induction v using Val.ind with
  | h v ih =>
  obtain ⟨ht1, ht2⟩ := (Val.two_eq v).1 ht
  refine t_in Tryz.func65 ?_
  intro X hP hgl hf hfn hn hR hids hfit
  by_cases h2 : v.kind = 2
  · have hr : v.tyN = Ty.mk 2 [] := by rw [Val.tyN_eq]; simp [h2]
    refine t_g @h2 ?_
    refine t_c1 @h2 list_ok ?_
    refine t_r ?_
    simp [go_sem, hP, hgl, hn, hr] <;> (try omega)
    all_goals exact t_f
  by_cases h4 : v.kind = 4
  · have hr : v.tyN = Ty.mk 5 [] := by rw [Val.tyN_eq]; simp [h4]
    refine t_g @h4 ?_
    refine t_r ?_
    simp [go_sem, hP, hgl, hn, hr] <;> (try omega)
    all_goals exact t_f
  by_cases h3 : v.kind = 3
  · have h2l := ht1 h3
    match hargs : v.args, h2l with
    | [x, y], _ =>
    have hx : x ∈ v.args := by rw [hargs]; simp
    have hy : y ∈ v.args := by rw [hargs]; simp
    have hr : v.tyN = Ty.mk 3 [x.tyN, y.tyN] := by rw [Val.tyN_eq]; simp [h3, hargs]
    refine t_g @h3 ?_
    refine t_c2 (j2 @h3 @hargs) (ih x hx (ht2 x hx)) (ih y hy (ht2 y hy)) ?_
    refine t_r ?_
    simp [go_sem, hP, hgl, hn, hr] <;> (try omega)
    all_goals exact t_f
  have hr : v.tyN = Ty.mk 1 [] := by rw [Val.tyN_eq]; simp [h2, h3, h4]
  refine t_g (j2 @h2 (j2 @h3 @h4)) ?_
  refine t_c1 @h2 nat_ok ?_
  refine t_r ?_
  simp [go_sem, hP, hgl, hn, hr] <;> (try omega)
  all_goals exact t_f

def Val.typeE (v : Val) : Ty × Int := if v.checkN ≠ 0 then (zeroTy, v.checkN) else (v.tyN, 0)

theorem typeE_ok (v : Val) (hc : v.count ≤ 1048576) : Con1 Tryz.prog gl 46 [v.dv] [] (.tup [v.typeE.1.dv, dint v.typeE.2]) [] := by
  refine t_in Tryz.func46 ?_
  intro X hP hgl hf hfn hn hR hids hfit
  refine t_g0 ?_
  have hck : (if v.nodesN.2 = true then if v.nodesN.1 > 64 then 4 else 0 else 2) = v.checkN := rfl
  have hcon := check_ok (gl := gl) v (by omega)
  rw [hck] at hcon
  refine t_c1 trivial hcon ?_
  by_cases h : v.checkN = 0
  · have hok : v.nodesN.2 = true := by
      unfold Val.checkN at h
      split at h
      · assumption
      · cases h
    obtain ⟨ha, ht⟩ := v.ok_all hok
    refine t_g @h ?_
    refine t_c1 trivial (typeof0_ok v ht) ?_
    refine t_r ?_
    simp [go_sem, hP, hgl, hn, Val.typeE, h] <;> (try omega)
    all_goals exact t_f
  · refine t_g @h ?_
    refine t_r ?_
    simp [go_sem, hP, hgl, hn, Val.typeE, h, zeroTy] <;> (try omega)
    all_goals exact t_f

theorem ref05_ints_ok (a b : List Int) (ha : a.length ≤ 2147483648) (hb : b.length ≤ 2147483648) : Con1 Tryz.prog gl 37 [.sl (ints a), .sl (ints b)] [] (dbool (decide (a = b))) [] := by
  refine t_in Tryz.func37 ?_
  intro X hP hgl hf hfn hn hR hids hfit
  by_cases hl : a.length = b.length
  · refine t_g @hl ?_
    refine t_a ?_
    refine t_sub [] @hl (W_upto (a.length) (fun i => ∀ (j : Nat) (x y : Int), j < i → a[j]? = some x → b[j]? = some y → x = y) (fun i => [(.slot 13, .one (.v (dint i))), (.slot 12, .one (.v (dint a.length))), (.slot 0, .one (.v (.sl (ints a)))), (.slot 1, .one (.v (.sl (ints b))))]) (by intro j x y h; omega) ?_ ?_)
    · intro i hlt hI hnext
      obtain ⟨x, hx⟩ : ∃ x, a[i]? = some x := ⟨_, List.getElem?_eq_getElem hlt⟩
      obtain ⟨y, hy⟩ : ∃ y, b[i]? = some y := ⟨_, List.getElem?_eq_getElem (by omega)⟩
      have gx := ints_get hx
      have gy := ints_get hy
      refine t_rg0 ?_
      refine t_yes ?_
      by_cases hs : x = y
      · refine t_gt (wr []) trivial (j2 @gx (j2 @gy @hs)) (hnext ?_)
        intro j x' y' hj hx' hy'
        by_cases hji : j = i
        · subst hji; rw [hx] at hx'; rw [hy] at hy'; cases hx'; cases hy'; exact hs
        · exact hI j x' y' (by omega) hx' hy'
      · have hne : a ≠ b := fun e => by subst e; rw [hx] at hy; cases hy; exact hs rfl
        refine t_g (j2 @gx (j2 @gy @hs)) ?_
        refine t_r ?_
        simp [go_sem, hP, hgl, hn, hne] <;> (try omega)
    · intro hI
      have he : a = b := List.ext_getElem hl fun i h1 h2 => hI i _ _ h1 (List.getElem?_eq_getElem h1) (List.getElem?_eq_getElem h2)
      refine t_rg0 ?_
      refine t_no ?_
      refine t_g0 ?_
      refine t_r ?_
      simp [go_sem, hP, hgl, hn, he] <;> (try omega)
  · have hne : a ≠ b := fun e => hl (by rw [e])
    refine t_g @hl ?_
    refine t_r ?_
    simp [go_sem, hP, hgl, hn, hne] <;> (try omega)
end Go.Proofs.YtgfjcbofbbcnmaaGreatDoor.Lift

namespace Go.Proofs.YtgfjcbofbbcnmaaGreatDoor.Lift
set_option linter.unusedSimpArgs false
set_option linter.unusedVariables false
set_option linter.unnecessarySimpa false
open Go
variable {gl : Globs}

theorem ref01_fun_ok (a b : Ty) : Con1 Tryz.prog gl 39 [a.dv, b.dv] [] (Ty.mk 4 [a, b]).dv [] := by
  refine t_in Tryz.func39 ?_
  intro X hP hgl hf hfn hn hR hids hfit
  refine t_g0 ?_
  refine t_c2 trivial (ref01_copy_ok a) (ref01_copy_ok b) ?_
  refine t_r ?_
  simp [go_sem, hP, hgl, hn] <;> (try omega)
  all_goals exact t_f

theorem count_two (k : Int) (a b : Ty) : (Ty.mk k [a, b]).count = 1 + (a.count + (b.count + 0)) := rfl

theorem nat_v : (Ty.mk 1 []).dv = .agg [dint 1, .sl []] := rfl
theorem list_v : (Ty.mk 2 []).dv = .agg [dint 2, .sl []] := rfl

end Go.Proofs.YtgfjcbofbbcnmaaGreatDoor.Lift

namespace Go.Proofs.YtgfjcbofbbcnmaaGreatDoor.Lift
set_option linter.unusedSimpArgs false
set_option linter.unusedVariables false
set_option linter.unnecessarySimpa false
open Go
variable {gl : Globs}

def Tm.typedE (t : Tm) (g : List Ty) : Ty × Int := if t.checkN = 0 then t.inferN g else (zeroTy, t.checkN)
def Tm.typeE (t : Tm) (g : List Ty) : Ty × Int := if ctxN g = 0 then t.typedE g else (zeroTy, ctxN g)

theorem Tm.checkN_iff (t : Tm) : t.checkN = 0 ↔ t.shape = true ∧ t.count ≤ 4096 := by
  unfold Tm.checkN
  split
  · split
    · rename_i h; simp; omega
    · rename_i h; simp; constructor <;> first | assumption | omega
  · rename_i h; simp [h]

def Tm.leastN : Tm → Int → Bool
  | .mk _ i _ a, m => !decide (m < i) && leasts a m
where
  leasts : List Tm → Int → Bool
    | [], _ => true
    | a :: r, m => a.leastN m && leasts r m
theorem Tm.leastN_eq (t : Tm) (m : Int) : t.leastN m = (!decide (m < t.index) && leastN.leasts t.args m) := by cases t; rfl
theorem Tm.leasts_append (l r : List Tm) (m : Int) : leastN.leasts (l ++ r) m = (leastN.leasts l m && leastN.leasts r m) := by
  induction l with
  | nil => simp [leastN.leasts]
  | cons a r ih => simp [leastN.leasts, ih, Bool.and_assoc]

theorem least_ok (t : Tm) (m : Int) : Con1 Tryz.prog gl 31 [t.dv, dint m] [] (dbool (t.leastN m)) [] := by
  induction t using Tm.ind with
  | h t ih =>
  refine t_in Tryz.func31 ?_
  intro X hP hgl hf hfn hn hR hids hfit
  have hlen := Tm.fit_len (hfit t.dv (by simp))
  by_cases h : m < t.index
  · refine t_g @h ?_
    refine t_r ?_
    simp [go_sem, hP, hgl, hn, Tm.leastN_eq t, h] <;> (try omega)
  · refine t_g @h ?_
    refine t_a ?_
    refine t_sub [] trivial (W_listI (t.args) (fun done => Tm.leastN.leasts done m = true) (fun done rest => [(.slot 1, .one (.v (dint m))), (.slot 14, .one (.v (dint done.length))), (.slot 13, .one (.v (dint t.args.length))), (.slot 12, .one (.v (.sl (t.args.map Tm.cells))))]) (rfl) ?_ ?_)
    · intro done x rest hL hg0 hI hnext
      have hlt : done.length < t.args.length := by rw [hL]; simp
      have hxm := List.mem_of_getElem? hg0
      refine t_rg0 ?_
      refine t_yes ?_
      refine t_g @hg0 ?_
      refine t_c1 @hg0 (ih x hxm) ?_
      by_cases hx : x.leastN m = true
      · refine t_gt (wr []) trivial @hx (hnext (by rw [Tm.leasts_append, hI]; simp [Tm.leastN.leasts, hx]))
      · refine t_g @hx ?_
        refine t_r ?_
        simp [go_sem, hP, hgl, hn, Tm.leastN_eq t, h] <;> (try omega)
        rw [hL, Tm.leasts_append]
        simp [Tm.leastN.leasts, hx]
    · intro hI
      refine t_rg0 ?_
      refine t_no ?_
      refine t_g0 ?_
      refine t_r ?_
      simp [go_sem, hP, hgl, hn, Tm.leastN_eq t, h, hI] <;> (try omega)

theorem ref05_same_ok (a b : Val) : Con1 Tryz.prog gl 12 [a.dv, b.dv] [] (dbool (a.same b)) [] := by
  induction a using Val.ind generalizing b with
  | h a ih =>
  refine t_in Tryz.func12 ?_
  intro X hP hgl hf hfn hn hR hids hfit
  have hfa := (Val.fit_eq a).1 ((Val.dv_fit a).1 (hfit a.dv (by simp)))
  have hfb := (Val.fit_eq b).1 ((Val.dv_fit b).1 (hfit b.dv (by simp)))
  have hla := hfa.2.2.2.1
  have hlb := hfb.2.2.2.1
  have hia := hfa.2.2.1.1
  have hib := hfb.2.2.1.1
  simp only [BIG] at hla hlb hia hib
  by_cases hk : a.kind = b.kind
  · by_cases hi : a.num = b.num
    · by_cases ht : a.list = b.list
      · by_cases hl : a.args.length = b.args.length
        · refine t_g (j2 @hk @hi) ?_
          refine t_c1 (j2 @hk (j2 @hi (j2 @ht @hl))) (ref05_ints_ok a.list b.list hia hib) ?_
          refine t_g (j2 @ht @hl) ?_
          refine t_a ?_
          refine t_sub [] (j2 @hk (j2 @hi (j2 @hl @ht))) (W_upto (a.args.length) (fun i => ∀ (j : Nat) (x y : Val), j < i → a.args[j]? = some x → b.args[j]? = some y → x.same y = true) (fun i => [(.slot 38, .one (.v (dint i))), (.slot 37, .one (.v (dint a.args.length))), (.slot 3, .one (.loc 3 0)), (.loc 3, .row ([.v (dint b.kind), .v (dint b.num), .v (.sl (ints b.list)), .v (.sl (b.args.map Val.cells))])), (.slot 2, .one (.loc 2 0)), (.loc 2, .row ([.v (dint a.kind), .v (dint a.num), .v (.sl (ints a.list)), .v (.sl (a.args.map Val.cells))]))]) (by intro j x y h; omega) ?_ ?_)
          · intro i hlt hI hnext
            obtain ⟨x, hx⟩ : ∃ x, a.args[i]? = some x := ⟨_, List.getElem?_eq_getElem hlt⟩
            obtain ⟨y, hy⟩ : ∃ y, b.args[i]? = some y := ⟨_, List.getElem?_eq_getElem (by omega)⟩
            refine t_rg0 ?_
            refine t_yes ?_
            refine t_g (j2 @hx @hy) ?_
            refine t_c1 (j2 @hx @hy) (ih x (List.mem_of_getElem? hx) y) ?_
            by_cases hs : x.same y = true
            · refine t_gt (wr []) trivial @hs (hnext ?_)
              intro j x' y' hj hx' hy'
              by_cases hji : j = i
              · subst hji; rw [hx] at hx'; rw [hy] at hy'; cases hx'; cases hy'; exact hs
              · exact hI j x' y' (by omega) hx' hy'
            · refine t_g @hs ?_
              refine t_r ?_
              simp [go_sem, hP, hgl, hn] <;> (try omega)
              refine Bool.eq_false_iff.2 ?_
              intro h
              rw [Val.same_eq] at h
              simp only [Bool.and_eq_true, Val.sames_iff] at h
              exact hs (h.2.2 i x y hx hy)
          · intro hI
            refine t_rg0 ?_
            refine t_no ?_
            refine t_rg0 ?_
            refine t_r ?_
            simp [go_sem, hP, hgl, hn] <;> (try omega)
            rw [Val.same_eq]
            simp only [Bool.and_eq_true, Val.sames_iff]
            exact ⟨⟨⟨by simp [hk], by simp [hi]⟩, by simp [ht]⟩, hl, fun i x y hx hy => hI i x y (List.getElem?_eq_some_iff.1 hx).1 hx hy⟩
        · refine t_g (j2 @hk @hi) ?_
          refine t_c1 (j2 @hk (j2 @hi (j2 @ht @hl))) (ref05_ints_ok a.list b.list hia hib) ?_
          refine t_g (j2 @ht @hl) ?_
          refine t_r ?_
          simp [go_sem, hP, hgl, hn] <;> (try omega)
          refine Bool.eq_false_iff.2 ?_
          intro h
          rw [Val.same_eq] at h
          simp only [Bool.and_eq_true, Val.sames_iff] at h
          exact hl h.2.1
      · refine t_g (j2 @hk @hi) ?_
        refine t_c1 (j2 @hk (j2 @hi @ht)) (ref05_ints_ok a.list b.list hia hib) ?_
        refine t_g @ht ?_
        refine t_r ?_
        simp [go_sem, hP, hgl, hn] <;> (try omega)
        simp [Val.same_eq, ht]
    · refine t_g (j2 @hk @hi) ?_
      refine t_r ?_
      simp [go_sem, hP, hgl, hn] <;> (try omega)
      simp [Val.same_eq, hi]
  · refine t_g @hk ?_
    refine t_r ?_
    simp [go_sem, hP, hgl, hn] <;> (try omega)
    simp [Val.same_eq, hk]
end Go.Proofs.YtgfjcbofbbcnmaaGreatDoor.Lift

namespace Go.Proofs.YtgfjcbofbbcnmaaGreatDoor.Lift
set_option linter.unusedSimpArgs false
set_option linter.unusedVariables false
set_option linter.unnecessarySimpa false
open Go
variable {gl : Globs}

def Tm.argN (t : Tm) (i : Nat) : Tm := t.args.getD i zeroTm

/-- whether a valid term's root is a redex -/
def Tm.rootN (t : Tm) : Bool :=
  if t.kind = 3 then decide ((t.argN 0).kind = 2)
  else if t.kind = 6 then decide ((t.argN 2).kind = 4) || decide ((t.argN 2).kind = 5)
  else if t.kind = 9 then decide ((t.argN 2).kind = 7) || decide ((t.argN 2).kind = 8)
  else if t.kind = 11 then decide ((t.argN 0).kind = 10)
  else if t.kind = 12 then decide ((t.argN 0).kind = 10)
  else false

theorem Tm.parts1 {t : Tm} (h : t.shape = true) (hk : arityI t.kind = 1) : ∃ x, t.args = [x] := by
  have := (Tm.shape_node h).1
  rw [hk] at this
  match ha : t.args, this with
  | [x], _ => exact ⟨x, rfl⟩
theorem Tm.parts2 {t : Tm} (h : t.shape = true) (hk : arityI t.kind = 2) : ∃ x y, t.args = [x, y] := by
  have := (Tm.shape_node h).1
  rw [hk] at this
  match ha : t.args, this with
  | [x, y], _ => exact ⟨x, y, rfl⟩
theorem Tm.parts3 {t : Tm} (h : t.shape = true) (hk : arityI t.kind = 3) : ∃ x y z, t.args = [x, y, z] := by
  have := (Tm.shape_node h).1
  rw [hk] at this
  match ha : t.args, this with
  | [x, y, z], _ => exact ⟨x, y, z, rfl⟩

theorem root_ok (t : Tm) (ht : t.shape = true) : Con1 Tryz.prog gl 54 [t.dv] [] (dbool t.rootN) [] := by
  refine t_in Tryz.func54 ?_
  intro X hP hgl hf hfn hn hR hids hfit
  by_cases h3 : t.kind = 3
  · obtain ⟨x, y, hx⟩ := Tm.parts2 ht (by rw [h3]; rfl)
    refine t_g (j2 @h3 @hx) ?_
    refine t_r ?_
    simp [go_sem, hP, hgl, hn, Tm.rootN, h3, Tm.argN, hx] <;> (try omega)
  by_cases h6 : t.kind = 6
  · obtain ⟨x, y, z, hx⟩ := Tm.parts3 ht (by rw [h6]; rfl)
    by_cases hz : z.kind = 4
    · refine t_g (j2 @h6 (j2 @hx @hz)) ?_
      refine t_r ?_
      simp [go_sem, hP, hgl, hn, Tm.rootN, h6, Tm.argN, hx, hz] <;> (try omega)
    · refine t_g (j2 @h6 (j2 @hx @hz)) ?_
      refine t_r ?_
      simp [go_sem, hP, hgl, hn, Tm.rootN, h6, Tm.argN, hx, hz] <;> (try omega)
  by_cases h9 : t.kind = 9
  · obtain ⟨x, y, z, hx⟩ := Tm.parts3 ht (by rw [h9]; rfl)
    by_cases hz : z.kind = 7
    · refine t_g (j2 @h9 (j2 @hx @hz)) ?_
      refine t_r ?_
      simp [go_sem, hP, hgl, hn, Tm.rootN, h9, Tm.argN, hx, hz] <;> (try omega)
    · refine t_g (j2 @h9 (j2 @hx @hz)) ?_
      refine t_r ?_
      simp [go_sem, hP, hgl, hn, Tm.rootN, h9, Tm.argN, hx, hz] <;> (try omega)
  by_cases h11 : t.kind = 11
  · obtain ⟨x, hx⟩ := Tm.parts1 ht (by rw [h11]; rfl)
    refine t_g (j2 @h11 @hx) ?_
    refine t_r ?_
    simp [go_sem, hP, hgl, hn, Tm.rootN, h11, Tm.argN, hx] <;> (try omega)
  by_cases h12 : t.kind = 12
  · obtain ⟨x, hx⟩ := Tm.parts1 ht (by rw [h12]; rfl)
    refine t_g (j2 @h12 @hx) ?_
    refine t_r ?_
    simp [go_sem, hP, hgl, hn, Tm.rootN, h12, Tm.argN, hx] <;> (try omega)
  refine t_g (j2 @h3 (j2 @h6 (j2 @h9 (j2 @h11 @h12)))) ?_
  refine t_r ?_
  simp [go_sem, hP, hgl, hn, Tm.rootN, h3, h6, h9, h11, h12] <;> (try omega)

end Go.Proofs.YtgfjcbofbbcnmaaGreatDoor.Lift

/-
  Plain facts: lifting, putting in, reducing.
-/
namespace Go.Proofs.YtgfjcbofbbcnmaaGreatDoor.Lift
set_option linter.unusedSimpArgs false
set_option linter.unusedVariables false
set_option linter.unnecessarySimpa false
open Go

def bindI (k : Int) : Int := if k = 2 then 1 else 0

namespace Tm
set_option linter.unusedSimpArgs false
set_option linter.unusedVariables false
set_option linter.unnecessarySimpa false
def upN : Tm → Int → Int → Tm
  | .mk k i ty a, f, b => .mk k (if k = 1 ∧ f ≤ i then i + b else i) ty (ups a (f + bindI k) b)
where
  ups : List Tm → Int → Int → List Tm
    | [], _, _ => []
    | x :: r, f, b => x.upN f b :: ups r f b
theorem ups_map (l : List Tm) (f b : Int) : upN.ups l f b = l.map fun x => x.upN f b := by
  induction l with
  | nil => rfl
  | cons a r ih => simp [upN.ups, ih]
theorem upN_eq (t : Tm) (f b : Int) : t.upN f b = .mk t.kind (if t.kind = 1 ∧ f ≤ t.index then t.index + b else t.index) t.type (t.args.map fun x => x.upN (f + bindI t.kind) b) := by
  cases t; rw [upN, ups_map]; rfl

def timesN : Tm → Int → Nat
  | .mk k i _ a, p => (if k = 1 ∧ i = p then 1 else 0) + timess a (p + bindI k)
where
  timess : List Tm → Int → Nat
    | [], _ => 0
    | x :: r, p => x.timesN p + timess r p
theorem timesN_eq (t : Tm) (p : Int) : t.timesN p = (if t.kind = 1 ∧ t.index = p then 1 else 0) + timesN.timess t.args (p + bindI t.kind) := by cases t; rfl
theorem timess_append (l m : List Tm) (p : Int) : timesN.timess (l ++ m) p = timesN.timess l p + timesN.timess m p := by
  induction l with
  | nil => simp [timesN.timess]
  | cons a r ih => simp [timesN.timess, ih]; omega
theorem timesN_le (t : Tm) (p : Int) : t.timesN p ≤ t.count := by
  induction t using Tm.ind generalizing p with
  | h t ih =>
  have key : ∀ l : List Tm, (∀ a ∈ l, a ∈ t.args) → timesN.timess l (p + bindI t.kind) ≤ count.counts l := by
    intro l
    induction l with
    | nil => intro _; exact Nat.le_refl _
    | cons a r ihr =>
      intro h
      have h1 := ih a (h a (by simp)) (p + bindI t.kind)
      have h2 := ihr fun b hb => h b (by simp [hb])
      simp only [timesN.timess, count.counts]
      omega
  have := key t.args fun _ h => h
  rw [timesN_eq, count_eq]
  split <;> omega

theorem timess_le (l : List Tm) (p : Int) : timesN.timess l p ≤ count.counts l := by
  induction l with
  | nil => exact Nat.le_refl _
  | cons a r ih => have := timesN_le a p; simp only [timesN.timess, count.counts]; omega

def inN : Tm → Int → Int → Tm → Tm
  | .mk k i ty a, p, d, s =>
    if k = 1 then if i = p + d then s.upN 0 (p + d) else if p + d < i then .mk 1 (i - 1) (Ty.mk 0 []) [] else .mk k i ty a
    else .mk k i ty (ins a p (d + bindI k) s)
where
  ins : List Tm → Int → Int → Tm → List Tm
    | [], _, _, _ => []
    | x :: r, p, d, s => x.inN p d s :: ins r p d s
theorem ins_map (l : List Tm) (p d : Int) (s : Tm) : inN.ins l p d s = l.map fun x => x.inN p d s := by
  induction l with
  | nil => rfl
  | cons a r ih => simp [inN.ins, ih]
theorem inN_eq (t : Tm) (p d : Int) (s : Tm) : t.inN p d s =
    if t.kind = 1 then if t.index = p + d then s.upN 0 (p + d) else if p + d < t.index then .mk 1 (t.index - 1) (Ty.mk 0 []) [] else t
    else .mk t.kind t.index t.type (t.args.map fun x => x.inN p (d + bindI t.kind) s) := by
  cases t; rw [inN, ins_map]; rfl

/-- all indexes are numbers up to m -/
def idx : Tm → Int → Prop
  | .mk _ i _ a, m => (0 ≤ i ∧ i ≤ m) ∧ idxs a m
where
  idxs : List Tm → Int → Prop
    | [], _ => True
    | x :: r, m => x.idx m ∧ idxs r m
theorem idxs_iff (l : List Tm) (m : Int) : idx.idxs l m ↔ ∀ x ∈ l, x.idx m := by
  induction l with
  | nil => simp [idx.idxs]
  | cons a r ih => simp [idx.idxs, ih]
theorem idx_eq (t : Tm) (m : Int) : t.idx m ↔ (0 ≤ t.index ∧ t.index ≤ m) ∧ ∀ x ∈ t.args, x.idx m := by cases t; simp only [idx, idxs_iff, index, args]
theorem idx_mono {t : Tm} {m n : Int} (h : m ≤ n) (hi : t.idx m) : t.idx n := by
  induction t using Tm.ind with
  | h t ih =>
  rw [idx_eq] at hi ⊢
  exact ⟨⟨hi.1.1, by omega⟩, fun x hx => ih x hx (hi.2 x hx)⟩
end Tm
end Go.Proofs.YtgfjcbofbbcnmaaGreatDoor.Lift

namespace Go.Proofs.YtgfjcbofbbcnmaaGreatDoor.Lift
set_option linter.unusedSimpArgs false
set_option linter.unusedVariables false
set_option linter.unnecessarySimpa false
open Go
variable {gl : Globs}

/-- several ways lead to one state, at a place that the first way tells -/
theorem W_cutX {X : Ctx} {k kk : List Item} {s : St} (S : St) (h1 : W X kk S → W X k s) (h2 : W X kk S) : W X k s := h1 h2

theorem below_ok (t : Tm) : Con1 Tryz.prog gl 91 [t.dv] [] (dint (bindI t.kind)) [] := by
  refine t_in Tryz.func91 ?_
  intro X hP hgl hf hfn hn hR hids hfit
  by_cases h : t.kind = 2
  · refine t_g @h ?_
    refine t_r ?_
    simp [go_sem, hP, hgl, hn, bindI, h] <;> (try omega)
  · refine t_g @h ?_
    refine t_r ?_
    simp [go_sem, hP, hgl, hn, bindI, h] <;> (try omega)

theorem bindI_le (k : Int) : 0 ≤ bindI k ∧ bindI k ≤ 1 := by unfold bindI; split <;> omega

theorem times_ok (t : Tm) (p : Int) (hc : t.count ≤ 1073741824) (hp0 : 0 ≤ p) (hp : p + t.count ≤ 2147483648) : Con1 Tryz.prog gl 76 [t.dv, dint p] [] (dint (t.timesN p)) [] := by
  induction t using Tm.ind generalizing p with
  | h t ih =>
  have hct := Tm.count_eq t
  have hbd := bindI_le t.kind
  refine t_in Tryz.func76 ?_
  intro X hP hgl hf hfn hn hR hids hfit
  have hlen := Tm.fit_len (hfit t.dv (by simp))
  refine t_g0 ?_
  apply W_cutX [(.slot 5, .one (.v (dint (if t.kind = 1 ∧ t.index = p then 1 else 0)))), (.slot 1, .one (.v (dint p))), (.loc 2, .row ([.v (dint t.kind), .v (dint t.index), .v (dint t.type.kind), .v (.sl (t.type.args.map Ty.cells)), .v (.sl (t.args.map Tm.cells))])), (.slot 2, .one (.loc 2 0)), (.slot 22, .one (.v (dint 0))), (.slot 21, .one (.v (dint t.args.length))), (.slot 20, .one (.v (.sl (t.args.map Tm.cells))))]
  · intro hrest
    by_cases h1 : t.kind = 1
    · by_cases h2 : t.index = p
      · refine t_g (j2 @h1 @h2) ?_
        refine t_b ?_
        refine t_sub [] (j2 @h1 @h2) hrest
      · refine t_g (j2 @h1 @h2) ?_
        refine t_b ?_
        refine t_sub [] (j2 @h1 @h2) hrest
    · refine t_g @h1 ?_
      refine t_b ?_
      refine t_sub [] @h1 hrest
  · refine t_a ?_
    refine W_sub [] (by simp [go_sem]) (by simp [go_sem, Tm.timesN.timess] <;> omega) (by simp [go_sem]) (W_list (t.args) (fun done rest => [(.slot 5, .one (.v (dint ((if t.kind = 1 ∧ t.index = p then 1 else 0) + (Tm.timesN.timess done (p + bindI t.kind) : Nat))))), (.slot 1, .one (.v (dint p))), (.slot 22, .one (.v (dint done.length))), (.slot 21, .one (.v (dint t.args.length))), (.slot 20, .one (.v (.sl (t.args.map Tm.cells)))), (.loc 2, .row ([.v (dint t.kind), .v (dint t.index), .v (dint t.type.kind), .v (.sl (t.type.args.map Ty.cells)), .v (.sl (t.args.map Tm.cells))])), (.slot 2, .one (.loc 2 0))]) ?_ ?_)
    · intro done x rest hL hg0 hnext
      have hlt : done.length < t.args.length := by rw [hL]; simp
      have hxm := List.mem_of_getElem? hg0
      have hcs : Tm.count.counts t.args = Tm.count.counts done + (x.count + Tm.count.counts rest) := by rw [hL, Tm.counts_append]; rfl
      have h1 := Tm.timess_le done (p + bindI t.kind)
      have h2 := Tm.timesN_le x (p + bindI t.kind)
      have h3 : (if t.kind = 1 ∧ t.index = p then (1 : Int) else 0) ≤ 1 ∧ 0 ≤ (if t.kind = 1 ∧ t.index = p then (1 : Int) else 0) := by split <;> omega
      generalize (if t.kind = 1 ∧ t.index = p then (1 : Int) else 0) = z at *
      refine t_rg0 ?_
      refine t_yes ?_
      refine t_g @hg0 ?_
      refine t_c2 @hg0 (below_ok t) (ih x hxm (p + bindI t.kind) (by omega) (by omega) (by omega)) ?_
      repeat (first | (refine W_sub [] (by simp [go_sem]) (by simp [go_sem, Tm.timess_append, Tm.timesN.timess] <;> omega) (by simp [go_sem]) hnext) | refine W_seq ?_ | refine W_skip ?_ | refine W_block ?_ | refine W_inBlock ?_ | refine W_label ?_ | refine W_exit rfl ?_ | ((first | refine W_reg [] fun K hK => ?_ | refine W_regd (by rw [hP]; exact mixed) [] fun K hK => ?_); simp [go_sem, hP, hgl, hn]; (repeat (refine ⟨by omega, ?_⟩)); (first | refine hK _ ?_ | refine ⟨by rfl, hK _ ?_⟩); clear hK K) | refine W_cond rfl (fun _ => ?_) (fun hq => False.elim (by first | (simp; done) | (simp; omega) | (simp at hq; done) | (simp at hq; omega))) | refine W_cond rfl (fun hq => False.elim (by first | (simp; done) | (simp; omega) | (simp at hq; done) | (simp at hq; omega))) (fun _ => ?_))
    · refine t_rg0 ?_
      refine t_no ?_
      refine t_g0 ?_
      refine t_r ?_
      simp [go_sem, hP, hgl, hn, Tm.timesN_eq t] <;> (try omega)
      split <;> simp

theorem up_ok (t : Tm) (f b : Int) (hi : t.idx 1099511627776) (hb1 : -1099511627776 ≤ b) (hb2 : b ≤ 1099511627776) (hf0 : 0 ≤ f) (hfc : f + t.count ≤ 1099511627776) : Con1 Tryz.prog gl 92 [t.dv, dint f, dint b] [] (t.upN f b).dv [] := by
  induction t using Tm.ind generalizing f with
  | h t ih =>
  have hct := Tm.count_eq t
  have hbd := bindI_le t.kind
  have hix := (Tm.idx_eq t _).1 hi
  refine t_in Tryz.func92 ?_
  intro X hP hgl hf hfn hn hR hids hfit
  have hlen := Tm.fit_len (hfit t.dv (by simp))
  refine t_g0 ?_
  apply W_cutX [(.loc 7, .row ([.v (dint t.kind), .v (dint (if t.kind = 1 ∧ f ≤ t.index then t.index + b else t.index)), .v (dint t.type.kind), .v (.sl (t.type.args.map Ty.cells)), .own 0 []])), (.slot 7, .one (.loc 7 0)), (.slot 1, .one (.v (dint f))), (.slot 2, .one (.v (dint b))), (.loc 3, .row ([.v (dint t.kind), .v (dint t.index), .v (dint t.type.kind), .v (.sl (t.type.args.map Ty.cells)), .v (.sl (t.args.map Tm.cells))])), (.slot 3, .one (.loc 3 0)), (.loc 6, .row ([.v (dint 0), .v (dint 0), .v (dint 0), .own 0 [], .own 0 []])), (.slot 6, .one (.loc 6 0)), (.slot 34, .one (.v (dint 0))), (.slot 33, .one (.v (dint t.args.length))), (.slot 32, .one (.v (.sl (t.args.map Tm.cells))))]
  · intro hrest
    by_cases h1 : t.kind = 1
    · by_cases h2 : f ≤ t.index
      · have h2' : ¬ t.index < f := by omega
        refine t_g (j2 @h1 @h2) ?_
        refine t_b ?_
        refine t_sub [] (j2 @h1 @h2) hrest
      · refine t_g (j2 @h1 @h2) ?_
        refine t_b ?_
        refine t_sub [] (j2 @h1 @h2) hrest
    · refine t_g @h1 ?_
      refine t_b ?_
      refine t_sub [] @h1 hrest
  · refine t_a ?_
    refine t_sub [(1007, 0)] trivial (W_list (t.args) (fun done rest => [(.loc 7, .row ([.v (dint t.kind), .v (dint (if t.kind = 1 ∧ f ≤ t.index then t.index + b else t.index)), .v (dint t.type.kind), .v (.sl (t.type.args.map Ty.cells)), .own 1007 (done.map fun x => (x.upN (f + bindI t.kind) b).cells)])), (.slot 7, .one (.loc 7 0)), (.tok 1007, .tk 5 done.length), (.slot 1, .one (.v (dint f))), (.slot 2, .one (.v (dint b))), (.loc 3, .row ([.v (dint t.kind), .v (dint t.index), .v (dint t.type.kind), .v (.sl (t.type.args.map Ty.cells)), .v (.sl (t.args.map Tm.cells))])), (.slot 3, .one (.loc 3 0)), (.loc 6, .row ([.v (dint 0), .v (dint 0), .v (dint 0), .own 0 [], .own 0 []])), (.slot 6, .one (.loc 6 0)), (.slot 34, .one (.v (dint done.length))), (.slot 33, .one (.v (dint t.args.length))), (.slot 32, .one (.v (.sl (t.args.map Tm.cells))))]) ?_ ?_)
    · intro done x rest hL hg0 hnext
      have hlt : done.length < t.args.length := by rw [hL]; simp
      have hxm := List.mem_of_getElem? hg0
      have hcs := Tm.count_mem hxm
      refine t_rg0 ?_
      refine t_yes ?_
      refine t_g @hg0 ?_
      refine t_c2 @hg0 (below_ok t) (ih x hxm (f + bindI t.kind) (hix.2 x hxm) (by omega) (by omega)) ?_
      refine t_gt (wr [(1007, 48)]) (Tm.cells_eq (x.upN (f + bindI t.kind) b)) trivial hnext
    · refine t_rg0 ?_
      refine t_no ?_
      refine t_g0 ?_
      refine t_r ?_
      simp [go_sem, hP, hgl, hn] <;> (try omega)
      rw [Tm.upN_eq t]
      simp [Tm.dv, Tm.cells_eq, Tm.kind_mk, Tm.index_mk, Tm.type_mk, Tm.args_mk]

theorem ref02_var_ok (i : Int) : Con1 Tryz.prog gl 16 [dint i] [] (Tm.mk 1 i (Ty.mk 0 []) []).dv [] := by
  refine t_in Tryz.func16 ?_
  intro X hP hgl hf hfn hn hR hids hfit
  refine t_g0 ?_
  refine t_r ?_
  simp [go_sem, hP, hgl, hn] <;> (try omega)
  all_goals exact t_f

theorem in_ok (t : Tm) (p d : Int) (s : Tm) (hi : t.idx 1099511627776) (hs : s.idx 1099511627776) (hp : 0 ≤ p) (hd : 0 ≤ d) (hpd : p + d + t.count + s.count ≤ 1099511627776) : Con1 Tryz.prog gl 77 [t.dv, dint p, dint d, s.dv] [] (t.inN p d s).dv [] := by
  induction t using Tm.ind generalizing d with
  | h t ih =>
  have hct := Tm.count_eq t
  have hbd := bindI_le t.kind
  have hix := (Tm.idx_eq t _).1 hi
  refine t_in Tryz.func77 ?_
  intro X hP hgl hf hfn hn hR hids hfit
  have hlen := Tm.fit_len (hfit t.dv (by simp))
  by_cases h1 : t.kind = 1
  · by_cases h2 : t.index = p + d
    · refine t_g (j2 @h1 @h2) ?_
      refine t_c1 @h1 (up_ok s 0 (p + d) hs (by omega) (by omega) (by omega) (by omega)) ?_
      refine t_r ?_
      simp [go_sem, hP, hgl, hn, Tm.inN_eq t, h1, h2] <;> (try omega)
      all_goals exact t_f
    · by_cases h3 : p + d < t.index
      · refine t_g (j2 @h1 (j2 @h2 @h3)) ?_
        refine t_c1 @h1 (ref02_var_ok (t.index - 1)) ?_
        refine t_r ?_
        simp [go_sem, hP, hgl, hn, Tm.inN_eq t, h1, h2, h3] <;> (try omega)
        all_goals exact t_f
      · refine t_g (j2 @h1 (j2 @h2 @h3)) ?_
        refine t_r ?_
        simp [go_sem, hP, hgl, hn, Tm.inN_eq t, h1, h2, h3] <;> (try omega)
        all_goals (simp [Ty.dv, Ty.cells_eq, Ty.kind_mk, Ty.args_mk, Tm.dv, Tm.cells_eq, Tm.kind_mk, Tm.index_mk, Tm.type_mk, Tm.args_mk, Val.dv, Val.cells_eq, Val.kind_mk, Val.num_mk, Val.list_mk, Val.args_mk, ints])
        all_goals exact h1.symm
  · refine t_g @h1 ?_
    refine t_a ?_
    refine t_sub [(1009, 0)] trivial (W_list (t.args) (fun done rest => [(.loc 9, .row ([.v (dint t.kind), .v (dint t.index), .v (dint t.type.kind), .v (.sl (t.type.args.map Ty.cells)), .own 1009 (done.map fun x => (x.inN p (d + bindI t.kind) s).cells)])), (.slot 9, .one (.loc 9 0)), (.tok 1009, .tk 5 done.length), (.slot 1, .one (.v (dint p))), (.slot 2, .one (.v (dint d))), (.loc 4, .row ([.v (dint t.kind), .v (dint t.index), .v (dint t.type.kind), .v (.sl (t.type.args.map Ty.cells)), .v (.sl (t.args.map Tm.cells))])), (.slot 4, .one (.loc 4 0)), (.loc 7, .row ([.v (dint s.kind), .v (dint s.index), .v (dint s.type.kind), .v (.sl (s.type.args.map Ty.cells)), .v (.sl (s.args.map Tm.cells))])), (.slot 7, .one (.loc 7 0)), (.loc 8, .row ([.v (dint 0), .v (dint 0), .v (dint 0), .own 0 [], .own 0 []])), (.slot 8, .one (.loc 8 0)), (.slot 47, .one (.v (dint done.length))), (.slot 46, .one (.v (dint t.args.length))), (.slot 45, .one (.v (.sl (t.args.map Tm.cells))))]) ?_ ?_)
    · intro done x rest hL hg0 hnext
      have hlt : done.length < t.args.length := by rw [hL]; simp
      have hxm := List.mem_of_getElem? hg0
      have hcs := Tm.count_mem hxm
      refine t_rg0 ?_
      refine t_yes ?_
      refine t_g @hg0 ?_
      refine t_c2 @hg0 (below_ok t) (ih x hxm (d + bindI t.kind) (hix.2 x hxm) (by omega) (by omega)) ?_
      refine t_gt (wr [(1009, 62)]) (Tm.cells_eq (x.inN p (d + bindI t.kind) s)) trivial hnext
    · refine t_rg0 ?_
      refine t_no ?_
      refine t_g0 ?_
      refine t_r ?_
      simp [go_sem, hP, hgl, hn] <;> (try omega)
      rw [Tm.inN_eq t]
      simp [h1, Tm.dv, Tm.cells_eq, Tm.kind_mk, Tm.index_mk, Tm.type_mk, Tm.args_mk]
end Go.Proofs.YtgfjcbofbbcnmaaGreatDoor.Lift

