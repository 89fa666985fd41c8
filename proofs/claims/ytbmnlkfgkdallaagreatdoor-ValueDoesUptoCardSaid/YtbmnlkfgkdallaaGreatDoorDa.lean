/-
  Plain data of the program: types, terms and values as trees, and how they read as data (printed by a program of ours).
-/
import Derived.Test.YtbmnlkfgkdallaaGreatDoorLu
namespace Go.Proofs.YtbmnlkfgkdallaaGreatDoor.Lift
set_option linter.unusedSimpArgs false
set_option linter.unusedVariables false
set_option linter.unnecessarySimpa false
open Go

/-- a list of numbers as a slice's elements -/
def ints (l : List Int) : List (List DV) := l.map fun n => [dint n]

theorem slFit {α : Type} (f : α → List DV) (g : α → DV) (hg : ∀ a, g a = .agg (f a)) (l : List α) : DV.fit (.sl (l.map f)) ↔ l.length ≤ BIG ∧ ∀ a ∈ l, (g a).fit := by
  simp only [DV.fit, List.length_map]
  refine and_congr Iff.rfl ?_
  rw [fitss_iff]
  constructor
  · intro h a ha
    obtain ⟨i, hi, rfl⟩ := List.mem_iff_getElem.1 ha
    rw [hg]
    show DV.fit.fits _
    rw [fits_iff]
    intro j c hc
    exact h i j _ c (by simp [hi]) hc
  · intro h i j e c he hc
    rw [List.getElem?_map] at he
    cases hq : l[i]? with
    | none => simp [hq] at he
    | some a =>
      simp [hq] at he
      subst he
      have := h a (List.mem_of_getElem? hq)
      rw [hg] at this
      exact (fits_iff _).1 this j c hc

theorem slFit' {α : Type} (f : α → List DV) (g : α → DV) (hg : ∀ a, g a = .agg (f a)) {p : α → Prop} (hp : ∀ a, (g a).fit ↔ p a) (l : List α) : DV.fit (.sl (l.map f)) ↔ l.length ≤ BIG ∧ ∀ a ∈ l, p a := by
  rw [slFit f g hg]
  simp only [hp]

theorem ints_fit (l : List Int) : DV.fit (.sl (ints l)) ↔ l.length ≤ BIG ∧ ∀ n ∈ l, intOK .i64 n := by
  unfold ints
  rw [slFit' (fun n => [dint n]) (fun n => .agg [dint n]) (fun _ => rfl) (p := fun n => intOK .i64 n) (fun n => by simp [DV.fit, DV.fit.fits, primOK, intOK])]

theorem samesIff {α : Type} (f : α → α → Bool) (g : List α → List α → Bool) (h0 : g [] [] = true) (h1 : ∀ a r, g (a :: r) [] = false) (h2 : ∀ a r, g [] (a :: r) = false) (h3 : ∀ a r b t, g (a :: r) (b :: t) = (f a b && g r t)) (as bs : List α) :
    g as bs = true ↔ as.length = bs.length ∧ ∀ (i : Nat) (a b : α), as[i]? = some a → bs[i]? = some b → f a b = true := by
  induction as generalizing bs with
  | nil => cases bs <;> simp [h0, h2]
  | cons a r ih =>
    cases bs with
    | nil => simp [h1]
    | cons b t =>
      simp only [h3, Bool.and_eq_true, ih, List.length_cons, Nat.add_right_cancel_iff]
      constructor
      · rintro ⟨h1, h2, h3⟩
        refine ⟨h2, fun i x y hx hy => ?_⟩
        cases i with
        | zero => simp at hx hy; subst hx hy; exact h1
        | succ i => exact h3 i x y (by simpa using hx) (by simpa using hy)
      · rintro ⟨h1, h2⟩
        exact ⟨h2 0 a b rfl rfl, h1, fun i x y hx hy => h2 (i + 1) x y (by simpa using hx) (by simpa using hy)⟩

theorem listSame {α : Type} {f : α → α → Bool} {b : Bool} {as bs : List α} (h : b = true ↔ as.length = bs.length ∧ ∀ (i : Nat) (a b : α), as[i]? = some a → bs[i]? = some b → f a b = true) (ih : ∀ a ∈ as, ∀ b, f a b = true ↔ a = b) : b = true ↔ as = bs := by
  rw [h]
  constructor
  · rintro ⟨h2, h3⟩
    apply List.ext_getElem h2
    intro i hi hj
    exact (ih _ (List.getElem_mem hi) _).1 (h3 i _ _ (List.getElem?_eq_getElem hi) (List.getElem?_eq_getElem hj))
  · rintro rfl
    exact ⟨rfl, fun i x y hx hy => by rw [hx] at hy; cases hy; exact (ih x (List.mem_of_getElem? hx) x).2 rfl⟩

theorem ints_length (l : List Int) : (ints l).length = l.length := by simp [ints]
theorem ints_get {l : List Int} {i : Nat} {n : Int} (h : l[i]? = some n) : (ints l)[i]? = some [dint n] := by simp [ints, h]
theorem ints_nil : ints [] = [] := rfl
theorem ints_append (l m : List Int) : ints (l ++ m) = ints l ++ ints m := by simp [ints]
theorem ints_cons (n : Int) (m : List Int) : ints (n :: m) = [dint n] :: ints m := rfl
theorem ints_wide (l : List Int) : (∀ e ∈ ints l, e.length = 1) = True := by simp [ints]
attribute [go_sem] ints_length ints_wide ints_append

/-! Ty -/
inductive Ty where
  | mk (kind : Int) (args : List Ty)
namespace Ty
set_option linter.unusedSimpArgs false
set_option linter.unusedVariables false
set_option linter.unnecessarySimpa false
def kind : Ty → Int | .mk x _ => x
def args : Ty → List Ty | .mk _ x => x
theorem ind {p : Ty → Prop} (h : ∀ t : Ty, (∀ a ∈ t.args, p a) → p t) (t : Ty) : p t :=
  Ty.rec (motive_1 := p) (motive_2 := fun as => ∀ a ∈ as, p a) (fun v0 v1 ih => h (.mk v0 v1) ih) (fun a ha => by cases ha)
    (fun a r ha hr b hb => by
      rcases List.mem_cons.1 hb with rfl | hb
      · exact ha
      · exact hr b hb) t
def cells : Ty → List DV
  | .mk v0 v1 => [dint v0, .sl (all v1)]
where
  all : List Ty → List (List DV)
    | [] => []
    | a :: r => cells a :: all r
theorem all_map (as : List Ty) : cells.all as = as.map cells := by
  induction as with
  | nil => rfl
  | cons a r ih => simp [cells.all, ih]
theorem cells_eq (t : Ty) : t.cells = [dint t.kind, .sl (List.map cells t.args)] := by
  cases t with
  | mk v0 v1 => simp [cells, kind, args, all_map]
def dv (t : Ty) : DV := .agg t.cells
theorem fold (t : Ty) : DV.agg [dint t.kind, .sl (List.map Ty.cells t.args)] = t.dv := by rw [Ty.dv, Ty.cells_eq]
theorem cells_mk (kind : Int) (args : List Ty) : (mk kind args).cells = [dint kind, .sl (List.map Ty.cells args)] := by rw [cells_eq]; rfl
theorem fold_mk (kind : Int) (args : List Ty) : DV.agg [dint kind, .sl (List.map Ty.cells args)] = (mk kind args).dv := by rw [dv, cells_mk]
theorem cellsD_dv (t : Ty) : cellsD t.dv = [dint t.kind, .sl (List.map Ty.cells t.args)] := by rw [Ty.dv, cellsD, Ty.cells_eq]
theorem dv_agg (t : Ty) : DV.agg t.cells = t.dv := rfl
theorem length_cells (t : Ty) : t.cells.length = 2 := by rw [cells_eq]; rfl
theorem isCell_dv (t : Ty) : t.dv.isCell = false := rfl
theorem isAgg_dv (t : Ty) : t.dv.isAgg = true := rfl
theorem eta (t : Ty) : Ty.mk t.kind t.args = t := by cases t; rfl
theorem kind_mk (kind : Int) (args : List Ty) : (mk kind args).kind = kind := rfl
theorem args_mk (kind : Int) (args : List Ty) : (mk kind args).args = args := rfl
def fit : Ty → Prop
  | .mk v0 v1 => intOK .i64 v0 ∧ v1.length ≤ BIG ∧ fits v1
where
  fits : List Ty → Prop
    | [] => True
    | a :: r => fit a ∧ fits r
theorem fits_iff (as : List Ty) : fit.fits as ↔ ∀ a ∈ as, a.fit := by
  induction as with
  | nil => simp [fit.fits]
  | cons a r ih => simp [fit.fits, ih]
theorem fit_eq (t : Ty) : t.fit ↔ intOK .i64 t.kind ∧ t.args.length ≤ BIG ∧ ∀ a ∈ t.args, a.fit := by
  cases t with
  | mk v0 v1 => simp only [fit, fits_iff, kind, args]
theorem dv_fit (t : Ty) : t.dv.fit ↔ t.fit := by
  induction t using Ty.ind with
  | h t ih =>
    rw [fit_eq, ← fold]
    have hs : DV.fit (.sl (t.args.map cells)) ↔ t.args.length ≤ BIG ∧ ∀ a ∈ t.args, a.fit := by
      rw [slFit cells dv (fun _ => rfl)]
      exact and_congr Iff.rfl ⟨fun h a ha => (ih a ha).1 (h a ha), fun h a ha => (ih a ha).2 (h a ha)⟩
    rw [← hs]
    simp only [DV.fit, DV.fit.fits, primOK, intOK, and_true, and_assoc]
def same : Ty → Ty → Bool
  | .mk v0 v1, .mk w0 w1 => v0 == w0 && sames v1 w1
where
  sames : List Ty → List Ty → Bool
    | [], [] => true
    | a :: r, b :: t => same a b && sames r t
    | _, _ => false
theorem sames_iff (as bs : List Ty) : same.sames as bs = true ↔ as.length = bs.length ∧ ∀ (i : Nat) (a b : Ty), as[i]? = some a → bs[i]? = some b → a.same b = true :=
  samesIff same same.sames rfl (fun _ _ => rfl) (fun _ _ => rfl) (fun _ _ _ _ => rfl) as bs
theorem same_eq (a b : Ty) : a.same b = (a.kind == b.kind && same.sames a.args b.args) := by
  cases a; cases b; rfl
theorem same_iff (a b : Ty) : a.same b = true ↔ a = b := by
  induction a using Ty.ind generalizing b with
  | h a ih =>
    have hs : same.sames a.args b.args = true ↔ a.args = b.args := listSame (sames_iff _ _) ih
    rw [same_eq]
    simp only [Bool.and_eq_true, beq_iff_eq, hs]
    constructor
    · intro h
      cases a; cases b
      simp only [kind, args] at h
      simp_all
    · rintro rfl
      simp
theorem sames_eq (as bs : List Ty) : same.sames as bs = true ↔ as = bs := listSame (sames_iff _ _) fun a _ => same_iff a
end Ty
attribute [go_sem] Ty.cells_eq Ty.fold Ty.cellsD_dv Ty.isCell_dv Ty.isAgg_dv Ty.kind_mk Ty.args_mk

/-! Tm -/
inductive Tm where
  | mk (kind : Int) (index : Int) (type : Ty) (args : List Tm)
namespace Tm
set_option linter.unusedSimpArgs false
set_option linter.unusedVariables false
set_option linter.unnecessarySimpa false
def kind : Tm → Int | .mk x _ _ _ => x
def index : Tm → Int | .mk _ x _ _ => x
def type : Tm → Ty | .mk _ _ x _ => x
def args : Tm → List Tm | .mk _ _ _ x => x
theorem ind {p : Tm → Prop} (h : ∀ t : Tm, (∀ a ∈ t.args, p a) → p t) (t : Tm) : p t :=
  Tm.rec (motive_1 := p) (motive_2 := fun as => ∀ a ∈ as, p a) (fun v0 v1 v2 v3 ih => h (.mk v0 v1 v2 v3) ih) (fun a ha => by cases ha)
    (fun a r ha hr b hb => by
      rcases List.mem_cons.1 hb with rfl | hb
      · exact ha
      · exact hr b hb) t
def cells : Tm → List DV
  | .mk v0 v1 v2 v3 => [dint v0, dint v1, dint v2.kind, .sl (List.map Ty.cells v2.args), .sl (all v3)]
where
  all : List Tm → List (List DV)
    | [] => []
    | a :: r => cells a :: all r
theorem all_map (as : List Tm) : cells.all as = as.map cells := by
  induction as with
  | nil => rfl
  | cons a r ih => simp [cells.all, ih]
theorem cells_eq (t : Tm) : t.cells = [dint t.kind, dint t.index, dint t.type.kind, .sl (List.map Ty.cells t.type.args), .sl (List.map cells t.args)] := by
  cases t with
  | mk v0 v1 v2 v3 => simp [cells, kind, index, type, args, all_map]
def dv (t : Tm) : DV := .agg t.cells
theorem fold (t : Tm) : DV.agg [dint t.kind, dint t.index, dint t.type.kind, .sl (List.map Ty.cells t.type.args), .sl (List.map Tm.cells t.args)] = t.dv := by rw [Tm.dv, Tm.cells_eq]
theorem cells_mk (kind : Int) (index : Int) (type : Ty) (args : List Tm) : (mk kind index type args).cells = [dint kind, dint index, dint type.kind, .sl (List.map Ty.cells type.args), .sl (List.map Tm.cells args)] := by rw [cells_eq]; rfl
theorem fold_mk (kind : Int) (index : Int) (type : Ty) (args : List Tm) : DV.agg [dint kind, dint index, dint type.kind, .sl (List.map Ty.cells type.args), .sl (List.map Tm.cells args)] = (mk kind index type args).dv := by rw [dv, cells_mk]
theorem cellsD_dv (t : Tm) : cellsD t.dv = [dint t.kind, dint t.index, dint t.type.kind, .sl (List.map Ty.cells t.type.args), .sl (List.map Tm.cells t.args)] := by rw [Tm.dv, cellsD, Tm.cells_eq]
theorem dv_agg (t : Tm) : DV.agg t.cells = t.dv := rfl
theorem length_cells (t : Tm) : t.cells.length = 5 := by rw [cells_eq]; rfl
theorem isCell_dv (t : Tm) : t.dv.isCell = false := rfl
theorem isAgg_dv (t : Tm) : t.dv.isAgg = true := rfl
theorem eta (t : Tm) : Tm.mk t.kind t.index t.type t.args = t := by cases t; rfl
theorem kind_mk (kind : Int) (index : Int) (type : Ty) (args : List Tm) : (mk kind index type args).kind = kind := rfl
theorem index_mk (kind : Int) (index : Int) (type : Ty) (args : List Tm) : (mk kind index type args).index = index := rfl
theorem type_mk (kind : Int) (index : Int) (type : Ty) (args : List Tm) : (mk kind index type args).type = type := rfl
theorem args_mk (kind : Int) (index : Int) (type : Ty) (args : List Tm) : (mk kind index type args).args = args := rfl
def fit : Tm → Prop
  | .mk v0 v1 v2 v3 => intOK .i64 v0 ∧ intOK .i64 v1 ∧ v2.fit ∧ v3.length ≤ BIG ∧ fits v3
where
  fits : List Tm → Prop
    | [] => True
    | a :: r => fit a ∧ fits r
theorem fits_iff (as : List Tm) : fit.fits as ↔ ∀ a ∈ as, a.fit := by
  induction as with
  | nil => simp [fit.fits]
  | cons a r ih => simp [fit.fits, ih]
theorem fit_eq (t : Tm) : t.fit ↔ intOK .i64 t.kind ∧ intOK .i64 t.index ∧ t.type.fit ∧ t.args.length ≤ BIG ∧ ∀ a ∈ t.args, a.fit := by
  cases t with
  | mk v0 v1 v2 v3 => simp only [fit, fits_iff, kind, index, type, args]
theorem dv_fit (t : Tm) : t.dv.fit ↔ t.fit := by
  induction t using Tm.ind with
  | h t ih =>
    rw [fit_eq, ← fold]
    have hs : DV.fit (.sl (t.args.map cells)) ↔ t.args.length ≤ BIG ∧ ∀ a ∈ t.args, a.fit := by
      rw [slFit cells dv (fun _ => rfl)]
      exact and_congr Iff.rfl ⟨fun h a ha => (ih a ha).1 (h a ha), fun h a ha => (ih a ha).2 (h a ha)⟩
    have htype : DV.fit (dint t.type.kind) ∧ DV.fit (.sl (List.map Ty.cells t.type.args)) ↔ t.type.fit := by
      rw [← Ty.dv_fit, ← Ty.fold]
      simp only [DV.fit, DV.fit.fits, and_true, and_assoc]
    rw [← hs, ← htype]
    simp only [DV.fit, DV.fit.fits, primOK, intOK, and_true, and_assoc]
def same : Tm → Tm → Bool
  | .mk v0 v1 v2 v3, .mk w0 w1 w2 w3 => v0 == w0 && v1 == w1 && v2.same w2 && sames v3 w3
where
  sames : List Tm → List Tm → Bool
    | [], [] => true
    | a :: r, b :: t => same a b && sames r t
    | _, _ => false
theorem sames_iff (as bs : List Tm) : same.sames as bs = true ↔ as.length = bs.length ∧ ∀ (i : Nat) (a b : Tm), as[i]? = some a → bs[i]? = some b → a.same b = true :=
  samesIff same same.sames rfl (fun _ _ => rfl) (fun _ _ => rfl) (fun _ _ _ _ => rfl) as bs
theorem same_eq (a b : Tm) : a.same b = (a.kind == b.kind && a.index == b.index && a.type.same b.type && same.sames a.args b.args) := by
  cases a; cases b; rfl
theorem same_iff (a b : Tm) : a.same b = true ↔ a = b := by
  induction a using Tm.ind generalizing b with
  | h a ih =>
    have hs : same.sames a.args b.args = true ↔ a.args = b.args := listSame (sames_iff _ _) ih
    rw [same_eq]
    simp only [Bool.and_eq_true, beq_iff_eq, hs, Ty.same_iff]
    constructor
    · intro h
      cases a; cases b
      simp only [kind, index, type, args] at h
      simp_all
    · rintro rfl
      simp
theorem sames_eq (as bs : List Tm) : same.sames as bs = true ↔ as = bs := listSame (sames_iff _ _) fun a _ => same_iff a
end Tm
attribute [go_sem] Tm.cells_eq Tm.fold Tm.cellsD_dv Tm.isCell_dv Tm.isAgg_dv Tm.kind_mk Tm.index_mk Tm.type_mk Tm.args_mk

/-! Val -/
inductive Val where
  | mk (kind : Int) (num : Int) (list : List Int) (args : List Val)
namespace Val
set_option linter.unusedSimpArgs false
set_option linter.unusedVariables false
set_option linter.unnecessarySimpa false
def kind : Val → Int | .mk x _ _ _ => x
def num : Val → Int | .mk _ x _ _ => x
def list : Val → List Int | .mk _ _ x _ => x
def args : Val → List Val | .mk _ _ _ x => x
theorem ind {p : Val → Prop} (h : ∀ t : Val, (∀ a ∈ t.args, p a) → p t) (t : Val) : p t :=
  Val.rec (motive_1 := p) (motive_2 := fun as => ∀ a ∈ as, p a) (fun v0 v1 v2 v3 ih => h (.mk v0 v1 v2 v3) ih) (fun a ha => by cases ha)
    (fun a r ha hr b hb => by
      rcases List.mem_cons.1 hb with rfl | hb
      · exact ha
      · exact hr b hb) t
def cells : Val → List DV
  | .mk v0 v1 v2 v3 => [dint v0, dint v1, .sl (ints v2), .sl (all v3)]
where
  all : List Val → List (List DV)
    | [] => []
    | a :: r => cells a :: all r
theorem all_map (as : List Val) : cells.all as = as.map cells := by
  induction as with
  | nil => rfl
  | cons a r ih => simp [cells.all, ih]
theorem cells_eq (t : Val) : t.cells = [dint t.kind, dint t.num, .sl (ints t.list), .sl (List.map cells t.args)] := by
  cases t with
  | mk v0 v1 v2 v3 => simp [cells, kind, num, list, args, all_map]
def dv (t : Val) : DV := .agg t.cells
theorem fold (t : Val) : DV.agg [dint t.kind, dint t.num, .sl (ints t.list), .sl (List.map Val.cells t.args)] = t.dv := by rw [Val.dv, Val.cells_eq]
theorem cells_mk (kind : Int) (num : Int) (list : List Int) (args : List Val) : (mk kind num list args).cells = [dint kind, dint num, .sl (ints list), .sl (List.map Val.cells args)] := by rw [cells_eq]; rfl
theorem fold_mk (kind : Int) (num : Int) (list : List Int) (args : List Val) : DV.agg [dint kind, dint num, .sl (ints list), .sl (List.map Val.cells args)] = (mk kind num list args).dv := by rw [dv, cells_mk]
theorem cellsD_dv (t : Val) : cellsD t.dv = [dint t.kind, dint t.num, .sl (ints t.list), .sl (List.map Val.cells t.args)] := by rw [Val.dv, cellsD, Val.cells_eq]
theorem dv_agg (t : Val) : DV.agg t.cells = t.dv := rfl
theorem length_cells (t : Val) : t.cells.length = 4 := by rw [cells_eq]; rfl
theorem isCell_dv (t : Val) : t.dv.isCell = false := rfl
theorem isAgg_dv (t : Val) : t.dv.isAgg = true := rfl
theorem eta (t : Val) : Val.mk t.kind t.num t.list t.args = t := by cases t; rfl
theorem kind_mk (kind : Int) (num : Int) (list : List Int) (args : List Val) : (mk kind num list args).kind = kind := rfl
theorem num_mk (kind : Int) (num : Int) (list : List Int) (args : List Val) : (mk kind num list args).num = num := rfl
theorem list_mk (kind : Int) (num : Int) (list : List Int) (args : List Val) : (mk kind num list args).list = list := rfl
theorem args_mk (kind : Int) (num : Int) (list : List Int) (args : List Val) : (mk kind num list args).args = args := rfl
def fit : Val → Prop
  | .mk v0 v1 v2 v3 => intOK .i64 v0 ∧ intOK .i64 v1 ∧ (v2.length ≤ BIG ∧ ∀ n ∈ v2, intOK .i64 n) ∧ v3.length ≤ BIG ∧ fits v3
where
  fits : List Val → Prop
    | [] => True
    | a :: r => fit a ∧ fits r
theorem fits_iff (as : List Val) : fit.fits as ↔ ∀ a ∈ as, a.fit := by
  induction as with
  | nil => simp [fit.fits]
  | cons a r ih => simp [fit.fits, ih]
theorem fit_eq (t : Val) : t.fit ↔ intOK .i64 t.kind ∧ intOK .i64 t.num ∧ (t.list.length ≤ BIG ∧ ∀ n ∈ t.list, intOK .i64 n) ∧ t.args.length ≤ BIG ∧ ∀ a ∈ t.args, a.fit := by
  cases t with
  | mk v0 v1 v2 v3 => simp only [fit, fits_iff, kind, num, list, args]
theorem dv_fit (t : Val) : t.dv.fit ↔ t.fit := by
  induction t using Val.ind with
  | h t ih =>
    rw [fit_eq, ← fold]
    have hs : DV.fit (.sl (t.args.map cells)) ↔ t.args.length ≤ BIG ∧ ∀ a ∈ t.args, a.fit := by
      rw [slFit cells dv (fun _ => rfl)]
      exact and_congr Iff.rfl ⟨fun h a ha => (ih a ha).1 (h a ha), fun h a ha => (ih a ha).2 (h a ha)⟩
    rw [← hs]
    rw [← ints_fit t.list]
    simp only [DV.fit, DV.fit.fits, primOK, intOK, and_true, and_assoc]
def same : Val → Val → Bool
  | .mk v0 v1 v2 v3, .mk w0 w1 w2 w3 => v0 == w0 && v1 == w1 && v2 == w2 && sames v3 w3
where
  sames : List Val → List Val → Bool
    | [], [] => true
    | a :: r, b :: t => same a b && sames r t
    | _, _ => false
theorem sames_iff (as bs : List Val) : same.sames as bs = true ↔ as.length = bs.length ∧ ∀ (i : Nat) (a b : Val), as[i]? = some a → bs[i]? = some b → a.same b = true :=
  samesIff same same.sames rfl (fun _ _ => rfl) (fun _ _ => rfl) (fun _ _ _ _ => rfl) as bs
theorem same_eq (a b : Val) : a.same b = (a.kind == b.kind && a.num == b.num && a.list == b.list && same.sames a.args b.args) := by
  cases a; cases b; rfl
theorem same_iff (a b : Val) : a.same b = true ↔ a = b := by
  induction a using Val.ind generalizing b with
  | h a ih =>
    have hs : same.sames a.args b.args = true ↔ a.args = b.args := listSame (sames_iff _ _) ih
    rw [same_eq]
    simp only [Bool.and_eq_true, beq_iff_eq, hs]
    constructor
    · intro h
      cases a; cases b
      simp only [kind, num, list, args] at h
      simp_all
    · rintro rfl
      simp
theorem sames_eq (as bs : List Val) : same.sames as bs = true ↔ as = bs := listSame (sames_iff _ _) fun a _ => same_iff a
end Val
attribute [go_sem] Val.cells_eq Val.fold Val.cellsD_dv Val.isCell_dv Val.isAgg_dv Val.kind_mk Val.num_mk Val.list_mk Val.args_mk

end Go.Proofs.YtbmnlkfgkdallaaGreatDoor.Lift
