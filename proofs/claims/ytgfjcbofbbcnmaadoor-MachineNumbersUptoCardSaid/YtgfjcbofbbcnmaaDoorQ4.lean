import Derived.Test.YtgfjcbofbbcnmaaDoorQ3
/-
  Plain facts: what is drawn out of a deck of numbers: types, contexts, terms; their forms.
-/
namespace Go.Proofs.YtgfjcbofbbcnmaaDoor.Lift
set_option linter.unusedSimpArgs false
set_option linter.unusedVariables false
set_option linter.unnecessarySimpa false
open Go

/-- a small type -/
def typeD (l : List Int) : Nat → Nat → Ty × Nat
  | 0, p =>
    if (nextD l p 7).1 = 3 then (Ty.mk 2 [], (nextD l p 7).2) else if (nextD l p 7).1 = 4 then (Ty.mk 5 [], (nextD l p 7).2) else (Ty.mk 1 [], (nextD l p 7).2)
  | n + 1, p =>
    if (nextD l p 7).1 = 3 then (Ty.mk 2 [], (nextD l p 7).2) else if (nextD l p 7).1 = 4 then (Ty.mk 5 [], (nextD l p 7).2)
    else if (nextD l p 7).1 = 5 then (Ty.mk 3 [(typeD l n (nextD l p 7).2).1, (typeD l n (typeD l n (nextD l p 7).2).2).1], (typeD l n (typeD l n (nextD l p 7).2).2).2)
    else if (nextD l p 7).1 = 6 then (Ty.mk 4 [(typeD l n (nextD l p 7).2).1, (typeD l n (typeD l n (nextD l p 7).2).2).1], (typeD l n (typeD l n (nextD l p 7).2).2).2)
    else (Ty.mk 1 [], (nextD l p 7).2)

/-- the variable i's type -/
def varTy (g : List Ty) (i : Nat) : Ty := g.getD (g.length - 1 - i) zeroTy
/-- the variables of a type -/
def varsN (g : List Ty) (t : Ty) : List Nat := (List.range g.length).filter fun i => (varTy g i).same t
/-- the first variable that is a function into a type -/
def funN (g : List Ty) (t : Ty) : Option Nat := (List.range g.length).find? fun i => decide ((varTy g i).kind = 4) && ((varTy g i).arg 1).same t

/-- a variable, if one is chosen -/
def pickD (l : List Int) (t : Ty) (g : List Ty) (p : Nat) : Option Tm × Nat :=
  if (varsN g t).length = 0 then (none, p)
  else if (nextD l p 3).1 = 0 then (none, (nextD l p 3).2)
  else (some (vT ((varsN g t).getD (nextD l (nextD l p 3).2 (varsN g t).length).1.toNat 0 : Nat)), (nextD l (nextD l p 3).2 (varsN g t).length).2)

def numD (l : List Int) (p : Nat) : Tm × Nat := (numTm (nextD l p 3).1.toNat, (nextD l p 3).2)

/-- a term of a type, without depth -/
def leafD (l : List Int) (t : Ty) (g : List Ty) (p : Nat) : Tm × Nat :=
  match pickD l t g p with
  | (some x, q) => (x, q)
  | (none, q) =>
    match t with
    | .mk k ts =>
      if k = 1 then numD l q
      else if k = 2 then (nT 7 [], q)
      else match ts with
        | [a, b] =>
          if k = 3 then (nT 10 [(leafD l a g q).1, (leafD l b g (leafD l a g q).2).1], (leafD l b g (leafD l a g q).2).2)
          else if k = 4 then (Tm.mk 2 0 a [(leafD l b (g ++ [a]) q).1], (leafD l b (g ++ [a]) q).2)
          else (nT 13 [], q)
        | _ => (nT 13 [], q)
termination_by SizeOf.sizeOf t

/-- the end of a draw: by the type -/
def endD (l : List Int) (F : Ty → List Ty → Nat → Tm × Nat) (t : Ty) (g : List Ty) (q : Nat) : Tm × Nat :=
  if t.kind = 1 then
    if (nextD l q 5).1 = 0 then (nT 5 [(F t g (nextD l q 5).2).1], (F t g (nextD l q 5).2).2)
    else if (nextD l q 5).1 = 1 then (appsT plusT [(F t g (nextD l q 5).2).1, (F t g (F t g (nextD l q 5).2).2).1], (F t g (F t g (nextD l q 5).2).2).2)
    else if (nextD l q 5).1 = 2 then (appsT subT [(F t g (nextD l q 5).2).1, (F t g (F t g (nextD l q 5).2).2).1], (F t g (F t g (nextD l q 5).2).2).2)
    else numD l (nextD l q 5).2
  else if t.kind = 2 then
    if (nextD l q 2).1 = 0 then (nT 8 [(F (Ty.mk 1 []) g (nextD l q 2).2).1, (F t g (F (Ty.mk 1 []) g (nextD l q 2).2).2).1], (F t g (F (Ty.mk 1 []) g (nextD l q 2).2).2).2)
    else (nT 7 [], (nextD l q 2).2)
  else if t.kind = 3 then (nT 10 [(F (t.arg 0) g q).1, (F (t.arg 1) g (F (t.arg 0) g q).2).1], (F (t.arg 1) g (F (t.arg 0) g q).2).2)
  else if t.kind = 4 then (Tm.mk 2 0 (t.arg 0) [(F (t.arg 1) (g ++ [t.arg 0]) q).1], (F (t.arg 1) (g ++ [t.arg 0]) q).2)
  else (nT 13 [], q)

/-- a draw with depth, without a variable: by the choice k -/
def stepD (l : List Int) (F : Ty → List Ty → Nat → Tm × Nat) (t : Ty) (g : List Ty) (k : Int) (q : Nat) : Tm × Nat :=
  if k = 0 then
    let s := typeD l 0 q
    let x := F t (g ++ [s.1]) s.2
    let y := F s.1 g x.2
    (nT 3 [Tm.mk 2 0 s.1 [x.1], y.1], y.2)
  else if k = 1 then
    let s := typeD l 0 q
    let x := F t g s.2
    let y := F s.1 g x.2
    (nT 11 [nT 10 [x.1, y.1]], y.2)
  else if k = 2 then
    let x := F t (g ++ [Ty.mk 1 [], t]) q
    let y := F t g x.2
    let z := numD l y.2
    (Tm.mk 6 0 t [y.1, Tm.mk 2 0 (Ty.mk 1 []) [Tm.mk 2 0 t [x.1]], z.1], z.2)
  else if k = 3 then
    let x := F t (g ++ [Ty.mk 1 [], Ty.mk 2 [], t]) q
    let y := F t g x.2
    let z := F (Ty.mk 2 []) g y.2
    (Tm.mk 9 0 t [y.1, Tm.mk 2 0 (Ty.mk 1 []) [Tm.mk 2 0 (Ty.mk 2 []) [Tm.mk 2 0 t [x.1]]], z.1], z.2)
  else if k = 4 then
    let s := typeD l 0 q
    let x := F s.1 g s.2
    let y := F t g x.2
    (nT 12 [nT 10 [x.1, y.1]], y.2)
  else if k = 5 then
    match funN g t with
    | some i => (nT 3 [vT i, (F ((varTy g i).arg 0) g q).1], (F ((varTy g i).arg 0) g q).2)
    | none => endD l F t g q
  else endD l F t g q

/-- a term of a type in a context -/
def termD (l : List Int) : Nat → Ty → List Ty → Nat → Tm × Nat
  | 0, t, g, p => leafD l t g p
  | n + 1, t, g, p =>
    match pickD l t g p with
    | (some x, q) => (x, q)
    | (none, q) => stepD l (termD l n) t g (nextD l q 8).1 (nextD l q 8).2

theorem leafD_eq (l : List Int) (t : Ty) (g : List Ty) (p : Nat) (ht : t.ok) : leafD l t g p =
    match pickD l t g p with
    | (some x, q) => (x, q)
    | (none, q) =>
      if t.kind = 1 then numD l q
      else if t.kind = 2 then (nT 7 [], q)
      else if t.kind = 3 then (nT 10 [(leafD l (t.arg 0) g q).1, (leafD l (t.arg 1) g (leafD l (t.arg 0) g q).2).1], (leafD l (t.arg 1) g (leafD l (t.arg 0) g q).2).2)
      else if t.kind = 4 then (Tm.mk 2 0 (t.arg 0) [(leafD l (t.arg 1) (g ++ [t.arg 0]) q).1], (leafD l (t.arg 1) (g ++ [t.arg 0]) q).2)
      else (nT 13 [], q) := by
  rw [leafD.eq_def]
  rcases pickD l t g p with ⟨_ | x, q⟩
  · cases t with
    | mk k ts =>
      simp only [Ty.kind]
      by_cases h1 : k = 1
      · simp [h1]
      by_cases h2 : k = 2
      · simp [h2]
      simp only [h1, h2, if_false]
      by_cases h34 : k = 3 ∨ k = 4
      · obtain ⟨a, b, e, -, -, e0, e1⟩ := Ty.ok_args ht h34
        simp only [Ty.args] at e
        subst e
        rw [e0, e1]
        rfl
      · have h3 : k ≠ 3 := fun e => h34 (.inl e)
        have h4 : k ≠ 4 := fun e => h34 (.inr e)
        simp only [h3, h4, if_false]
        match ts with
        | [a, b] => rfl
        | [] => rfl
        | [_] => rfl
        | _ :: _ :: _ :: _ => rfl
  · rfl

theorem ty_two {k : Int} {a b : Ty} (hk : k = 3 ∨ k = 4) (ha : a.shape = true) (hb : b.shape = true) : (Ty.mk k [a, b]).shape = true := by
  rcases hk with rfl | rfl <;> simp [Ty.shape, Ty.shape.shapes, tyKind, ha, hb]

theorem typeD_facts (l : List Int) : ∀ (n p : Nat), p ≤ l.length → (typeD l n p).2 ≤ l.length ∧ (typeD l n p).1.shape = true ∧ (typeD l n p).1.count + 1 ≤ 2 ^ (n + 1)
  | 0, p, hp => by
    have hq := nextD_le (n := 7) hp
    unfold typeD
    split
    · exact ⟨hq, rfl, Nat.le_refl 2⟩
    · split
      · exact ⟨hq, rfl, Nat.le_refl 2⟩
      · exact ⟨hq, rfl, Nat.le_refl 2⟩
  | n + 1, p, hp => by
    have hq := nextD_le (n := 7) hp
    obtain ⟨a1, a2, a3⟩ := typeD_facts l n _ hq
    obtain ⟨b1, b2, b3⟩ := typeD_facts l n _ a1
    have h2 : 2 ≤ 2 ^ (n + 1) := Nat.pow_le_pow_right (n := 2) (by decide) (show 1 ≤ n + 1 by omega)
    have h3 : 2 ^ (n + 1 + 1) = 2 ^ (n + 1) * 2 := Nat.pow_succ ..
    have hc : ∀ (k : Int) (a b : Ty), (Ty.mk k [a, b]).count = 1 + (a.count + (b.count + 0)) := fun _ _ _ => rfl
    unfold typeD
    split
    · exact ⟨hq, rfl, by show 1 + 0 + 1 ≤ _; omega⟩
    split
    · exact ⟨hq, rfl, by show 1 + 0 + 1 ≤ _; omega⟩
    split
    · exact ⟨b1, ty_two (.inl rfl) a2 b2, by rw [hc]; omega⟩
    split
    · exact ⟨b1, ty_two (.inr rfl) a2 b2, by rw [hc]; omega⟩
    · exact ⟨hq, rfl, by show 1 + 0 + 1 ≤ _; omega⟩

/-- a small type -/
def Ty.small (t : Ty) : Prop := t.shape = true ∧ t.count ≤ 15
theorem Ty.small.ok {t : Ty} (h : t.small) : t.ok := ⟨h.1, by have := h.2; omega⟩
theorem Ty.small.arg {t : Ty} (h : t.small) (hk : t.kind = 3 ∨ t.kind = 4) : (t.arg 0).small ∧ (t.arg 1).small ∧ (t.arg 0).count + (t.arg 1).count < t.count := by
  obtain ⟨a, b, e, oa, ob, e0, e1⟩ := Ty.ok_args h.ok hk
  have hc : t.count = 1 + (a.count + (b.count + 0)) := by rw [Ty.count_eq, e]; rfl
  have := h.2
  rw [e0, e1]
  exact ⟨⟨oa.1, by omega⟩, ⟨ob.1, by omega⟩, by omega⟩
theorem typeD_small (l : List Int) {n p : Nat} (hp : p ≤ l.length) (hn : n ≤ 3) : (typeD l n p).2 ≤ l.length ∧ (typeD l n p).1.small := by
  obtain ⟨h1, h2, h3⟩ := typeD_facts l n p hp
  have : 2 ^ (n + 1) ≤ 2 ^ 4 := Nat.pow_le_pow_right (by decide) (by omega)
  exact ⟨h1, h2, by omega⟩
theorem small_nat : (Ty.mk 1 []).small := ⟨rfl, by decide⟩
theorem small_list : (Ty.mk 2 []).small := ⟨rfl, by decide⟩
theorem varTy_mem {g : List Ty} {i : Nat} (h : i < g.length) : varTy g i ∈ g ∧ g[g.length - 1 - i]? = some (varTy g i) := by
  have hl : g.length - 1 - i < g.length := by omega
  unfold varTy
  rw [List.getD_eq_getElem?_getD, List.getElem?_eq_getElem hl]
  exact ⟨List.getElem_mem _, rfl⟩
theorem varsN_mem {g : List Ty} {t : Ty} {i : Nat} (h : i ∈ varsN g t) : i < g.length ∧ varTy g i = t := by
  simp only [varsN, List.mem_filter, List.mem_range, Ty.same_iff] at h
  exact h
theorem funN_some {g : List Ty} {t : Ty} {i : Nat} (h : funN g t = some i) : i < g.length ∧ (varTy g i).kind = 4 ∧ (varTy g i).arg 1 = t := by
  have h1 := List.find?_some h
  have h2 := List.mem_of_find?_eq_some h
  simp only [Bool.and_eq_true, decide_eq_true_eq, Ty.same_iff] at h1
  exact ⟨List.mem_range.1 h2, h1.1, h1.2⟩

theorem pickD_le {l : List Int} {t : Ty} {g : List Ty} {p : Nat} (hp : p ≤ l.length) : (pickD l t g p).2 ≤ l.length := by
  unfold pickD
  split
  · exact hp
  · split
    · exact nextD_le hp
    · exact nextD_le (nextD_le hp)
theorem pickD_some {l : List Int} {t : Ty} {g : List Ty} {p q : Nat} {x : Tm} (h : pickD l t g p = (some x, q)) : ∃ i : Nat, x = vT i ∧ i < g.length ∧ varTy g i = t := by
  unfold pickD at h
  split at h
  · cases h
  · rename_i hne
    split at h
    · cases h
    · simp only [Prod.mk.injEq, Option.some.injEq] at h
      generalize hk : (nextD l (nextD l p 3).2 (varsN g t).length).1.toNat = k at h
      have hb := nextD_bd (l := l) (p := (nextD l p 3).2) (n := (varsN g t).length) (by omega)
      have hlt : k < (varsN g t).length := by omega
      refine ⟨(varsN g t)[k], ?_, varsN_mem (List.getElem_mem hlt)⟩
      rw [← h.1, List.getD_eq_getElem?_getD, List.getElem?_eq_getElem hlt, Option.getD_some]

theorem shape_v {i : Nat} : (vT i).shape = true := by
  unfold vT
  rw [Tm.shape_eq]
  simp [Tm.kind, Tm.index, Tm.type, Tm.args, Tm.shape.shapes, tmKind, tyOfKind, arityI, Ty.zero, Ty.kind, Ty.args]
theorem shape_n {k : Int} {a : List Tm} (h : (a.length : Int) = arityI k) (hk : ¬ (k = 2 ∨ k = 6 ∨ k = 9)) (ha : ∀ x ∈ a, x.shape = true) : (nT k a).shape = true := by
  unfold nT
  rw [Tm.shape_eq]
  have hz : tyOfKind k (Ty.mk 0 []) = true := by unfold tyOfKind; rw [if_neg hk]; rfl
  simp only [Tm.kind, Tm.index, Tm.type, Tm.args, (Tm.shapes_iff a).2 ha, tmKind, hz, h]
  simp
theorem shape_t {k : Int} {s : Ty} {a : List Tm} (h : (a.length : Int) = arityI k) (hk : k = 2 ∨ k = 6 ∨ k = 9) (hs : s.ok) (ha : ∀ x ∈ a, x.shape = true) : (Tm.mk k 0 s a).shape = true := by
  rw [Tm.shape_eq]
  simp only [Tm.kind, Tm.index, Tm.type, Tm.args, (Tm.shapes_iff a).2 ha, tmKind, tyOfKind, if_pos hk, h, (Ty.checkN_iff s).2 hs]
  simp

/-- what holds of all that F draws -/
def Draws (l : List Int) (F : Ty → List Ty → Nat → Tm × Nat) (Q : Ty → List Ty → Tm → Prop) : Prop :=
  ∀ t g p, t.small → (∀ x ∈ g, x.small) → p ≤ l.length → (F t g p).2 ≤ l.length ∧ Q t g (F t g p).1

/-- what a property of drawn terms must obey -/
structure DrawOK (Q : Ty → List Ty → Tm → Prop) : Prop where
  var : ∀ g i, i < g.length → Q (varTy g i) g (vT (i : Nat))
  num : ∀ g n, n < 3 → Q (Ty.mk 1 []) g (numTm n)
  app : ∀ g s t f x, s.small → t.small → Q (Ty.mk 4 [s, t]) g f → Q s g x → Q t g (nT 3 [f, x])
  lam : ∀ g s t x, s.small → t.small → Q t (g ++ [s]) x → Q (Ty.mk 4 [s, t]) g (Tm.mk 2 0 s [x])
  lam2 : ∀ g s t r x, s.small → t.small → r.small → Q r (g ++ [s, t]) x → Q (Ty.mk 4 [s, Ty.mk 4 [t, r]]) g (Tm.mk 2 0 s [Tm.mk 2 0 t [x]])
  lam3 : ∀ g s t u r x, s.small → t.small → u.small → r.small → Q r (g ++ [s, t, u]) x → Q (Ty.mk 4 [s, Ty.mk 4 [t, Ty.mk 4 [u, r]]]) g (Tm.mk 2 0 s [Tm.mk 2 0 t [Tm.mk 2 0 u [x]]])
  pair : ∀ g s t x y, s.small → t.small → Q s g x → Q t g y → Q (Ty.mk 3 [s, t]) g (nT 10 [x, y])
  fst : ∀ g s t x, s.small → t.small → Q (Ty.mk 3 [s, t]) g x → Q s g (nT 11 [x])
  snd : ∀ g s t x, s.small → t.small → Q (Ty.mk 3 [s, t]) g x → Q t g (nT 12 [x])
  rc : ∀ g t x f n, t.small → Q t g x → Q (Ty.mk 4 [Ty.mk 1 [], Ty.mk 4 [t, t]]) g f → Q (Ty.mk 1 []) g n → Q t g (Tm.mk 6 0 t [x, f, n])
  fold : ∀ g t x f n, t.small → Q t g x → Q (Ty.mk 4 [Ty.mk 1 [], Ty.mk 4 [Ty.mk 2 [], Ty.mk 4 [t, t]]]) g f → Q (Ty.mk 2 []) g n → Q t g (Tm.mk 9 0 t [x, f, n])
  succ : ∀ g x, Q (Ty.mk 1 []) g x → Q (Ty.mk 1 []) g (nT 5 [x])
  plus : ∀ g x y, Q (Ty.mk 1 []) g x → Q (Ty.mk 1 []) g y → Q (Ty.mk 1 []) g (appsT plusT [x, y])
  sub : ∀ g x y, Q (Ty.mk 1 []) g x → Q (Ty.mk 1 []) g y → Q (Ty.mk 1 []) g (appsT subT [x, y])
  nil : ∀ g, Q (Ty.mk 2 []) g (nT 7 [])
  cons : ∀ g x y, Q (Ty.mk 1 []) g x → Q (Ty.mk 2 []) g y → Q (Ty.mk 2 []) g (nT 8 [x, y])
  unit : ∀ g, Q (Ty.mk 5 []) g (nT 13 [])

theorem numD_facts {l : List Int} {Q : Ty → List Ty → Tm → Prop} (hQ : DrawOK Q) {p : Nat} (hp : p ≤ l.length) (g : List Ty) : (numD l p).2 ≤ l.length ∧ Q (Ty.mk 1 []) g (numD l p).1 := by
  have := nextD_bd (l := l) (p := p) (n := 3) (by decide)
  exact ⟨nextD_le hp, hQ.num g _ (by omega)⟩

theorem small_kinds {t : Ty} (h : t.small) : (t.kind = 1 ∧ t = Ty.mk 1 []) ∨ (t.kind = 2 ∧ t = Ty.mk 2 []) ∨ (t.kind = 5 ∧ t = Ty.mk 5 []) ∨ (t.kind = 3 ∧ t = Ty.mk 3 [t.arg 0, t.arg 1]) ∨ (t.kind = 4 ∧ t = Ty.mk 4 [t.arg 0, t.arg 1]) := by
  cases t with
  | mk k ts =>
    have h1 := h.1
    rw [Ty.shape_eq, Bool.and_eq_true] at h1
    have hk := h1.1
    unfold tyKind at hk
    simp [Ty.kind, Ty.args] at hk
    rcases hk with ⟨h2, rfl⟩ | ⟨h2, h3⟩
    · rcases of_decide_eq_true h2 with rfl | rfl | rfl <;> simp [Ty.kind]
    · match ts, h3 with
      | [a, b], _ => rcases of_decide_eq_true h2 with rfl | rfl <;> simp [Ty.kind, Ty.arg, Ty.args]

theorem endD_facts {l : List Int} {F : Ty → List Ty → Nat → Tm × Nat} {Q : Ty → List Ty → Tm → Prop} (hQ : DrawOK Q) (hF : Draws l F Q) : Draws l (endD l F) Q := by
  intro t g p ht hg hp
  unfold endD
  have h5 := nextD_le (n := 5) hp
  have h2 := nextD_le (n := 2) hp
  rcases small_kinds ht with ⟨h, e⟩ | ⟨h, e⟩ | ⟨h, e⟩ | ⟨h, e⟩ | ⟨h, e⟩
  · rw [if_pos h]
    obtain ⟨a1, a2⟩ := hF t g _ ht hg h5
    obtain ⟨b1, b2⟩ := hF t g _ ht hg a1
    rw [e] at a1 a2 b1 b2 ⊢
    split
    · exact ⟨a1, hQ.succ g _ a2⟩
    split
    · exact ⟨b1, hQ.plus g _ _ a2 b2⟩
    split
    · exact ⟨b1, hQ.sub g _ _ a2 b2⟩
    · exact numD_facts hQ h5 g
  · rw [if_neg (by omega), if_pos h]
    obtain ⟨a1, a2⟩ := hF _ g _ small_nat hg h2
    obtain ⟨b1, b2⟩ := hF t g _ ht hg a1
    rw [e] at b1 b2 ⊢
    split
    · exact ⟨b1, hQ.cons g _ _ a2 b2⟩
    · exact ⟨h2, hQ.nil g⟩
  · rw [if_neg (by omega), if_neg (by omega), if_neg (by omega), if_neg (by omega)]
    rw [e]
    exact ⟨hp, hQ.unit g⟩
  · rw [if_neg (by omega), if_neg (by omega), if_pos h]
    obtain ⟨s0, s1, _⟩ := ht.arg (.inl h)
    obtain ⟨a1, a2⟩ := hF _ g _ s0 hg hp
    obtain ⟨b1, b2⟩ := hF _ g _ s1 hg a1
    refine ⟨b1, ?_⟩
    rw [e]
    exact hQ.pair g _ _ _ _ s0 s1 a2 b2
  · rw [if_neg (by omega), if_neg (by omega), if_neg (by omega), if_pos h]
    obtain ⟨s0, s1, _⟩ := ht.arg (.inr h)
    obtain ⟨a1, a2⟩ := hF (t.arg 1) (g ++ [t.arg 0]) _ s1 (by intro x hx; rcases List.mem_append.1 hx with hx | hx; exact hg x hx; rw [List.mem_singleton.1 hx]; exact s0) hp
    refine ⟨a1, ?_⟩
    rw [e]
    exact hQ.lam g _ _ _ s0 s1 a2

theorem stepD_facts {l : List Int} {F : Ty → List Ty → Nat → Tm × Nat} {Q : Ty → List Ty → Tm → Prop} (hQ : DrawOK Q) (hF : Draws l F Q) (k : Int) : Draws l (fun t g p => stepD l F t g k p) Q := by
  intro t g p ht hg hp
  have hg1 : ∀ a : List Ty, (∀ x ∈ a, x.small) → ∀ x ∈ g ++ a, x.small := by
    intro a ha x hx
    rcases List.mem_append.1 hx with hx | hx
    · exact hg x hx
    · exact ha x hx
  have hg2 : ∀ s : Ty, s.small → ∀ x ∈ g ++ [s], x.small := fun s hs => hg1 [s] (by simpa using hs)
  obtain ⟨s1, s2⟩ := typeD_small l (n := 0) hp (by decide)
  show (stepD l F t g k p).2 ≤ l.length ∧ Q t g (stepD l F t g k p).1
  unfold stepD
  split
  · obtain ⟨a1, a2⟩ := hF t _ _ ht (hg2 _ s2) s1
    obtain ⟨b1, b2⟩ := hF _ g _ s2 hg a1
    exact ⟨b1, hQ.app g _ _ _ _ s2 ht (hQ.lam g _ _ _ s2 ht a2) b2⟩
  split
  · obtain ⟨a1, a2⟩ := hF t g _ ht hg s1
    obtain ⟨b1, b2⟩ := hF _ g _ s2 hg a1
    exact ⟨b1, hQ.fst g _ _ _ ht s2 (hQ.pair g _ _ _ _ ht s2 a2 b2)⟩
  split
  · obtain ⟨a1, a2⟩ := hF t _ _ ht (hg1 [Ty.mk 1 [], t] (by intro x hx; simp at hx; rcases hx with rfl | rfl; exact small_nat; exact ht)) hp
    obtain ⟨b1, b2⟩ := hF t g _ ht hg a1
    obtain ⟨c1, c2⟩ := numD_facts hQ b1 g
    exact ⟨c1, hQ.rc g _ _ _ _ ht b2 (hQ.lam2 g _ _ _ _ small_nat ht ht a2) c2⟩
  split
  · obtain ⟨a1, a2⟩ := hF t _ _ ht (hg1 [Ty.mk 1 [], Ty.mk 2 [], t] (by intro x hx; simp at hx; rcases hx with rfl | rfl | rfl; exact small_nat; exact small_list; exact ht)) hp
    obtain ⟨b1, b2⟩ := hF t g _ ht hg a1
    obtain ⟨c1, c2⟩ := hF _ g _ small_list hg b1
    exact ⟨c1, hQ.fold g _ _ _ _ ht b2 (hQ.lam3 g _ _ _ _ _ small_nat small_list ht ht a2) c2⟩
  split
  · obtain ⟨a1, a2⟩ := hF _ g _ s2 hg s1
    obtain ⟨b1, b2⟩ := hF t g _ ht hg a1
    exact ⟨b1, hQ.snd g _ _ _ s2 ht (hQ.pair g _ _ _ _ s2 ht a2 b2)⟩
  split
  · split
    · rename_i i hi
      obtain ⟨f1, f2, f3⟩ := funN_some hi
      have hfs := hg _ (varTy_mem f1).1
      obtain ⟨c0, c1, -⟩ := hfs.arg (.inr f2)
      obtain ⟨a1, a2⟩ := hF _ g _ c0 hg hp
      have hv := hQ.var g i f1
      rcases small_kinds hfs with ⟨h, e⟩ | ⟨h, e⟩ | ⟨h, e⟩ | ⟨h, e⟩ | ⟨h, e⟩
      · omega
      · omega
      · omega
      · omega
      · rw [e, f3] at hv
        exact ⟨a1, hQ.app g _ _ _ _ c0 ht hv a2⟩
    · exact endD_facts hQ hF t g p ht hg hp
  · exact endD_facts hQ hF t g p ht hg hp

theorem leafD_facts {l : List Int} {Q : Ty → List Ty → Tm → Prop} (hQ : DrawOK Q) : Draws l (leafD l) Q := by
  intro t
  generalize hn : t.count = n
  induction n using Nat.strongRecOn generalizing t with
  | _ n ih =>
  intro g p ht hg hp
  rw [leafD_eq l t g p ht.ok]
  have hq := pickD_le (t := t) (g := g) hp
  split
  · rename_i x q hx
    obtain ⟨i, rfl, h1, h2⟩ := pickD_some hx
    rw [hx] at hq
    have := hQ.var g i h1
    rw [h2] at this
    exact ⟨hq, this⟩
  · rename_i q hx
    rw [hx] at hq
    rcases small_kinds ht with ⟨h, e⟩ | ⟨h, e⟩ | ⟨h, e⟩ | ⟨h, e⟩ | ⟨h, e⟩
    · rw [if_pos h, e]; exact numD_facts hQ hq g
    · rw [if_neg (by omega), if_pos h, e]; exact ⟨hq, hQ.nil g⟩
    · rw [if_neg (by omega), if_neg (by omega), if_neg (by omega), if_neg (by omega), e]; exact ⟨hq, hQ.unit g⟩
    · rw [if_neg (by omega), if_neg (by omega), if_pos h]
      obtain ⟨s0, s1, hc⟩ := ht.arg (.inl h)
      have p0 := Ty.count_eq (t.arg 0)
      have p1 := Ty.count_eq (t.arg 1)
      obtain ⟨a1, a2⟩ := ih _ (by omega) (t.arg 0) rfl g _ s0 hg hq
      obtain ⟨b1, b2⟩ := ih _ (by omega) (t.arg 1) rfl g _ s1 hg a1
      refine ⟨b1, ?_⟩
      have := hQ.pair g _ _ _ _ s0 s1 a2 b2
      rw [← e] at this
      exact this
    · rw [if_neg (by omega), if_neg (by omega), if_neg (by omega), if_pos h]
      obtain ⟨s0, s1, hc⟩ := ht.arg (.inr h)
      have p0 := Ty.count_eq (t.arg 0)
      have p1 := Ty.count_eq (t.arg 1)
      obtain ⟨a1, a2⟩ := ih _ (by omega) (t.arg 1) rfl (g ++ [t.arg 0]) _ s1 (by intro x hx; rcases List.mem_append.1 hx with hx | hx; exact hg x hx; rw [List.mem_singleton.1 hx]; exact s0) hq
      refine ⟨a1, ?_⟩
      have := hQ.lam g _ _ _ s0 s1 a2
      rw [← e] at this
      exact this

theorem termD_facts {l : List Int} {Q : Ty → List Ty → Tm → Prop} (hQ : DrawOK Q) : ∀ n, Draws l (termD l n) Q
  | 0 => leafD_facts hQ
  | n + 1 => by
    intro t g p ht hg hp
    have hq := pickD_le (t := t) (g := g) hp
    unfold termD
    split
    · rename_i x q hx
      obtain ⟨i, rfl, h1, h2⟩ := pickD_some hx
      rw [hx] at hq
      have := hQ.var g i h1
      rw [h2] at this
      exact ⟨hq, this⟩
    · rename_i q hx
      rw [hx] at hq
      exact stepD_facts hQ (termD_facts hQ n) _ t g _ ht hg (nextD_le hq)

theorem app2_shape {f x y : Tm} (hf : f.shape = true) (hx : x.shape = true) (hy : y.shape = true) : (appsT f [x, y]).shape = true := by
  show (nT 3 [nT 3 [f, x], y]).shape = true
  exact shape_n rfl (by decide) (by intro z hz; simp at hz; rcases hz with rfl | rfl; exact shape_n rfl (by decide) (by intro z hz; simp at hz; rcases hz with rfl | rfl; exact hf; exact hx); exact hy)

theorem closed_shape : DrawOK (fun _ _ x => x.shape = true) where
  var _ _ _ := shape_v
  num _ n _ := num_shape n
  app _ _ _ _ _ _ _ hf hx := shape_n rfl (by decide) (by intro z hz; simp at hz; rcases hz with rfl | rfl; exact hf; exact hx)
  lam _ _ _ _ hs _ hx := shape_t rfl (.inl rfl) hs.ok (by intro z hz; simp at hz; rw [hz]; exact hx)
  lam2 _ _ _ _ _ hs ht _ hx := shape_t rfl (.inl rfl) hs.ok (by intro z hz; simp at hz; rw [hz]; exact shape_t rfl (.inl rfl) ht.ok (by intro z hz; simp at hz; rw [hz]; exact hx))
  lam3 _ _ _ _ _ _ hs ht hu _ hx := shape_t rfl (.inl rfl) hs.ok (by intro z hz; simp at hz; rw [hz]; exact shape_t rfl (.inl rfl) ht.ok (by intro z hz; simp at hz; rw [hz]; exact shape_t rfl (.inl rfl) hu.ok (by intro z hz; simp at hz; rw [hz]; exact hx)))
  pair _ _ _ _ _ _ _ hf hx := shape_n rfl (by decide) (by intro z hz; simp at hz; rcases hz with rfl | rfl; exact hf; exact hx)
  fst _ _ _ _ _ _ hx := shape_n rfl (by decide) (by intro z hz; simp at hz; rw [hz]; exact hx)
  snd _ _ _ _ _ _ hx := shape_n rfl (by decide) (by intro z hz; simp at hz; rw [hz]; exact hx)
  rc _ _ _ _ _ ht hx hf hn := shape_t rfl (.inr (.inl rfl)) ht.ok (by intro z hz; simp at hz; rcases hz with rfl | rfl | rfl; exact hx; exact hf; exact hn)
  fold _ _ _ _ _ ht hx hf hn := shape_t rfl (.inr (.inr rfl)) ht.ok (by intro z hz; simp at hz; rcases hz with rfl | rfl | rfl; exact hx; exact hf; exact hn)
  succ _ _ hx := shape_n rfl (by decide) (by intro z hz; simp at hz; rw [hz]; exact hx)
  plus _ _ _ hx hy := app2_shape (by decide) hx hy
  sub _ _ _ hx hy := app2_shape (by decide) hx hy
  nil _ := rfl
  cons _ _ _ hf hx := shape_n rfl (by decide) (by intro z hz; simp at hz; rcases hz with rfl | rfl; exact hf; exact hx)
  unit _ := rfl
end Go.Proofs.YtgfjcbofbbcnmaaDoor.Lift

/-
  Part X of the small logic: a drawn region whose last operations wait for all others; slices whose cells are written again (raw): a literal, an append in place or to a new block.
-/
namespace Go.Proofs.YtgfjcbofbbcnmaaDoor.Lift
set_option linter.unusedSimpArgs false
set_option linter.unusedVariables false
set_option linter.unnecessarySimpa false
open Go
section
variable {X : Ctx} {s s0 : St} {k : List Item}

/-- from place m on, each operation waits for all before it -/
def tailB (T : List Nat) (m n : Nat) : Bool := (List.range n).all fun j => decide (j < m) || (List.range j).all fun i => (T.getD j 0).testBit i
theorem tailB_spec {T : List Nat} {m n : Nat} (h : tailB T m n = true) : ∀ j, m ≤ j → j < n → ∀ i, i < j → (T.getD j 0).testBit i = true := by
  intro j hj hn i hi
  have := List.all_eq_true.1 h j (List.mem_range.2 hn)
  rw [Bool.or_eq_true] at this
  rcases this with h1 | h1
  · exact absurd (of_decide_eq_true h1) (by omega)
  · exact List.all_eq_true.1 h1 i (List.mem_range.2 hi)

theorem seq_any {ops : Array Oper} {m : Nat} {T : List Nat} (hback : backB 0 ops.toList = true) (hfix : fixB T T ops.toList = true) (htail : ∀ j, m ≤ j → j < ops.size → ∀ i, i < j → (T.getD j 0).testBit i = true) {Q : Exit → Act → World → Prop} :
    ∀ (k j fuel : Nat) (listed : Array Bool) (a : Act) (w : World), j + k = ops.size → m ≤ j → listed.size = ops.size → (∀ i, i < ops.size → Lof listed i = decide (i < j)) → k ≤ fuel → wpOpsIn X.F 0 X.P ops Q (List.range' j k) a w → wpAnyIn X.F 0 X.P .any ops Q fuel listed a w
  | 0, j, fuel, listed, a, w, hjk, hm, hsz, hL, hf, hw => by
    have hall : ∀ i, i < ops.size → Lof listed i = true := fun i hi => by rw [hL i hi]; exact decide_eq_true (by omega)
    have hr : ∀ i, ¬ i ∈ Region.ready .any ops listed := by
      intro i hi
      obtain ⟨h1, o, h2, -⟩ := mem_ready.1 hi
      have hj : i < ops.size := (Array.getElem?_eq_some_iff.1 h2).1
      rw [getD_tf (by omega), hall i hj] at h1
      cases h1
    have hQ : Q .normal a w := hw
    cases fuel with
    | zero =>
      refine ⟨?_, hQ⟩
      cases hq : Region.ready .any ops listed with
      | nil => rfl
      | cons i r => exact absurd (by rw [hq]; simp) (hr i)
    | succ fuel => exact ⟨fun _ => hQ, fun i hi => absurd hi (hr i)⟩
  | k + 1, j, fuel, listed, a, w, hjk, hm, hsz, hL, hf, hw => by
    obtain ⟨fuel, rfl⟩ : ∃ f, fuel = f + 1 := ⟨fuel - 1, by omega⟩
    have hjo : j < ops.size := by omega
    have hcl : Closed ops (Lof listed) := by
      intro i o hi ho e he hb
      have hio : i < ops.size := (Array.getElem?_eq_some_iff.1 ho).1
      have hlt := backB_spec hback i o (by simpa using ho) e he hb
      rw [hL i hio] at hi
      have := of_decide_eq_true hi
      rw [hL e.on (by omega)]
      exact decide_eq_true (by omega)
    have hj : j ∈ Region.ready .any ops listed := by
      rw [mem_ready]
      refine ⟨by rw [getD_tf (by omega), hL j hjo]; exact decide_eq_false (by omega), ops[j], Array.getElem?_eq_getElem hjo, fun e he hb => ?_⟩
      have hlt := backB_spec hback j ops[j] (by simp [hjo]) e he hb
      show Lof listed e.on = true
      rw [hL e.on (by omega)]
      exact decide_eq_true (by omega)
    refine ⟨fun hr => absurd hj (by rw [hr]; simp), fun i hi => ?_⟩
    obtain ⟨h1, o, ho, hall⟩ := mem_ready.1 hi
    have hio : i < ops.size := (Array.getElem?_eq_some_iff.1 ho).1
    rw [getD_tf (by omega), hL i hio] at h1
    have hij : j ≤ i := by have := of_decide_eq_false h1; omega
    have hall' : ∀ e ∈ o.after, Region.binds .any e = true → Lof listed e.on = true := hall
    have heq : i = j := by
      rcases Nat.lt_or_ge j i with h | h
      · have := anc_spec hback hfix hcl i o ho hall' (htail i (by omega) hio j h)
        rw [hL j hjo] at this
        exact absurd (of_decide_eq_true this) (by omega)
      · omega
    subst heq
    rw [List.range'_succ, wpOpsIn_cons] at hw
    refine wpOpIn_mono (fun a' w' h' => ?_) hw
    refine seq_any hback hfix htail k (i + 1) fuel _ a' w' (by omega) (by omega) (by simpa using hsz) (fun x hx => ?_) (by omega) h'
    rw [Lof_set (by omega)]
    show (x == i || Lof listed x) = _
    rw [hL x hx]
    by_cases hxi : x = i
    · subst hxi; simp
    · have : (x == i) = false := by simpa using hxi
      rw [this, Bool.false_or]
      congr 1
      exact propext ⟨fun h => by omega, fun h => by omega⟩

theorem draw_anyT {ops ops' : Array Oper} {m : Nat} {T0 : List Nat} (hops : ops.toList.take m = ops'.toList) (hmn : m ≤ ops.size) {evs : List Ev} {K : St → Prop} (hrun : RunL X ops' ops'.toList s0 evs) (hg : ∀ o ∈ ops'.toList, o.guard = none) (hchk : chkB ops'.toList s0 evs = true)
    (hback0 : backB 0 ops.toList = true) (hfix0 : fixB T0 T0 ops.toList = true) (htail : ∀ j, m ≤ j → j < ops.size → ∀ i, i < j → (T0.getD j 0).testBit i = true) (hK : VL X ops (ops.toList.drop m) (appAll s0 evs) K) :
    ∀ (fuel : Nat) (listed : Array Bool) (G : Gh) (a : Act) (w : World), listed.size = ops.size → Closed ops (Lof listed) → (∀ j, m ≤ j → Lof listed j = false) → (left m listed).length + (ops.size - m) ≤ fuel → Rel X G (sel (Lof listed) 0 evs s0) a w →
      wpAnyIn X.F 0 X.P .any ops (Nrm X K) fuel listed a w := by
  simp only [chkB, Bool.and_eq_true] at hchk
  obtain ⟨⟨⟨hback, hfix⟩, hfr⟩, hp⟩ := hchk
  generalize tabGo ops'.toList [] = T at *
  have hsz' : ops'.size = m := by
    have := congrArg List.length hops
    simp at this
    omega
  have hlen : evs.length = m := by have := RunL_length hrun; simp at this; omega
  have hget : ∀ i, i < m → ops'[i]? = ops[i]? := by
    intro i hi
    have h1 : ops'.toList[i]? = ops.toList[i]? := by rw [← hops, List.getElem?_take_of_lt hi]
    simpa using h1
  intro fuel
  induction fuel with
  | zero =>
    intro listed G a w hsz hcl htl hle R
    have hm0 : m = ops.size := by omega
    have hall : ∀ j, j < m → Lof listed j = true := by
      intro j hj
      cases hq : Lof listed j with
      | true => rfl
      | false =>
        have hm : j ∈ left m listed := by simp [left, hj, hq]
        have := List.length_pos_of_mem hm
        omega
    refine seq_any hback0 hfix0 htail 0 m 0 listed a w (by omega) (Nat.le_refl _) hsz (fun i hi => by rw [hall i (by omega)]; exact (decide_eq_true (by omega)).symm) (Nat.le_refl _) ?_
    have R' : Rel X G (appAll s0 evs) a w := R.congr fun l => by
      rw [← sel_all 0]
      refine sel_diff evs 0 _ _ rfl fun j ev hj hne => ?_
      have hj' : j < m := by rw [← hlen]; exact (List.getElem?_eq_some_iff.1 hj).1
      exact absurd (hall j hj').symm (by simpa using hne)
    have := hK m rfl G a w R'
    have hd : (ops.toList.drop m).length = 0 := by simp; omega
    rw [hd] at this
    exact this
  | succ fuel ih =>
    intro listed G a w hsz hcl htl hle R
    by_cases hall : ∀ j, j < m → Lof listed j = true
    · have R' : Rel X G (appAll s0 evs) a w := R.congr fun l => by
        rw [← sel_all 0]
        refine sel_diff evs 0 _ _ rfl fun j ev hj hne => ?_
        have hj' : j < m := by rw [← hlen]; exact (List.getElem?_eq_some_iff.1 hj).1
        exact absurd (hall j hj').symm (by simpa using hne)
      have hw := hK m rfl G a w R'
      have hd : (ops.toList.drop m).length = ops.size - m := by simp
      rw [hd] at hw
      refine seq_any hback0 hfix0 htail (ops.size - m) m (fuel + 1) listed a w (by omega) (Nat.le_refl _) hsz (fun i hi => ?_) (by omega) hw
      by_cases him : i < m
      · rw [hall i him]; exact (decide_eq_true him).symm
      · rw [htl i (by omega)]; exact (decide_eq_false him).symm
    have hex : ∃ j, j < m ∧ Lof listed j = false := by
      by_cases h : ∃ j, j < m ∧ Lof listed j = false
      · exact h
      · exact absurd (fun j hj => by
          cases hq : Lof listed j with
          | true => rfl
          | false => exact absurd ⟨j, hj, hq⟩ h) hall
    have hstuck : Region.ready .any ops listed = [] → ∀ j, j < m → Lof listed j = true := by
      intro hr j
      induction j using Nat.strongRecOn with
      | _ j ihj =>
        intro hj
        cases hq : Lof listed j with
        | true => rfl
        | false =>
          have hjo : j < ops.size := by omega
          have : j ∈ Region.ready .any ops listed := by
            rw [mem_ready]
            refine ⟨by rw [getD_tf (by omega)]; exact hq, ops[j], Array.getElem?_eq_getElem hjo, fun e he hb => ?_⟩
            have hlt := backB_spec hback0 j ops[j] (by simp [hjo]) e he hb
            exact ihj e.on (by omega) (by omega)
          rw [hr] at this
          cases this
    refine ⟨fun hr => absurd (hstuck hr) hall, fun i hi => ?_⟩
    obtain ⟨h1, o, ho, hall1⟩ := mem_ready.1 hi
    have hio : i < ops.size := (Array.getElem?_eq_some_iff.1 ho).1
    have hil : i < listed.size := by omega
    rw [getD_tf hil] at h1
    have hall' : ∀ e ∈ o.after, Region.binds .any e = true → Lof listed e.on = true := hall1
    have him : i < m := by
      rcases Nat.lt_or_ge i m with h | h
      · exact h
      · exact absurd (fun j hj => anc_spec hback0 hfix0 hcl i o ho hall' (htail i h hio j (by omega))) hall
    have hcl' : Closed ops' (Lof listed) := by
      intro j o' hL ho' e he hb
      have hj : j < m := by have := (Array.getElem?_eq_some_iff.1 ho').1; omega
      exact hcl j o' hL (by rw [← hget j hj]; exact ho') e he hb
    have ho' : ops'[i]? = some o := by rw [hget i him]; exact ho
    have hie : i < evs.length := by omega
    have hev : evs[i]? = some evs[i] := List.getElem?_eq_getElem hie
    have hstep := RunL_at 0 hrun i o evs[i] (by simpa using ho') hev
    have hind1 : ∀ (j : Nat) (ev : Ev), evs[j]? = some ev → i < j → Lof listed j = true → apart evs[i] ev = true := by
      intro j ev hj hij hL
      have hjm : j < m := by rw [← hlen]; exact (List.getElem?_eq_some_iff.1 hj).1
      have hjo : j < ops'.size := by omega
      rcases (chkP_spec hp i j _ ev hij hev hj).2 with h | h
      · have := anc_spec hback hfix hcl' j ops'[j] (Array.getElem?_eq_getElem hjo) (fun e he hb => hcl' j _ hL (Array.getElem?_eq_getElem hjo) e he hb) (by simpa using h)
        rw [h1] at this; cases this
      · exact h
    have hind2 : ∀ (j : Nat) (ev : Ev), evs[j]? = some ev → j < i → Lof listed j = false → apart ev evs[i] = true := by
      intro j ev hj hij hL
      rcases (chkP_spec hp j i ev _ hij hj hev).2 with h | h
      · have := anc_spec hback hfix hcl' i o ho' hall' (by simpa using h)
        rw [hL] at this; cases this
      · exact h
    have hop : OpOK X ops' o (sel (Lof listed) 0 evs s0) (apply (sel (Lof listed) 0 evs s0) evs[i].e) := by
      refine hstep _ (fun l v hl => ?_) (fun d hd => ?_)
      · obtain ⟨hfp, hg⟩ := get_restr hl
        rw [← hg]
        refine sel_diff evs 0 _ _ rfl fun j ev hj hne hw => ?_
        simp only [Nat.zero_add] at hne
        by_cases hij : j < i
        · cases hq : Lof listed j with
          | true => rw [hq] at hne; simp [hij] at hne
          | false =>
            have := hind2 j ev hj hij hq
            simp only [apart, Bool.and_eq_true, disL_iff] at this
            exact this.1.1.1 l hw hfp
        · cases hq : Lof listed j with
          | false => rw [hq] at hne; simp [hij] at hne
          | true =>
            have hne' : j ≠ i := fun e => by rw [e, h1] at hq; cases hq
            have := hind1 j ev hj (by omega) hq
            simp only [apart, Bool.and_eq_true, disL_iff] at this
            exact this.1.1.2 l hw hfp
      · refine sel_fresh evs 0 s0 (chkF_spec hfr i _ hev d hd) fun j ev hj hL => ?_
        simp only [Nat.zero_add] at hL
        have hne' : j ≠ i := fun e => by rw [e, h1] at hL; cases hL
        by_cases hij : j < i
        · exact (chkP_spec hp j i ev _ hij hj hev).1 d hd
        · have := hind1 j ev hj (by omega) hL
          simp only [apart, Bool.and_eq_true, allN_iff] at this
          simpa using this.2 d hd
    have hnext : ∀ G' a' w', Rel X G' (apply (sel (Lof listed) 0 evs s0) evs[i].e) a' w' → wpAnyIn X.F 0 X.P .any ops (Nrm X K) fuel (listed.setIfInBounds i true) a' w' := by
      intro G' a' w' R'
      refine ih _ G' a' w' (by simpa using hsz) ?_ ?_ ?_ ?_
      · rw [Lof_set hil]
        intro j o' hL hoj e he hb
        simp only [Bool.or_eq_true, beq_iff_eq] at hL ⊢
        rcases hL with rfl | hL
        · rw [ho] at hoj; cases hoj
          exact .inr (hall' e he hb)
        · exact .inr (hcl j o' hL hoj e he hb)
      · intro j hj
        rw [Lof_set hil]
        show (j == i || Lof listed j) = false
        rw [htl j hj, Bool.or_false]
        simp; omega
      · have := left_set (n := m) hil him h1
        omega
      · rw [Lof_set hil]
        refine R'.congr fun l => sel_add h1 evs 0 s0 (Nat.zero_le _) hev fun j ev hj hlt hL hw => ?_
        simp only [Nat.zero_add] at hlt hL
        have := hind1 j ev hj hlt hL
        simp only [apart, Bool.and_eq_true, disL_iff] at this
        exact this.1.2 l hw
    have hgn : o.guard = none := hg o (List.mem_of_getElem? (i := i) (by simpa using ho'))
    have := hop G a w R _ (Nrm X K) hnext
    unfold wpOpIn
    simp only [ho]
    have hw : ∀ y, Region.wanted o y = true := fun y => by simp [Region.wanted, hgn]
    simp only [hw, if_true] at this ⊢
    exact this

def tailOK (ops : List Oper) (m : Nat) : Bool :=
  let T := tabGo ops []
  backB 0 ops && fixB T T ops && tailB T m ops.length && (ops.take m).all fun o => o.guard.isNone

/-- A DRAWN REGION WHOSE LAST OPERATIONS WAIT FOR ALL OTHERS: these are walked one by one -/
theorem W_regT {id : Nat} {ops : Array Oper} {s : St} (hm : X.P.follows .mixedOrders = true) (m : Nat) (hmn : m ≤ ops.size) (hfull : tailOK ops.toList m = true) (esc esc' : List Nat)
    (h : ∀ K : St → Prop, (∀ s', W X k s' → K s') → vcd X esc (ops.toList.take m).toArray s (fun s' => vc X esc' ops (ops.toList.drop m) s' K) (ops.toList.take m) s []) : W X (.code (.region id ops true) :: k) s := by
  intro G a w b cs hf hk hr R
  simp only [tailOK, Bool.and_eq_true, List.all_eq_true] at hfull
  obtain ⟨⟨⟨t1, t2⟩, t3⟩, t4⟩ := hfull
  obtain ⟨evs, h1, h2, h3⟩ := vcd_sound (h (fun s' => W X k s') (fun _ h => h))
  have ht : (ops.toList.take m).toArray.toList = ops.toList.take m := rfl
  have h3' : VL X ops (ops.toList.drop m) (appAll s evs) (fun s' => W X k s') := vc_sound h3
  have hany := draw_anyT (ops' := (ops.toList.take m).toArray) (s0 := s) rfl hmn (by rw [ht]; exact h1) (fun o ho => by have := t4 o (by simpa using ho); cases hq : o.guard with | none => rfl | some _ => rw [hq] at this; cases this) (by simpa using h2) t1 t2 (tailB_spec (by simpa using t3)) h3' ops.size (Array.replicate ops.size false) G a { w with drawn := w.drawn + 1 } (by simp) (fun j o hL => by simp [Lof, Array.getElem?_replicate] at hL; split at hL <;> simp at hL) (fun j _ => by simp only [Lof, Array.getD_eq_getD_getElem?, Array.getElem?_replicate]; split <;> rfl) (by
      have : (left m (Array.replicate ops.size false)).length ≤ m := Nat.le_trans (List.length_filter_le _ _) (by simp)
      omega) (by
      rw [sel_none _ _ _ (fun j _ => by simp only [Lof, Array.getD_eq_getD_getElem?, Array.getElem?_replicate]; split <;> rfl)]
      exact R.drawn _)
  obtain ⟨e', a', w', ⟨rfl, G', s', hK, R'⟩, harr⟩ := wpIn_region_any (F := X.F) (n := 0) hm hany b k cs hr trivial (roomF _)
  obtain ⟨w'', fr, q1, q2⟩ := hK G' a' w' b cs hf hk hr R'
  exact ⟨w'', fr, q1, Steps.trans (StepsIn.steps harr) q2⟩

/-! raw slices: the slice's value is a datum of its own, its block an object -/
abbrev rawS (b n cap : Nat) : DV := .prim (.slice (some ⟨b, 0, none⟩) n cap)

theorem put_mid (A M D xs : List SV) (h : xs.length = M.length) : put (A ++ (M ++ D)) A.length xs = A ++ (xs ++ D) := by
  apply List.ext_getElem?
  intro i
  rw [get_put _ _ _ _ (by simp; omega)]
  split
  · rename_i hi
    rw [List.getElem?_append_right hi.1, List.getElem?_append_left (by omega)]
  · rename_i hi
    by_cases h1 : i < A.length
    · rw [List.getElem?_append_left h1, List.getElem?_append_left h1]
    · have h2 : A.length + xs.length ≤ i := by omega
      rw [List.getElem?_append_right (by omega), List.getElem?_append_right (by omega), List.getElem?_append_right (by omega), List.getElem?_append_right (by omega), h]
theorem arrRow_append (l r : List (List DV)) : arrRow (l ++ r) = arrRow l ++ arrRow r := by simp [arrRow]
theorem arrRow_len {E : Nat} {l : List (List DV)} (h : ∀ e ∈ l, e.length = E) : (arrRow l).length = l.length * E := by simp only [arrRow, List.length_map]; exact flatten_len h
theorem arrRow_put {E : Nat} {full zs : List (List DV)} {n : Nat} (hE1 : ∀ e ∈ full, e.length = E) (hE2 : ∀ e ∈ zs, e.length = E) (hle : n + zs.length ≤ full.length) :
    put (arrRow full) (n * E) (arrRow zs) = arrRow (full.take n ++ zs ++ full.drop (n + zs.length)) := by
  have h1 : full = full.take n ++ ((full.drop n).take zs.length ++ full.drop (n + zs.length)) := by
    have := List.take_append_drop zs.length (full.drop n)
    rw [List.drop_drop] at this
    rw [this, List.take_append_drop]
  have m1 : ∀ e ∈ full.take n, e.length = E := fun e he => hE1 e (List.mem_of_mem_take he)
  have m2 : ∀ e ∈ (full.drop n).take zs.length, e.length = E := fun e he => hE1 e (List.mem_of_mem_drop (List.mem_of_mem_take he))
  have e1 : (arrRow (full.take n)).length = n * E := by rw [arrRow_len m1, List.length_take, Nat.min_eq_left (by omega)]
  have e2 : (arrRow zs).length = (arrRow ((full.drop n).take zs.length)).length := by rw [arrRow_len hE2, arrRow_len m2, List.length_take, List.length_drop, Nat.min_eq_left (by omega)]
  have h2 : arrRow full = arrRow (full.take n) ++ (arrRow ((full.drop n).take zs.length) ++ arrRow (full.drop (n + zs.length))) := by rw [← arrRow_append, ← arrRow_append, ← h1]
  rw [h2, ← e1, put_mid _ _ _ _ e2, arrRow_append, arrRow_append, List.append_assoc]

/-- the cells of elements that are laid -/
theorem rowOf_laid {G : Gh} {w : World} {E : Nat} {zs : List (List DV)} {g : Nat → Value} (hE : ∀ e ∈ zs, e.length = E) (h : Laid G.D w E zs g) : RowOf G w (arrRow zs) (arr g (zs.length * E)) := by
  have hl := flatten_len hE
  refine ⟨by rw [arr_size, arrRow_len hE], fun i x v hx hv => ?_⟩
  simp only [arrRow, List.getElem?_map] at hx
  cases hd0 : zs.flatten[i]? with
  | none => rw [hd0] at hx; cases hx
  | some dd =>
    rw [hd0] at hx
    cases hx
    obtain ⟨i1, j1, e1, k1, k2, rfl⟩ := flatten_get hE hd0
    have hj : j1 < E := by rw [← hE e1 (List.mem_of_getElem? k1)]; exact (List.getElem?_eq_some_iff.1 k2).1
    have hi : i1 < zs.length := (List.getElem?_eq_some_iff.1 k1).1
    rw [arr_get _ _ _ (lt_mul hi hj)] at hv
    cases hv
    exact h i1 j1 e1 dd k1 k2
theorem cellBS_arrRow {zs : List (List DV)} (h : ∀ e ∈ zs, ∀ c ∈ e, DV.isCell c = true) : cellBS (arrRow zs) = true := by
  rw [cellBS_iff]
  intro x hx
  simp only [arrRow, List.mem_map, List.mem_flatten] at hx
  obtain ⟨d, ⟨e, he, hd⟩, rfl⟩ := hx
  exact h e he d hd

/-- append in place -/
theorem step_appendF {o : Oper} {x y : Operand} {T T2 : TypeId} (ho : o.op = .call { callee := .builtin .append, args := #[x, y], argTypes := #[T, T2] }) {d : Nat} (hd : o.dst = some d) (hn : d < X.n)
    {E B : Nat} (he : elemZ X.P T = some (E, B)) (h2 : (elemT X.P T2).isSome = true) {b n cap : Nat} {full zs : List (List DV)} (hx : evl X (get s) x = some (.v (rawS b n cap))) (hy : (evl X (get s) y).bind slOf = some zs)
    (hrow : get s (.heap b) = some (.row (arrRow full))) (hfl : full.length = cap) (hle : n + zs.length ≤ cap) (hE1 : ∀ e ∈ full, e.length = E) (hE2 : ∀ e ∈ zs, e.length = E) :
    StepOK X s o (upd (upd s (.heap b) (.row (arrRow (full.take n ++ zs ++ full.drop (n + zs.length))))) (.slot d) (.one (.v (rawS b (n + zs.length) cap)))) := by
  intro G a w R next Q hK
  have hv := (prim_of (evl_sound R hx)).1
  obtain ⟨q, hq, hq'⟩ := Option.bind_eq_some_iff.1 hy
  obtain ⟨yb, ycap, hyv, hyr, -⟩ := slOf_sound hq' (evl_sound R hq)
  obtain ⟨c2, g, g1, g2, g3⟩ := sl_laid hyr hE2
  have hle2 : n * E + (arrRow zs).length ≤ (arrRow full).length := by
    rw [arrRow_len hE1, arrRow_len hE2, ← Nat.add_mul, hfl]; exact Nat.mul_le_mul_right _ hle
  obtain ⟨w', h1, h2'⟩ := R.storeRow hrow rfl (b := b) rfl (rowOf_laid hE2 g1) (cellBS_arrRow c2) hle2
  have hrun := run_append_fits (P := X.P) (t := T) (ty := o.type) (t2 := T2) (w := w) he h2 (base := some ⟨b, 0, none⟩) (len := n) (cap := cap) (lenOf_sl (P := X.P) hyr w) (run_firstCells (P := X.P) g3) hle (w' := w') (by simp only [addr_add, Nat.zero_add]; exact h1)
  rw [← hv] at hrun
  refine opIn (by intro c e; rw [ho] at e; cases e) ?_
  have hexec : (execOp a.eval o).run X.P w = .ok (.value (.slice (some ⟨b, 0, none⟩) (n + zs.length) cap)) w' := by
    simp [execOp, ho, resolve, invoke, builtin, hrun]
  rw [hexec, upn_value, hd]
  rw [arrRow_put hE1 hE2 (by omega)] at h2'
  exact hK G _ w' (h2'.setSlot (Trans.refl X G a w' R.nil) rfl rfl (fun _ h => h) hn (.prim _ trivial))

/-- a new block whose first cells are told -/
theorem Rel.newArr {G : Gh} {a : Act} {w : World} (R : Rel X G s a w) {d : Nat} (hn : d < X.n) {w1 : World} (hw1 : w1.heap = w.heap) {c : Array Value} {e : TypeId} {E : Nat} {full : List (List DV)} {n cap : Nat}
    (T' : Trans X G a w G (a.put (some d) (.slice (some ⟨w.heap.size, 0, none⟩) n cap)) (w1.alloc (.cells c e)) (fun _ => False))
    (hE : ∀ e ∈ full, e.length = E) (hcell : ∀ e ∈ full, ∀ c ∈ e, DV.isCell c = true) (hc : full.length * E ≤ c.size) (hget : ∀ (i j : Nat) (e : List DV) (dd : DV), full[i]? = some e → e[j]? = some dd → ∃ v, c[i * E + j]? = some v ∧ RV G.D w dd v) :
    Rel X G (upd (upd s (.slot d) (.one (.v (rawS w.heap.size n cap)))) (.heap w.heap.size) (.row (arrRow full))) (a.put (some d) (.slice (some ⟨w.heap.size, 0, none⟩) n cap)) (w1.alloc (.cells c e)) := by
  have hp := put_tmps a (some d) (.slice (some ⟨w.heap.size, 0, none⟩) n cap)
  refine R.step T' (fun l u => (l = .slot d ∧ u = .one (.v (rawS w.heap.size n cap))) ∨ (l = .heap w.heap.size ∧ u = .row (arrRow full))) (fun l u h => ?_) (fun l u h => ?_) (fun l u l' u' b h h' hb hb' => ?_)
  · rw [get_upd, get_upd] at h
    by_cases h1 : Loc.heap w.heap.size = l
    · rw [if_pos h1] at h; cases h; exact .inl (.inr ⟨h1.symm, rfl⟩)
    · rw [if_neg h1] at h
      by_cases h3 : Loc.slot d = l
      · rw [if_pos h3] at h; cases h; exact .inl (.inl ⟨h3.symm, rfl⟩)
      · rw [if_neg h3] at h
        exact .inr ⟨h, fun n hn => put_get_ne _ _ _ _ (fun e => h3 (by rw [hn, e])), fun b hb hBb => hBb.elim, fun _ _ => rfl, fun _ _ => rfl⟩
  · rcases h with ⟨rfl, rfl⟩ | ⟨rfl, rfl⟩
    · refine ⟨?_, fun b hb => by cases hb⟩
      show RSV G _ (.v _) _
      rw [put_get_same _ _ _ (by rw [R.size]; exact hn)]
      exact .prim _ trivial
    · refine ⟨⟨c, e, ?_, ?_, fun i x hx => ?_⟩, fun b hb => ?_⟩
      · have := alloc_new w1 (.cells c e)
        rw [hw1] at this
        exact this
      · rw [arrRow_len hE]; exact hc
      · simp only [arrRow, List.getElem?_map] at hx
        cases hd0 : full.flatten[i]? with
        | none => rw [hd0] at hx; cases hx
        | some dd =>
          rw [hd0] at hx
          cases hx
          obtain ⟨i1, j1, e1, k1, k2, rfl⟩ := flatten_get hE hd0
          obtain ⟨v, hv, hr⟩ := hget i1 j1 e1 dd k1 k2
          exact ⟨hcell e1 (List.mem_of_getElem? k1) dd (List.mem_of_getElem? k2), v, hv, hr.mono T'.grow⟩
      · cases hb
        exact ⟨.inl (Nat.le_refl _), .inl R.ext.size, fun _ o hD => absurd (R.wf.lt hD) (Nat.lt_irrefl _)⟩
  · rcases h with ⟨rfl, rfl⟩ | ⟨rfl, rfl⟩
    · cases hb
    · rcases h' with ⟨rfl, rfl⟩ | ⟨rfl, rfl⟩
      · cases hb'
      · rfl
theorem newB_size {G : Gh} {a : Act} {w : World} (R : Rel X G s a w) : newB w.heap.size s := newB_of fun v hv => by
  have hh := R.holds _ _ hv
  cases v with
  | row cs => exact absurd (blk_lt hh rfl) (Nat.lt_irrefl _)
  | ob r => exact absurd (blk_lt hh rfl) (Nat.lt_irrefl _)
  | one x => exact hh.elim
  | tk E n => exact hh.elim

/-- the zero of a slice's elements -/
def zeroE (P : Program) (T : TypeId) : Option (List DV) :=
  match P.underlying T with
  | some (.slice e) => (zeroT P e).bind toDs
  | _ => none

theorem mod_mul_add {E i j : Nat} (hj : j < E) : (i * E + j) % E = j := by
  rw [Nat.mul_comm, Nat.mul_add_mod]; exact Nat.mod_eq_of_lt hj

theorem run_append_newZ {P : Program} {w : World} {t ty t2 E B : Nat} (he : elemZ P t = some (E, B)) (hB : 0 < B ∧ B ≤ 1024) (h2 : (elemT P t2).isSome = true) {base : Option Addr} {len cap : Nat} {x : Value} {n : Nat} {old new : Array Value}
    (hx : ∀ w', w'.heap = w.heap → (Builtin.lenOf x).run P w' = .ok n w') (hn : ∀ w', w'.heap = w.heap → (Builtin.firstCells E n x).run P w' = .ok new w') (ho : ∀ w', w'.heap = w.heap → (Builtin.firstCells E len (.slice base len cap)).run P w' = .ok old w')
    (hle : ¬ len + n ≤ cap) (hbig : len + n ≤ BIG) (h1 : old.size = len * E) (h3 : new.size = n * E) {zd : List DV} (hz : zeroE P t = some zd) :
    zd.length = E ∧ ∃ c e nc, (Builtin.append_ #[t, t2] ty #[.slice base len cap, x]).run P w = .ok (.slice (some ⟨w.heap.size, 0, none⟩) (len + n) nc) (w.drew.alloc (.cells c e)) ∧ len + n ≤ nc ∧ c.size = nc * E ∧ (∀ k, k < len * E → c[k]? = old[k]?) ∧ (∀ k, k < n * E → c[len * E + k]? = new[k]?) ∧
      ∀ (G : Gh) (w' : World), G.τ 0 = (none, 0) → ∀ (i j : Nat) (dd : DV), i < nc - (len + n) → zd[j]? = some dd → ∃ v, c[(len + n + i) * E + j]? = some v ∧ RV G.D w' dd v := by
  obtain ⟨e, i, z, hu, hi, hzv, hzs, his, hib⟩ := elemZ_run he
  obtain ⟨E2, hE2⟩ := Option.isSome_iff_exists.1 h2
  obtain ⟨e2, i2, hu2, -, -⟩ := elem_run hE2
  have hzz : ∃ cs, zeroS z.cells.toList = some cs ∧ toDs cs = some zd := by
    simp only [zeroE, hu, zeroT, hi, hzv] at hz
    exact Option.bind_eq_some_iff.1 hz
  obtain ⟨zcs, hz1, hz2⟩ := hzz
  have hzl : zd.length = E := by
    have h0 : RowOf { D := fun _ _ => False, ν := fun _ => 0, τ := fun _ => (none, 0) } w zcs z.cells.toList.toArray := zeroS_sound rfl hz1
    have := (toDs_row h0 hz2).1
    rw [← this]
    simpa using hzs
  refine ⟨hzl, ?_⟩
  unfold BIG at hbig
  have hcap : ¬ (Builtin.nextslicecap (len + n) cap * B > 2 ^ 48) := by
    have := nextslicecap_le (need := len + n) (cap := cap) (by omega)
    have : Builtin.nextslicecap (len + n) cap * B ≤ (2 * (len + n) + 600) * 1024 := Nat.mul_le_mul this hB.2
    omega
  let q : Question := .appendCap (len + n) cap e
  let nc := q.cut (w.tape w.drawn q)
  have hnc : len + n ≤ nc := by show len + n ≤ _; simp [nc, q, Question.cut]
  have hzc : (Builtin.zeroCells z.cells (nc - (len + n))).size = (nc - (len + n)) * E := by simp [Builtin.zeroCells, hzs]
  refine ⟨old ++ new ++ Builtin.zeroCells z.cells (nc - (len + n)), e, nc, ?_, hnc, ?_, fun k hk => ?_, fun k hk => ?_, fun G w' hG i j dd hi' hj => ?_⟩
  · unfold Builtin.append_
    have hc' : ¬ (2 ^ 48 < Builtin.nextslicecap (len + n) cap * B) := hcap
    simp [run_underlying hu, run_underlying hu2, sizeOf, typeInfo, hi, his, hx w rfl, hle, hib, hc', Question.forced, ho (w.drew) rfl, hn (w.drew) rfl, zeroValue, hzv, newRow, nc, q]
    intro h
    omega
  · simp [h1, h3, Builtin.zeroCells, hzs]
    rw [← Nat.add_mul, ← Nat.add_mul]
    congr 1; omega
  · rw [Array.getElem?_append_left (by simp [h1, h3]; omega), Array.getElem?_append_left (by omega)]
  · rw [Array.getElem?_append_left (by simp [h1, h3]; omega), Array.getElem?_append_right (by omega), h1]
    congr 1; omega
  · have hjE : j < E := by rw [← hzl]; exact (List.getElem?_eq_some_iff.1 hj).1
    have hlt : i * E + j < (nc - (len + n)) * E := lt_mul hi' hjE
    have hrow : RowOf G w' zcs z.cells.toList.toArray := zeroS_sound hG hz1
    have hr := (toDs_row hrow hz2).2 j dd
    simp only [Array.toArray_toList] at hr
    have hjz : j < z.cells.size := by omega
    refine ⟨z.cells[j], ?_, hr _ hj (Array.getElem?_eq_getElem hjz)⟩
    have hsz : (old ++ new).size = (len + n) * E := by simp [h1, h3, Nat.add_mul]
    have e1 : (len + n + i) * E + j = (old ++ new).size + (i * E + j) := by rw [hsz, Nat.add_mul (len + n) i E]; omega
    rw [e1, Array.getElem?_append_right (Nat.le_add_right _ _), Nat.add_sub_cancel_left]
    have hs2 : i * E + j < (nc - (len + n)) * z.cells.size := by rw [hzs]; exact hlt
    simp only [Builtin.zeroCells]
    rw [Array.getElem?_map, Array.getElem?_range, if_pos hs2]
    simp only [Option.map_some, hzs, mod_mul_add hjE]
    rw [getElem!_pos z.cells j hjz]

theorem flatten_at {E : Nat} : ∀ {ys : List (List DV)}, (∀ e ∈ ys, e.length = E) → ∀ {i j : Nat} {e : List DV} {d : DV}, ys[i]? = some e → e[j]? = some d → ys.flatten[i * E + j]? = some d
  | [], _, i, j, e, d, h, _ => by simp at h
  | y :: r, hE, 0, j, e, d, h, hd => by
    simp at h
    subst h
    rw [List.flatten_cons, Nat.zero_mul, Nat.zero_add, List.getElem?_append_left (List.getElem?_eq_some_iff.1 hd).1]
    exact hd
  | y :: r, hE, i + 1, j, e, d, h, hd => by
    have hy := hE y (by simp)
    have ih := flatten_at (ys := r) (fun e he => hE e (List.mem_cons_of_mem _ he)) (by simpa using h) hd
    rw [List.flatten_cons, List.getElem?_append_right (by rw [hy, Nat.add_mul]; omega), hy]
    rw [show (i + 1) * E + j - E = i * E + j from by rw [Nat.add_mul]; omega]
    exact ih

/-- append to a new block -/
theorem step_appendN {o : Oper} {x y : Operand} {T T2 : TypeId} (ho : o.op = .call { callee := .builtin .append, args := #[x, y], argTypes := #[T, T2] }) {d : Nat} (hd : o.dst = some d) (hn : d < X.n)
    {E B : Nat} (he : elemZ X.P T = some (E, B)) (hB : 0 < B ∧ B ≤ 1024) (h2 : (elemT X.P T2).isSome = true) {b n cap : Nat} {full zs : List (List DV)} {zd : List DV} (hx : evl X (get s) x = some (.v (rawS b n cap))) (hy : (evl X (get s) y).bind slOf = some zs)
    (hrow : get s (.heap b) = some (.row (arrRow full))) (hfl : full.length = cap) (hnc : n ≤ cap) (hnf : cap < n + zs.length) (hbig : n + zs.length ≤ BIG) (hE1 : ∀ e ∈ full, e.length = E) (hE2 : ∀ e ∈ zs, e.length = E) (hz : zeroE X.P T = some zd) (hzc : cellB zd = true)
    {G : Gh} {a : Act} {w : World} (R : Rel X G s a w) (next : Act → World → Prop) (Q : Exit → Act → World → Prop)
    (hK : ∀ b' cap', n + zs.length ≤ cap' → newB b' s → X.w0.heap.size ≤ b' → ∀ G' a' w', Rel X G' (upd (upd s (.slot d) (.one (.v (rawS b' (n + zs.length) cap')))) (.heap b') (.row (arrRow (full.take n ++ zs ++ List.replicate (cap' - (n + zs.length)) zd)))) a' w' → next a' w') :
    o.wpIn X.F 0 X.P a w next Q := by
  have hv := (prim_of (evl_sound R hx)).1
  obtain ⟨q, hq, hq'⟩ := Option.bind_eq_some_iff.1 hy
  obtain ⟨yb, ycap, hyv, hyr, -⟩ := slOf_sound hq' (evl_sound R hq)
  obtain ⟨c2, g, g1, g2, g3⟩ := sl_laid hyr hE2
  obtain ⟨c0, e0, k1, k2, k3⟩ : BlkAt G w b (arrRow full) := R.holds _ _ hrow
  rw [arrRow_len hE1] at k2
  have hnE : n * E ≤ full.length * E := Nat.mul_le_mul_right _ (by omega)
  have hdr : ∀ w' : World, w'.heap = w.heap → (Builtin.firstCells E zs.length (a.eval y)).run X.P w' = .ok (arr g (zs.length * E)) w' := fun w' hw => by
    refine run_firstCells (D := G.D) ?_
    rcases g3 with h | ⟨b, o', cap, h, hc⟩
    · exact .inl h
    · exact .inr ⟨b, o', cap, h, fun k hk => by rw [cell_of_heap hw]; exact hc k hk⟩
  have hdo : ∀ w' : World, w'.heap = w.heap → (Builtin.firstCells E n (.slice (some ⟨b, 0, none⟩) n cap)).run X.P w' = .ok (arr (fun k => (c0[k]?).getD undef) (n * E)) w' := fun w' hw => by
    simp only [Builtin.firstCells]
    refine run_loadCells_f b 0 (n * E) _ (fun k hk => ?_)
    have hlt : k < c0.size := by omega
    rw [cell_of_heap hw, Nat.zero_add]
    simp [World.cell?, k1, hlt]
  obtain ⟨hzl, c, e, nc, r1, r2, r3, r4, r5, r6⟩ := run_append_newZ (P := X.P) (t := T) (ty := o.type) (t2 := T2) (w := w) he hB h2 (base := some ⟨b, 0, none⟩) (len := n) (cap := cap) (fun w' _ => lenOf_sl (P := X.P) hyr w') hdr hdo (by omega) hbig (arr_size _ _) (arr_size _ _) hz
  rw [← hv] at r1
  have hexec : (execOp a.eval o).run X.P w = .ok (.value (.slice (some ⟨w.heap.size, 0, none⟩) (n + zs.length) nc)) (w.drew.alloc (.cells c e)) := by
    simp [execOp, ho, resolve, invoke, builtin, r1]
  refine opIn (by intro c e; rw [ho] at e; cases e) ?_
  rw [hexec, upn_value, hd]
  have hp := put_tmps a (some d) (.slice (some ⟨w.heap.size, 0, none⟩) (n + zs.length) nc)
  have T' : Trans X G a w G (a.put (some d) (.slice (some ⟨w.heap.size, 0, none⟩) (n + zs.length) nc)) (w.drew.alloc (.cells c e)) (fun _ => False) := by
    refine ⟨hp.1, fun h => (h.heap fun b hb => alloc_old w.drew _ b hb).put hp.2, rfl, rfl, rfl, by simp, fun b hb _ => alloc_old w.drew _ b hb, fun _ h => h.elim, fun b k hD => ⟨hD, World.cell?_alloc_lt w.drew _ _ (R.wf.lt hD)⟩, fun b k hD hnD => absurd hD hnD, R.nil⟩
  refine hK w.heap.size nc r2 (newB_size R) R.ext.size G _ _ (R.newArr hn (w1 := w.drew) rfl T' (E := E) ?_ ?_ ?_ ?_)
  · intro e he
    rcases List.mem_append.1 he with he | he
    · rcases List.mem_append.1 he with he | he
      · exact hE1 e (List.mem_of_mem_take he)
      · exact hE2 e he
    · rw [(List.mem_replicate.1 he).2]; exact hzl
  · intro e he d hd
    rcases List.mem_append.1 he with he | he
    · rcases List.mem_append.1 he with he | he
      · have he := List.mem_of_mem_take he
        obtain ⟨i, hi⟩ := List.mem_iff_getElem?.1 he
        obtain ⟨j, hj⟩ := List.mem_iff_getElem?.1 hd
        exact (k3 (i * E + j) (.v d) (by simp only [arrRow, List.getElem?_map, flatten_at hE1 hi hj, Option.map_some])).1
      · exact c2 e he d hd
    · rw [(List.mem_replicate.1 he).2] at hd
      exact (cellB_iff zd).1 hzc d hd
  · rw [r3]
    simp only [List.length_append, List.length_take, List.length_replicate]
    exact Nat.mul_le_mul_right _ (by omega)
  · intro i j e dd hi hj
    have hl1 : (full.take n).length = n := by rw [List.length_take, Nat.min_eq_left (by omega)]
    rw [List.append_assoc] at hi
    rcases Nat.lt_or_ge i n with h | h
    · rw [List.getElem?_append_left (by omega), List.getElem?_take_of_lt h] at hi
      have hjE : j < E := by rw [← hE1 e (List.mem_of_getElem? hi)]; exact (List.getElem?_eq_some_iff.1 hj).1
      have hlt := lt_mul h hjE
      obtain ⟨-, v, q1, q2⟩ := k3 (i * E + j) (.v dd) (by simp only [arrRow, List.getElem?_map, flatten_at hE1 hi hj, Option.map_some])
      refine ⟨v, ?_, q2⟩
      rw [r4 _ hlt, arr_get _ _ _ hlt, q1]
      rfl
    · rw [List.getElem?_append_right (by omega), hl1] at hi
      rcases Nat.lt_or_ge (i - n) zs.length with h' | h'
      · rw [List.getElem?_append_left h'] at hi
        have hjE : j < E := by rw [← hE2 e (List.mem_of_getElem? hi)]; exact (List.getElem?_eq_some_iff.1 hj).1
        have hlt := lt_mul h' hjE
        refine ⟨_, ?_, g1 _ _ _ _ hi hj⟩
        have e1 : i * E + j = n * E + ((i - n) * E + j) := by rw [← Nat.add_assoc, ← Nat.add_mul]; congr 2; omega
        rw [e1, r5 _ hlt, arr_get _ _ _ hlt]
      · rw [List.getElem?_append_right h'] at hi
        obtain ⟨hi1, hi2⟩ : e = zd ∧ i - n - zs.length < nc - (n + zs.length) := by
          have hm := List.mem_of_getElem? hi
          have hlt := (List.getElem?_eq_some_iff.1 hi).1
          simp only [List.length_replicate] at hlt
          exact ⟨(List.mem_replicate.1 hm).2, hlt⟩
        subst hi1
        obtain ⟨v, q1, q2⟩ := r6 G w R.nil (i - n - zs.length) j dd hi2 hj
        refine ⟨v, ?_, q2⟩
        rw [show n + zs.length + (i - n - zs.length) = i from by omega] at q1
        exact q1

theorem vcK_appendR {esc : List Nat} {ops : Array Oper} {l : List Oper} {K : St → Prop} {d : Tmp} {x y : Operand} {T T2 ty : TypeId} {pos : String} {af : Array Edge} {q : Option (Prop × St)}
    {E B b n cap : Nat} {full zs : List (List DV)} {zd : List DV} (hx : evl X (get s) x = some (.v (rawS b n cap))) (hy : (evl X (get s) y).bind slOf = some zs) (hrow : get s (.heap b) = some (.row (arrRow full)))
    (he : elemZ X.P T = some (E, B)) (hz : zeroE X.P T = some zd) (hzc : cellB zd = true) (hB : 0 < B ∧ B ≤ 1024) (h2 : (elemT X.P T2).isSome = true) (hn : d < X.n)
    (hfl : full.length = cap) (hnc : n ≤ cap) (hbig : n + zs.length ≤ BIG) (hE1 : ∀ e ∈ full, e.length = E) (hE2 : ∀ e ∈ zs, e.length = E) (hq : q = none)
    (h1 : n + zs.length ≤ cap → vc X esc ops l (upd (upd s (.heap b) (.row (arrRow (full.take n ++ zs ++ full.drop (n + zs.length))))) (.slot d) (.one (.v (rawS b (n + zs.length) cap)))) K)
    (h3 : cap < n + zs.length → ∀ b' cap', n + zs.length ≤ cap' → newB b' s → X.w0.heap.size ≤ b' → vc X esc ops l (upd (upd s (.slot d) (.one (.v (rawS b' (n + zs.length) cap')))) (.heap b') (.row (arrRow (full.take n ++ zs ++ List.replicate (cap' - (n + zs.length)) zd)))) K) :
    vcK X esc ops l K ⟨some d, .call { callee := .builtin .append, args := #[x, y], argTypes := #[T, T2] }, ty, pos, af, none⟩ s q := by
  subst hq
  rcases Nat.lt_or_ge cap (n + zs.length) with h | h
  · intro m hm G a w R0
    obtain ⟨p1, p3⟩ := drop_cons hm
    simp only [List.length_cons, List.range'_succ, wpOpsIn, p1, Region.wanted, if_true]
    refine step_appendN (o := ⟨some d, .call { callee := .builtin .append, args := #[x, y], argTypes := #[T, T2] }, ty, pos, af, none⟩) rfl rfl hn he hB h2 hx hy hrow hfl hnc h hbig hE1 hE2 hz hzc R0 _ _ fun b' cap' hc hb hw G' a' w' R' => ?_
    exact vc_sound (h3 h b' cap' hc hb hw) (m + 1) p3 G' a' w' R'
  · exact VL_step rfl (step_appendF (o := ⟨some d, .call { callee := .builtin .append, args := #[x, y], argTypes := #[T, T2] }, ty, pos, af, none⟩) rfl rfl hn he h2 hx hy hrow hfl h hE1 hE2) (vc_sound (h1 h))

/-- a literal as a raw slice -/
theorem step_litX {o : Oper} {t len E B : Nat} {parts : Array (Nat × Operand)} (ho : o.op = .buildSlice t len parts) {d : Nat} (hd : o.dst = some d) (hn : d < X.n) (he : elemZ X.P t = some (E, B)) {els : List (List DV)}
    (h : litEls X (get s) E 0 parts.toList = some els) (hlen : els.length = len) (hb : len * E ≤ 16777216)
    {G : Gh} {a : Act} {w : World} (R : Rel X G s a w) (next : Act → World → Prop) (Q : Exit → Act → World → Prop)
    (hK : ∀ b, newB b s → X.w0.heap.size ≤ b → ∀ G' a' w', Rel X G' (upd (upd s (.slot d) (.one (.v (rawS b len len)))) (.heap b) (.row (arrRow els))) a' w' → next a' w') :
    o.wpIn X.F 0 X.P a w next Q := by
  obtain ⟨e, i, z, hu, hi, hz, hzs, his, hib⟩ := elemZ_run he
  subst hlen
  have hsz0 : ((Array.range (els.length * E)).map fun k => (if els.length * E = 0 then #[] else z.cells)[k % (if els.length * E = 0 then #[] else z.cells).size]!).size = els.length * E := by simp
  obtain ⟨q1, q2, q3, c', f1, f2, f3, f4⟩ := litEls_sound R E parts.toList 0 els ((Array.range (els.length * E)).map fun k => (if els.length * E = 0 then #[] else z.cells)[k % (if els.length * E = 0 then #[] else z.cells).size]!) h (by rw [hsz0, Nat.zero_add]; exact Nat.le_refl _)
  rw [hsz0] at f2
  have hrun : (Instr.buildSlice t els.length (parts.map fun (i, x) => (i, a.eval x))).run X.P w = .ok (.slice (some ⟨w.heap.size, 0, none⟩) els.length els.length) (w.alloc (.cells c' e)) := by
    have hne : ¬ (els.length * E > 2 ^ 24) := by omega
    have hf : Instr.fill (fun k => some (k * E, E)) ((Array.range (els.length * E)).map fun k => (if els.length * E = 0 then #[] else z.cells)[k % (if els.length * E = 0 then #[] else z.cells).size]!) ((parts.map fun (q : Nat × Operand) => (q.1, a.eval q.2)).toList) = some c' := by
      rw [Array.toList_map]; exact f1
    unfold Instr.buildSlice
    simp only [run_underlying hu, sizeOf, typeInfo, hi, his, Sem.run_bind, Sem.run_pure, run_program, Result.andThen_ok, hne, if_false]
    by_cases h0 : els.length * E = 0
    · simp only [if_pos h0] at hf ⊢
      simp only [Sem.run_bind, Sem.run_pure, Result.andThen_ok, hf, newRow, run_newObj]
      rfl
    · simp only [if_neg h0] at hf ⊢
      simp only [zeroValue, typeInfo, run_program, hi, hz, Sem.run_bind, Sem.run_pure, Result.andThen_ok, hf, newRow, run_newObj]
      rfl
  refine opIn (by intro c e; rw [ho] at e; cases e) ?_
  have hexec : (execOp a.eval o).run X.P w = .ok (.value (.slice (some ⟨w.heap.size, 0, none⟩) els.length els.length)) (w.alloc (.cells c' e)) := by
    simp only [execOp, ho, Sem.run_bind, hrun, Result.andThen_ok, Sem.run_pure]
  rw [hexec, upn_value, hd]
  have hp := put_tmps a (some d) (.slice (some ⟨w.heap.size, 0, none⟩) els.length els.length)
  have T' : Trans X G a w G (a.put (some d) (.slice (some ⟨w.heap.size, 0, none⟩) els.length els.length)) (w.alloc (.cells c' e)) (fun _ => False) := by
    refine ⟨hp.1, fun h => (h.heap fun b hb => alloc_old w _ b hb).put hp.2, rfl, rfl, rfl, by simp, fun b hb _ => alloc_old w _ b hb, fun _ h => h.elim, fun b k hD => ⟨hD, World.cell?_alloc_lt w _ _ (R.wf.lt hD)⟩, fun b k hD hnD => absurd hD hnD, R.nil⟩
  refine hK w.heap.size (newB_size R) R.ext.size G _ _ (R.newArr hn (w1 := w) rfl T' (E := E) q1 q2 (by rw [f2]; exact Nat.le_refl _) fun i j e dd hi hj => ?_)
  obtain ⟨v, hv, hr⟩ := f4 i j e dd hi hj
  rw [Nat.zero_add] at hv
  exact ⟨v, hv, hr⟩

theorem vcK_litX {esc : List Nat} {ops : Array Oper} {l : List Oper} {K : St → Prop} {d : Tmp} {t len : Nat} {parts : Array (Nat × Operand)} {ty : TypeId} {pos : String} {af : Array Edge} {q : Option (Prop × St)} {E B : Nat} {els : List (List DV)}
    (he : elemZ X.P t = some (E, B)) (h : litEls X (get s) E 0 parts.toList = some els) (hc : els.length = len ∧ len * E ≤ 16777216) (hn : d < X.n) (hq : q = none)
    (k : ∀ b, newB b s → X.w0.heap.size ≤ b → vc X esc ops l (upd (upd s (.slot d) (.one (.v (rawS b len len)))) (.heap b) (.row (arrRow els))) K) :
    vcK X esc ops l K ⟨some d, .buildSlice t len parts, ty, pos, af, none⟩ s q := by
  subst hq
  intro m hm G a w R0
  obtain ⟨p1, p3⟩ := drop_cons hm
  simp only [List.length_cons, List.range'_succ, wpOpsIn, p1, Region.wanted, if_true]
  refine step_litX (o := ⟨some d, .buildSlice t len parts, ty, pos, af, none⟩) rfl rfl hn he h hc.1 hc.2 R0 _ _ fun b hb hw G' a' w' R' => ?_
  exact vc_sound (k b hb hw) (m + 1) p3 G' a' w' R'
end
end Go.Proofs.YtgfjcbofbbcnmaaDoor.Lift

/-
  Plain law: reducing keeps what a term denotes; normal closed terms of plain types are the terms of values.
-/
namespace Go.Proofs.YtgfjcbofbbcnmaaDoor.Lift
set_option linter.unusedSimpArgs false
set_option linter.unusedVariables false
set_option linter.unnecessarySimpa false
open Go

/-- types without functions -/
def T.plain : T → Prop
  | .nat => True
  | .list => True
  | .unit => True
  | .pair a b => a.plain ∧ b.plain
  | .fn _ _ => False
/-- the plain value of a value -/
def valOf : (a : T) → a.V → Val
  | .nat, n => Val.mk 1 (Int.ofNat n) [] []
  | .list, l => Val.mk 2 0 (List.map Int.ofNat l) []
  | .unit, _ => Val.mk 4 0 [] []
  | .pair a b, p => Val.mk 3 0 [] [valOf a p.1, valOf b p.2]
  | .fn _ _, _ => Val.mk 4 0 [] []

end Go.Proofs.YtgfjcbofbbcnmaaDoor.Lift

namespace Go.Proofs.YtgfjcbofbbcnmaaDoor.Lift
set_option linter.unusedSimpArgs false
set_option linter.unusedVariables false
set_option linter.unnecessarySimpa false
open Go
variable {gl : Globs}

/-- the parts of a node, by its form -/
theorem Val.okB_kind {v : Val} (h : v.okB = true) : (v.kind = 1 ∧ 0 ≤ v.num ∧ v.list = [] ∧ v.args = []) ∨ (v.kind = 2 ∧ v.num = 0 ∧ (∀ n ∈ v.list, 0 ≤ n) ∧ v.args = []) ∨ (v.kind = 3 ∧ v.num = 0 ∧ v.list = [] ∧ ∃ a b, v.args = [a, b]) ∨ (v.kind = 4 ∧ v.num = 0 ∧ v.list = [] ∧ v.args = []) := by
  unfold Val.okB at h
  by_cases h1 : v.kind = 1
  · simp [h1] at h; exact .inl ⟨h1, h.1.1, h.1.2, h.2⟩
  by_cases h2 : v.kind = 2
  · simp [h2] at h; exact .inr (.inl ⟨h2, h.1.1, h.1.2, h.2⟩)
  by_cases h3 : v.kind = 3
  · simp [h3] at h
    refine .inr (.inr (.inl ⟨h3, h.1.1, h.1.2, ?_⟩))
    match hq : v.args, h.2 with
    | [a, b], _ => exact ⟨a, b, rfl⟩
  by_cases h4 : v.kind = 4
  · simp [h4] at h; exact .inr (.inr (.inr ⟨h4, h.1.1, h.1.2, h.2⟩))
  simp [h1, h2, h3, h4] at h

/-- whether all nodes have a form -/
theorem Val.nodes_flat {v : Val} (h : v.args = []) : v.nodesN.2 = v.okB := by rw [nodesN_eq, h]; rfl
theorem Val.nodes_pair {v a b : Val} (h : v.args = [a, b]) : v.nodesN.2 = (v.okB && (a.nodesN.2 && b.nodesN.2)) := by
  rw [nodesN_eq, h]
  cases ho : v.okB <;> simp [nodesN.nodesL]
  cases ha : a.nodesN.2 <;> simp
theorem Val.nodes_bad {v : Val} (h : v.okB = false) : v.nodesN.2 = false := by rw [nodesN_eq, h, nodesL_no]
theorem Val.nodes_count (v : Val) (h : v.nodesN.2 = true) : v.nodesN.1 = v.count := by
  induction v using Val.ind with
  | h v ih =>
  have key : ∀ l : List Val, (∀ a ∈ l, a.nodesN.2 = true → a.nodesN.1 = a.count) → ∀ (n : Int) (ok : Bool), (nodesN.nodesL l (n, ok)).2 = true → (nodesN.nodesL l (n, ok)).1 = n + count.counts l := by
    intro l
    induction l with
    | nil => intro _ n ok _; simp [nodesN.nodesL, count.counts]
    | cons a r ihr =>
      intro hl n ok hok
      cases ok with
      | false => rw [nodesL_no] at hok; cases hok
      | true =>
        simp only [nodesN.nodesL, if_true] at hok ⊢
        have ha : a.nodesN.2 = true := (nodesL_ok hok).1
        rw [ihr (fun b hb => hl b (List.mem_cons_of_mem _ hb)) _ _ hok, hl a (by simp) ha]
        simp only [count.counts]
        omega
  rw [nodesN_eq] at h ⊢
  rw [key v.args ih _ _ h, count_eq]
  omega

theorem snocI {l : List Int} {i : Nat} {Q : Int → Prop} (h : ∀ (j : Nat) (x : Int), j < i → l[j]? = some x → Q x) (h1 : ∀ x, l[i]? = some x → Q x) : ∀ (j : Nat) (x : Int), j < i + 1 → l[j]? = some x → Q x := by
  intro j x hj hx
  by_cases e : j = i
  · rw [e] at hx; exact h1 x hx
  · exact h j x (by omega) hx

set_option maxHeartbeats 2000000 in
theorem shape5_ok (v : Val) : Con1 Tryd.prog gl 56 [v.dv] [] (dbool v.nodesN.2) [] := by
  induction v using Val.ind with
  | h v ih =>
  refine t_in Tryd.func56 ?_
  intro X hP hgl hf hfn hn hR hids hfit
  have hl1 := Val.fit_args (hfit v.dv (by simp))
  have hl2 := Val.fit_list (hfit v.dv (by simp))
  by_cases h1 : v.kind = 1
  · have hv : v.nodesN.2 = v.okB := by
      by_cases ha : v.args = []
      · exact Val.nodes_flat ha
      · have : v.okB = false := by unfold Val.okB; simp [h1, ha]
        rw [Val.nodes_bad this, this]
    have hb : v.okB = (decide (0 ≤ v.num) && decide (v.list.length = 0) && decide (v.args.length = 0)) := by unfold Val.okB; simp [h1]
    rw [hv, hb] at hR
    by_cases q1 : 0 ≤ v.num
    · by_cases q2 : v.list.length = 0
      · by_cases q3 : v.args.length = 0
        · refine t_g (j2 @h1 (j2 @q1 (j2 @q2 @q3))) ?_
          refine t_r ?_
          simp [go_sem, hP, hgl, hn, q1, q2, q3] <;> (try omega)
        · refine t_g (j2 @h1 (j2 @q1 (j2 @q2 @q3))) ?_
          refine t_r ?_
          simp [go_sem, hP, hgl, hn, q1, q2, q3] <;> (try omega)
      · refine t_g (j2 @h1 (j2 @q1 @q2)) ?_
        refine t_r ?_
        simp [go_sem, hP, hgl, hn, q1, q2] <;> (try omega)
    · refine t_g (j2 @h1 @q1) ?_
      refine t_r ?_
      simp [go_sem, hP, hgl, hn, q1] <;> (try omega)
  by_cases h2 : v.kind = 2
  · have hv : v.nodesN.2 = v.okB := by
      by_cases ha : v.args = []
      · exact Val.nodes_flat ha
      · have : v.okB = false := by unfold Val.okB; simp [h2, ha]
        rw [Val.nodes_bad this, this]
    have hb : v.okB = (decide (v.num = 0) && !v.list.any (fun n => decide (n < 0)) && decide (v.args.length = 0)) := by unfold Val.okB; simp [h2]
    rw [hv, hb] at hR
    refine t_g @h2 ?_
    refine t_a ?_
    refine t_sub [] trivial (W_upto (v.list.length) (fun i => ∀ (j : Nat) (x : Int), j < i → v.list[j]? = some x → 0 ≤ x) (fun i => [(.slot 29, .one (.v (dint i))), (.slot 28, .one (.v (dint v.list.length))), (.slot 27, .one (.v (.sl (ints v.list)))), (.loc 1, .row ([.v (dint v.kind), .v (dint v.num), .v (.sl (ints v.list)), .v (.sl (v.args.map Val.cells))])), (.slot 1, .one (.loc 1 0))]) (by intro j x h; omega) ?_ ?_)
    · intro i hi hI hnext
      obtain ⟨x, hx⟩ : ∃ x, v.list[i]? = some x := ⟨_, List.getElem?_eq_getElem hi⟩
      have hgi := ints_get hx
      refine t_rg0 ?_
      refine t_yes ?_
      by_cases hneg : x < 0
      · have hany : v.list.any (fun n => decide (n < 0)) = true := List.any_eq_true.2 ⟨x, List.mem_of_getElem? hx, by simpa using hneg⟩
        refine t_g (j2 @hgi @hneg) ?_
        refine t_r ?_
        simp [go_sem, hP, hgl, hn, hany] <;> (try omega)
      · refine t_gt (wr []) trivial (j2 @hgi @hneg) (hnext (snocI hI fun y hy => by rw [hx] at hy; cases hy; omega))
    · intro hI
      have hany : v.list.any (fun n => decide (n < 0)) = false := by
        rw [List.any_eq_false]
        intro x hx
        obtain ⟨j, hj, rfl⟩ := List.mem_iff_getElem.1 hx
        have := hI j _ hj (List.getElem?_eq_getElem hj)
        simpa using this
      refine t_rg0 ?_
      refine t_no ?_
      by_cases q1 : v.num = 0
      · by_cases q3 : v.args.length = 0
        · refine t_g (j2 @q1 @q3) ?_
          refine t_r ?_
          simp [go_sem, hP, hgl, hn, hany, q1, q3] <;> (try omega)
        · refine t_g (j2 @q1 @q3) ?_
          refine t_r ?_
          simp [go_sem, hP, hgl, hn, hany, q1, q3] <;> (try omega)
      · refine t_g @q1 ?_
        refine t_r ?_
        simp [go_sem, hP, hgl, hn, hany, q1] <;> (try omega)
  by_cases h4 : v.kind = 4
  · have hv : v.nodesN.2 = v.okB := by
      by_cases ha : v.args = []
      · exact Val.nodes_flat ha
      · have : v.okB = false := by unfold Val.okB; simp [h4, ha]
        rw [Val.nodes_bad this, this]
    have hb : v.okB = (decide (v.num = 0) && decide (v.list.length = 0) && decide (v.args.length = 0)) := by unfold Val.okB; simp [h4]
    rw [hv, hb] at hR
    by_cases q1 : v.num = 0
    · by_cases q2 : v.list.length = 0
      · by_cases q3 : v.args.length = 0
        · refine t_g (j2 @h4 (j2 @q1 (j2 @q2 @q3))) ?_
          refine t_r ?_
          simp [go_sem, hP, hgl, hn, q1, q2, q3] <;> (try omega)
        · refine t_g (j2 @h4 (j2 @q1 (j2 @q2 @q3))) ?_
          refine t_r ?_
          simp [go_sem, hP, hgl, hn, q1, q2, q3] <;> (try omega)
      · refine t_g (j2 @h4 (j2 @q1 @q2)) ?_
        refine t_r ?_
        simp [go_sem, hP, hgl, hn, q1, q2] <;> (try omega)
    · refine t_g (j2 @h4 @q1) ?_
      refine t_r ?_
      simp [go_sem, hP, hgl, hn, q1] <;> (try omega)
  by_cases h3 : v.kind = 3
  · have hb : v.okB = (decide (v.num = 0) && decide (v.list.length = 0) && decide (v.args.length = 2)) := by unfold Val.okB; simp [h3]
    by_cases q1 : v.num = 0
    · by_cases q2 : v.list.length = 0
      · by_cases q3 : v.args.length = 2
        · obtain ⟨a, b, hab⟩ : ∃ a b, v.args = [a, b] := by
            match hq : v.args, q3 with
            | [a, b], _ => exact ⟨a, b, rfl⟩
          have hv := Val.nodes_pair hab
          rw [hv, hb] at hR
          by_cases ha : a.nodesN.2 = true
          · refine t_g @h3 ?_
            refine t_c2 (j2 @h3 (j2 @q1 (j2 @q2 (j2 @hab @ha)))) (ih a (by rw [hab]; simp)) (ih b (by rw [hab]; simp)) ?_
            refine t_r ?_
            simp [go_sem, hP, hgl, hn, q1, q2, q3, ha] <;> (try omega)
          · have ha' : a.nodesN.2 = false := by simpa using ha
            refine t_g @h3 ?_
            refine t_c1 (j2 @h3 (j2 @q1 (j2 @q2 (j2 @hab @ha')))) (ih a (by rw [hab]; simp)) ?_
            refine t_r ?_
            simp [go_sem, hP, hgl, hn, q1, q2, q3, ha'] <;> (try omega)
        · rw [Val.nodes_bad (by rw [hb]; simp [q3])] at hR
          have q4 : ¬ (v.args.length : Int) = 2 := by omega
          refine t_g (j2 @h3 (j2 @q1 (j2 @q2 @q4))) ?_
          refine t_r ?_
          simp [go_sem, hP, hgl, hn] <;> (try omega)
      · rw [Val.nodes_bad (by rw [hb]; simp [q2])] at hR
        refine t_g (j2 @h3 (j2 @q1 @q2)) ?_
        refine t_r ?_
        simp [go_sem, hP, hgl, hn] <;> (try omega)
    · rw [Val.nodes_bad (by rw [hb]; simp [q1])] at hR
      refine t_g (j2 @h3 @q1) ?_
      refine t_r ?_
      simp [go_sem, hP, hgl, hn] <;> (try omega)
  rw [Val.nodes_bad (by unfold Val.okB; simp [h1, h2, h3, h4])] at hR
  refine t_g (j2 @h1 (j2 @h2 (j2 @h3 @h4))) ?_
  refine t_r ?_
  simp [go_sem, hP, hgl, hn] <;> (try omega)

theorem nodes5_ok (v : Val) (hc : v.count ≤ 1073741824) : Con1 Tryd.prog gl 57 [v.dv] [] (dint v.count) [] := by
  induction v using Val.ind with
  | h v ih =>
  refine t_in Tryd.func57 ?_
  intro X hP hgl hf hfn hn hR hids hfit
  have hl1 := Val.fit_args (hfit v.dv (by simp))
  have hcv := Val.count_eq v
  refine t_g0 ?_
  refine t_a ?_
  refine W_sub [] (by simp [go_sem]) (by simp [go_sem, Val.count.counts] <;> omega) (by simp [go_sem]) (W_list (v.args) (fun done rest => [(.slot 9, .one (.v (dint done.length))), (.slot 8, .one (.v (dint v.args.length))), (.slot 7, .one (.v (.sl (v.args.map Val.cells)))), (.slot 3, .one (.v (dint (1 + Val.count.counts done : Nat)))), (.slot 2, .one (.v (dint 0)))]) ?_ ?_)
  · intro done x rest hL hg0 hnext
    have hlt : done.length < v.args.length := by rw [hL]; simp
    have hxm := List.mem_of_getElem? hg0
    have hca := Val.counts_append done (x :: rest)
    have hcs := Val.counts_append done [x]
    rw [← hL] at hca
    simp only [Val.count.counts] at hca hcs
    refine t_rg0 ?_
    refine t_yes ?_
    refine t_g @hg0 ?_
    refine t_c1 @hg0 (ih x hxm (by omega)) ?_
    refine t_gt (wr []) @hcs trivial hnext
  · refine t_rg0 ?_
    refine t_no ?_
    refine t_g0 ?_
    refine t_r ?_
    simp [go_sem, hP, hgl, hn, hcv] <;> (try omega)

theorem Val.checkN_eq (v : Val) : v.checkN = if v.nodesN.2 = true then if 64 < v.count then 4 else 0 else 2 := by
  unfold Val.checkN
  by_cases h : v.nodesN.2 = true
  · rw [if_pos h, if_pos h, Val.nodes_count v h]
    by_cases h2 : 64 < v.count
    · rw [if_pos (by omega), if_pos h2]
    · rw [if_neg (by omega), if_neg h2]
  · rw [if_neg h, if_neg h]

theorem check5_ok (v : Val) (hc : v.count ≤ 1073741824) : Con1 Tryd.prog gl 37 [v.dv] [] (dint v.checkN) [] := by
  refine t_in Tryd.func37 ?_
  intro X hP hgl hf hfn hn hR hids hfit
  rw [Val.checkN_eq] at hR
  refine t_g0 ?_
  refine t_c1 trivial (shape5_ok v) ?_
  by_cases h : v.nodesN.2 = true
  · rw [if_pos h] at hR
    refine t_g @h ?_
    refine t_c1 trivial (nodes5_ok v hc) ?_
    by_cases h2 : 64 < v.count
    · refine t_g @h2 ?_
      refine t_r ?_
      simp [go_sem, hP, hgl, hn, h2] <;> (try omega)
    · refine t_g @h2 ?_
      refine t_r ?_
      simp [go_sem, hP, hgl, hn, h2] <;> (try omega)
  · rw [if_neg h] at hR
    refine t_g @h ?_
    refine t_r ?_
    simp [go_sem, hP, hgl, hn] <;> (try omega)

end Go.Proofs.YtgfjcbofbbcnmaaDoor.Lift

/-
  Plain law: the rounds of reduction on closed typed terms.
-/
namespace Go.Proofs.YtgfjcbofbbcnmaaDoor.Lift
set_option linter.unusedSimpArgs false
set_option linter.unusedVariables false
set_option linter.unnecessarySimpa false
open Go

theorem At.lt {Γ : List T} {i : Nat} {a : T} {p : Env Γ → a.V} (h : At Γ i a p) : i < Γ.length := by
  have := h.get
  exact (List.getElem?_eq_some_iff.1 this).1

/-- plain values have a form, and as many nodes as their types at most -/
theorem valOf_nodes : ∀ (a : T) (v : a.V), a.plain → (valOf a v).nodesN.2 = true ∧ (valOf a v).count ≤ a.size
  | .nat, n, _ => ⟨by rw [Val.nodes_flat rfl]; simp [valOf, Val.okB, Val.kind, Val.num, Val.list, Val.args]; exact decide_eq_true (Int.natCast_nonneg _), Nat.le_refl _⟩
  | .list, l, _ => ⟨by rw [Val.nodes_flat rfl]; simp [valOf, Val.okB, Val.kind, Val.num, Val.list, Val.args]; intro x hx; obtain ⟨n, _, rfl⟩ := List.mem_map.1 hx; exact Int.natCast_nonneg _, Nat.le_refl _⟩
  | .unit, _, _ => ⟨rfl, Nat.le_refl _⟩
  | .pair a b, p, h => by
    obtain ⟨a1, a2⟩ := valOf_nodes a p.1 h.1
    obtain ⟨b1, b2⟩ := valOf_nodes b p.2 h.2
    refine ⟨?_, ?_⟩
    · rw [Val.nodes_pair (v := valOf (.pair a b) p) rfl, a1, b1]; rfl
    · show 1 + ((valOf a p.1).count + ((valOf b p.2).count + 0)) ≤ 1 + a.size + b.size
      omega
  | .fn _ _, _, h => h.elim

end Go.Proofs.YtgfjcbofbbcnmaaDoor.Lift

namespace Go.Proofs.YtgfjcbofbbcnmaaDoor.Lift
set_option linter.unusedSimpArgs false
set_option linter.unusedVariables false
set_option linter.unnecessarySimpa false
open Go
variable {gl : Globs}

theorem numeral_ok (n : Nat) : Con1 Tryd.prog gl 58 [dint n] [] (numTm n).dv [] := by
  refine t_in Tryd.func58 ?_
  intro X hP hgl hf hfn hn hR hids hfit
  have hn1 : intOK .i64 n := hfit (dint n) (by simp)
  rw [intOK_i64] at hn1
  refine t_g0 ?_
  refine t_c1 trivial (ref02_n_ok 4 []) ?_
  refine t_a ?_
  refine W_sub [] (by simp [go_sem]) (by simp [go_sem, numTm] <;> omega) (by simp [go_sem]) (W_rounds (fun x : Nat => x ≤ n) (fun x : Nat => [(.slot 0, .one (.v (dint x))), (.loc 3, .row ((numTm (n - x)).cells.map .v)), (.slot 3, .one (.loc 3 0)), (.loc 2, .row ([.v (dint 0), .v (dint 0), .v (dint 0), .own 0 [], .own 0 []])), (.slot 2, .one (.loc 2 0))]) (fun x : Nat => x) n (Nat.le_refl n) ?_)
  intro x hx ih
  cases x with
  | zero =>
    refine t_rg0 ?_
    refine t_no ?_
    refine t_g0 ?_
    refine t_r ?_
    simp [go_sem, hP, hgl, hn] <;> (try omega)
  | succ x =>
    have hs : n - x = (n - (x + 1)) + 1 := by omega
    refine t_rg0 ?_
    refine t_yes ?_
    refine t_rg0 ?_
    refine t_rg0 ?_
    repeat (first | refine W_inBlock ?_ | refine W_skip ?_ | refine W_label ?_ | refine W_exit rfl ?_)
    refine W_sub [] (by simp [go_sem]) (by simp [go_sem, hs, numTm] <;> omega) (by simp [go_sem]) (ih x (by omega) (by omega))

theorem ref05_number_ok (n : Nat) (hn4 : n < 4096) : Con1 Tryd.prog gl 55 [dint n] [] (.tup [(numTm n).dv, dint 0]) [] := by
  refine t_in Tryd.func55 ?_
  intro X hP hgl hf hfn hn hR hids hfit
  have h1 : ¬ (n : Int) < 0 := by omega
  have h2 : ¬ (4096 : Int) ≤ n := by omega
  refine t_g (j2 @h1 @h2) ?_
  refine t_c1 trivial (numeral_ok n) ?_
  refine t_r ?_
  simp [go_sem, hP, hgl, hn] <;> (try omega)

theorem mk_num_ok (n : Nat) (hn4 : n < 4096) : Con1 Tryd.prog gl 33 [dint n] [] (numTm n).dv [] := by
  refine t_in Tryd.func33 ?_
  intro X hP hgl hf hfn hn hR hids hfit
  refine t_g0 ?_
  refine t_c1 trivial (ref05_number_ok n hn4) ?_
  refine t_g0 ?_
  refine t_r ?_
  simp [go_sem, hP, hgl, hn] <;> (try omega)
  all_goals exact t_f

theorem lam5_ok (t : Tm) : Con1 Tryd.prog gl 50 [t.dv] [] (Tm.mk 2 0 (Ty.mk 1 []) [t]).dv [] := by
  refine t_in Tryd.func50 ?_
  intro X hP hgl hf hfn hn hR hids hfit
  refine t_g0 ?_
  refine t_c2 @nat_v ref01_nat_ok (ref02_t_ok 2 (Ty.mk 1 []) [t]) ?_
  refine t_r ?_
  simp [go_sem, hP, hgl, hn] <;> (try omega)
  all_goals exact t_f
theorem rec5_ok (a b c : Tm) : Con1 Tryd.prog gl 51 [a.dv, b.dv, c.dv] [] (Tm.mk 6 0 (Ty.mk 1 []) [a, b, c]).dv [] := by
  refine t_in Tryd.func51 ?_
  intro X hP hgl hf hfn hn hR hids hfit
  refine t_g0 ?_
  refine t_c2 @nat_v ref01_nat_ok (ref02_t_ok 6 (Ty.mk 1 []) [a, b, c]) ?_
  refine t_r ?_
  simp [go_sem, hP, hgl, hn] <;> (try omega)
  all_goals exact t_f
def lamN (t : Tm) : Tm := Tm.mk 2 0 (Ty.mk 1 []) [t]
def recN (a b c : Tm) : Tm := Tm.mk 6 0 (Ty.mk 1 []) [a, b, c]
theorem lam5' (t : Tm) : Con1 Tryd.prog gl 50 [t.dv] [] (lamN t).dv [] := lam5_ok t
theorem rec5' (a b c : Tm) : Con1 Tryd.prog gl 51 [a.dv, b.dv, c.dv] [] (recN a b c).dv [] := rec5_ok a b c
theorem var5 (i : Int) : Con1 Tryd.prog gl 29 [dint i] [] (vT i).dv [] := ref02_var_ok i
theorem n5 (k : Int) (l : List Tm) : Con1 Tryd.prog gl 17 [dint k, .sl (l.map Tm.cells)] [] (nT k l).dv [] := ref02_n_ok k l

theorem pred_eq : lamN (recN (nT 4 []) (lamN (lamN (vT 1))) (vT 0)) = predT := rfl
theorem plus_eq : lamN (lamN (recN (vT 1) (lamN (lamN (nT 5 [vT 0]))) (vT 0))) = plusT := rfl
theorem sub_eq : lamN (lamN (recN (vT 1) (lamN (lamN (nT 3 [predT, vT 0]))) (vT 0))) = subT := rfl
theorem ref05_pred_ok : Con1 Tryd.prog gl 53 [] [] predT.dv [] := by
  refine t_in Tryd.func53 ?_
  intro X hP hgl hf hfn hn hR hids hfit
  refine t_g0 ?_
  refine t_c7 trivial (n5 4 []) (var5 1) (lam5' (vT 1)) (lam5' (lamN (vT 1))) (var5 0) (rec5' (nT 4 []) (lamN (lamN (vT 1))) (vT 0)) (lam5' (recN (nT 4 []) (lamN (lamN (vT 1))) (vT 0))) ?_
  refine t_r ?_
  simp [go_sem, hP, hgl, hn, pred_eq] <;> (try omega)
theorem ref05_plus_ok : Con1 Tryd.prog gl 19 [] [] plusT.dv [] := by
  refine t_in Tryd.func19 ?_
  intro X hP hgl hf hfn hn hR hids hfit
  refine t_g0 ?_
  refine t_c9 trivial (var5 1) (var5 0) (n5 5 [vT 0]) (lam5' (nT 5 [vT 0])) (lam5' (lamN (nT 5 [vT 0]))) (var5 0) (rec5' (vT 1) (lamN (lamN (nT 5 [vT 0]))) (vT 0)) (lam5' (recN (vT 1) (lamN (lamN (nT 5 [vT 0]))) (vT 0))) (lam5' (lamN (recN (vT 1) (lamN (lamN (nT 5 [vT 0]))) (vT 0)))) ?_
  refine t_r ?_
  simp [go_sem, hP, hgl, hn, plus_eq] <;> (try omega)
theorem ref05_sub_ok : Con1 Tryd.prog gl 21 [] [] subT.dv [] := by
  refine t_in Tryd.func21 ?_
  intro X hP hgl hf hfn hn hR hids hfit
  refine t_g0 ?_
  refine t_c10 trivial (var5 1) ref05_pred_ok (var5 0) (n5 3 [predT, vT 0]) (lam5' (nT 3 [predT, vT 0])) (lam5' (lamN (nT 3 [predT, vT 0]))) (var5 0) (rec5' (vT 1) (lamN (lamN (nT 3 [predT, vT 0]))) (vT 0)) (lam5' (recN (vT 1) (lamN (lamN (nT 3 [predT, vT 0]))) (vT 0))) (lam5' (lamN (recN (vT 1) (lamN (lamN (nT 3 [predT, vT 0]))) (vT 0)))) ?_
  refine t_r ?_
  simp [go_sem, hP, hgl, hn, sub_eq] <;> (try omega)
end Go.Proofs.YtgfjcbofbbcnmaaDoor.Lift

namespace Go.Proofs.YtgfjcbofbbcnmaaDoor.Lift
set_option linter.unusedSimpArgs false
set_option linter.unusedVariables false
set_option linter.unnecessarySimpa false
open Go
variable {gl : Globs}

theorem mk_type_ok (n : Nat) (b : Nat) (l : List Int) (p : Nat) (hl : l.length ≤ 500) (hp : p ≤ l.length) (hn3 : n ≤ 3) :
    Con1 Tryd.prog gl 30 [ptr b, dint n] [(b, deck l p)] (typeD l n p).1.dv [(b, deck l (typeD l n p).2)] := by
  induction n generalizing p with
  | zero =>
    refine t_in Tryd.func30 ?_
    intro X hP hgl hf hfn hn hR hids hfit
    rw [typeD] at hR
    have hkb := nextD_bd (l := l) (p := p) (n := 7) (by decide)
    refine t_g0 ?_
    refine t_c1 trivial (next_ok b l p 7 (by decide) (by omega)) ?_
    generalize hd : nextD l p 7 = d at *
    obtain ⟨k, q⟩ := d
    simp only at hkb hR
    by_cases h3 : k = 3
    · refine t_g @h3 ?_
      refine t_c1 trivial ref01_list_ok ?_
      repeat (first | refine W_seq ?_ | refine W_skip ?_ | refine W_block ?_ | refine W_inBlock ?_ | refine W_label ?_ | refine W_exit rfl ?_)
      first | refine W_retR hP hf hfn _ ([(b, deck l q)]) (by first | (simp [go_sem, hP, hgl, hn, h3]; done) | (simp [go_sem, hP, hgl, hn, h3]; rfl)) (by simp [go_sem, hP, hgl, hn, h3]) (by simp) ?_ hR.2 | refine W_endR hP hf hfn _ ([(b, deck l q)]) (by first | (simp [go_sem, hP, hgl, hn, h3]; done) | (simp [go_sem, hP, hgl, hn, h3]; rfl)) (by simp [go_sem, hP, hgl, hn, h3]) (by simp) ?_ hR.2
      rw [hR.1]
      refine ⟨?_, by simp [h3]⟩
      try simp [h3]
      try all_goals (simp [Ty.dv, Ty.cells_eq, Ty.kind_mk, Ty.args_mk, Tm.dv, Tm.cells_eq, Tm.kind_mk, Tm.index_mk, Tm.type_mk, Tm.args_mk, Val.dv, Val.cells_eq, Val.kind_mk, Val.num_mk, Val.list_mk, Val.args_mk, ints])
    by_cases h4 : k = 4
    · refine t_g @h4 ?_
      refine t_c1 trivial ref01_unit_ok ?_
      repeat (first | refine W_seq ?_ | refine W_skip ?_ | refine W_block ?_ | refine W_inBlock ?_ | refine W_label ?_ | refine W_exit rfl ?_)
      first | refine W_retR hP hf hfn _ ([(b, deck l q)]) (by first | (simp [go_sem, hP, hgl, hn, h4]; done) | (simp [go_sem, hP, hgl, hn, h4]; rfl)) (by simp [go_sem, hP, hgl, hn, h4]) (by simp) ?_ hR.2 | refine W_endR hP hf hfn _ ([(b, deck l q)]) (by first | (simp [go_sem, hP, hgl, hn, h4]; done) | (simp [go_sem, hP, hgl, hn, h4]; rfl)) (by simp [go_sem, hP, hgl, hn, h4]) (by simp) ?_ hR.2
      rw [hR.1]
      refine ⟨?_, by simp [h4]⟩
      try simp [h4]
      try all_goals (simp [Ty.dv, Ty.cells_eq, Ty.kind_mk, Ty.args_mk, Tm.dv, Tm.cells_eq, Tm.kind_mk, Tm.index_mk, Tm.type_mk, Tm.args_mk, Val.dv, Val.cells_eq, Val.kind_mk, Val.num_mk, Val.list_mk, Val.args_mk, ints])
    by_cases h0 : k = 0
    · refine t_g @h0 ?_
      refine t_c1 trivial ref01_nat_ok ?_
      repeat (first | refine W_seq ?_ | refine W_skip ?_ | refine W_block ?_ | refine W_inBlock ?_ | refine W_label ?_ | refine W_exit rfl ?_)
      first | refine W_retR hP hf hfn _ ([(b, deck l q)]) (by first | (simp [go_sem, hP, hgl, hn, h0]; done) | (simp [go_sem, hP, hgl, hn, h0]; rfl)) (by simp [go_sem, hP, hgl, hn, h0]) (by simp) ?_ hR.2 | refine W_endR hP hf hfn _ ([(b, deck l q)]) (by first | (simp [go_sem, hP, hgl, hn, h0]; done) | (simp [go_sem, hP, hgl, hn, h0]; rfl)) (by simp [go_sem, hP, hgl, hn, h0]) (by simp) ?_ hR.2
      rw [hR.1]
      refine ⟨?_, by simp [h0]⟩
      try simp [h0]
      try all_goals (simp [Ty.dv, Ty.cells_eq, Ty.kind_mk, Ty.args_mk, Tm.dv, Tm.cells_eq, Tm.kind_mk, Tm.index_mk, Tm.type_mk, Tm.args_mk, Val.dv, Val.cells_eq, Val.kind_mk, Val.num_mk, Val.list_mk, Val.args_mk, ints])
    by_cases h1 : k = 1
    · refine t_g @h1 ?_
      refine t_c1 trivial ref01_nat_ok ?_
      repeat (first | refine W_seq ?_ | refine W_skip ?_ | refine W_block ?_ | refine W_inBlock ?_ | refine W_label ?_ | refine W_exit rfl ?_)
      first | refine W_retR hP hf hfn _ ([(b, deck l q)]) (by first | (simp [go_sem, hP, hgl, hn, h1]; done) | (simp [go_sem, hP, hgl, hn, h1]; rfl)) (by simp [go_sem, hP, hgl, hn, h1]) (by simp) ?_ hR.2 | refine W_endR hP hf hfn _ ([(b, deck l q)]) (by first | (simp [go_sem, hP, hgl, hn, h1]; done) | (simp [go_sem, hP, hgl, hn, h1]; rfl)) (by simp [go_sem, hP, hgl, hn, h1]) (by simp) ?_ hR.2
      rw [hR.1]
      refine ⟨?_, by simp [h1]⟩
      try simp [h1]
      try all_goals (simp [Ty.dv, Ty.cells_eq, Ty.kind_mk, Ty.args_mk, Tm.dv, Tm.cells_eq, Tm.kind_mk, Tm.index_mk, Tm.type_mk, Tm.args_mk, Val.dv, Val.cells_eq, Val.kind_mk, Val.num_mk, Val.list_mk, Val.args_mk, ints])
    by_cases h2 : k = 2
    · refine t_g @h2 ?_
      refine t_c1 trivial ref01_nat_ok ?_
      repeat (first | refine W_seq ?_ | refine W_skip ?_ | refine W_block ?_ | refine W_inBlock ?_ | refine W_label ?_ | refine W_exit rfl ?_)
      first | refine W_retR hP hf hfn _ ([(b, deck l q)]) (by first | (simp [go_sem, hP, hgl, hn, h2]; done) | (simp [go_sem, hP, hgl, hn, h2]; rfl)) (by simp [go_sem, hP, hgl, hn, h2]) (by simp) ?_ hR.2 | refine W_endR hP hf hfn _ ([(b, deck l q)]) (by first | (simp [go_sem, hP, hgl, hn, h2]; done) | (simp [go_sem, hP, hgl, hn, h2]; rfl)) (by simp [go_sem, hP, hgl, hn, h2]) (by simp) ?_ hR.2
      rw [hR.1]
      refine ⟨?_, by simp [h2]⟩
      try simp [h2]
      try all_goals (simp [Ty.dv, Ty.cells_eq, Ty.kind_mk, Ty.args_mk, Tm.dv, Tm.cells_eq, Tm.kind_mk, Tm.index_mk, Tm.type_mk, Tm.args_mk, Val.dv, Val.cells_eq, Val.kind_mk, Val.num_mk, Val.list_mk, Val.args_mk, ints])
    by_cases h5 : k = 5
    · refine t_g @h5 ?_
      refine t_c1 trivial ref01_nat_ok ?_
      repeat (first | refine W_seq ?_ | refine W_skip ?_ | refine W_block ?_ | refine W_inBlock ?_ | refine W_label ?_ | refine W_exit rfl ?_)
      first | refine W_retR hP hf hfn _ ([(b, deck l q)]) (by first | (simp [go_sem, hP, hgl, hn, h5]; done) | (simp [go_sem, hP, hgl, hn, h5]; rfl)) (by simp [go_sem, hP, hgl, hn, h5]) (by simp) ?_ hR.2 | refine W_endR hP hf hfn _ ([(b, deck l q)]) (by first | (simp [go_sem, hP, hgl, hn, h5]; done) | (simp [go_sem, hP, hgl, hn, h5]; rfl)) (by simp [go_sem, hP, hgl, hn, h5]) (by simp) ?_ hR.2
      rw [hR.1]
      refine ⟨?_, by simp [h5]⟩
      try simp [h5]
      try all_goals (simp [Ty.dv, Ty.cells_eq, Ty.kind_mk, Ty.args_mk, Tm.dv, Tm.cells_eq, Tm.kind_mk, Tm.index_mk, Tm.type_mk, Tm.args_mk, Val.dv, Val.cells_eq, Val.kind_mk, Val.num_mk, Val.list_mk, Val.args_mk, ints])
    have h6 : k = 6 := by omega
    refine t_g @h6 ?_
    refine t_c1 trivial ref01_nat_ok ?_
    repeat (first | refine W_seq ?_ | refine W_skip ?_ | refine W_block ?_ | refine W_inBlock ?_ | refine W_label ?_ | refine W_exit rfl ?_)
    first | refine W_retR hP hf hfn _ ([(b, deck l q)]) (by first | (simp [go_sem, hP, hgl, hn, h6]; done) | (simp [go_sem, hP, hgl, hn, h6]; rfl)) (by simp [go_sem, hP, hgl, hn, h6]) (by simp) ?_ hR.2 | refine W_endR hP hf hfn _ ([(b, deck l q)]) (by first | (simp [go_sem, hP, hgl, hn, h6]; done) | (simp [go_sem, hP, hgl, hn, h6]; rfl)) (by simp [go_sem, hP, hgl, hn, h6]) (by simp) ?_ hR.2
    rw [hR.1]
    refine ⟨?_, by simp [h6]⟩
    try simp [h6]
    try all_goals (simp [Ty.dv, Ty.cells_eq, Ty.kind_mk, Ty.args_mk, Tm.dv, Tm.cells_eq, Tm.kind_mk, Tm.index_mk, Tm.type_mk, Tm.args_mk, Val.dv, Val.cells_eq, Val.kind_mk, Val.num_mk, Val.list_mk, Val.args_mk, ints])
  | succ n ih =>
    refine t_in Tryd.func30 ?_
    intro X hP hgl hf hfn hn hR hids hfit
    rw [typeD] at hR
    have hkb := nextD_bd (l := l) (p := p) (n := 7) (by decide)
    have hq := nextD_le (n := 7) hp
    refine t_g0 ?_
    refine t_c1 trivial (next_ok b l p 7 (by decide) (by omega)) ?_
    generalize hd : nextD l p 7 = d at *
    obtain ⟨k, q⟩ := d
    simp only at hkb hR hq
    have hpos : (0 : Int) < ((n + 1 : Nat) : Int) := by omega
    have hsub : ((n + 1 : Nat) : Int) - 1 = (n : Int) := by omega
    obtain ⟨a1, -⟩ := typeD_facts l n q hq
    by_cases h3 : k = 3
    · refine t_g @h3 ?_
      refine t_c1 trivial ref01_list_ok ?_
      repeat (first | refine W_seq ?_ | refine W_skip ?_ | refine W_block ?_ | refine W_inBlock ?_ | refine W_label ?_ | refine W_exit rfl ?_)
      first | refine W_retR hP hf hfn _ ([(b, deck l q)]) (by first | (simp [go_sem, hP, hgl, hn, h3]; done) | (simp [go_sem, hP, hgl, hn, h3]; rfl)) (by simp [go_sem, hP, hgl, hn, h3]) (by simp) ?_ hR.2 | refine W_endR hP hf hfn _ ([(b, deck l q)]) (by first | (simp [go_sem, hP, hgl, hn, h3]; done) | (simp [go_sem, hP, hgl, hn, h3]; rfl)) (by simp [go_sem, hP, hgl, hn, h3]) (by simp) ?_ hR.2
      rw [hR.1]
      refine ⟨?_, by simp [h3]⟩
      try simp [h3]
      try all_goals (simp [Ty.dv, Ty.cells_eq, Ty.kind_mk, Ty.args_mk, Tm.dv, Tm.cells_eq, Tm.kind_mk, Tm.index_mk, Tm.type_mk, Tm.args_mk, Val.dv, Val.cells_eq, Val.kind_mk, Val.num_mk, Val.list_mk, Val.args_mk, ints])
    by_cases h4 : k = 4
    · refine t_g @h4 ?_
      refine t_c1 trivial ref01_unit_ok ?_
      repeat (first | refine W_seq ?_ | refine W_skip ?_ | refine W_block ?_ | refine W_inBlock ?_ | refine W_label ?_ | refine W_exit rfl ?_)
      first | refine W_retR hP hf hfn _ ([(b, deck l q)]) (by first | (simp [go_sem, hP, hgl, hn, h4]; done) | (simp [go_sem, hP, hgl, hn, h4]; rfl)) (by simp [go_sem, hP, hgl, hn, h4]) (by simp) ?_ hR.2 | refine W_endR hP hf hfn _ ([(b, deck l q)]) (by first | (simp [go_sem, hP, hgl, hn, h4]; done) | (simp [go_sem, hP, hgl, hn, h4]; rfl)) (by simp [go_sem, hP, hgl, hn, h4]) (by simp) ?_ hR.2
      rw [hR.1]
      refine ⟨?_, by simp [h4]⟩
      try simp [h4]
      try all_goals (simp [Ty.dv, Ty.cells_eq, Ty.kind_mk, Ty.args_mk, Tm.dv, Tm.cells_eq, Tm.kind_mk, Tm.index_mk, Tm.type_mk, Tm.args_mk, Val.dv, Val.cells_eq, Val.kind_mk, Val.num_mk, Val.list_mk, Val.args_mk, ints])
    by_cases h0 : k = 0
    · refine t_g @h0 ?_
      refine t_c1 trivial ref01_nat_ok ?_
      repeat (first | refine W_seq ?_ | refine W_skip ?_ | refine W_block ?_ | refine W_inBlock ?_ | refine W_label ?_ | refine W_exit rfl ?_)
      first | refine W_retR hP hf hfn _ ([(b, deck l q)]) (by first | (simp [go_sem, hP, hgl, hn, h0]; done) | (simp [go_sem, hP, hgl, hn, h0]; rfl)) (by simp [go_sem, hP, hgl, hn, h0]) (by simp) ?_ hR.2 | refine W_endR hP hf hfn _ ([(b, deck l q)]) (by first | (simp [go_sem, hP, hgl, hn, h0]; done) | (simp [go_sem, hP, hgl, hn, h0]; rfl)) (by simp [go_sem, hP, hgl, hn, h0]) (by simp) ?_ hR.2
      rw [hR.1]
      refine ⟨?_, by simp [h0]⟩
      try simp [h0]
      try all_goals (simp [Ty.dv, Ty.cells_eq, Ty.kind_mk, Ty.args_mk, Tm.dv, Tm.cells_eq, Tm.kind_mk, Tm.index_mk, Tm.type_mk, Tm.args_mk, Val.dv, Val.cells_eq, Val.kind_mk, Val.num_mk, Val.list_mk, Val.args_mk, ints])
    by_cases h1 : k = 1
    · refine t_g @h1 ?_
      refine t_c1 trivial ref01_nat_ok ?_
      repeat (first | refine W_seq ?_ | refine W_skip ?_ | refine W_block ?_ | refine W_inBlock ?_ | refine W_label ?_ | refine W_exit rfl ?_)
      first | refine W_retR hP hf hfn _ ([(b, deck l q)]) (by first | (simp [go_sem, hP, hgl, hn, h1]; done) | (simp [go_sem, hP, hgl, hn, h1]; rfl)) (by simp [go_sem, hP, hgl, hn, h1]) (by simp) ?_ hR.2 | refine W_endR hP hf hfn _ ([(b, deck l q)]) (by first | (simp [go_sem, hP, hgl, hn, h1]; done) | (simp [go_sem, hP, hgl, hn, h1]; rfl)) (by simp [go_sem, hP, hgl, hn, h1]) (by simp) ?_ hR.2
      rw [hR.1]
      refine ⟨?_, by simp [h1]⟩
      try simp [h1]
      try all_goals (simp [Ty.dv, Ty.cells_eq, Ty.kind_mk, Ty.args_mk, Tm.dv, Tm.cells_eq, Tm.kind_mk, Tm.index_mk, Tm.type_mk, Tm.args_mk, Val.dv, Val.cells_eq, Val.kind_mk, Val.num_mk, Val.list_mk, Val.args_mk, ints])
    by_cases h2 : k = 2
    · refine t_g @h2 ?_
      refine t_c1 trivial ref01_nat_ok ?_
      repeat (first | refine W_seq ?_ | refine W_skip ?_ | refine W_block ?_ | refine W_inBlock ?_ | refine W_label ?_ | refine W_exit rfl ?_)
      first | refine W_retR hP hf hfn _ ([(b, deck l q)]) (by first | (simp [go_sem, hP, hgl, hn, h2]; done) | (simp [go_sem, hP, hgl, hn, h2]; rfl)) (by simp [go_sem, hP, hgl, hn, h2]) (by simp) ?_ hR.2 | refine W_endR hP hf hfn _ ([(b, deck l q)]) (by first | (simp [go_sem, hP, hgl, hn, h2]; done) | (simp [go_sem, hP, hgl, hn, h2]; rfl)) (by simp [go_sem, hP, hgl, hn, h2]) (by simp) ?_ hR.2
      rw [hR.1]
      refine ⟨?_, by simp [h2]⟩
      try simp [h2]
      try all_goals (simp [Ty.dv, Ty.cells_eq, Ty.kind_mk, Ty.args_mk, Tm.dv, Tm.cells_eq, Tm.kind_mk, Tm.index_mk, Tm.type_mk, Tm.args_mk, Val.dv, Val.cells_eq, Val.kind_mk, Val.num_mk, Val.list_mk, Val.args_mk, ints])
    by_cases h5 : k = 5
    · refine t_g (j2 @h5 @hpos) ?_
      refine t_c3 @hsub (ih q hq (by omega)) (ih _ a1 (by omega)) (ref01_two_ok (typeD l n q).1 (typeD l n (typeD l n q).2).1) ?_
      repeat (first | refine W_seq ?_ | refine W_skip ?_ | refine W_block ?_ | refine W_inBlock ?_ | refine W_label ?_ | refine W_exit rfl ?_)
      first | refine W_retR hP hf hfn _ ([(b, deck l (typeD l n (typeD l n q).2).2)]) (by first | (simp [go_sem, hP, hgl, hn, h5]; done) | (simp [go_sem, hP, hgl, hn, h5]; rfl)) (by simp [go_sem, hP, hgl, hn, h5]) (by simp) ?_ hR.2 | refine W_endR hP hf hfn _ ([(b, deck l (typeD l n (typeD l n q).2).2)]) (by first | (simp [go_sem, hP, hgl, hn, h5]; done) | (simp [go_sem, hP, hgl, hn, h5]; rfl)) (by simp [go_sem, hP, hgl, hn, h5]) (by simp) ?_ hR.2
      rw [hR.1]
      refine ⟨?_, by simp [h5]⟩
      try simp [h5]
      try all_goals (simp [Ty.dv, Ty.cells_eq, Ty.kind_mk, Ty.args_mk, Tm.dv, Tm.cells_eq, Tm.kind_mk, Tm.index_mk, Tm.type_mk, Tm.args_mk, Val.dv, Val.cells_eq, Val.kind_mk, Val.num_mk, Val.list_mk, Val.args_mk, ints])
    have h6 : k = 6 := by omega
    refine t_g (j2 @h6 @hpos) ?_
    refine t_c3 @hsub (ih q hq (by omega)) (ih _ a1 (by omega)) (ref01_fun_ok (typeD l n q).1 (typeD l n (typeD l n q).2).1) ?_
    repeat (first | refine W_seq ?_ | refine W_skip ?_ | refine W_block ?_ | refine W_inBlock ?_ | refine W_label ?_ | refine W_exit rfl ?_)
    first | refine W_retR hP hf hfn _ ([(b, deck l (typeD l n (typeD l n q).2).2)]) (by first | (simp [go_sem, hP, hgl, hn, h6]; done) | (simp [go_sem, hP, hgl, hn, h6]; rfl)) (by simp [go_sem, hP, hgl, hn, h6]) (by simp) ?_ hR.2 | refine W_endR hP hf hfn _ ([(b, deck l (typeD l n (typeD l n q).2).2)]) (by first | (simp [go_sem, hP, hgl, hn, h6]; done) | (simp [go_sem, hP, hgl, hn, h6]; rfl)) (by simp [go_sem, hP, hgl, hn, h6]) (by simp) ?_ hR.2
    rw [hR.1]
    refine ⟨?_, by simp [h6]⟩
    try simp [h6]
    try all_goals (simp [Ty.dv, Ty.cells_eq, Ty.kind_mk, Ty.args_mk, Tm.dv, Tm.cells_eq, Tm.kind_mk, Tm.index_mk, Tm.type_mk, Tm.args_mk, Val.dv, Val.cells_eq, Val.kind_mk, Val.num_mk, Val.list_mk, Val.args_mk, ints])

def varsP (g : List Ty) (t : Ty) (n : Nat) : List Nat := (List.range n).filter fun i => (varTy g i).same t
theorem varsP_succ (g : List Ty) (t : Ty) (n : Nat) : varsP g t (n + 1) = if (varTy g n).same t = true then varsP g t n ++ [n] else varsP g t n := by
  unfold varsP
  rw [List.range_succ, List.filter_append]
  split <;> simp_all
theorem varsP_le (g : List Ty) (t : Ty) (n : Nat) : (varsP g t n).length ≤ n := by
  have := List.length_filter_le (fun i => (varTy g i).same t) (List.range n)
  simpa [varsP] using this
def natI (l : List Nat) : List Int := l.map Int.ofNat
theorem natI_len (l : List Nat) : (natI l).length = l.length := by simp [natI]
theorem natI_snoc (l : List Nat) (n : Nat) : natI (l ++ [n]) = natI l ++ [(n : Int)] := by simp [natI]

theorem mk_vars_ok (g : List Ty) (t : Ty) (hlg : g.length ≤ 1000000) :
    Con1 Tryd.prog gl 28 [.sl (g.map Ty.cells), t.dv] [] (.sl (ints (natI (varsN g t)))) [] := by
  refine t_in Tryd.func28 ?_
  intro X hP hgl hf hfn hn hR hids hfit
  refine t_g0 ?_
  refine t_a ?_
  refine W_sub [(1005, 0)] (by simp [go_sem]) (by simp [go_sem, natI, varsP, ints_nil] <;> omega) (by simp [go_sem]) (W_upto (g.length) (fun i => True) (fun i => [(.slot 9, .one (.v (dint i))), (.slot 8, .one (.v (dint g.length))), (.slot 5, .one (.own 1005 (ints (natI (varsP g t i))))), (.tok 1005, .tk 1 (varsP g t i).length), (.slot 0, .one (.v (.sl (g.map Ty.cells)))), (.loc 3, .row ([.v (dint t.kind), .v (.sl (t.args.map Ty.cells))])), (.slot 3, .one (.loc 3 0)), (.slot 4, .one (.own 0 []))]) (trivial) ?_ ?_)
  · intro i hi _ hnext
    have hli := varsP_le g t i
    have hvt := (varTy_mem hi).2
    have hix : (g.length : Int) - 1 - i = ((g.length - 1 - i : Nat) : Int) := by omega
    refine t_rg0 ?_
    refine t_yes ?_
    refine t_g0 ?_
    refine t_c1 (j2 @hix @hvt) (ref01_same_ok (varTy g i) t) ?_
    have hsu := varsP_succ g t i
    by_cases hs : (varTy g i).same t = true
    · rw [if_pos hs] at hsu
      rw [hsu] at hnext
      refine t_gt (wr [(1005, 25)]) (j2 @natI_len (j2 @natI_snoc (j2 @ints_cons @ints_nil))) (j2 @hs @natI_len) (hnext trivial)
    · rw [if_neg hs] at hsu
      rw [hsu] at hnext
      refine t_gt (wr []) trivial @hs (hnext trivial)
  · intro _
    refine t_rg0 ?_
    refine t_no ?_
    refine t_g0 ?_
    refine t_r ?_
    simp [go_sem, hP, hgl, hn, varsN, varsP] <;> (try omega)

theorem mk_longer_ok (g h : List Ty) (hlg : g.length + h.length ≤ 1000000) :
    Con1 Tryd.prog gl 32 [.sl (g.map Ty.cells), .sl (h.map Ty.cells)] [] (.sl ((g ++ h).map Ty.cells)) [] := by
  refine t_in Tryd.func32 ?_
  intro X hP hgl hf hfn hn hR hids hfit
  have hl1 : g.length ≤ 1000000 := by omega
  refine t_g0 ?_
  refine t_r ?_
  simp [go_sem, hP, hgl, hn] <;> (try omega)
end Go.Proofs.YtgfjcbofbbcnmaaDoor.Lift

namespace Go.Proofs.YtgfjcbofbbcnmaaDoor.Lift
set_option linter.unusedSimpArgs false
set_option linter.unusedVariables false
set_option linter.unnecessarySimpa false
open Go
variable {gl : Globs}

theorem pickD_none {l : List Int} {t : Ty} {g : List Ty} {p q : Nat} (h : pickD l t g p = (none, q)) : ((varsN g t).length = 0 ∧ q = p) ∨ ((varsN g t).length ≠ 0 ∧ (nextD l p 3).1 = 0 ∧ q = (nextD l p 3).2) := by
  unfold pickD at h
  split at h
  · rename_i h0; cases h; exact .inl ⟨h0, rfl⟩
  · rename_i h0
    split at h
    · rename_i h1; cases h; exact .inr ⟨h0, h1, rfl⟩
    · cases h
theorem pickD_some' {l : List Int} {t : Ty} {g : List Ty} {p q : Nat} {x : Tm} (h : pickD l t g p = (some x, q)) : (varsN g t).length ≠ 0 ∧ (nextD l p 3).1 ≠ 0 ∧ ∃ k i : Nat, (nextD l (nextD l p 3).2 (varsN g t).length).1 = k ∧ (varsN g t)[k]? = some i ∧ x = vT i ∧ q = (nextD l (nextD l p 3).2 (varsN g t).length).2 := by
  unfold pickD at h
  split at h
  · cases h
  · rename_i h0
    split at h
    · cases h
    · rename_i h1
      have hb := nextD_bd (l := l) (p := (nextD l p 3).2) (n := (varsN g t).length) (by omega)
      cases h
      obtain ⟨k, hk⟩ : ∃ k : Nat, (nextD l (nextD l p 3).2 (varsN g t).length).1 = k := ⟨_, (Int.toNat_of_nonneg hb.1).symm⟩
      rw [hk] at hb
      have hlt : k < (varsN g t).length := by omega
      refine ⟨h0, h1, k, (varsN g t)[k], hk, List.getElem?_eq_getElem hlt, ?_, rfl⟩
      rw [hk, Int.toNat_natCast, List.getD_eq_getElem?_getD, List.getElem?_eq_getElem hlt, Option.getD_some]

set_option maxHeartbeats 1000000 in
theorem mk_term_leaf (b : Nat) (l : List Int) (hl : l.length ≤ 500) (t : Ty) : ∀ (z : Int) (g : List Ty) (p : Nat), z ≤ 0 → t.count ≤ z + 1000 → t.small → (∀ x ∈ g, x.small) → g.length + t.count ≤ 1000000 → p ≤ l.length →
    Con1 Tryd.prog gl 11 [ptr b, .sl (g.map Ty.cells), t.dv, dint z] [(b, deck l p)] (leafD l t g p).1.dv [(b, deck l (leafD l t g p).2)] := by
  induction t using Ty.ind with
  | h t ih =>
  intro z g p hz hz1 ht hg hgl1 hp
  refine t_in Tryd.func11 ?_
  intro X hP hgl hf hfn hn hR hids hfit
  rw [leafD_eq l t g p ht.ok] at hR
  have hvl : (varsN g t).length ≤ g.length := varsP_le g t g.length
  have hq3 := nextD_le (n := 3) hp
  have hb3 := nextD_bd (l := l) (p := p) (n := 3) (by decide)
  rcases hpk : pickD l t g p with ⟨_ | x, q⟩
  · rw [hpk] at hR
    simp only at hR
    have hq : q ≤ l.length := by have := pickD_le (t := t) (g := g) hp; rw [hpk] at this; exact this
    apply W_cutX [(.slot 215, .one (.v (dbool (decide (t.kind = 1))))), (.slot 214, .one (.v (dint t.kind))), (.slot 0, .one (.v (ptr b))), (.slot 1, .one (.v (.sl (g.map Ty.cells)))), (.slot 3, .one (.v (dint z))), (.slot 6, .one (.loc 6 0)), (.loc 6, .row ([.v (dint t.kind), .v (.sl (t.args.map Ty.cells))])), (.slot 8, .one (.loc 8 0)), (.loc 8, .row ([.v (dint 0), .v (dint 0), .v (dint 0), .own 0 [], .own 0 []])), (.heap  b, .row ([.v (.sl (ints l)), .v (dint q)]))]
    · intro hrest
      refine t_g0 ?_
      refine t_c1 trivial (mk_vars_ok g t (by omega)) ?_
      rcases pickD_none hpk with ⟨h0, rfl⟩ | ⟨h0, h1, rfl⟩
      · refine t_g (j2 @natI_len @h0) ?_
        refine t_b ?_
        refine t_sub [] trivial hrest
      · have hpos : 0 < (varsN g t).length := by omega
        refine t_g0 ?_
        refine t_c1 (j2 @natI_len (j2 @hpos @h1)) (next_ok b l p 3 (by decide) (by omega)) ?_
        refine t_g @h1 ?_
        refine t_b ?_
        refine t_sub [] trivial hrest
    · have hz2 : ¬ 0 < z := by omega
      rcases small_kinds ht with ⟨h, e⟩ | ⟨h, e⟩ | ⟨h, e⟩ | ⟨h, e⟩ | ⟨h, e⟩
      · rw [if_pos h] at hR
        have hb := nextD_bd (l := l) (p := q) (n := 3) (by decide)
        obtain ⟨k, hk⟩ : ∃ k : Nat, (nextD l q 3).1 = k := ⟨_, (Int.toNat_of_nonneg hb.1).symm⟩
        rw [hk] at hb
        refine t_g (j2 @hz2 @h) ?_
        refine t_c2 @hk (next_ok b l q 3 (by decide) (by omega)) (mk_num_ok k (by omega)) ?_
        repeat (first | refine W_seq ?_ | refine W_skip ?_ | refine W_block ?_ | refine W_inBlock ?_ | refine W_label ?_ | refine W_exit rfl ?_)
        first | refine W_retR hP hf hfn _ ([(b, deck l (nextD l q 3).2)]) (by first | (simp [go_sem, hP, hgl, hn, numD, hk]; done) | (simp [go_sem, hP, hgl, hn, numD, hk]; rfl)) (by simp [go_sem, hP, hgl, hn, numD, hk]) (by simp) ?_ hR.2 | refine W_endR hP hf hfn _ ([(b, deck l (nextD l q 3).2)]) (by first | (simp [go_sem, hP, hgl, hn, numD, hk]; done) | (simp [go_sem, hP, hgl, hn, numD, hk]; rfl)) (by simp [go_sem, hP, hgl, hn, numD, hk]) (by simp) ?_ hR.2
        rw [hR.1]
        refine ⟨?_, by simp [numD, hk]⟩
        try simp [numD, hk]
        try all_goals (simp [Ty.dv, Ty.cells_eq, Ty.kind_mk, Ty.args_mk, Tm.dv, Tm.cells_eq, Tm.kind_mk, Tm.index_mk, Tm.type_mk, Tm.args_mk, Val.dv, Val.cells_eq, Val.kind_mk, Val.num_mk, Val.list_mk, Val.args_mk, ints])
      · rw [if_neg (by omega), if_pos h] at hR
        refine t_g (j2 @hz2 @h) ?_
        refine t_c1 trivial (ref02_n_ok 7 []) ?_
        repeat (first | refine W_seq ?_ | refine W_skip ?_ | refine W_block ?_ | refine W_inBlock ?_ | refine W_label ?_ | refine W_exit rfl ?_)
        first | refine W_retR hP hf hfn _ ([(b, deck l q)]) (by first | (simp [go_sem, hP, hgl, hn, nT]; done) | (simp [go_sem, hP, hgl, hn, nT]; rfl)) (by simp [go_sem, hP, hgl, hn, nT]) (by simp) ?_ hR.2 | refine W_endR hP hf hfn _ ([(b, deck l q)]) (by first | (simp [go_sem, hP, hgl, hn, nT]; done) | (simp [go_sem, hP, hgl, hn, nT]; rfl)) (by simp [go_sem, hP, hgl, hn, nT]) (by simp) ?_ hR.2
        rw [hR.1]
        refine ⟨?_, by simp [nT]⟩
        try simp [nT]
        try all_goals (simp [Ty.dv, Ty.cells_eq, Ty.kind_mk, Ty.args_mk, Tm.dv, Tm.cells_eq, Tm.kind_mk, Tm.index_mk, Tm.type_mk, Tm.args_mk, Val.dv, Val.cells_eq, Val.kind_mk, Val.num_mk, Val.list_mk, Val.args_mk, ints])
      · rw [if_neg (by omega), if_neg (by omega), if_neg (by omega), if_neg (by omega)] at hR
        refine t_g (j2 @hz2 @h) ?_
        refine t_c1 trivial (ref02_n_ok 13 []) ?_
        repeat (first | refine W_seq ?_ | refine W_skip ?_ | refine W_block ?_ | refine W_inBlock ?_ | refine W_label ?_ | refine W_exit rfl ?_)
        first | refine W_retR hP hf hfn _ ([(b, deck l q)]) (by first | (simp [go_sem, hP, hgl, hn, nT]; done) | (simp [go_sem, hP, hgl, hn, nT]; rfl)) (by simp [go_sem, hP, hgl, hn, nT]) (by simp) ?_ hR.2 | refine W_endR hP hf hfn _ ([(b, deck l q)]) (by first | (simp [go_sem, hP, hgl, hn, nT]; done) | (simp [go_sem, hP, hgl, hn, nT]; rfl)) (by simp [go_sem, hP, hgl, hn, nT]) (by simp) ?_ hR.2
        rw [hR.1]
        refine ⟨?_, by simp [nT]⟩
        try simp [nT]
        try all_goals (simp [Ty.dv, Ty.cells_eq, Ty.kind_mk, Ty.args_mk, Tm.dv, Tm.cells_eq, Tm.kind_mk, Tm.index_mk, Tm.type_mk, Tm.args_mk, Val.dv, Val.cells_eq, Val.kind_mk, Val.num_mk, Val.list_mk, Val.args_mk, ints])
      · rw [if_neg (by omega), if_neg (by omega), if_pos h] at hR
        obtain ⟨s0, s1, hc⟩ := ht.arg (.inl h)
        have p0 := Ty.count_eq (t.arg 0)
        have p1 := Ty.count_eq (t.arg 1)
        have ha : t.args = [t.arg 0, t.arg 1] := by rw [e]; rfl
        obtain ⟨a1, -⟩ := leafD_facts closed_shape (t.arg 0) g q s0 hg hq
        refine t_g (j2 @hz2 @h) ?_
        refine t_c3 @ha (ih (t.arg 0) (by rw [ha]; simp) (z - 1) g q (by omega) (by omega) s0 hg (by omega) hq) (ih (t.arg 1) (by rw [ha]; simp) (z - 1) g (leafD l (t.arg 0) g q).2 (by omega) (by omega) s1 hg (by omega) a1) (ref02_n_ok 10 [(leafD l (t.arg 0) g q).1, (leafD l (t.arg 1) g (leafD l (t.arg 0) g q).2).1]) ?_
        repeat (first | refine W_seq ?_ | refine W_skip ?_ | refine W_block ?_ | refine W_inBlock ?_ | refine W_label ?_ | refine W_exit rfl ?_)
        first | refine W_retR hP hf hfn _ ([(b, deck l (leafD l (t.arg 1) g (leafD l (t.arg 0) g q).2).2)]) (by first | (simp [go_sem, hP, hgl, hn, nT]; done) | (simp [go_sem, hP, hgl, hn, nT]; rfl)) (by simp [go_sem, hP, hgl, hn, nT]) (by simp) ?_ hR.2 | refine W_endR hP hf hfn _ ([(b, deck l (leafD l (t.arg 1) g (leafD l (t.arg 0) g q).2).2)]) (by first | (simp [go_sem, hP, hgl, hn, nT]; done) | (simp [go_sem, hP, hgl, hn, nT]; rfl)) (by simp [go_sem, hP, hgl, hn, nT]) (by simp) ?_ hR.2
        rw [hR.1]
        refine ⟨?_, by simp [nT]⟩
        try simp [nT]
        try all_goals (simp [Ty.dv, Ty.cells_eq, Ty.kind_mk, Ty.args_mk, Tm.dv, Tm.cells_eq, Tm.kind_mk, Tm.index_mk, Tm.type_mk, Tm.args_mk, Val.dv, Val.cells_eq, Val.kind_mk, Val.num_mk, Val.list_mk, Val.args_mk, ints])
      · rw [if_neg (by omega), if_neg (by omega), if_neg (by omega), if_pos h] at hR
        obtain ⟨s0, s1, hc⟩ := ht.arg (.inr h)
        have p0 := Ty.count_eq (t.arg 0)
        have p1 := Ty.count_eq (t.arg 1)
        have ha : t.args = [t.arg 0, t.arg 1] := by rw [e]; rfl
        have hgs : ∀ x ∈ g ++ [t.arg 0], x.small := by intro x hx; rcases List.mem_append.1 hx with hx | hx; exact hg x hx; rw [List.mem_singleton.1 hx]; exact s0
        refine t_g (j2 @hz2 @h) ?_
        refine t_c3 @ha (mk_longer_ok g [t.arg 0] (by simp; omega)) (ih (t.arg 1) (by rw [ha]; simp) (z - 1) (g ++ [t.arg 0]) q (by omega) (by omega) s1 hgs (by simp; omega) hq) (ref02_t_ok 2 (t.arg 0) [(leafD l (t.arg 1) (g ++ [t.arg 0]) q).1]) ?_
        repeat (first | refine W_seq ?_ | refine W_skip ?_ | refine W_block ?_ | refine W_inBlock ?_ | refine W_label ?_ | refine W_exit rfl ?_)
        first | refine W_retR hP hf hfn _ ([(b, deck l (leafD l (t.arg 1) (g ++ [t.arg 0]) q).2)]) (by first | (simp [go_sem, hP, hgl, hn]; done) | (simp [go_sem, hP, hgl, hn]; rfl)) (by simp [go_sem, hP, hgl, hn]) (by simp) ?_ hR.2 | refine W_endR hP hf hfn _ ([(b, deck l (leafD l (t.arg 1) (g ++ [t.arg 0]) q).2)]) (by first | (simp [go_sem, hP, hgl, hn]; done) | (simp [go_sem, hP, hgl, hn]; rfl)) (by simp [go_sem, hP, hgl, hn]) (by simp) ?_ hR.2
        rw [hR.1]
        refine ⟨?_, by simp⟩
        try simp
        try all_goals (simp [Ty.dv, Ty.cells_eq, Ty.kind_mk, Ty.args_mk, Tm.dv, Tm.cells_eq, Tm.kind_mk, Tm.index_mk, Tm.type_mk, Tm.args_mk, Val.dv, Val.cells_eq, Val.kind_mk, Val.num_mk, Val.list_mk, Val.args_mk, ints])
  · rw [hpk] at hR
    simp only at hR
    obtain ⟨h0, h1, k, i, hk, hi, rfl, rfl⟩ := pickD_some' hpk
    have hpos : 0 < (varsN g t).length := by omega
    have hpos3 : 0 < (nextD l p 3).1 := by omega
    have hgi := ints_get (l := natI (varsN g t)) (i := k) (n := i) (by simp [natI, hi])
    have hkl := (List.getElem?_eq_some_iff.1 hi).1
    refine t_g0 ?_
    refine t_c1 trivial (mk_vars_ok g t (by omega)) ?_
    refine t_g0 ?_
    refine t_c1 (j2 @natI_len (j2 @hpos @hpos3)) (next_ok b l p 3 (by decide) (by omega)) ?_
    refine t_g @hpos3 ?_
    refine t_c2 (j2 @natI_len (j2 @hk @hgi)) (next_ok b l (nextD l p 3).2 (varsN g t).length (by omega) (by omega)) (ref02_var_ok i) ?_
    repeat (first | refine W_seq ?_ | refine W_skip ?_ | refine W_block ?_ | refine W_inBlock ?_ | refine W_label ?_ | refine W_exit rfl ?_)
    first | refine W_retR hP hf hfn _ ([(b, deck l (nextD l (nextD l p 3).2 (varsN g t).length).2)]) (by first | (simp [go_sem, hP, hgl, hn, vT]; done) | (simp [go_sem, hP, hgl, hn, vT]; rfl)) (by simp [go_sem, hP, hgl, hn, vT]) (by simp) ?_ hR.2 | refine W_endR hP hf hfn _ ([(b, deck l (nextD l (nextD l p 3).2 (varsN g t).length).2)]) (by first | (simp [go_sem, hP, hgl, hn, vT]; done) | (simp [go_sem, hP, hgl, hn, vT]; rfl)) (by simp [go_sem, hP, hgl, hn, vT]) (by simp) ?_ hR.2
    rw [hR.1]
    refine ⟨?_, by simp [vT]⟩
    try simp [vT]
    try all_goals (simp [Ty.dv, Ty.cells_eq, Ty.kind_mk, Ty.args_mk, Tm.dv, Tm.cells_eq, Tm.kind_mk, Tm.index_mk, Tm.type_mk, Tm.args_mk, Val.dv, Val.cells_eq, Val.kind_mk, Val.num_mk, Val.list_mk, Val.args_mk, ints])
end Go.Proofs.YtgfjcbofbbcnmaaDoor.Lift

namespace Go.Proofs.YtgfjcbofbbcnmaaDoor.Lift
set_option linter.unusedSimpArgs false
set_option linter.unusedVariables false
set_option linter.unnecessarySimpa false
open Go
variable {gl : Globs}

def funP (g : List Ty) (t : Ty) (i : Nat) : Bool := decide ((varTy g i).kind = 4) && ((varTy g i).arg 1).same t
theorem upto_snoc {Q : Nat → Prop} {i : Nat} (h : ∀ j, j < i → Q j) (hi : Q i) : ∀ j, j < i + 1 → Q j := by
  intro j hj
  by_cases e : j = i
  · rw [e]; exact hi
  · exact h j (by omega)
theorem funN_found {g : List Ty} {t : Ty} {i : Nat} (hi : i < g.length) (h : ∀ j, j < i → funP g t j = false) (hp : funP g t i = true) : funN g t = some i := by
  unfold funN
  rw [List.find?_range_eq_some]
  exact ⟨hp, List.mem_range.2 hi, fun j hj => by show (!funP g t j) = true; rw [h j hj]; rfl⟩
theorem funN_none {g : List Ty} {t : Ty} (h : ∀ j, j < g.length → funP g t j = false) : funN g t = none := by
  unfold funN
  rw [List.find?_eq_none]
  intro j hj
  show ¬ funP g t j = true
  rw [h j (List.mem_range.1 hj)]
  decide

theorem W_cutXP {X : Ctx} {k kk : List Item} {s : St} (E : Prop) (S : St) (h1 : (E → W X kk S) → W X k s) (h2 : E → W X kk S) : W X k s := h1 h2

set_option maxHeartbeats 4000000 in
theorem mk_term_ok (b : Nat) (l : List Int) (hl : l.length ≤ 500) (n : Nat) (hn9 : n ≤ 9) : ∀ (t : Ty) (g : List Ty) (p : Nat), t.small → (∀ x ∈ g, x.small) → g.length + 3 * n + 15 ≤ 1000000 → p ≤ l.length →
    Con1 Tryd.prog gl 11 [ptr b, .sl (g.map Ty.cells), t.dv, dint n] [(b, deck l p)] (termD l n t g p).1.dv [(b, deck l (termD l n t g p).2)] := by
  induction n with
  | zero =>
    intro t g p ht hg hgl1 hp
    exact mk_term_leaf b l hl t 0 g p (by omega) (by have := ht.2; omega) ht hg (by have := ht.2; omega) hp
  | succ n ihn0 =>
  intro t g p ht hg hgl1 hp
  have ihn := ihn0 (by omega)
  have hD := termD_facts (l := l) closed_shape n
  have hg1 : ∀ a : List Ty, (∀ x ∈ a, x.small) → ∀ x ∈ g ++ a, x.small := by
    intro a ha x hx
    rcases List.mem_append.1 hx with hx | hx
    · exact hg x hx
    · exact ha x hx
  have hz2 : (0 : Int) < ((n + 1 : Nat) : Int) := by omega
  have hsub : ((n + 1 : Nat) : Int) - 1 = (n : Int) := by omega
  refine t_in Tryd.func11 ?_
  intro X hP hgl hf hfn hn hR hids hfit
  rw [termD] at hR
  have hvl : (varsN g t).length ≤ g.length := varsP_le g t g.length
  have hq3 := nextD_le (n := 3) hp
  have hb3 := nextD_bd (l := l) (p := p) (n := 3) (by decide)
  rcases hpk : pickD l t g p with ⟨_ | x, q⟩
  · rw [hpk] at hR
    simp only at hR
    have hq : q ≤ l.length := by have := pickD_le (t := t) (g := g) hp; rw [hpk] at this; exact this
    apply W_cutX [(.slot 0, .one (.v (ptr b))), (.slot 1, .one (.v (.sl (g.map Ty.cells)))), (.slot 3, .one (.v (dint ((n + 1 : Nat) : Int)))), (.slot 6, .one (.loc 6 0)), (.loc 6, .row ([.v (dint t.kind), .v (.sl (t.args.map Ty.cells))])), (.slot 8, .one (.loc 8 0)), (.loc 8, .row ([.v (dint 0), .v (dint 0), .v (dint 0), .own 0 [], .own 0 []])), (.heap  b, .row ([.v (.sl (ints l)), .v (dint q)]))]
    · intro hrest
      refine t_g0 ?_
      refine t_c1 trivial (mk_vars_ok g t (by omega)) ?_
      rcases pickD_none hpk with ⟨h0, rfl⟩ | ⟨h0, h1, rfl⟩
      · refine t_g (j2 @natI_len @h0) ?_
        refine t_b ?_
        refine t_sub [] trivial hrest
      · have hpos : 0 < (varsN g t).length := by omega
        refine t_g0 ?_
        refine t_c1 (j2 @natI_len (j2 @hpos @h1)) (next_ok b l p 3 (by decide) (by omega)) ?_
        refine t_g @h1 ?_
        refine t_b ?_
        refine t_sub [] trivial hrest
    · have hq8 := nextD_le (n := 8) hq
      have hb8 := nextD_bd (l := l) (p := q) (n := 8) (by decide)
      refine t_g @hz2 ?_
      refine t_c1 trivial (next_ok b l q 8 (by decide) (by omega)) ?_
      generalize hd : nextD l q 8 = d at *
      obtain ⟨k, r⟩ := d
      simp only at hR hb8 hq8
      have hr : r ≤ l.length := hq8
      by_cases h0 : k = 0
      · rw [stepD, if_pos h0] at hR
        have cs := mk_type_ok (gl := gl) 0 b l r hl hr (by decide)
        obtain ⟨fs, ss⟩ := typeD_small l (n := 0) hr (by decide)
        generalize hes : typeD l 0 r = rs at cs fs ss hR
        obtain ⟨s, qs⟩ := rs
        simp only at cs fs ss hR
        have cx := ihn (t) (g ++ [s]) qs ht (hg1 [s] (by simpa using ss)) (by simp; omega) fs
        have fx := (hD (t) (g ++ [s]) qs ht (hg1 [s] (by simpa using ss)) fs).1
        generalize hex : termD l n (t) (g ++ [s]) qs = rx at cx fx hR
        obtain ⟨x, qx⟩ := rx
        simp only at cx fx hR
        have cy := ihn (s) (g) qx ss hg (by omega) fx
        have fy := (hD (s) (g) qx ss hg fx).1
        generalize hey : termD l n (s) (g) qx = ry at cy fy hR
        obtain ⟨y, qy⟩ := ry
        simp only at cy fy hR
        refine t_g @h0 ?_
        refine t_c1 trivial cs ?_
        refine t_c5 @hsub (mk_longer_ok g [s] (by simp; omega)) cx (ref02_t_ok 2 s [x]) cy (ref02_n_ok 3 [Tm.mk 2 0 s [x], y]) ?_
        repeat (first | refine W_seq ?_ | refine W_skip ?_ | refine W_block ?_ | refine W_inBlock ?_ | refine W_label ?_ | refine W_exit rfl ?_)
        first | refine W_retR hP hf hfn _ ([(b, deck l qy)]) (by first | (simp [go_sem, hP, hgl, hn, nT]; done) | (simp [go_sem, hP, hgl, hn, nT]; rfl)) (by simp [go_sem, hP, hgl, hn, nT]) (by simp) ?_ hR.2 | refine W_endR hP hf hfn _ ([(b, deck l qy)]) (by first | (simp [go_sem, hP, hgl, hn, nT]; done) | (simp [go_sem, hP, hgl, hn, nT]; rfl)) (by simp [go_sem, hP, hgl, hn, nT]) (by simp) ?_ hR.2
        rw [hR.1]
        refine ⟨?_, by simp [nT]⟩
        try simp [nT]
        try all_goals (simp [Ty.dv, Ty.cells_eq, Ty.kind_mk, Ty.args_mk, Tm.dv, Tm.cells_eq, Tm.kind_mk, Tm.index_mk, Tm.type_mk, Tm.args_mk, Val.dv, Val.cells_eq, Val.kind_mk, Val.num_mk, Val.list_mk, Val.args_mk, ints])
      by_cases h1 : k = 1
      · rw [stepD, if_neg h0, if_pos h1] at hR
        have cs := mk_type_ok (gl := gl) 0 b l r hl hr (by decide)
        obtain ⟨fs, ss⟩ := typeD_small l (n := 0) hr (by decide)
        generalize hes : typeD l 0 r = rs at cs fs ss hR
        obtain ⟨s, qs⟩ := rs
        simp only at cs fs ss hR
        have cx := ihn (t) (g) qs ht hg (by omega) fs
        have fx := (hD (t) (g) qs ht hg fs).1
        generalize hex : termD l n (t) (g) qs = rx at cx fx hR
        obtain ⟨x, qx⟩ := rx
        simp only at cx fx hR
        have cy := ihn (s) (g) qx ss hg (by omega) fx
        have fy := (hD (s) (g) qx ss hg fx).1
        generalize hey : termD l n (s) (g) qx = ry at cy fy hR
        obtain ⟨y, qy⟩ := ry
        simp only at cy fy hR
        refine t_g @h1 ?_
        refine t_c1 trivial cs ?_
        refine t_c4 @hsub cx cy (ref02_n_ok 10 [x, y]) (ref02_n_ok 11 [Tm.mk 10 0 (Ty.mk 0 []) [x, y]]) ?_
        repeat (first | refine W_seq ?_ | refine W_skip ?_ | refine W_block ?_ | refine W_inBlock ?_ | refine W_label ?_ | refine W_exit rfl ?_)
        first | refine W_retR hP hf hfn _ ([(b, deck l qy)]) (by first | (simp [go_sem, hP, hgl, hn, nT]; done) | (simp [go_sem, hP, hgl, hn, nT]; rfl)) (by simp [go_sem, hP, hgl, hn, nT]) (by simp) ?_ hR.2 | refine W_endR hP hf hfn _ ([(b, deck l qy)]) (by first | (simp [go_sem, hP, hgl, hn, nT]; done) | (simp [go_sem, hP, hgl, hn, nT]; rfl)) (by simp [go_sem, hP, hgl, hn, nT]) (by simp) ?_ hR.2
        rw [hR.1]
        refine ⟨?_, by simp [nT]⟩
        try simp [nT]
        try all_goals (simp [Ty.dv, Ty.cells_eq, Ty.kind_mk, Ty.args_mk, Tm.dv, Tm.cells_eq, Tm.kind_mk, Tm.index_mk, Tm.type_mk, Tm.args_mk, Val.dv, Val.cells_eq, Val.kind_mk, Val.num_mk, Val.list_mk, Val.args_mk, ints])
      by_cases h2 : k = 2
      · rw [stepD, if_neg h0, if_neg h1, if_pos h2] at hR
        have cx := ihn (t) (g ++ [Ty.mk 1 [], t]) r ht (hg1 [Ty.mk 1 [], t] (by intro x hx; simp at hx; rcases hx with rfl | rfl; exact small_nat; exact ht)) (by simp; omega) hr
        have fx := (hD (t) (g ++ [Ty.mk 1 [], t]) r ht (hg1 [Ty.mk 1 [], t] (by intro x hx; simp at hx; rcases hx with rfl | rfl; exact small_nat; exact ht)) hr).1
        generalize hex : termD l n (t) (g ++ [Ty.mk 1 [], t]) r = rx at cx fx hR
        obtain ⟨x, qx⟩ := rx
        simp only at cx fx hR
        have cy := ihn (t) (g) qx ht hg (by omega) fx
        have fy := (hD (t) (g) qx ht hg fx).1
        generalize hey : termD l n (t) (g) qx = ry at cy fy hR
        obtain ⟨y, qy⟩ := ry
        simp only at cy fy hR
        have hqy := nextD_le (n := 3) fy
        have hby := nextD_bd (l := l) (p := qy) (n := 3) (by decide)
        obtain ⟨m, hm⟩ : ∃ m : Nat, (nextD l qy 3).1 = m := ⟨_, (Int.toNat_of_nonneg hby.1).symm⟩
        rw [hm] at hby
        refine t_g @h2 ?_
        refine t_c6 (j2 @hsub @nat_v) ref01_nat_ok ref01_nat_ok (mk_longer_ok g [Ty.mk 1 [], t] (by simp; omega)) cx (ref02_t_ok 2 t [x]) (ref02_t_ok 2 (Ty.mk 1 []) [Tm.mk 2 0 t [x]]) ?_
        refine t_c4 (j2 @hsub @hm) cy (next_ok b l qy 3 (by decide) (by omega)) (mk_num_ok m (by omega)) (ref02_t_ok 6 t [y, Tm.mk 2 0 (Ty.mk 1 []) [Tm.mk 2 0 t [x]], numTm m]) ?_
        repeat (first | refine W_seq ?_ | refine W_skip ?_ | refine W_block ?_ | refine W_inBlock ?_ | refine W_label ?_ | refine W_exit rfl ?_)
        first | refine W_retR hP hf hfn _ ([(b, deck l (nextD l qy 3).2)]) (by first | (simp [go_sem, hP, hgl, hn, numD, hm]; done) | (simp [go_sem, hP, hgl, hn, numD, hm]; rfl)) (by simp [go_sem, hP, hgl, hn, numD, hm]) (by simp) ?_ hR.2 | refine W_endR hP hf hfn _ ([(b, deck l (nextD l qy 3).2)]) (by first | (simp [go_sem, hP, hgl, hn, numD, hm]; done) | (simp [go_sem, hP, hgl, hn, numD, hm]; rfl)) (by simp [go_sem, hP, hgl, hn, numD, hm]) (by simp) ?_ hR.2
        rw [hR.1]
        refine ⟨?_, by simp [numD, hm]⟩
        try simp [numD, hm]
        try all_goals (simp [Ty.dv, Ty.cells_eq, Ty.kind_mk, Ty.args_mk, Tm.dv, Tm.cells_eq, Tm.kind_mk, Tm.index_mk, Tm.type_mk, Tm.args_mk, Val.dv, Val.cells_eq, Val.kind_mk, Val.num_mk, Val.list_mk, Val.args_mk, ints])
      by_cases h3 : k = 3
      · rw [stepD, if_neg h0, if_neg h1, if_neg h2, if_pos h3] at hR
        have cx := ihn (t) (g ++ [Ty.mk 1 [], Ty.mk 2 [], t]) r ht (hg1 [Ty.mk 1 [], Ty.mk 2 [], t] (by intro x hx; simp at hx; rcases hx with rfl | rfl | rfl; exact small_nat; exact small_list; exact ht)) (by simp; omega) hr
        have fx := (hD (t) (g ++ [Ty.mk 1 [], Ty.mk 2 [], t]) r ht (hg1 [Ty.mk 1 [], Ty.mk 2 [], t] (by intro x hx; simp at hx; rcases hx with rfl | rfl | rfl; exact small_nat; exact small_list; exact ht)) hr).1
        generalize hex : termD l n (t) (g ++ [Ty.mk 1 [], Ty.mk 2 [], t]) r = rx at cx fx hR
        obtain ⟨x, qx⟩ := rx
        simp only at cx fx hR
        have cy := ihn (t) (g) qx ht hg (by omega) fx
        have fy := (hD (t) (g) qx ht hg fx).1
        generalize hey : termD l n (t) (g) qx = ry at cy fy hR
        obtain ⟨y, qy⟩ := ry
        simp only at cy fy hR
        have cz := ihn (Ty.mk 2 []) (g) qy small_list hg (by omega) fy
        have fz := (hD (Ty.mk 2 []) (g) qy small_list hg fy).1
        generalize hez : termD l n (Ty.mk 2 []) (g) qy = rz at cz fz hR
        obtain ⟨z, qz⟩ := rz
        simp only at cz fz hR
        refine t_g @h3 ?_
        refine t_c9 (j2 @hsub (j2 @nat_v @list_v)) ref01_nat_ok ref01_list_ok ref01_nat_ok ref01_list_ok (mk_longer_ok g [Ty.mk 1 [], Ty.mk 2 [], t] (by simp; omega)) cx (ref02_t_ok 2 t [x]) (ref02_t_ok 2 (Ty.mk 2 []) [Tm.mk 2 0 t [x]]) (ref02_t_ok 2 (Ty.mk 1 []) [Tm.mk 2 0 (Ty.mk 2 []) [Tm.mk 2 0 t [x]]]) ?_
        refine t_c4 (j2 @hsub @list_v) cy ref01_list_ok cz (ref02_t_ok 9 t [y, Tm.mk 2 0 (Ty.mk 1 []) [Tm.mk 2 0 (Ty.mk 2 []) [Tm.mk 2 0 t [x]]], z]) ?_
        repeat (first | refine W_seq ?_ | refine W_skip ?_ | refine W_block ?_ | refine W_inBlock ?_ | refine W_label ?_ | refine W_exit rfl ?_)
        first | refine W_retR hP hf hfn _ ([(b, deck l qz)]) (by first | (simp [go_sem, hP, hgl, hn]; done) | (simp [go_sem, hP, hgl, hn]; rfl)) (by simp [go_sem, hP, hgl, hn]) (by simp) ?_ hR.2 | refine W_endR hP hf hfn _ ([(b, deck l qz)]) (by first | (simp [go_sem, hP, hgl, hn]; done) | (simp [go_sem, hP, hgl, hn]; rfl)) (by simp [go_sem, hP, hgl, hn]) (by simp) ?_ hR.2
        rw [hR.1]
        refine ⟨?_, by simp⟩
        try simp
        try all_goals (simp [Ty.dv, Ty.cells_eq, Ty.kind_mk, Ty.args_mk, Tm.dv, Tm.cells_eq, Tm.kind_mk, Tm.index_mk, Tm.type_mk, Tm.args_mk, Val.dv, Val.cells_eq, Val.kind_mk, Val.num_mk, Val.list_mk, Val.args_mk, ints])
      by_cases h4 : k = 4
      · rw [stepD, if_neg h0, if_neg h1, if_neg h2, if_neg h3, if_pos h4] at hR
        have cs := mk_type_ok (gl := gl) 0 b l r hl hr (by decide)
        obtain ⟨fs, ss⟩ := typeD_small l (n := 0) hr (by decide)
        generalize hes : typeD l 0 r = rs at cs fs ss hR
        obtain ⟨s, qs⟩ := rs
        simp only at cs fs ss hR
        have cx := ihn (s) (g) qs ss hg (by omega) fs
        have fx := (hD (s) (g) qs ss hg fs).1
        generalize hex : termD l n (s) (g) qs = rx at cx fx hR
        obtain ⟨x, qx⟩ := rx
        simp only at cx fx hR
        have cy := ihn (t) (g) qx ht hg (by omega) fx
        have fy := (hD (t) (g) qx ht hg fx).1
        generalize hey : termD l n (t) (g) qx = ry at cy fy hR
        obtain ⟨y, qy⟩ := ry
        simp only at cy fy hR
        refine t_g @h4 ?_
        refine t_c1 trivial cs ?_
        refine t_c4 @hsub cx cy (ref02_n_ok 10 [x, y]) (ref02_n_ok 12 [Tm.mk 10 0 (Ty.mk 0 []) [x, y]]) ?_
        repeat (first | refine W_seq ?_ | refine W_skip ?_ | refine W_block ?_ | refine W_inBlock ?_ | refine W_label ?_ | refine W_exit rfl ?_)
        first | refine W_retR hP hf hfn _ ([(b, deck l qy)]) (by first | (simp [go_sem, hP, hgl, hn, nT]; done) | (simp [go_sem, hP, hgl, hn, nT]; rfl)) (by simp [go_sem, hP, hgl, hn, nT]) (by simp) ?_ hR.2 | refine W_endR hP hf hfn _ ([(b, deck l qy)]) (by first | (simp [go_sem, hP, hgl, hn, nT]; done) | (simp [go_sem, hP, hgl, hn, nT]; rfl)) (by simp [go_sem, hP, hgl, hn, nT]) (by simp) ?_ hR.2
        rw [hR.1]
        refine ⟨?_, by simp [nT]⟩
        try simp [nT]
        try all_goals (simp [Ty.dv, Ty.cells_eq, Ty.kind_mk, Ty.args_mk, Tm.dv, Tm.cells_eq, Tm.kind_mk, Tm.index_mk, Tm.type_mk, Tm.args_mk, Val.dv, Val.cells_eq, Val.kind_mk, Val.num_mk, Val.list_mk, Val.args_mk, ints])
      apply W_cutXP (stepD l (termD l n) t g k r = endD l (termD l n) t g r) [(.slot 215, .one (.v (dbool (decide (t.kind = 1))))), (.slot 214, .one (.v (dint t.kind))), (.slot 0, .one (.v (ptr b))), (.slot 1, .one (.v (.sl (g.map Ty.cells)))), (.slot 3, .one (.v (dint ((n + 1 : Nat) : Int)))), (.slot 6, .one (.loc 6 0)), (.loc 6, .row ([.v (dint t.kind), .v (.sl (t.args.map Ty.cells))])), (.slot 8, .one (.loc 8 0)), (.loc 8, .row ([.v (dint 0), .v (dint 0), .v (dint 0), .own 0 [], .own 0 []])), (.heap  b, .row ([.v (.sl (ints l)), .v (dint r)]))]
      · intro hrest
        by_cases h5 : k = 5
        · refine t_g @h5 ?_
          refine t_a ?_
          refine t_sub [] trivial (W_upto (g.length) (fun i => ∀ j, j < i → funP g t j = false) (fun i => [(.slot 177, .one (.v (dint i))), (.slot 176, .one (.v (dint g.length))), (.slot 0, .one (.v (ptr b))), (.slot 1, .one (.v (.sl (g.map Ty.cells)))), (.slot 3, .one (.v (dint ((n + 1 : Nat) : Int)))), (.slot 6, .one (.loc 6 0)), (.loc 6, .row ([.v (dint t.kind), .v (.sl (t.args.map Ty.cells))])), (.slot 8, .one (.loc 8 0)), (.loc 8, .row ([.v (dint 0), .v (dint 0), .v (dint 0), .own 0 [], .own 0 []])), (.heap  b, .row ([.v (.sl (ints l)), .v (dint r)]))]) (by intro j hj; omega) ?_ ?_)
          · intro i hi hI hnext
            have hvt := (varTy_mem hi).2
            have hix : (g.length : Int) - 1 - i = ((g.length - 1 - i : Nat) : Int) := by omega
            refine t_rg0 ?_
            refine t_yes ?_
            refine t_g (j2 @hix @hvt) ?_
            by_cases hk4 : (varTy g i).kind = 4
            · have hfs := hg _ (varTy_mem hi).1
              obtain ⟨c0, c1, -⟩ := hfs.arg (.inr hk4)
              obtain ⟨a0, a1, ha, -, -, e0, e1⟩ := Ty.ok_args hfs.ok (.inr hk4)
              rw [e0] at c0
              refine t_c1 (j2 @hix (j2 @hvt (j2 @hk4 @ha))) (ref01_same_ok a1 t) ?_
              by_cases hs : a1.same t = true
              · have hfi : funN g t = some i := funN_found hi hI (by simp [funP, hk4, e1, hs])
                rw [stepD, if_neg h0, if_neg h1, if_neg h2, if_neg h3, if_neg h4, if_pos h5, hfi] at hR
                simp only at hR
                rw [e0] at hR
                have cx := ihn (a0) (g) r c0 hg (by omega) hr
                have fx := (hD (a0) (g) r c0 hg hr).1
                generalize hex : termD l n (a0) (g) r = rx at cx fx hR
                obtain ⟨x, qx⟩ := rx
                simp only at cx fx hR
                refine t_g @hs ?_
                refine t_a ?_
                first | refine W_reg [] fun K hK => ?_ | refine W_regd (by rw [hP]; exact mixed) [] fun K hK => ?_
                simp [go_sem, hP, hgl, hn, hsub, ha, vT]
                repeat (refine ⟨by omega, ?_⟩)
                first | refine vcK_call hP hgl (ref02_var_ok i) (by simp [go_sem, hP, hgl, hn, hsub, ha, vT]) rfl (by simp [go_sem]) (by simp) (by rw [hn]; exact Nat.le_of_ble_eq_true rfl) ?_ | refine vcdC_call (fun _ _ => vcd_sound) hP hgl (ref02_var_ok i) (by simp [go_sem, hP, hgl, hn, hsub, ha, vT]) rfl (by simp [go_sem]) (by simp) (by rw [hn]; exact Nat.le_of_ble_eq_true rfl) ?_ | refine vcK_callG hP hgl (ref02_var_ok i) (by simp [go_sem, hP, hgl, hn, hsub, ha, vT]) rfl (by simp [go_sem]) (by simp) (by rw [hn]; exact Nat.le_of_ble_eq_true rfl) (by simp [go_sem]; rfl) (by rw [hn]; exact Nat.le_of_ble_eq_true rfl) (by simp [go_sem]) ?_ | refine vcdC_callG (fun _ _ => vcd_sound) hP hgl (ref02_var_ok i) (by simp [go_sem, hP, hgl, hn, hsub, ha, vT]) rfl (by simp [go_sem]) (by simp) (by rw [hn]; exact Nat.le_of_ble_eq_true rfl) (by simp [go_sem]; rfl) (by rw [hn]; exact Nat.le_of_ble_eq_true rfl) (by simp [go_sem]) ?_
                simp [go_sem, hP, hgl, hn, hsub, ha, vT]
                repeat (refine ⟨by omega, ?_⟩)
                first | refine vcK_call hP hgl (cx) (by simp [go_sem, hP, hgl, hn, hsub, ha, vT]) rfl (by simp [go_sem]) (by simp) (by rw [hn]; exact Nat.le_of_ble_eq_true rfl) ?_ | refine vcdC_call (fun _ _ => vcd_sound) hP hgl (cx) (by simp [go_sem, hP, hgl, hn, hsub, ha, vT]) rfl (by simp [go_sem]) (by simp) (by rw [hn]; exact Nat.le_of_ble_eq_true rfl) ?_ | refine vcK_callG hP hgl (cx) (by simp [go_sem, hP, hgl, hn, hsub, ha, vT]) rfl (by simp [go_sem]) (by simp) (by rw [hn]; exact Nat.le_of_ble_eq_true rfl) (by simp [go_sem]; rfl) (by rw [hn]; exact Nat.le_of_ble_eq_true rfl) (by simp [go_sem]) ?_ | refine vcdC_callG (fun _ _ => vcd_sound) hP hgl (cx) (by simp [go_sem, hP, hgl, hn, hsub, ha, vT]) rfl (by simp [go_sem]) (by simp) (by rw [hn]; exact Nat.le_of_ble_eq_true rfl) (by simp [go_sem]; rfl) (by rw [hn]; exact Nat.le_of_ble_eq_true rfl) (by simp [go_sem]) ?_
                simp [go_sem, hP, hgl, hn, hsub, ha, vT]
                repeat (refine ⟨by omega, ?_⟩)
                first | refine vcK_call hP hgl (ref02_n_ok 3 [vT i, x]) (by simp [go_sem, hP, hgl, hn, hsub, ha, vT]) rfl (by simp [go_sem]) (by simp) (by rw [hn]; exact Nat.le_of_ble_eq_true rfl) ?_ | refine vcdC_call (fun _ _ => vcd_sound) hP hgl (ref02_n_ok 3 [vT i, x]) (by simp [go_sem, hP, hgl, hn, hsub, ha, vT]) rfl (by simp [go_sem]) (by simp) (by rw [hn]; exact Nat.le_of_ble_eq_true rfl) ?_ | refine vcK_callG hP hgl (ref02_n_ok 3 [vT i, x]) (by simp [go_sem, hP, hgl, hn, hsub, ha, vT]) rfl (by simp [go_sem]) (by simp) (by rw [hn]; exact Nat.le_of_ble_eq_true rfl) (by simp [go_sem]; rfl) (by rw [hn]; exact Nat.le_of_ble_eq_true rfl) (by simp [go_sem]) ?_ | refine vcdC_callG (fun _ _ => vcd_sound) hP hgl (ref02_n_ok 3 [vT i, x]) (by simp [go_sem, hP, hgl, hn, hsub, ha, vT]) rfl (by simp [go_sem]) (by simp) (by rw [hn]; exact Nat.le_of_ble_eq_true rfl) (by simp [go_sem]; rfl) (by rw [hn]; exact Nat.le_of_ble_eq_true rfl) (by simp [go_sem]) ?_
                simp [go_sem, hP, hgl, hn, hsub, ha, vT]
                refine t_e ?_
                clear hK K
                repeat (first | refine W_seq ?_ | refine W_skip ?_ | refine W_block ?_ | refine W_inBlock ?_ | refine W_label ?_ | refine W_exit rfl ?_)
                first | refine W_retR hP hf hfn _ ([(b, deck l qx)]) (by first | (simp [go_sem, hP, hgl, hn, nT, vT]; done) | (simp [go_sem, hP, hgl, hn, nT, vT]; rfl)) (by simp [go_sem, hP, hgl, hn, nT, vT]) (by simp) ?_ hR.2 | refine W_endR hP hf hfn _ ([(b, deck l qx)]) (by first | (simp [go_sem, hP, hgl, hn, nT, vT]; done) | (simp [go_sem, hP, hgl, hn, nT, vT]; rfl)) (by simp [go_sem, hP, hgl, hn, nT, vT]) (by simp) ?_ hR.2
                rw [hR.1]
                refine ⟨?_, by simp [nT, vT]⟩
                try simp [nT, vT]
                try all_goals (simp [Ty.dv, Ty.cells_eq, Ty.kind_mk, Ty.args_mk, Tm.dv, Tm.cells_eq, Tm.kind_mk, Tm.index_mk, Tm.type_mk, Tm.args_mk, Val.dv, Val.cells_eq, Val.kind_mk, Val.num_mk, Val.list_mk, Val.args_mk, ints])
              · refine t_gt (wr []) trivial @hs (hnext (upto_snoc hI (by simp [funP, hk4, e1, hs])))
            · refine t_gt (wr []) trivial @hk4 (hnext (upto_snoc hI (by simp [funP, hk4])))
          · intro hI
            refine t_rg0 ?_
            refine t_no ?_
            refine t_g0 ?_
            refine t_b ?_
            refine t_sub [] trivial (hrest (by rw [stepD, if_neg h0, if_neg h1, if_neg h2, if_neg h3, if_neg h4, if_pos h5, funN_none hI]))
        · have hE : stepD l (termD l n) t g k r = endD l (termD l n) t g r := by rw [stepD, if_neg h0, if_neg h1, if_neg h2, if_neg h3, if_neg h4, if_neg h5]
          by_cases h6 : k = 6
          · refine t_g @h6 ?_
            refine t_b ?_
            refine t_sub [] trivial (hrest hE)
          · have h7 : k = 7 := by omega
            refine t_g @h7 ?_
            refine t_b ?_
            refine t_sub [] trivial (hrest hE)
      · intro hE
        rw [hE, endD] at hR
        have h5q := nextD_le (n := 5) hr
        have h2q := nextD_le (n := 2) hr
        have hfd := Ty.fold t
        rcases small_kinds ht with ⟨h, e⟩ | ⟨h, e⟩ | ⟨h, e⟩ | ⟨h, e⟩ | ⟨h, e⟩
        · rw [if_pos h] at hR
          rw [h] at hfd
          have hb5 := nextD_bd (l := l) (p := r) (n := 5) (by decide)
          refine t_g (j2 @h @hz2) ?_
          refine t_c1 trivial (next_ok b l r 5 (by decide) (by omega)) ?_
          generalize hd5 : nextD l r 5 = d at *
          obtain ⟨c, q5⟩ := d
          simp only at hR hb5 h5q
          by_cases c0 : c = 0
          · rw [if_pos c0] at hR
            have cx := ihn (t) (g) q5 ht hg (by omega) h5q
            have fx := (hD (t) (g) q5 ht hg h5q).1
            generalize hex : termD l n (t) (g) q5 = rx at cx fx hR
            obtain ⟨x, qx⟩ := rx
            simp only at cx fx hR
            refine t_g @c0 ?_
            refine t_c2 (j2 @hsub @hfd) cx (ref02_n_ok 5 [x]) ?_
            repeat (first | refine W_seq ?_ | refine W_skip ?_ | refine W_block ?_ | refine W_inBlock ?_ | refine W_label ?_ | refine W_exit rfl ?_)
            first | refine W_retR hP hf hfn _ ([(b, deck l qx)]) (by first | (simp [go_sem, hP, hgl, hn, nT]; done) | (simp [go_sem, hP, hgl, hn, nT]; rfl)) (by simp [go_sem, hP, hgl, hn, nT]) (by simp) ?_ hR.2 | refine W_endR hP hf hfn _ ([(b, deck l qx)]) (by first | (simp [go_sem, hP, hgl, hn, nT]; done) | (simp [go_sem, hP, hgl, hn, nT]; rfl)) (by simp [go_sem, hP, hgl, hn, nT]) (by simp) ?_ hR.2
            rw [hR.1]
            refine ⟨?_, by simp [nT]⟩
            try simp [nT]
            try all_goals (simp [Ty.dv, Ty.cells_eq, Ty.kind_mk, Ty.args_mk, Tm.dv, Tm.cells_eq, Tm.kind_mk, Tm.index_mk, Tm.type_mk, Tm.args_mk, Val.dv, Val.cells_eq, Val.kind_mk, Val.num_mk, Val.list_mk, Val.args_mk, ints])
          rw [if_neg c0] at hR
          by_cases c1 : c = 1
          · rw [if_pos c1] at hR
            have cx := ihn (t) (g) q5 ht hg (by omega) h5q
            have fx := (hD (t) (g) q5 ht hg h5q).1
            generalize hex : termD l n (t) (g) q5 = rx at cx fx hR
            obtain ⟨x, qx⟩ := rx
            simp only at cx fx hR
            have cy := ihn (t) (g) qx ht hg (by omega) fx
            have fy := (hD (t) (g) qx ht hg fx).1
            generalize hey : termD l n (t) (g) qx = ry at cy fy hR
            obtain ⟨y, qy⟩ := ry
            simp only at cy fy hR
            refine t_g @c1 ?_
            refine t_c4 (j2 @hsub @hfd) ref05_plus_ok cx cy (mk_app_ok plusT [x, y]) ?_
            repeat (first | refine W_seq ?_ | refine W_skip ?_ | refine W_block ?_ | refine W_inBlock ?_ | refine W_label ?_ | refine W_exit rfl ?_)
            first | refine W_retR hP hf hfn _ ([(b, deck l qy)]) (by first | (simp [go_sem, hP, hgl, hn]; done) | (simp [go_sem, hP, hgl, hn]; rfl)) (by simp [go_sem, hP, hgl, hn]) (by simp) ?_ hR.2 | refine W_endR hP hf hfn _ ([(b, deck l qy)]) (by first | (simp [go_sem, hP, hgl, hn]; done) | (simp [go_sem, hP, hgl, hn]; rfl)) (by simp [go_sem, hP, hgl, hn]) (by simp) ?_ hR.2
            rw [hR.1]
            refine ⟨?_, by simp⟩
            try simp
            try all_goals (simp [Ty.dv, Ty.cells_eq, Ty.kind_mk, Ty.args_mk, Tm.dv, Tm.cells_eq, Tm.kind_mk, Tm.index_mk, Tm.type_mk, Tm.args_mk, Val.dv, Val.cells_eq, Val.kind_mk, Val.num_mk, Val.list_mk, Val.args_mk, ints])
          rw [if_neg c1] at hR
          by_cases c2 : c = 2
          · rw [if_pos c2] at hR
            have cx := ihn (t) (g) q5 ht hg (by omega) h5q
            have fx := (hD (t) (g) q5 ht hg h5q).1
            generalize hex : termD l n (t) (g) q5 = rx at cx fx hR
            obtain ⟨x, qx⟩ := rx
            simp only at cx fx hR
            have cy := ihn (t) (g) qx ht hg (by omega) fx
            have fy := (hD (t) (g) qx ht hg fx).1
            generalize hey : termD l n (t) (g) qx = ry at cy fy hR
            obtain ⟨y, qy⟩ := ry
            simp only at cy fy hR
            refine t_g @c2 ?_
            refine t_c4 (j2 @hsub @hfd) ref05_sub_ok cx cy (mk_app_ok subT [x, y]) ?_
            repeat (first | refine W_seq ?_ | refine W_skip ?_ | refine W_block ?_ | refine W_inBlock ?_ | refine W_label ?_ | refine W_exit rfl ?_)
            first | refine W_retR hP hf hfn _ ([(b, deck l qy)]) (by first | (simp [go_sem, hP, hgl, hn]; done) | (simp [go_sem, hP, hgl, hn]; rfl)) (by simp [go_sem, hP, hgl, hn]) (by simp) ?_ hR.2 | refine W_endR hP hf hfn _ ([(b, deck l qy)]) (by first | (simp [go_sem, hP, hgl, hn]; done) | (simp [go_sem, hP, hgl, hn]; rfl)) (by simp [go_sem, hP, hgl, hn]) (by simp) ?_ hR.2
            rw [hR.1]
            refine ⟨?_, by simp⟩
            try simp
            try all_goals (simp [Ty.dv, Ty.cells_eq, Ty.kind_mk, Ty.args_mk, Tm.dv, Tm.cells_eq, Tm.kind_mk, Tm.index_mk, Tm.type_mk, Tm.args_mk, Val.dv, Val.cells_eq, Val.kind_mk, Val.num_mk, Val.list_mk, Val.args_mk, ints])
          rw [if_neg c2] at hR
          have hb3 := nextD_bd (l := l) (p := q5) (n := 3) (by decide)
          obtain ⟨m, hm⟩ : ∃ m : Nat, (nextD l q5 3).1 = m := ⟨_, (Int.toNat_of_nonneg hb3.1).symm⟩
          rw [hm] at hb3
          by_cases c3 : c = 3
          · refine t_g @c3 ?_
            refine t_c2 @hm (next_ok b l q5 3 (by decide) (by omega)) (mk_num_ok m (by omega)) ?_
            repeat (first | refine W_seq ?_ | refine W_skip ?_ | refine W_block ?_ | refine W_inBlock ?_ | refine W_label ?_ | refine W_exit rfl ?_)
            first | refine W_retR hP hf hfn _ ([(b, deck l (nextD l q5 3).2)]) (by first | (simp [go_sem, hP, hgl, hn, numD, hm]; done) | (simp [go_sem, hP, hgl, hn, numD, hm]; rfl)) (by simp [go_sem, hP, hgl, hn, numD, hm]) (by simp) ?_ hR.2 | refine W_endR hP hf hfn _ ([(b, deck l (nextD l q5 3).2)]) (by first | (simp [go_sem, hP, hgl, hn, numD, hm]; done) | (simp [go_sem, hP, hgl, hn, numD, hm]; rfl)) (by simp [go_sem, hP, hgl, hn, numD, hm]) (by simp) ?_ hR.2
            rw [hR.1]
            refine ⟨?_, by simp [numD, hm]⟩
            try simp [numD, hm]
            try all_goals (simp [Ty.dv, Ty.cells_eq, Ty.kind_mk, Ty.args_mk, Tm.dv, Tm.cells_eq, Tm.kind_mk, Tm.index_mk, Tm.type_mk, Tm.args_mk, Val.dv, Val.cells_eq, Val.kind_mk, Val.num_mk, Val.list_mk, Val.args_mk, ints])
          · have c4 : c = 4 := by omega
            refine t_g @c4 ?_
            refine t_c2 @hm (next_ok b l q5 3 (by decide) (by omega)) (mk_num_ok m (by omega)) ?_
            repeat (first | refine W_seq ?_ | refine W_skip ?_ | refine W_block ?_ | refine W_inBlock ?_ | refine W_label ?_ | refine W_exit rfl ?_)
            first | refine W_retR hP hf hfn _ ([(b, deck l (nextD l q5 3).2)]) (by first | (simp [go_sem, hP, hgl, hn, numD, hm]; done) | (simp [go_sem, hP, hgl, hn, numD, hm]; rfl)) (by simp [go_sem, hP, hgl, hn, numD, hm]) (by simp) ?_ hR.2 | refine W_endR hP hf hfn _ ([(b, deck l (nextD l q5 3).2)]) (by first | (simp [go_sem, hP, hgl, hn, numD, hm]; done) | (simp [go_sem, hP, hgl, hn, numD, hm]; rfl)) (by simp [go_sem, hP, hgl, hn, numD, hm]) (by simp) ?_ hR.2
            rw [hR.1]
            refine ⟨?_, by simp [numD, hm]⟩
            try simp [numD, hm]
            try all_goals (simp [Ty.dv, Ty.cells_eq, Ty.kind_mk, Ty.args_mk, Tm.dv, Tm.cells_eq, Tm.kind_mk, Tm.index_mk, Tm.type_mk, Tm.args_mk, Val.dv, Val.cells_eq, Val.kind_mk, Val.num_mk, Val.list_mk, Val.args_mk, ints])
        · rw [if_neg (by omega), if_pos h] at hR
          rw [h] at hfd
          have hb2 := nextD_bd (l := l) (p := r) (n := 2) (by decide)
          refine t_g @h ?_
          generalize hd2 : nextD l r 2 = d at *
          obtain ⟨c, q2⟩ := d
          have cn := next_ok (gl := gl) b l r 2 (by decide) (by omega)
          rw [hd2] at cn
          simp only at hR hb2 h2q cn
          by_cases c0 : c = 0
          · rw [if_pos c0] at hR
            have cx := ihn (Ty.mk 1 []) (g) q2 small_nat hg (by omega) h2q
            have fx := (hD (Ty.mk 1 []) (g) q2 small_nat hg h2q).1
            generalize hex : termD l n (Ty.mk 1 []) (g) q2 = rx at cx fx hR
            obtain ⟨x, qx⟩ := rx
            simp only at cx fx hR
            have cy := ihn (t) (g) qx ht hg (by omega) fx
            have fy := (hD (t) (g) qx ht hg fx).1
            generalize hey : termD l n (t) (g) qx = ry at cy fy hR
            obtain ⟨y, qy⟩ := ry
            simp only at cy fy hR
            refine t_c1 (j2 @hz2 @c0) cn ?_
            refine t_g @c0 ?_
            refine t_c4 (j2 @hsub (j2 @nat_v @hfd)) ref01_nat_ok cx cy (ref02_n_ok 8 [x, y]) ?_
            repeat (first | refine W_seq ?_ | refine W_skip ?_ | refine W_block ?_ | refine W_inBlock ?_ | refine W_label ?_ | refine W_exit rfl ?_)
            first | refine W_retR hP hf hfn _ ([(b, deck l qy)]) (by first | (simp [go_sem, hP, hgl, hn, nT]; done) | (simp [go_sem, hP, hgl, hn, nT]; rfl)) (by simp [go_sem, hP, hgl, hn, nT]) (by simp) ?_ hR.2 | refine W_endR hP hf hfn _ ([(b, deck l qy)]) (by first | (simp [go_sem, hP, hgl, hn, nT]; done) | (simp [go_sem, hP, hgl, hn, nT]; rfl)) (by simp [go_sem, hP, hgl, hn, nT]) (by simp) ?_ hR.2
            rw [hR.1]
            refine ⟨?_, by simp [nT]⟩
            try simp [nT]
            try all_goals (simp [Ty.dv, Ty.cells_eq, Ty.kind_mk, Ty.args_mk, Tm.dv, Tm.cells_eq, Tm.kind_mk, Tm.index_mk, Tm.type_mk, Tm.args_mk, Val.dv, Val.cells_eq, Val.kind_mk, Val.num_mk, Val.list_mk, Val.args_mk, ints])
          · rw [if_neg c0] at hR
            refine t_c1 (j2 @hz2 @c0) cn ?_
            refine t_g @c0 ?_
            refine t_c1 trivial (ref02_n_ok 7 []) ?_
            repeat (first | refine W_seq ?_ | refine W_skip ?_ | refine W_block ?_ | refine W_inBlock ?_ | refine W_label ?_ | refine W_exit rfl ?_)
            first | refine W_retR hP hf hfn _ ([(b, deck l q2)]) (by first | (simp [go_sem, hP, hgl, hn, nT]; done) | (simp [go_sem, hP, hgl, hn, nT]; rfl)) (by simp [go_sem, hP, hgl, hn, nT]) (by simp) ?_ hR.2 | refine W_endR hP hf hfn _ ([(b, deck l q2)]) (by first | (simp [go_sem, hP, hgl, hn, nT]; done) | (simp [go_sem, hP, hgl, hn, nT]; rfl)) (by simp [go_sem, hP, hgl, hn, nT]) (by simp) ?_ hR.2
            rw [hR.1]
            refine ⟨?_, by simp [nT]⟩
            try simp [nT]
            try all_goals (simp [Ty.dv, Ty.cells_eq, Ty.kind_mk, Ty.args_mk, Tm.dv, Tm.cells_eq, Tm.kind_mk, Tm.index_mk, Tm.type_mk, Tm.args_mk, Val.dv, Val.cells_eq, Val.kind_mk, Val.num_mk, Val.list_mk, Val.args_mk, ints])
        · rw [if_neg (by omega), if_neg (by omega), if_neg (by omega), if_neg (by omega)] at hR
          refine t_g @h ?_
          refine t_c1 trivial (ref02_n_ok 13 []) ?_
          repeat (first | refine W_seq ?_ | refine W_skip ?_ | refine W_block ?_ | refine W_inBlock ?_ | refine W_label ?_ | refine W_exit rfl ?_)
          first | refine W_retR hP hf hfn _ ([(b, deck l r)]) (by first | (simp [go_sem, hP, hgl, hn, nT]; done) | (simp [go_sem, hP, hgl, hn, nT]; rfl)) (by simp [go_sem, hP, hgl, hn, nT]) (by simp) ?_ hR.2 | refine W_endR hP hf hfn _ ([(b, deck l r)]) (by first | (simp [go_sem, hP, hgl, hn, nT]; done) | (simp [go_sem, hP, hgl, hn, nT]; rfl)) (by simp [go_sem, hP, hgl, hn, nT]) (by simp) ?_ hR.2
          rw [hR.1]
          refine ⟨?_, by simp [nT]⟩
          try simp [nT]
          try all_goals (simp [Ty.dv, Ty.cells_eq, Ty.kind_mk, Ty.args_mk, Tm.dv, Tm.cells_eq, Tm.kind_mk, Tm.index_mk, Tm.type_mk, Tm.args_mk, Val.dv, Val.cells_eq, Val.kind_mk, Val.num_mk, Val.list_mk, Val.args_mk, ints])
        · rw [if_neg (by omega), if_neg (by omega), if_pos h] at hR
          obtain ⟨s0, s1, hc⟩ := ht.arg (.inl h)
          have ha : t.args = [t.arg 0, t.arg 1] := by rw [e]; rfl
          have cx := ihn (t.arg 0) (g) r s0 hg (by omega) hr
          have fx := (hD (t.arg 0) (g) r s0 hg hr).1
          generalize hex : termD l n (t.arg 0) (g) r = rx at cx fx hR
          obtain ⟨x, qx⟩ := rx
          simp only at cx fx hR
          have cy := ihn (t.arg 1) (g) qx s1 hg (by omega) fx
          have fy := (hD (t.arg 1) (g) qx s1 hg fx).1
          generalize hey : termD l n (t.arg 1) (g) qx = ry at cy fy hR
          obtain ⟨y, qy⟩ := ry
          simp only at cy fy hR
          refine t_g @h ?_
          refine t_c3 (j2 @hsub @ha) cx cy (ref02_n_ok 10 [x, y]) ?_
          repeat (first | refine W_seq ?_ | refine W_skip ?_ | refine W_block ?_ | refine W_inBlock ?_ | refine W_label ?_ | refine W_exit rfl ?_)
          first | refine W_retR hP hf hfn _ ([(b, deck l qy)]) (by first | (simp [go_sem, hP, hgl, hn, nT]; done) | (simp [go_sem, hP, hgl, hn, nT]; rfl)) (by simp [go_sem, hP, hgl, hn, nT]) (by simp) ?_ hR.2 | refine W_endR hP hf hfn _ ([(b, deck l qy)]) (by first | (simp [go_sem, hP, hgl, hn, nT]; done) | (simp [go_sem, hP, hgl, hn, nT]; rfl)) (by simp [go_sem, hP, hgl, hn, nT]) (by simp) ?_ hR.2
          rw [hR.1]
          refine ⟨?_, by simp [nT]⟩
          try simp [nT]
          try all_goals (simp [Ty.dv, Ty.cells_eq, Ty.kind_mk, Ty.args_mk, Tm.dv, Tm.cells_eq, Tm.kind_mk, Tm.index_mk, Tm.type_mk, Tm.args_mk, Val.dv, Val.cells_eq, Val.kind_mk, Val.num_mk, Val.list_mk, Val.args_mk, ints])
        · rw [if_neg (by omega), if_neg (by omega), if_neg (by omega), if_pos h] at hR
          obtain ⟨s0, s1, hc⟩ := ht.arg (.inr h)
          have ha : t.args = [t.arg 0, t.arg 1] := by rw [e]; rfl
          have cx := ihn (t.arg 1) (g ++ [t.arg 0]) r s1 (hg1 [t.arg 0] (by simpa using s0)) (by simp; omega) hr
          have fx := (hD (t.arg 1) (g ++ [t.arg 0]) r s1 (hg1 [t.arg 0] (by simpa using s0)) hr).1
          generalize hex : termD l n (t.arg 1) (g ++ [t.arg 0]) r = rx at cx fx hR
          obtain ⟨x, qx⟩ := rx
          simp only at cx fx hR
          refine t_g @h ?_
          refine t_c3 (j2 @hsub @ha) (mk_longer_ok g [t.arg 0] (by simp; omega)) cx (ref02_t_ok 2 (t.arg 0) [x]) ?_
          repeat (first | refine W_seq ?_ | refine W_skip ?_ | refine W_block ?_ | refine W_inBlock ?_ | refine W_label ?_ | refine W_exit rfl ?_)
          first | refine W_retR hP hf hfn _ ([(b, deck l qx)]) (by first | (simp [go_sem, hP, hgl, hn]; done) | (simp [go_sem, hP, hgl, hn]; rfl)) (by simp [go_sem, hP, hgl, hn]) (by simp) ?_ hR.2 | refine W_endR hP hf hfn _ ([(b, deck l qx)]) (by first | (simp [go_sem, hP, hgl, hn]; done) | (simp [go_sem, hP, hgl, hn]; rfl)) (by simp [go_sem, hP, hgl, hn]) (by simp) ?_ hR.2
          rw [hR.1]
          refine ⟨?_, by simp⟩
          try simp
          try all_goals (simp [Ty.dv, Ty.cells_eq, Ty.kind_mk, Ty.args_mk, Tm.dv, Tm.cells_eq, Tm.kind_mk, Tm.index_mk, Tm.type_mk, Tm.args_mk, Val.dv, Val.cells_eq, Val.kind_mk, Val.num_mk, Val.list_mk, Val.args_mk, ints])
  · rw [hpk] at hR
    simp only at hR
    obtain ⟨h0, h1, k, i, hk, hi, rfl, rfl⟩ := pickD_some' hpk
    have hpos : 0 < (varsN g t).length := by omega
    have hpos3 : 0 < (nextD l p 3).1 := by omega
    have hgi := ints_get (l := natI (varsN g t)) (i := k) (n := i) (by simp [natI, hi])
    have hkl := (List.getElem?_eq_some_iff.1 hi).1
    refine t_g0 ?_
    refine t_c1 trivial (mk_vars_ok g t (by omega)) ?_
    refine t_g0 ?_
    refine t_c1 (j2 @natI_len (j2 @hpos @hpos3)) (next_ok b l p 3 (by decide) (by omega)) ?_
    refine t_g @hpos3 ?_
    refine t_c2 (j2 @natI_len (j2 @hk @hgi)) (next_ok b l (nextD l p 3).2 (varsN g t).length (by omega) (by omega)) (ref02_var_ok i) ?_
    repeat (first | refine W_seq ?_ | refine W_skip ?_ | refine W_block ?_ | refine W_inBlock ?_ | refine W_label ?_ | refine W_exit rfl ?_)
    first | refine W_retR hP hf hfn _ ([(b, deck l (nextD l (nextD l p 3).2 (varsN g t).length).2)]) (by first | (simp [go_sem, hP, hgl, hn, vT]; done) | (simp [go_sem, hP, hgl, hn, vT]; rfl)) (by simp [go_sem, hP, hgl, hn, vT]) (by simp) ?_ hR.2 | refine W_endR hP hf hfn _ ([(b, deck l (nextD l (nextD l p 3).2 (varsN g t).length).2)]) (by first | (simp [go_sem, hP, hgl, hn, vT]; done) | (simp [go_sem, hP, hgl, hn, vT]; rfl)) (by simp [go_sem, hP, hgl, hn, vT]) (by simp) ?_ hR.2
    rw [hR.1]
    refine ⟨?_, by simp [vT]⟩
    try simp [vT]
    try all_goals (simp [Ty.dv, Ty.cells_eq, Ty.kind_mk, Ty.args_mk, Tm.dv, Tm.cells_eq, Tm.kind_mk, Tm.index_mk, Tm.type_mk, Tm.args_mk, Val.dv, Val.cells_eq, Val.kind_mk, Val.num_mk, Val.list_mk, Val.args_mk, ints])
end Go.Proofs.YtgfjcbofbbcnmaaDoor.Lift

namespace Go.Proofs.YtgfjcbofbbcnmaaDoor.Lift
set_option linter.unusedSimpArgs false
set_option linter.unusedVariables false
set_option linter.unnecessarySimpa false
open Go
variable {gl : Globs}

theorem types_check_ok (t : Ty) (hc : t.count ≤ 2147483648) : Con1 Tryd.prog gl 67 [t.dv] [] (dint t.checkN) [] := by
  refine t_in Tryd.func67 ?_
  intro X hP hgl hf hfn hn hR hids hfit
  refine t_g0 ?_
  refine t_c1 trivial (checktype_ok t hc) ?_
  refine t_g0 ?_
  refine t_r ?_
  simp [go_sem, hP, hgl, hn] <;> (try omega)

/-! the maker: an object that holds its error -/
end Go.Proofs.YtgfjcbofbbcnmaaDoor.Lift

namespace Go.Proofs.YtgfjcbofbbcnmaaDoor.Lift
set_option linter.unusedSimpArgs false
set_option linter.unusedVariables false
set_option linter.unnecessarySimpa false
open Go
variable {gl : Globs}

/-- a term is as good as it needs be where there is no error -/
def Fine (e : Int) (M : Int) (t : Tm) : Prop := t.count ≤ 268435456 ∧ (e = 0 → t.shape = true ∧ t.idx M)
theorem Fine.mono {e M M' : Int} {t : Tm} (h : Fine e M t) (hM : M ≤ M') : Fine e M' t := ⟨h.1, fun he => ⟨(h.2 he).1, Tm.idx_mono hM (h.2 he).2⟩⟩
theorem Fine.later {e e' M : Int} {t : Tm} (h : Fine e M t) (he : e' = 0 → e = 0) : Fine e' M t := ⟨h.1, fun h' => h.2 (he h')⟩
end Go.Proofs.YtgfjcbofbbcnmaaDoor.Lift

namespace Go.Proofs.YtgfjcbofbbcnmaaDoor.Lift
set_option linter.unusedSimpArgs false
set_option linter.unusedVariables false
set_option linter.unnecessarySimpa false
open Go
variable {gl : Globs}

theorem anyLoc_mapv (d : Nat) (l : List DV) : anyLoc d (l.map SV.v) = false := by
  induction l with
  | nil => rfl
  | cons x r ih => simp [anyLoc, hasLoc, ih]
theorem anyTok_mapv (d : Nat) (l : List DV) : anyTok d (l.map SV.v) = false := by
  induction l with
  | nil => rfl
  | cons x r ih => simp [anyTok, hasTok, ih]
theorem exRow_mapv (k b : Nat) (l : List DV) : exRow k b (l.map SV.v) = l.map SV.v := by
  induction l with
  | nil => rfl
  | cons x r ih => simp only [List.map_cons, exRow, ih]; rfl
attribute [go_sem] anyLoc_mapv anyTok_mapv exRow_mapv

end Go.Proofs.YtgfjcbofbbcnmaaDoor.Lift

namespace Go.Proofs.YtgfjcbofbbcnmaaDoor.Lift
set_option linter.unusedSimpArgs false
set_option linter.unusedVariables false
set_option linter.unnecessarySimpa false
open Go

/-! what is drawn means something -/
def TyQ (t : Ty) (g : List Ty) (x : Tm) : Prop := ∀ (G : List T) (a : T), g = G.map T.ty → t = a.ty → ∃ F : Env G.reverse → a.V, Dn G.reverse x a F

theorem ty_fn_of {s t : Ty} {a : T} (h : Ty.mk 4 [s, t] = a.ty) : ∃ S b, a = .fn S b ∧ s = S.ty ∧ t = b.ty := by
  cases a with
  | fn S b => simp [T.ty] at h; exact ⟨S, b, rfl, h.1, h.2⟩
  | pair S b => simp [T.ty] at h
  | nat => simp [T.ty] at h
  | list => simp [T.ty] at h
  | unit => simp [T.ty] at h
theorem ty_pair_of {s t : Ty} {a : T} (h : Ty.mk 3 [s, t] = a.ty) : ∃ S b, a = .pair S b ∧ s = S.ty ∧ t = b.ty := by
  cases a with
  | pair S b => simp [T.ty] at h; exact ⟨S, b, rfl, h.1, h.2⟩
  | fn S b => simp [T.ty] at h
  | nat => simp [T.ty] at h
  | list => simp [T.ty] at h
  | unit => simp [T.ty] at h
theorem ty_nat_of {a : T} (h : Ty.mk 1 [] = a.ty) : a = .nat := by cases a <;> simp [T.ty] at h ⊢
theorem ty_list_of {a : T} (h : Ty.mk 2 [] = a.ty) : a = .list := by cases a <;> simp [T.ty] at h ⊢
theorem ty_unit_of {a : T} (h : Ty.mk 5 [] = a.ty) : a = .unit := by cases a <;> simp [T.ty] at h ⊢
theorem small_T {s : Ty} (h : s.small) : ∃ S : T, s = S.ty ∧ S.ok ∧ S.size ≤ 15 := by
  obtain ⟨S, rfl⟩ := T.of_shape s h.1
  have := h.2
  rw [T.ty_count] at this
  exact ⟨S, rfl, by unfold T.ok; omega, this⟩
theorem dn_num (Γ : List T) : ∀ n : Nat, ∃ F : Env Γ → T.nat.V, Dn Γ (numTm n) .nat F
  | 0 => ⟨_, .zero⟩
  | n + 1 => by
    obtain ⟨F, h⟩ := dn_num Γ n
    exact ⟨_, .succ h⟩

theorem draw_typed : DrawOK TyQ where
  var g i hi G a hg ht := by
    subst hg
    have hl : i < G.length := by simpa using hi
    obtain ⟨b, hb⟩ : ∃ b, G[G.length - 1 - i]? = some b := ⟨_, List.getElem?_eq_getElem (by omega)⟩
    have hv : varTy (G.map T.ty) i = b.ty := by
      unfold varTy
      rw [List.getD_eq_getElem?_getD, List.length_map, List.getElem?_map, hb]
      rfl
    have hab : a = b := T.ty_inj (by rw [← ht, hv])
    subst hab
    have hr : G.reverse[i]? = some a := by rw [List.getElem?_reverse hl, hb]
    obtain ⟨p, hp⟩ := At.of hr
    exact ⟨p, .var hp⟩
  num g n _ G a hg ht := by
    obtain rfl := ty_nat_of ht
    exact dn_num _ n
  app g s t f x hs ht hf hx G a hg hta := by
    obtain ⟨S, rfl, -⟩ := small_T hs
    obtain ⟨F, h1⟩ := hf G (.fn S a) hg (by rw [hta]; rfl)
    obtain ⟨X, h2⟩ := hx G S hg rfl
    exact ⟨_, .app h1 h2⟩
  lam g s t x hs ht hx G a hg hta := by
    obtain ⟨S, b, rfl, rfl, rfl⟩ := ty_fn_of hta
    obtain ⟨S', e, ho, -⟩ := small_T hs
    obtain rfl := T.ty_inj e
    have := hx (G ++ [S]) b (by rw [hg, List.map_append]; rfl) rfl
    rw [List.reverse_append] at this
    obtain ⟨F, h1⟩ := this
    exact ⟨_, .lam ho h1⟩
  lam2 g s t r x hs ht hr hx G a hg hta := by
    obtain ⟨S, b1, rfl, rfl, hb1⟩ := ty_fn_of hta
    obtain ⟨S2, b, rfl, rfl, rfl⟩ := ty_fn_of hb1
    obtain ⟨_, e, ho, -⟩ := small_T hs
    obtain rfl := T.ty_inj e
    obtain ⟨_, e, ho2, -⟩ := small_T ht
    obtain rfl := T.ty_inj e
    have := hx (G ++ [S, S2]) b (by rw [hg, List.map_append]; rfl) rfl
    rw [List.reverse_append] at this
    obtain ⟨F, h1⟩ := this
    exact ⟨_, .lam ho (.lam ho2 h1)⟩
  lam3 g s t u r x hs ht hu hr hx G a hg hta := by
    obtain ⟨S, b1, rfl, rfl, hb1⟩ := ty_fn_of hta
    obtain ⟨S2, b2, rfl, rfl, hb2⟩ := ty_fn_of hb1
    obtain ⟨S3, b, rfl, rfl, rfl⟩ := ty_fn_of hb2
    obtain ⟨_, e, ho, -⟩ := small_T hs
    obtain rfl := T.ty_inj e
    obtain ⟨_, e, ho2, -⟩ := small_T ht
    obtain rfl := T.ty_inj e
    obtain ⟨_, e, ho3, -⟩ := small_T hu
    obtain rfl := T.ty_inj e
    have := hx (G ++ [S, S2, S3]) b (by rw [hg, List.map_append]; rfl) rfl
    rw [List.reverse_append] at this
    obtain ⟨F, h1⟩ := this
    exact ⟨_, .lam ho (.lam ho2 (.lam ho3 h1))⟩
  pair g s t x y hs ht hx hy G a hg hta := by
    obtain ⟨S, b, rfl, rfl, rfl⟩ := ty_pair_of hta
    obtain ⟨F, h1⟩ := hx G S hg rfl
    obtain ⟨X, h2⟩ := hy G b hg rfl
    exact ⟨_, .pair h1 h2⟩
  fst g s t x hs ht hx G a hg hta := by
    obtain ⟨S, rfl, -⟩ := small_T ht
    obtain ⟨F, h1⟩ := hx G (.pair a S) hg (by rw [hta]; rfl)
    exact ⟨_, .fst h1⟩
  snd g s t x hs ht hx G a hg hta := by
    obtain ⟨S, rfl, -⟩ := small_T hs
    obtain ⟨F, h1⟩ := hx G (.pair S a) hg (by rw [hta]; rfl)
    exact ⟨_, .snd h1⟩
  rc g t x f n ht hx hf hn G a hg hta := by
    subst hta
    obtain ⟨_, e, ho, -⟩ := small_T ht
    obtain rfl := T.ty_inj e
    obtain ⟨B, h1⟩ := hx G a hg rfl
    obtain ⟨F, h2⟩ := hf G (.fn .nat (.fn a a)) hg rfl
    obtain ⟨N, h3⟩ := hn G .nat hg rfl
    exact ⟨_, .rc ho h1 h2 h3⟩
  fold g t x f n ht hx hf hn G a hg hta := by
    subst hta
    obtain ⟨_, e, ho, -⟩ := small_T ht
    obtain rfl := T.ty_inj e
    obtain ⟨B, h1⟩ := hx G a hg rfl
    obtain ⟨F, h2⟩ := hf G (.fn .nat (.fn .list (.fn a a))) hg rfl
    obtain ⟨N, h3⟩ := hn G .list hg rfl
    exact ⟨_, .fold ho h1 h2 h3⟩
  succ g x hx G a hg hta := by
    obtain rfl := ty_nat_of hta
    obtain ⟨F, h1⟩ := hx G .nat hg rfl
    exact ⟨_, .succ h1⟩
  plus g x y hx hy G a hg hta := by
    obtain rfl := ty_nat_of hta
    obtain ⟨F, h1⟩ := hx G .nat hg rfl
    obtain ⟨X, h2⟩ := hy G .nat hg rfl
    exact ⟨_, .app (.app (dn_plus _) h1) h2⟩
  sub g x y hx hy G a hg hta := by
    obtain rfl := ty_nat_of hta
    obtain ⟨F, h1⟩ := hx G .nat hg rfl
    obtain ⟨X, h2⟩ := hy G .nat hg rfl
    exact ⟨_, .app (.app (dn_sub _) h1) h2⟩
  nil g G a hg hta := by
    obtain rfl := ty_list_of hta
    exact ⟨_, .nil⟩
  cons g x y hx hy G a hg hta := by
    obtain rfl := ty_list_of hta
    obtain ⟨F, h1⟩ := hx G .nat hg rfl
    obtain ⟨X, h2⟩ := hy G .list hg rfl
    exact ⟨_, .cons h1 h2⟩
  unit g G a hg hta := by
    obtain rfl := ty_unit_of hta
    exact ⟨_, .unit⟩

theorem termD_dn (l : List Int) (n : Nat) {t : Ty} {g : List Ty} {p : Nat} (ht : t.small) (hg : ∀ x ∈ g, x.small) (hp : p ≤ l.length) {G : List T} {a : T} (eg : g = G.map T.ty) (et : t = a.ty) :
    ∃ F : Env G.reverse → a.V, Dn G.reverse (termD l n t g p).1 a F := (termD_facts draw_typed n t g p ht hg hp).2 G a eg et

end Go.Proofs.YtgfjcbofbbcnmaaDoor.Lift

/-
  Plain law: a machine that evaluates terms and counts its work; it returns what is denoted.
-/
namespace Go.Proofs.YtgfjcbofbbcnmaaDoor.Lift
set_option linter.unusedSimpArgs false
set_option linter.unusedVariables false
set_option linter.unnecessarySimpa false
open Go

/-- a value of a machine -/
inductive MV where
  | num (n : Nat)
  | list (l : List Nat)
  | both (a b : MV)
  | unit
  | clo (b : Tm) (e : List MV)

abbrev Evl := Tm → List MV → Option (MV × Nat)

/-- some terms, one after the other -/
def allC (ev : Evl) : List Tm → List MV → Option (List MV × Nat)
  | [], _ => some ([], 0)
  | t :: r, e => match ev t e with
    | none => none
    | some (v, c) => match allC ev r e with
      | none => none
      | some (l, c') => some (v :: l, c + c')
/-- a closure called with some values -/
def callC (ev : Evl) : MV → List MV → Option (MV × Nat)
  | f, [] => some (f, 0)
  | .clo b e, a :: r => match ev b (a :: e) with
    | none => none
    | some (v, c) => match callC ev v r with
      | none => none
      | some (w, c') => some (w, c + c')
  | _, _ => none
/-- n rounds from k on -/
def recC (ev : Evl) (f : MV) : Nat → Nat → MV → Option (MV × Nat)
  | 0, _, r => some (r, 0)
  | n + 1, k, r => match callC ev f [.num k, r] with
    | none => none
    | some (r', c) => match recC ev f n (k + 1) r' with
      | none => none
      | some (w, c') => some (w, c + c')
/-- through a list, from its end -/
def foldC (ev : Evl) (f : MV) (r : MV) : List Nat → Option (MV × Nat)
  | [] => some (r, 0)
  | x :: l => match foldC ev f r l with
    | none => none
    | some (r', c) => match callC ev f [.num x, .list l, r'] with
      | none => none
      | some (w, c') => some (w, c + c')
/-- a node whose parts have values -/
def nodeC (ev : Evl) (k : Int) (l : List MV) : Option (MV × Nat) :=
  if k = 3 then match l with
    | [f, x] => callC ev f [x]
    | _ => none
  else if k = 4 then some (.num 0, 0)
  else if k = 5 then match l with
    | [.num n] => some (.num (n + 1), 0)
    | _ => none
  else if k = 6 then match l with
    | [b, f, .num n] => recC ev f n 0 b
    | _ => none
  else if k = 7 then some (.list [], 0)
  else if k = 8 then match l with
    | [.num n, .list m] => some (.list (n :: m), 0)
    | _ => none
  else if k = 9 then match l with
    | [b, f, .list m] => foldC ev f b m
    | _ => none
  else if k = 10 then match l with
    | [x, y] => some (.both x y, 0)
    | _ => none
  else if k = 11 then match l with
    | [.both x _] => some (x, 0)
    | _ => none
  else if k = 12 then match l with
    | [.both _ y] => some (y, 0)
    | _ => none
  else some (.unit, 0)
/-- a term below some values, to a depth: its value and the work -/
def evC : Nat → Tm → List MV → Option (MV × Nat)
  | 0, _, _ => none
  | d + 1, t, e =>
    if t.kind = 1 then some (e.getD t.index.toNat .unit, 1)
    else if t.kind = 2 then some (.clo (t.argN 0) e, 1)
    else match allC (evC d) t.args e with
      | none => none
      | some (l, c) => match nodeC (evC d) t.kind l with
        | none => none
        | some (v, c') => some (v, 1 + c + c')

/-- what a value of a machine is a value of -/
def Rl : (a : T) → MV → a.V → Prop
  | .nat, v, n => v = .num n
  | .list, v, l => v = .list l
  | .unit, v, _ => v = .unit
  | .pair a b, v, p => ∃ x y, v = .both x y ∧ Rl a x p.1 ∧ Rl b y p.2
  | .fn a b, v, f => ∃ body e, v = .clo body e ∧ ∀ (x : MV) (y : a.V), Rl a x y → ∀ (d : Nat) (r : MV) (c : Nat), evC d body (x :: e) = some (r, c) → Rl b r (f y)

/-- the values of the variables -/
def RlE : (Γ : List T) → List MV → Env Γ → Prop
  | [], e, _ => e = []
  | a :: Γ, e, ρ => ∃ x r, e = x :: r ∧ Rl a x ρ.1 ∧ RlE Γ r ρ.2

theorem RlE.get {Γ : List T} {i : Nat} {a : T} {p : Env Γ → a.V} (h : At Γ i a p) : ∀ {e : List MV} {ρ : Env Γ}, RlE Γ e ρ → Rl a (e.getD i .unit) (p ρ) := by
  induction h with
  | zero => rintro e ρ ⟨x, r, rfl, h1, h2⟩; exact h1
  | succ h ih => rintro e ρ ⟨x, r, rfl, h1, h2⟩; simpa using ih h2

theorem natRec_range {α : Type} (b : α) (f : Nat → α → α) : ∀ n : Nat, natRec b f n = (List.range' 0 n).foldl (fun r i => f i r) b
  | 0 => rfl
  | n + 1 => by
    rw [List.range'_1_concat, List.foldl_append, ← natRec_range b f n]
    simp [natRec]
end Go.Proofs.YtgfjcbofbbcnmaaDoor.Lift

namespace Go.Proofs.YtgfjcbofbbcnmaaDoor.Lift
set_option linter.unusedSimpArgs false
set_option linter.unusedVariables false
set_option linter.unnecessarySimpa false
open Go

/-- what a run of the second form's machine leaves: a value, the work used so far, and whether the work is out; none: stuck -/
abbrev Rn := Option (MV × Int × Bool)
end Go.Proofs.YtgfjcbofbbcnmaaDoor.Lift

namespace Go.Proofs.YtgfjcbofbbcnmaaDoor.Lift
set_option linter.unusedSimpArgs false
set_option linter.unusedVariables false
set_option linter.unnecessarySimpa false
open Go

/-! the second form's machine on typed terms: it is never stuck, and returns what is denoted -/

mutual
/-- a machine's value has a type and a meaning -/
inductive MVT : (a : T) → MV → a.V → Prop
  | num (n : Nat) : MVT .nat (.num n) n
  | list (l : List Nat) : MVT .list (.list l) l
  | unit : MVT .unit .unit ()
  | both {a b : T} {x y : MV} {X : a.V} {Y : b.V} (hx : MVT a x X) (hy : MVT b y Y) : MVT (.pair a b) (.both x y) (X, Y)
  | clo {Γ : List T} {a r : T} {b : Tm} {f : Env (a :: Γ) → r.V} {e : List MV} {ρ : Env Γ} (he : MVE Γ e ρ) (hb : Dn (a :: Γ) b r f) : MVT (.fn a r) (.clo b e) (fun x => f (x, ρ))
inductive MVE : (Γ : List T) → List MV → Env Γ → Prop
  | nil : MVE [] [] ()
  | cons {Γ : List T} {a : T} {x : MV} {X : a.V} {e : List MV} {ρ : Env Γ} (h : MVT a x X) (k : MVE Γ e ρ) : MVE (a :: Γ) (x :: e) (X, ρ)
end

theorem MVE.get {Γ : List T} {i : Nat} {a : T} {p : Env Γ → a.V} (h : At Γ i a p) : ∀ {e : List MV} {ρ : Env Γ}, MVE Γ e ρ → ∃ x, e[i]? = some x ∧ MVT a x (p ρ) := by
  induction h with
  | zero => intro e ρ he; cases he with | cons h k => exact ⟨_, rfl, h⟩
  | succ h ih => intro e ρ he; cases he with | cons h k => obtain ⟨x, e1, e2⟩ := ih k; exact ⟨x, by simpa using e1, e2⟩
/-- a run is not stuck; when the work is not out it leaves a value of the kind that is told -/
def Out (most : Int) (P : MV → Prop) (u : Int) (r : Rn) : Prop := ∃ v u' o, r = some (v, u', o) ∧ u ≤ u' ∧ u' ≤ most ∧ (o = false → P v)
theorem Out.mono {most u u0 : Int} {P Q : MV → Prop} {r : Rn} (h : Out most P u r) (hu : u0 ≤ u) (hq : ∀ v, P v → Q v) : Out most Q u0 r := by
  obtain ⟨v, u', o, h1, h2, h3, h4⟩ := h
  exact ⟨v, u', o, h1, by omega, h3, fun h => hq v (h4 h)⟩

end Go.Proofs.YtgfjcbofbbcnmaaDoor.Lift

namespace Go.Proofs.YtgfjcbofbbcnmaaDoor.Lift
set_option linter.unusedSimpArgs false
set_option linter.unusedVariables false
set_option linter.unnecessarySimpa false
open Go

/-! how large the values of the second form's machine grow -/

mutual
def MV.le (n : Int) : MV → Prop
  | .num k => (k : Int) ≤ n
  | .list l => (l.length : Int) ≤ n ∧ ∀ x ∈ l, (x : Int) ≤ n
  | .both a b => MV.le n a ∧ MV.le n b
  | .unit => True
  | .clo _ e => (e.length : Int) ≤ n ∧ MV.les n e
def MV.les (n : Int) : List MV → Prop
  | [] => True
  | x :: r => MV.le n x ∧ MV.les n r
end
end Go.Proofs.YtgfjcbofbbcnmaaDoor.Lift

namespace Go.Proofs.YtgfjcbofbbcnmaaDoor.Lift
set_option linter.unusedSimpArgs false
set_option linter.unusedVariables false
set_option linter.unnecessarySimpa false
open Go
variable {gl : Globs}

/-! the results of the second form's machine as data -/

mutual
def MV.cells : MV → List DV
  | .num n => [dint (n : Int), .sl [], .sl [], dint 0, dint 0, dint 0, .sl [], .sl [], .sl []]
  | .list l => [dint 0, .sl (ints (l.map Int.ofNat)), .sl [], dint 0, dint 0, dint 0, .sl [], .sl [], .sl []]
  | .both a b => [dint 0, .sl [], .sl [MV.cells a, MV.cells b], dint 0, dint 0, dint 0, .sl [], .sl [], .sl []]
  | .unit => [dint 0, .sl [], .sl [], dint 0, dint 0, dint 0, .sl [], .sl [], .sl []]
  | .clo b e => [dint 0, .sl [], .sl [], dint b.kind, dint b.index, dint b.type.kind, .sl (List.map Ty.cells b.type.args), .sl (List.map Tm.cells b.args), .sl (MV.cellss e).reverse]
def MV.cellss : List MV → List (List DV)
  | [] => []
  | x :: r => MV.cells x :: MV.cellss r
end
namespace MV
set_option linter.unusedSimpArgs false
set_option linter.unusedVariables false
set_option linter.unnecessarySimpa false
theorem cellss_map : ∀ l : List MV, cellss l = l.map cells
  | [] => rfl
  | x :: r => by simp only [cellss, List.map_cons, cellss_map r]
def numF : MV → Int | .num n => n | _ => 0
def listF : MV → List Int | .list l => l.map Int.ofNat | _ => []
def pairF : MV → List MV | .both a b => [a, b] | _ => []
def bodyF : MV → Tm | .clo b _ => b | _ => zeroTm
def envF : MV → List MV | .clo _ e => e.reverse | _ => []
theorem cells_eq (v : MV) : v.cells = [dint v.numF, .sl (ints v.listF), .sl (v.pairF.map cells), dint v.bodyF.kind, dint v.bodyF.index, dint v.bodyF.type.kind, .sl (v.bodyF.type.args.map Ty.cells), .sl (v.bodyF.args.map Tm.cells), .sl (v.envF.map cells)] := by
  cases v with
  | num n => rfl
  | list l => rfl
  | both a b => simp only [cells, numF, listF, pairF, bodyF, envF]; rfl
  | unit => rfl
  | clo b e => simp only [cells, numF, listF, pairF, bodyF, envF, cellss_map, List.map_reverse]; rfl
def dv (v : MV) : DV := .agg v.cells
theorem fold (v : MV) : DV.agg [dint v.numF, .sl (ints v.listF), .sl (v.pairF.map cells), dint v.bodyF.kind, dint v.bodyF.index, dint v.bodyF.type.kind, .sl (v.bodyF.type.args.map Ty.cells), .sl (v.bodyF.args.map Tm.cells), .sl (v.envF.map cells)] = v.dv := by rw [dv, cells_eq]
theorem cellsD_dv (v : MV) : cellsD v.dv = [dint v.numF, .sl (ints v.listF), .sl (v.pairF.map cells), dint v.bodyF.kind, dint v.bodyF.index, dint v.bodyF.type.kind, .sl (v.bodyF.type.args.map Ty.cells), .sl (v.bodyF.args.map Tm.cells), .sl (v.envF.map cells)] := by rw [dv, cellsD, cells_eq]
theorem isCell_dv (v : MV) : v.dv.isCell = false := rfl
theorem isAgg_dv (v : MV) : v.dv.isAgg = true := rfl
theorem length_cells (v : MV) : v.cells.length = 9 := by rw [cells_eq]; rfl
theorem wide (l : List MV) : (∀ e ∈ List.map cells l, e.length = 9) = True := by simp [length_cells]
theorem numF_num (n : Nat) : (MV.num n).numF = n := rfl
theorem listF_list (l : List Nat) : (MV.list l).listF = l.map Int.ofNat := rfl
theorem pairF_both (a b : MV) : (MV.both a b).pairF = [a, b] := rfl
theorem bodyF_clo (b : Tm) (e : List MV) : (MV.clo b e).bodyF = b := rfl
theorem envF_clo (b : Tm) (e : List MV) : (MV.clo b e).envF = e.reverse := rfl
end MV
attribute [go_sem] MV.cells_eq MV.fold MV.cellsD_dv MV.isCell_dv MV.isAgg_dv MV.wide MV.numF_num MV.listF_list MV.pairF_both MV.bodyF_clo MV.envF_clo

end Go.Proofs.YtgfjcbofbbcnmaaDoor.Lift

namespace Go.Proofs.YtgfjcbofbbcnmaaDoor.Lift
set_option linter.unusedSimpArgs false
set_option linter.unusedVariables false
set_option linter.unnecessarySimpa false
open Go
variable {gl : Globs}

/-! types without functions; values of the machine read back and given -/

theorem T.ty_fn (a b : T) : (T.fn a b).ty = Ty.mk 4 [a.ty, b.ty] := rfl

/-- a plain value as one of the machine -/
def ofM : (a : T) → a.V → MV
  | .nat, n => .num n
  | .list, l => .list l
  | .unit, _ => .unit
  | .pair a b, p => .both (ofM a p.1) (ofM b p.2)
  | .fn _ _, _ => .unit
theorem valOf_pair {a b : T} (p : (T.pair a b).V) : valOf (.pair a b) p = Val.mk 3 0 [] [valOf a p.1, valOf b p.2] := rfl
end Go.Proofs.YtgfjcbofbbcnmaaDoor.Lift

namespace Go.Proofs.YtgfjcbofbbcnmaaDoor.Lift
set_option linter.unusedSimpArgs false
set_option linter.unusedVariables false
set_option linter.unnecessarySimpa false
open Go
variable {gl : Globs}

theorem MV.fit_list {v : MV} (h : v.dv.fit) : v.listF.length ≤ 2147483648 := by
  rw [MV.dv, MV.cells_eq] at h
  simp only [DV.fit, DV.fit.fits, ints_length, BIG] at h
  exact h.2.1.1
end Go.Proofs.YtgfjcbofbbcnmaaDoor.Lift

namespace Go.Proofs.YtgfjcbofbbcnmaaDoor.Lift
set_option linter.unusedSimpArgs false
set_option linter.unusedVariables false
set_option linter.unnecessarySimpa false
open Go

/-! closed functions of several plain arguments, and what a call of them leaves -/

def FnT : List T → T → T
  | [], r => r
  | a :: l, r => .fn a (FnT l r)
def appl : (l : List T) → {r : T} → (FnT l r).V → Env l → r.V
  | [], _, f, _ => f
  | _ :: l, _, f, e => appl l (f e.1) e.2
def valsOf : (l : List T) → Env l → List Val
  | [], _ => []
  | a :: l, e => valOf a e.1 :: valsOf l e.2
def mvsOf : (l : List T) → Env l → List MV
  | [], _ => []
  | a :: l, e => ofM a e.1 :: mvsOf l e.2
def Plains : List T → Prop
  | [] => True
  | a :: l => a.plain ∧ a.ok ∧ Plains l

theorem valsOf_len : ∀ (l : List T) (X : Env l), (valsOf l X).length = l.length
  | [], _ => rfl
  | a :: l, X => by simp only [valsOf, List.length_cons, valsOf_len l X.2]
theorem mvsOf_len : ∀ (l : List T) (X : Env l), (mvsOf l X).length = l.length
  | [], _ => rfl
  | a :: l, X => by simp only [mvsOf, List.length_cons, mvsOf_len l X.2]
theorem args_at {r : T} : ∀ (l : List T) (X : Env l) (i : Nat), i < l.length → Plains l → ∃ (a : T) (x : a.V), (valsOf l X)[i]? = some (valOf a x) ∧ (mvsOf l X)[i]? = some (ofM a x) ∧ FnT (l.drop i) r = .fn a (FnT (l.drop (i + 1)) r) ∧ a.plain ∧ a.ok
  | [], X, i, h, _ => absurd h (Nat.not_lt_zero _)
  | a :: l, X, 0, h, hp => ⟨a, X.1, rfl, rfl, rfl, hp.1, hp.2.1⟩
  | a :: l, X, i + 1, h, hp => by
    obtain ⟨b, x, h1, h2, h3, h4⟩ := args_at (r := r) l X.2 i (by simpa using h) hp.2.2
    exact ⟨b, x, by simpa [valsOf] using h1, by simpa [mvsOf] using h2, by simpa using h3, h4⟩

theorem valOf_check {a : T} (x : a.V) (hp : a.plain) (hs : a.ok) : (valOf a x).checkN = 0 := by
  obtain ⟨v1, v2⟩ := valOf_nodes a x hp
  have hs : a.size ≤ 64 := hs
  unfold Val.checkN
  rw [if_pos v1, if_neg (by rw [Val.nodes_count _ v1]; omega)]
theorem valOf_ty : ∀ (a : T) (x : a.V), a.plain → (valOf a x).tyN = a.ty
  | .nat, n, _ => by rw [Val.tyN_eq]; rfl
  | .list, l, _ => by rw [Val.tyN_eq]; rfl
  | .unit, _, _ => by rw [Val.tyN_eq]; rfl
  | .pair a b, p, h => by
    rw [Val.tyN_eq, valOf_pair]
    simp only [Val.kind, Val.args, List.map_cons, List.map_nil, valOf_ty a p.1 h.1, valOf_ty b p.2 h.2]
    rfl
  | .fn _ _, _, h => h.elim
theorem valOf_typeE {a : T} (x : a.V) (hp : a.plain) (hs : a.ok) : (valOf a x).typeE = (a.ty, 0) := by
  unfold Val.typeE
  rw [valOf_check x hp hs, valOf_ty a x hp]
  rfl

end Go.Proofs.YtgfjcbofbbcnmaaDoor.Lift

namespace Go.Proofs.YtgfjcbofbbcnmaaDoor.Lift
set_option linter.unusedSimpArgs false
set_option linter.unusedVariables false
set_option linter.unnecessarySimpa false
open Go
variable {gl : Globs}

def stepR (n x : Int) : Int := min (n + min x 4096 + 2) 4097
theorem stepR_full (l : List Int) (h : ∀ x ∈ l, 0 ≤ x) : l.foldl stepR 4097 = 4097 := by
  induction l with
  | nil => rfl
  | cons x r ih =>
    have hx := h x (by simp)
    have : stepR 4097 x = 4097 := by unfold stepR; omega
    rw [List.foldl_cons, this, ih fun y hy => h y (by simp [hy])]
theorem lenL_fold (l : List Int) (h : ∀ x ∈ l, 0 ≤ x) (n : Int) (hn : n ≤ 4096) : l.foldl stepR n = min (lenL l n).1 4097 := by
  induction l generalizing n with
  | nil => simp only [lenL, List.foldl_nil]; omega
  | cons x r ih =>
    have hx := h x (by simp)
    have hr : ∀ y ∈ r, 0 ≤ y := fun y hy => h y (by simp [hy])
    have hs : sizeI x = min x 4096 + 1 := rfl
    rw [List.foldl_cons, lenL]
    split
    · rename_i h1
      have : stepR n x = 4097 := by unfold stepR; omega
      rw [this, stepR_full r hr]
      simp only
      omega
    · rename_i h1
      have : stepR n x = n + (1 + sizeI x) := by unfold stepR; omega
      rw [this]
      exact ih hr _ (by omega)
theorem foldR_bd (l : List Int) (h : ∀ x ∈ l, 0 ≤ x) : ∀ n : Int, 1 ≤ n ∧ n ≤ 4097 → 1 ≤ l.foldl stepR n ∧ l.foldl stepR n ≤ 4097 := by
  induction l with
  | nil => intro n hn; exact hn
  | cons x r ih =>
    intro n hn
    have hx := h x (by simp)
    exact ih (fun y hy => h y (by simp [hy])) _ (by unfold stepR; omega)

theorem Val.okB_of {v : Val} (h : v.nodesN.2 = true) : v.okB = true := by
  cases hq : v.okB with
  | true => rfl
  | false => rw [Val.nodes_bad hq] at h; cases h

set_option maxHeartbeats 1000000 in
theorem count5_ok (v : Val) (ht : v.nodesN.2 = true) : Con1 Tryd.prog gl 38 [v.dv] [] (dint (min v.lengthN 4097)) [] := by
  induction v using Val.ind with
  | h v ih =>
  refine t_in Tryd.func38 ?_
  intro X hP hgl hf hfn hn hR hids hfit
  have hl2 := Val.fit_list (hfit v.dv (by simp))
  have hfl : ∀ x ∈ v.list, intOK .i64 x := ((Val.fit_eq v).1 ((Val.dv_fit v).1 (hfit v.dv (by simp)))).2.2.1.2
  have hnf : intOK .i64 v.num := ((Val.fit_eq v).1 ((Val.dv_fit v).1 (hfit v.dv (by simp)))).2.1
  rw [intOK_i64] at hnf
  rcases Val.okB_kind (Val.okB_of ht) with ⟨h, h0, hl, ha⟩ | ⟨h, -, h0, ha⟩ | ⟨h, -, -, a, b, hab⟩ | ⟨h, -, hl, ha⟩
  · have he : min v.lengthN 4097 = min (min v.num 4096 + 1) 4097 := by rw [Val.lengthN_eq, if_pos h, ha]; rfl
    refine t_g @h ?_
    refine t_r ?_
    simp [go_sem, hP, hgl, hn, he] <;> (try omega)
  · have he : min v.lengthN 4097 = v.list.foldl stepR 1 := by
      rw [lenL_fold v.list h0 1 (by decide), Val.lengthN_eq, if_neg (by omega), if_pos h, ha]
      split <;> rfl
    have hb := foldR_bd v.list h0 1 (by decide)
    refine t_g @h ?_
    refine t_a ?_
    refine W_sub [] (by simp [go_sem]) (by simp [go_sem, List.foldl_nil] <;> omega) (by simp [go_sem]) (W_list (v.list) (fun done rest => [(.slot 19, .one (.v (dint done.length))), (.slot 18, .one (.v (dint v.list.length))), (.slot 17, .one (.v (.sl (ints v.list)))), (.slot 3, .one (.v (dint (done.foldl stepR 1)))), (.slot 7, .one (.v (dint v.kind))), (.slot 2, .one (.v (dint 0))), (.slot 1, .one (.loc 1 0)), (.loc 1, .row ([.v (dint v.kind), .v (dint v.num), .v (.sl (ints v.list)), .v (.sl (v.args.map Val.cells))]))]) ?_ ?_)
    · intro done x rest hL hg0 hnext
      have hlt : done.length < v.list.length := by rw [hL]; simp
      have hxm := List.mem_of_getElem? hg0
      have hx0 := h0 x hxm
      have hx1 := hfl x hxm
      rw [intOK_i64] at hx1
      have hdb := foldR_bd done (fun y hy => h0 y (by rw [hL]; simp [hy])) 1 (by decide)
      have hgi := ints_get hg0
      have hfo : (done ++ [x]).foldl stepR 1 = min (done.foldl stepR 1 + min x 4096 + 2) 4097 := by rw [List.foldl_append]; rfl
      refine t_rg0 ?_
      refine t_yes ?_
      refine t_gt (wr []) @hfo @hgi hnext
    · refine t_rg0 ?_
      refine t_no ?_
      refine t_g0 ?_
      have hm : min (v.list.foldl stepR 1) 4097 = v.list.foldl stepR 1 := by omega
      refine t_r ?_
      simp [go_sem, hP, hgl, hn, he, hm] <;> (try omega)
  · have hv := Val.nodes_pair hab
    rw [ht] at hv
    simp at hv
    have hla := Val.length_le a (a.ok_all hv.2.1).1
    have hlb := Val.length_le b (b.ok_all hv.2.2).1
    have he : min v.lengthN 4097 = min (min a.lengthN 4097 + min b.lengthN 4097 + 1) 4097 := by
      rw [Val.lengthN_eq, if_neg (by omega), if_neg (by omega), hab]
      simp only [Val.lengthN.lengths]
      omega
    refine t_g @h ?_
    refine t_c2 (j2 @h @hab) (ih a (by rw [hab]; simp) hv.2.1) (ih b (by rw [hab]; simp) hv.2.2) ?_
    refine t_g0 ?_
    refine t_r ?_
    simp [go_sem, hP, hgl, hn, he] <;> (try omega)
  · have he : v.lengthN = 1 := by rw [Val.lengthN_eq, if_neg (by omega), if_neg (by omega), ha]; rfl
    refine t_g @h ?_
    refine t_r ?_
    simp [go_sem, hP, hgl, hn, he] <;> (try omega)

theorem term5_ok (v : Val) (ht : v.nodesN.2 = true) : Con1 Tryd.prog gl 39 [v.dv] [] v.termN.dv [] := by
  induction v using Val.ind with
  | h v ih =>
  refine t_in Tryd.func39 ?_
  intro X hP hgl hf hfn hn hR hids hfit
  have hl2 := Val.fit_list (hfit v.dv (by simp))
  rw [Val.termN_eq] at hR
  rcases Val.okB_kind (Val.okB_of ht) with ⟨h, h0, hl, ha⟩ | ⟨h, -, h0, ha⟩ | ⟨h, -, -, a, b, hab⟩ | ⟨h, -, hl, ha⟩
  · rw [if_neg (by omega), if_neg (by omega), if_neg (by omega)] at hR
    have hc := numeral_ok (gl := gl) v.num.toNat
    rw [Int.toNat_of_nonneg h0] at hc
    refine t_g @h ?_
    refine t_c1 @h hc ?_
    refine t_r ?_
    simp [go_sem, hP, hgl, hn] <;> (try omega)
    all_goals exact t_f
  · rw [if_pos h] at hR
    refine t_g @h ?_
    refine t_c1 trivial (ref02_n_ok 7 []) ?_
    refine t_g0 ?_
    refine t_a ?_
    refine W_sub [] (by simp [go_sem]) (by simp [go_sem, listTm] <;> omega) (by simp [go_sem]) (W_rounds (fun k : Nat => k ≤ v.list.length) (fun k : Nat => [(.slot 4, .one (.v (dint ((k : Int) - 1)))), (.loc 3, .row ((listTm (v.list.drop k)).cells.map .v)), (.slot 3, .one (.loc 3 0)), (.slot 2, .one (.loc 2 0)), (.loc 2, .row ([.v (dint 0), .v (dint 0), .v (dint 0), .own 0 [], .own 0 []])), (.slot 1, .one (.loc 1 0)), (.loc 1, .row ([.v (dint v.kind), .v (dint v.num), .v (.sl (ints v.list)), .v (.sl (v.args.map Val.cells))])), (.slot 6, .one (.v (dint v.kind)))]) (fun k : Nat => k) v.list.length (Nat.le_refl _) ?_)
    intro k hk ihr
    cases k with
    | zero =>
      refine t_g0 ?_
      refine t_r ?_
      simp [go_sem, hP, hgl, hn] <;> (try omega)
      all_goals exact t_f
    | succ k =>
      have hkl : k < v.list.length := by omega
      obtain ⟨x, hx⟩ : ∃ x, v.list[k]? = some x := ⟨_, List.getElem?_eq_getElem hkl⟩
      have hx0 := h0 x (List.mem_of_getElem? hx)
      have hgi := ints_get hx
      have hk1 : ((k + 1 : Nat) : Int) - 1 = (k : Int) := by omega
      have hdr : listTm (v.list.drop k) = Tm.mk 8 0 (Ty.mk 0 []) [numTm x.toNat, listTm (v.list.drop (k + 1))] := by
        rw [List.drop_eq_getElem_cons hkl, ← (List.getElem?_eq_some_iff.1 hx).2]
        rfl
      have hc := numeral_ok (gl := gl) x.toNat
      rw [Int.toNat_of_nonneg hx0] at hc
      have hfd := Tm.fold (listTm (v.list.drop (k + 1)))
      refine t_g @hk1 ?_
      refine t_c1 (j2 @hk1 @hgi) hc ?_
      refine t_gt (wr []) (j2 @hdr @hk1) @hk1 (ihr k (by omega) (by omega))
  · rw [if_neg (by omega), if_neg (by omega), if_pos h] at hR
    have hv := Val.nodes_pair hab
    rw [ht] at hv
    simp at hv
    refine t_g @h ?_
    refine t_c2 (j2 @h @hab) (ih a (by rw [hab]; simp) hv.2.1) (ih b (by rw [hab]; simp) hv.2.2) ?_
    refine t_r ?_
    simp [go_sem, hP, hgl, hn, hab] <;> (try omega)
    all_goals exact t_f
  · rw [if_neg (by omega), if_pos h] at hR
    refine t_g @h ?_
    refine t_c1 trivial (ref02_n_ok 13 []) ?_
    refine t_r ?_
    simp [go_sem, hP, hgl, hn] <;> (try omega)
    all_goals exact t_f

theorem termE5_ok (v : Val) (hc : v.count ≤ 1048576) : Con1 Tryd.prog gl 14 [v.dv] [] (.tup [v.termE.1.dv, dint v.termE.2]) [] := by
  refine t_in Tryd.func14 ?_
  intro X hP hgl hf hfn hn hR hids hfit
  refine t_g0 ?_
  refine t_c1 trivial (check5_ok v (by omega)) ?_
  by_cases h : v.checkN = 0
  · have hok : v.nodesN.2 = true := by
      unfold Val.checkN at h
      split at h
      · assumption
      · cases h
    refine t_g @h ?_
    refine t_c1 trivial (count5_ok v hok) ?_
    by_cases hl : 4096 < v.lengthN
    · have h2 : 4096 < min v.lengthN 4097 := by omega
      refine t_g @h2 ?_
      refine t_r ?_
      simp [go_sem, hP, hgl, hn, Val.termE, h, hl, zeroTm] <;> (try omega)
      all_goals exact t_f
    · have h2 : ¬ 4096 < min v.lengthN 4097 := by omega
      refine t_g @h2 ?_
      refine t_c1 trivial (term5_ok v hok) ?_
      refine t_r ?_
      simp [go_sem, hP, hgl, hn, Val.termE, h, hl] <;> (try omega)
      all_goals exact t_f
  · refine t_g @h ?_
    refine t_r ?_
    simp [go_sem, hP, hgl, hn, Val.termE, h, zeroTm] <;> (try omega)
    all_goals exact t_f

theorem app5_ok (f a b : Tm) : Con1 Tryd.prog gl 52 [f.dv, a.dv, b.dv] [] (appsT f [a, b]).dv [] := by
  refine t_in Tryd.func52 ?_
  intro X hP hgl hf hfn hn hR hids hfit
  refine t_g0 ?_
  refine t_c2 trivial (ref02_n_ok 3 [f, a]) (ref02_n_ok 3 [Tm.mk 3 0 (Ty.mk 0 []) [f, a], b]) ?_
  refine t_r ?_
  simp [go_sem, hP, hgl, hn, appsT, appT] <;> (try omega)
  all_goals exact t_f
theorem times_eq : lamN (lamN (recN (nT 4 []) (lamN (lamN (appsT plusT [vT 0, vT 3]))) (vT 0))) = timesT := rfl
theorem dist_eq : lamN (lamN (appsT plusT [appsT subT [vT 1, vT 0], appsT subT [vT 0, vT 1]])) = distT := rfl
theorem ref05_times_ok : Con1 Tryd.prog gl 20 [] [] timesT.dv [] := by
  refine t_in Tryd.func20 ?_
  intro X hP hgl hf hfn hn hR hids hfit
  refine t_g0 ?_
  refine t_c11 trivial (n5 4 []) ref05_plus_ok (var5 0) (var5 3) (app5_ok plusT (vT 0) (vT 3)) (lam5' (appsT plusT [vT 0, vT 3])) (lam5' (lamN (appsT plusT [vT 0, vT 3]))) (var5 0) (rec5' (nT 4 []) (lamN (lamN (appsT plusT [vT 0, vT 3]))) (vT 0)) (lam5' (recN (nT 4 []) (lamN (lamN (appsT plusT [vT 0, vT 3]))) (vT 0))) (lam5' (lamN (recN (nT 4 []) (lamN (lamN (appsT plusT [vT 0, vT 3]))) (vT 0)))) ?_
  refine t_r ?_
  simp [go_sem, hP, hgl, hn, times_eq] <;> (try omega)
theorem ref05_dist_ok : Con1 Tryd.prog gl 22 [] [] distT.dv [] := by
  refine t_in Tryd.func22 ?_
  intro X hP hgl hf hfn hn hR hids hfit
  refine t_g0 ?_
  refine t_c12 trivial ref05_plus_ok ref05_sub_ok (var5 1) (var5 0) (app5_ok subT (vT 1) (vT 0)) ref05_sub_ok (var5 0) (var5 1) (app5_ok subT (vT 0) (vT 1)) (app5_ok plusT (appsT subT [vT 1, vT 0]) (appsT subT [vT 0, vT 1])) (lam5' (appsT plusT [appsT subT [vT 1, vT 0], appsT subT [vT 0, vT 1]])) (lam5' (lamN (appsT plusT [appsT subT [vT 1, vT 0], appsT subT [vT 0, vT 1]]))) ?_
  refine t_r ?_
  simp [go_sem, hP, hgl, hn, dist_eq] <;> (try omega)
end Go.Proofs.YtgfjcbofbbcnmaaDoor.Lift

namespace Go.Proofs.YtgfjcbofbbcnmaaDoor.Lift
set_option linter.unusedSimpArgs false
set_option linter.unusedVariables false
set_option linter.unnecessarySimpa false
open Go
variable {gl : Globs}

/-! sizes of what is drawn, and of the terms of values -/
theorem shape_tys (t : Tm) (h : t.shape = true) : t.tys := by
  induction t using Tm.ind with
  | h t ih =>
  obtain ⟨-, -, -, h4, h5⟩ := Tm.shape_node h
  rw [Tm.tys_eq]
  refine ⟨?_, fun a ha => ih a ha (h5 a ha)⟩
  split at h4
  · have := h4.2; omega
  · unfold Ty.zero at h4
    simp at h4
    rw [Ty.count_eq, h4.2]
    decide

theorem pickD_count {l : List Int} {t : Ty} {g : List Ty} {p q : Nat} {x : Tm} (h : pickD l t g p = (some x, q)) : x.count = 1 := by
  obtain ⟨i, rfl, -⟩ := pickD_some h
  rfl
theorem numD_count (l : List Int) (p : Nat) : (numD l p).1.count ≤ 3 := by
  have := nextD_bd (l := l) (p := p) (n := 3) (by decide)
  show (numTm _).count ≤ 3
  rw [numTm_count]
  omega
theorem leafD_count (l : List Int) (t : Ty) : t.small → ∀ (g : List Ty) (p : Nat), (leafD l t g p).1.count ≤ 3 * t.count := by
  generalize hn : t.count = n
  induction n using Nat.strongRecOn generalizing t with
  | _ n ih =>
  intro ht g p
  have h1 : 1 ≤ t.count := by rw [Ty.count_eq]; omega
  rw [leafD_eq l t g p ht.ok]
  split
  · rename_i x q hx
    have := pickD_count hx
    simp only; omega
  · rename_i q hx
    have hN := numD_count l q
    rcases small_kinds ht with ⟨h, e⟩ | ⟨h, e⟩ | ⟨h, e⟩ | ⟨h, e⟩ | ⟨h, e⟩
    · rw [if_pos h]; omega
    · rw [if_neg (by omega), if_pos h]; show 1 + 0 ≤ _; omega
    · rw [if_neg (by omega), if_neg (by omega), if_neg (by omega), if_neg (by omega)]; show 1 + 0 ≤ _; omega
    · rw [if_neg (by omega), if_neg (by omega), if_pos h]
      obtain ⟨s0, s1, hc⟩ := ht.arg (.inl h)
      have a := ih _ (by omega) (t.arg 0) rfl s0 g q
      have b := ih _ (by omega) (t.arg 1) rfl s1 g (leafD l (t.arg 0) g q).2
      show 1 + (_ + (_ + 0)) ≤ _
      omega
    · rw [if_neg (by omega), if_neg (by omega), if_neg (by omega), if_pos h]
      obtain ⟨s0, s1, hc⟩ := ht.arg (.inr h)
      have b := ih _ (by omega) (t.arg 1) rfl s1 (g ++ [t.arg 0]) q
      show 1 + (_ + 0) ≤ _
      omega

def Small (l : List Int) (F : Ty → List Ty → Nat → Tm × Nat) (B : Nat) : Prop := ∀ t g p, t.small → (∀ x ∈ g, x.small) → p ≤ l.length → (F t g p).1.count ≤ B
theorem plusT_count : plusT.count = 9 := by decide
theorem subT_count : subT.count ≤ 16 := by decide
theorem app2_count (f x y : Tm) : (appsT f [x, y]).count = 2 + f.count + x.count + y.count := by
  show 1 + ((1 + (f.count + (x.count + 0))) + (y.count + 0)) = _
  omega
theorem endD_count {l : List Int} {F : Ty → List Ty → Nat → Tm × Nat} {B : Nat} (hD : Draws l F (fun _ _ x => x.shape = true)) (hF : Small l F B) : Small l (endD l F) (2 * B + 20) := by
  intro t g q ht hg hq
  have h5 := nextD_le (n := 5) hq
  have h2 := nextD_le (n := 2) hq
  have c1 := hF t g (nextD l q 5).2 ht hg h5
  have d1 := (hD t g (nextD l q 5).2 ht hg h5).1
  have c2 := hF t g _ ht hg d1
  have e1 := hF (Ty.mk 1 []) g (nextD l q 2).2 small_nat hg h2
  have f1 := (hD (Ty.mk 1 []) g (nextD l q 2).2 small_nat hg h2).1
  have e2 := hF t g _ ht hg f1
  have hN := numD_count l (nextD l q 5).2
  have hp := plusT_count
  have hs := subT_count
  unfold endD
  split
  · split
    · show 1 + (_ + 0) ≤ _; omega
    split
    · simp only [app2_count]; omega
    split
    · simp only [app2_count]; omega
    · omega
  split
  · split
    · show 1 + (_ + (_ + 0)) ≤ _; omega
    · show 1 + 0 ≤ _; omega
  split
  · rename_i h
    obtain ⟨s0, s1, -⟩ := ht.arg (.inl h)
    have a1 := hF (t.arg 0) g q s0 hg hq
    have a2 := hF (t.arg 1) g _ s1 hg (hD (t.arg 0) g q s0 hg hq).1
    show 1 + (_ + (_ + 0)) ≤ _; omega
  split
  · rename_i h
    obtain ⟨s0, s1, -⟩ := ht.arg (.inr h)
    have a2 := hF (t.arg 1) (g ++ [t.arg 0]) q s1 (by intro x hx; rcases List.mem_append.1 hx with hx | hx; exact hg x hx; rw [List.mem_singleton.1 hx]; exact s0) hq
    show 1 + (_ + 0) ≤ _; omega
  · show 1 + 0 ≤ _; omega
end Go.Proofs.YtgfjcbofbbcnmaaDoor.Lift

namespace Go.Proofs.YtgfjcbofbbcnmaaDoor.Lift
set_option linter.unusedSimpArgs false
set_option linter.unusedVariables false
set_option linter.unnecessarySimpa false
open Go

/-! functions of plain types with values for them, as they are drawn -/
theorem numsD_T {l : List Int} : ∀ (n p : Nat), ∃ xs : List Nat, (numsD l p n).1 = xs.map Int.ofNat ∧ xs.length = n ∧ ∀ x ∈ xs, x ≤ 3
  | 0, p => ⟨[], rfl, rfl, fun x h => by cases h⟩
  | n + 1, p => by
    obtain ⟨xs, h1, h2, h3⟩ := numsD_T (l := l) n (nextD l p 4).2
    have hb := nextD_bd (l := l) (p := p) (n := 4) (by decide)
    refine ⟨(nextD l p 4).1.toNat :: xs, ?_, by simp [h2], fun x hx => ?_⟩
    · simp only [numsD, List.map_cons, h1]
      congr 1
      show _ = ((nextD l p 4).1.toNat : Int)
      omega
    · rcases List.mem_cons.1 hx with rfl | hx
      · omega
      · exact h3 x hx

theorem mkVal_T (l : List Int) : ∀ (a : T) (p : Nat), a.plain → ∃ x : a.V, (mkVal l a.ty p).1 = valOf a x ∧ (ofM a x).le 5
  | .nat, p, _ => by
    have hb := nextD_bd (l := l) (p := p) (n := 5) (by decide)
    refine ⟨((nextD l p 5).1.toNat : Nat), ?_, ?_⟩
    · rw [mkVal_eq, if_pos (show T.nat.ty.kind = 1 from rfl)]
      show Val.mk 1 _ [] [] = Val.mk 1 ((nextD l p 5).1.toNat : Int) [] []
      rw [show ((nextD l p 5).1.toNat : Int) = (nextD l p 5).1 by omega]
    · show (((nextD l p 5).1.toNat : Nat) : Int) ≤ 5
      omega
  | .list, p, _ => by
    have hb := nextD_bd (l := l) (p := p) (n := 4) (by decide)
    obtain ⟨xs, h1, h2, h3⟩ := numsD_T (l := l) (nextD l p 4).1.toNat (nextD l p 4).2
    refine ⟨xs, ?_, ?_⟩
    · rw [mkVal_eq, if_neg (show ¬ T.list.ty.kind = 1 by decide), if_pos (show T.list.ty.kind = 2 from rfl), h1]
      rfl
    · show (xs.length : Int) ≤ 5 ∧ ∀ x ∈ xs, (x : Int) ≤ 5
      exact ⟨by omega, fun x hx => by have := h3 x hx; omega⟩
  | .unit, p, _ => ⟨(), by rw [mkVal_eq]; rfl, trivial⟩
  | .pair a b, p, h => by
    obtain ⟨x, h1, h2⟩ := mkVal_T l a p h.1
    obtain ⟨y, h3, h4⟩ := mkVal_T l b (mkVal l a.ty p).2 h.2
    refine ⟨(x, y), ?_, ⟨h2, h4⟩⟩
    rw [mkVal_eq, if_neg (show ¬ (T.pair a b).ty.kind = 1 by simp [T.ty, Ty.kind]), if_neg (show ¬ (T.pair a b).ty.kind = 2 by simp [T.ty, Ty.kind]), if_pos (show (T.pair a b).ty.kind = 3 from rfl)]
    show Val.mk 3 0 [] [_, _] = Val.mk 3 0 [] [valOf a x, valOf b y]
    rw [← h1, ← h3]
  | .fn _ _, _, h => h.elim

theorem plainD_T (l : List Int) (p : Nat) : ∃ a : T, (plainD l p).1 = a.ty ∧ a.plain ∧ a.size ≤ 3 := by
  rcases plainD_cases l p with h | h | h | h | h
  · exact ⟨.nat, h, trivial, by decide⟩
  · exact ⟨.list, h, trivial, by decide⟩
  · exact ⟨.unit, h, trivial, by decide⟩
  · exact ⟨.pair .nat .list, h, ⟨trivial, trivial⟩, by decide⟩
  · exact ⟨.pair .nat .nat, h, ⟨trivial, trivial⟩, by decide⟩
theorem small_ty {a : T} (h : a.size ≤ 15) : a.ty.small := ⟨T.ty_shape a, by rw [T.ty_count]; exact h⟩
theorem plainD_le {l : List Int} {p : Nat} (h : p ≤ l.length) : (plainD l p).2 ≤ l.length := nextD_le (n := 6) h

end Go.Proofs.YtgfjcbofbbcnmaaDoor.Lift

/-
  Part W of the small logic: a box whose cells are data from the start (it is never written): its address is a datum.
-/
namespace Go.Proofs.YtgfjcbofbbcnmaaDoor.Lift
set_option linter.unusedSimpArgs false
set_option linter.unusedVariables false
set_option linter.unnecessarySimpa false
open Go
section
variable {X : Ctx} {s : St}

theorem step_boxR {o : Oper} {t : TypeId} {x : Operand} (ho : o.op = .box t x) {d : Nat} (hd : o.dst = some d) (hn : d < X.n) {y : SV} (hy : evl X (get s) x = some y) {cs : List DV} (hc : toDs (cellsS y) = some cs) (hb : cellB cs = true) :
    StepOK X s o (upd s (.slot d) (.one (.v (.ref cs)))) := by
  intro G a w R next Q hK
  have hrow : RowOf G w (cellsS y) (a.eval x).cells := cellsS_sound R.nil (evl_sound R hy)
  obtain ⟨t1, t2⟩ := toDs_get hc
  have hsz : (a.eval x).cells.size = cs.length := by rw [hrow.1, t1]
  refine opIn (by intro c e; rw [ho] at e; cases e) ?_
  simp only [execOp, ho, Instr.box, newVar, newRow, run_newObj, Sem.run_bind, Sem.run_pure, Result.andThen_ok, upn_value, hd]
  have T : Trans X G a w { G with D := withData G.D w.heap.size 0 cs.length } a (w.alloc (.cells (a.eval x).cells t)) (fun _ => False) := trans_data R (hi := cs.length) (by omega) rfl R.nil
  refine hK { G with D := withData G.D w.heap.size 0 cs.length } _ _ (R.setSlot T rfl rfl (fun _ h => h) hn ?_)
  show RV (withData G.D w.heap.size 0 cs.length) _ _ _
  refine .ref cs w.heap.size 0 (fun j => ((a.eval x).cells[j]?).getD undef) ((cellB_iff _).1 hb) (fun j hj => ?_) (fun j hj => .inr ⟨rfl, Nat.zero_le _, by omega⟩) (fun j c hjc => ?_)
  · have hlt : j < (a.eval x).cells.size := by omega
    simp [World.cell?_alloc_new, hlt]
  · obtain ⟨z, hz, hzd⟩ := t2 j c hjc
    have hlt : j < (a.eval x).cells.size := by rw [hsz]; exact (List.getElem?_eq_some_iff.1 hjc).1
    have hr := toD_sound hzd (hrow.2 j z _ hz (Array.getElem?_eq_getElem hlt))
    simp only [Array.getElem?_eq_getElem hlt, Option.getD_some]
    exact hr.mono (fun b o hd => ⟨.inl hd, World.cell?_alloc_lt _ _ _ (R.wf.lt hd)⟩)

theorem vcK_boxR {esc : List Nat} {ops : Array Oper} {l : List Oper} {K : St → Prop} {d : Tmp} {t : TypeId} {x : Operand} {ty : TypeId} {pos : String} {af : Array Edge} {q : Option (Prop × St)} {y : SV} {cs : List DV}
    (hy : evl X (get s) x = some y) (hc : toDs (cellsS y) = some cs) (hb : cellB cs = true) (hn : d < X.n) (hq : q = none)
    (k : vc X esc ops l (upd s (.slot d) (.one (.v (.ref cs)))) K) :
    vcK X esc ops l K ⟨some d, .box t x, ty, pos, af, none⟩ s q := by
  subst hq
  exact VL_step rfl (step_boxR (o := ⟨some d, .box t x, ty, pos, af, none⟩) rfl rfl hn hy hc hb) (vc_sound k)

theorem vcdC_boxR {ops : Array Oper} {s0 : St} {K : St → Prop} {l : List Oper} {k : St → List Ev → Prop} {ev : List Ev} {fp wr : List Loc} {d : Tmp} {t : TypeId} {x : Operand} {ty : TypeId} {pos : String} {af : Array Edge} {q : Option (Prop × St)} {y : SV} {cs : List DV}
    (hk : ∀ s ev, k s ev → VD X ops s0 l s ev K) (hy : evl X (get (restr s fp)) x = some y) (hc : toDs (cellsS y) = some cs) (hb : cellB cs = true) (hn : d < X.n) (hq : q = none)
    (g : vcdD k ev s fp [d] [(.slot d, some (.one (.v (.ref cs))))]) :
    vcdC X ops s0 l K k ⟨some d, .box t x, ty, pos, af, none⟩ ev s fp wr q := by
  subst hq
  show VD X ops s0 _ s ev K
  refine VD_step ⟨fp, _, [d]⟩ (fun s' hs hfr => opOK_of (.inl rfl) ?_) (hk _ _ g)
  exact step_boxR (o := ⟨some d, .box t x, ty, pos, af, none⟩) rfl rfl hn (evl_mono hs hy) hc hb
end
end Go.Proofs.YtgfjcbofbbcnmaaDoor.Lift

/-
  Package machine's values as data, and how a variable's value is found.
-/
namespace Go.Proofs.YtgfjcbofbbcnmaaDoor.Lift
set_option linter.unusedSimpArgs false
set_option linter.unusedVariables false
set_option linter.unnecessarySimpa false
open Go
variable {gl : Globs}

abbrev nilP : DV := .prim (.pointer none)
abbrev nilI : DV := .prim .nilIface
def cellM : List Nat → DV
  | [] => nilP
  | n :: l => .ref [dint (n : Int), cellM l]
mutual
def MV.thing : MV → DV
  | .num n => .iface 3 (dint (n : Int))
  | .list l => .iface 100 (cellM l)
  | .both a b => .iface 106 (.ref [MV.thing a, MV.thing b])
  | .unit => .iface 110 (.agg [])
  | .clo b e => .iface 117 (.ref (b.cells ++ [MV.envM e]))
def MV.envM : List MV → DV
  | [] => nilP
  | v :: e => .ref [MV.thing v, MV.envM e]
end
theorem cellM_cell : ∀ l, (cellM l).isCell = true
  | [] => rfl
  | _ :: _ => rfl
theorem thing_cell (v : MV) : v.thing.isCell = true := by cases v <;> (simp only [MV.thing]; rfl)
theorem envM_cell (e : List MV) : (MV.envM e).isCell = true := by cases e <;> (simp only [MV.envM]; rfl)
theorem cellsD_thing (v : MV) : cellsD v.thing = [v.thing] := by cases v <;> (simp only [MV.thing]; rfl)
theorem cellsD_envM (e : List MV) : cellsD (MV.envM e) = [MV.envM e] := by cases e <;> (simp only [MV.envM]; rfl)
theorem cellsD_cellM (l : List Nat) : cellsD (cellM l) = [cellM l] := by cases l <;> rfl
attribute [go_sem] cellM_cell thing_cell envM_cell cellsD_thing cellsD_envM cellsD_cellM

theorem env_at_ok (e : List MV) (i : Nat) (hi : i < e.length) : Con1 Tryd.prog gl 69 [MV.envM e, dint (i : Int)] [] (e.getD i .unit).thing [] := by
  refine t_in Tryd.func69 ?_
  intro X hP hgl hf hfn hn hR hids hfit
  have h0 : e.drop (i - i) = e := by simp
  have hi1 : intOK .i64 i := hfit (dint i) (by simp)
  rw [intOK_i64] at hi1
  refine t_g0 ?_
  refine t_a ?_
  refine t_sub [] @h0 (W_rounds (fun k : Nat => k ≤ i) (fun k : Nat => [(.slot 0, .one (.v (MV.envM (e.drop (i - k))))), (.slot 1, .one (.v (dint (k : Int)))), (.slot 4, .one (.v nilI))]) (fun k : Nat => k) i (Nat.le_refl i) ?_)
  intro k hk ih
  obtain ⟨v, r, hr⟩ : ∃ v r, e.drop (i - k) = v :: r := by
    cases hq : e.drop (i - k) with
    | nil => have := List.drop_eq_nil_iff.1 hq; omega
    | cons v r => exact ⟨v, r, rfl⟩
  have hE : MV.envM (e.drop (i - k)) = .ref [v.thing, MV.envM r] := by rw [hr, MV.envM]
  cases k with
  | zero =>
    have hv : (e[i]?.getD MV.unit) = v := by
      have := congrArg (fun l => l.head?) hr
      simp only [Nat.sub_zero, List.head?_drop, List.head?_cons] at this
      simp [this]
    rw [Nat.sub_zero] at hE
    refine t_rg0 ?_
    refine t_no ?_
    refine t_g @hE ?_
    refine t_r ?_
    simp [go_sem, hP, hgl, hn, hv] <;> (try omega)
  | succ k =>
    have hd : e.drop (i - k) = r := by
      have h1 : i - k = (i - (k + 1)) + 1 := by omega
      rw [h1, ← List.drop_drop, hr, List.drop_one, List.tail_cons]
    have hk0 : (0 : Int) < (k : Int) + 1 := by omega
    refine t_rg0 ?_
    refine t_yes ?_
    refine t_rg @hE ?_
    refine t_rg0 ?_
    refine t_b ?_
    refine t_sub [] @hd (ih k (by omega) (by omega))
end Go.Proofs.YtgfjcbofbbcnmaaDoor.Lift

/-
  Package machine: a run as a function (with its work), and the walk of a call.
-/
namespace Go.Proofs.YtgfjcbofbbcnmaaDoor.Lift
set_option linter.unusedSimpArgs false
set_option linter.unusedVariables false
set_option linter.unnecessarySimpa false
open Go
variable {gl : Globs}

def nodeS (ev : Evl) (k : Int) (l : List MV) : Option (MV × Nat) := if 3 ≤ k ∧ k ≤ 13 then nodeC ev k l else none
/-- a run to a depth: none where it would be stuck, or deeper -/
def evS : Nat → Evl
  | 0, _, _ => none
  | d + 1, t, e =>
    if t.kind = 1 then if 0 ≤ t.index ∧ t.index.toNat < e.length then some (e.getD t.index.toNat .unit, 1) else none
    else if t.kind = 2 then if t.args.length = 0 then none else some (.clo (t.argN 0) e, 1)
    else if 3 < t.args.length then none
    else match allC (evS d) t.args e with
      | none => none
      | some (l, c) => match nodeS (evS d) t.kind l with
        | none => none
        | some (v, c') => some (v, 1 + c + c')

/-! numbers up to M -/
mutual
def MV.nle (M : Nat) : MV → Prop
  | .num n => n ≤ M
  | .list l => l.length ≤ M ∧ ∀ n ∈ l, n ≤ M
  | .both a b => MV.nle M a ∧ MV.nle M b
  | .unit => True
  | .clo _ e => MV.nles M e
def MV.nles (M : Nat) : List MV → Prop
  | [] => True
  | v :: e => MV.nle M v ∧ MV.nles M e
end

/-- what is told of a work of n where most is the most -/
def outM (most n : Nat) (v : DV) : DV := if n ≤ most then .tup [v, dbool true] else .tup [nilI, dbool false]
def useM (most n : Nat) : List DV := [dint (if n ≤ most then (n : Int) else (most : Int)), dint (most : Int)]

/-- what is asked of a run, to be walked -/
def WalkM (P : Program) (gl : Globs) (fe : FuncId) (most : Nat) (ev : Evl) : Prop :=
  ∀ ⦃t : Tm⦄ ⦃e : List MV⦄ ⦃u : Nat⦄ ⦃v : MV⦄ ⦃c : Nat⦄ (b : Nat) (M : Nat), ev t e = some (v, c) → u ≤ most → M + (most - u) ≤ 1073741824 → MV.nles M e →
    Con1 P gl fe [ptr b, t.dv, MV.envM e] [(b, useM most u)] (outM most (u + c) v.thing) [(b, useM most (u + c))]
def NleM (most : Nat) (ev : Evl) : Prop :=
  ∀ ⦃t : Tm⦄ ⦃e : List MV⦄ ⦃v : MV⦄ ⦃c : Nat⦄ (M : Nat), ev t e = some (v, c) → MV.nles M e → v.nle (M + c)

theorem thing_clo (b : Tm) (e : List MV) : (MV.clo b e).thing = .iface 117 (.ref [dint b.kind, dint b.index, dint b.type.kind, .sl (b.type.args.map Ty.cells), .sl (b.args.map Tm.cells), MV.envM e]) := by
  rw [MV.thing, Tm.cells_eq]; rfl
theorem envM_cons (v : MV) (e : List MV) : MV.envM (v :: e) = .ref [v.thing, MV.envM e] := by rw [MV.envM]

mutual
theorem MV.nle_mono {M N : Nat} (h : M ≤ N) : ∀ v : MV, v.nle M → v.nle N
  | .num n, k => by simp only [MV.nle] at k ⊢; omega
  | .list l, k => by simp only [MV.nle] at k ⊢; exact ⟨Nat.le_trans k.1 h, fun n hn => Nat.le_trans (k.2 n hn) h⟩
  | .both a b, k => by simp only [MV.nle] at k ⊢; exact ⟨MV.nle_mono h a k.1, MV.nle_mono h b k.2⟩
  | .unit, _ => by simp only [MV.nle]
  | .clo b e, k => by simp only [MV.nle] at k ⊢; exact MV.nles_mono h e k
theorem MV.nles_mono {M N : Nat} (h : M ≤ N) : ∀ e : List MV, MV.nles M e → MV.nles N e
  | [], _ => by simp only [MV.nles]
  | v :: e, k => by simp only [MV.nles] at k ⊢; exact ⟨MV.nle_mono h v k.1, MV.nles_mono h e k.2⟩
end

theorem nles_get {M : Nat} : ∀ {l : List MV} {i : Nat} {a : MV}, MV.nles M l → l[i]? = some a → a.nle M
  | x :: l, 0, a, h, k => by simp only [MV.nles] at h; simp at k; rw [← k]; exact h.1
  | x :: l, i + 1, a, h, k => by simp only [MV.nles] at h; exact nles_get h.2 (by simpa using k)
theorem callM_ok {most : Nat} (hm : most ≤ 1073741824) {ev : Evl} (H : WalkM Tryd.prog gl 45 most ev) (hN : NleM most ev) {f v : MV} {l : List MV} {u c : Nat} (b M : Nat)
    (h : callC ev f l = some (v, c)) (hu : u ≤ most) (hM : M + (most - u) ≤ 1073741824) (hF : f.nle M) (hL : MV.nles M l) :
    Con1 Tryd.prog gl 46 [ptr b, f.thing, .sl (l.map fun x => [x.thing])] [(b, useM most u)] (outM most (u + c) v.thing) [(b, useM most (u + c))] := by
  refine t_in Tryd.func46 ?_
  intro X hP hgl hf hfn hn hR hids hfit
  have hl1 : (l.length : Int) ≤ 2147483648 := by have := hfit (.sl (l.map fun x => [x.thing])) (by simp); simp [DV.fit] at this; have := this.1; simp [BIG] at this; omega
  have hu0 : useM most u = [dint (u : Int), dint (most : Int)] := by unfold useM; rw [if_pos hu]
  rw [hu0]
  refine t_g0 ?_
  refine t_a ?_
  refine t_sub [] trivial (W_rounds (fun x : MV × Nat × Nat => x.2.1 ≤ l.length ∧ x.2.2 ≤ most ∧ u ≤ x.2.2 ∧ x.1.nle (M + (x.2.2 - u)) ∧ ∃ c', callC ev x.1 (l.drop x.2.1) = some (v, c') ∧ x.2.2 + c' = u + c) (fun x : MV × Nat × Nat => [(.slot 15, .one (.v (dint (x.2.1 : Int)))), (.slot 14, .one (.v (dint (l.length : Int)))), (.slot 13, .one (.v (.sl (l.map fun x => [x.thing])))), (.slot 0, .one (.v (ptr b))), (.slot 1, .one (.v x.1.thing)), (.slot 6, .one (.v nilI)), (.slot 7, .one (.v (dbool false))), (.heap  b, .row ([.v (dint (x.2.2 : Int)), .v (dint (most : Int))]))]) (fun x : MV × Nat × Nat => l.length - x.2.1) (f, 0, u) (⟨Nat.zero_le _, hu, Nat.le_refl u, by simpa using hF, c, by simpa using h, rfl⟩) ?_)
  rintro ⟨g, i, u'⟩ ⟨hi, hu', huu, hg, c', hc, hcc⟩ ih
  simp only at hi hu' huu hg hc hcc
  by_cases hil : i < l.length
  · obtain ⟨a, ha⟩ : ∃ a, l[i]? = some a := ⟨l[i], List.getElem?_eq_getElem hil⟩
    have hd : l.drop i = a :: l.drop (i + 1) := by
      rw [List.drop_eq_getElem_cons hil]
      rw [List.getElem?_eq_getElem hil, Option.some.injEq] at ha
      rw [ha]
    rw [hd] at hc
    have hmem : a.nle M := nles_get hL ha
    cases g with
    | num n => cases hc
    | list q => cases hc
    | both p q => cases hc
    | unit => cases hc
    | clo body e =>
      simp only [callC] at hc
      split at hc
      · cases hc
      · rename_i v1 c1 hv1
        split at hc
        · cases hc
        · rename_i w c2 hw
          simp only [Option.some.injEq, Prod.mk.injEq] at hc
          obtain ⟨rfl, rfl⟩ := hc
          simp only [MV.nle] at hg
          have hes : MV.nles (M + (u' - u)) (a :: e) := by simp only [MV.nles]; exact ⟨MV.nle_mono (by omega) _ hmem, hg⟩
          have W1 := H b (M + (u' - u)) hv1 hu' (by omega) hes
          have hN1 := hN (M + (u' - u)) hv1 hes
          have hth := thing_clo body e
          have hT := Tm.fold body
          have hu1 : useM most u' = [dint (u' : Int), dint (most : Int)] := by unfold useM; rw [if_pos hu']
          rw [hu1, envM_cons] at W1
          have hgi : (l.map fun x => [x.thing])[i]? = some [a.thing] := by rw [List.getElem?_map, ha]; rfl
          rw [hth]
          generalize l.map (fun x => [x.thing]) = L at *
          refine t_rg0 ?_
          refine t_yes ?_
          refine t_rg @hgi ?_
          refine t_rg0 ?_
          refine t_a ?_
          refine W_regd (by rw [hP]; exact mixed) [33] fun K hK => ?_
          simp [go_sem, hP, hgl, hn, hT]
          refine vcdC_boxR (cs := [a.thing, MV.envM e]) (y := .ag [a.thing, MV.envM e] []) (fun _ _ => vcd_sound) (by simp [go_sem, hP, hgl, hn]) (by simp [go_sem]) (by simp [go_sem]) (by rw [hn]; exact Nat.le_of_ble_eq_true rfl) (by rfl) ?_
          simp [go_sem, hP, hgl, hn]
          by_cases hfit1 : u' + c1 ≤ most
          · have o1 : outM most (u' + c1) v1.thing = .tup [v1.thing, dbool true] := by unfold outM; rw [if_pos hfit1]
            have o2 : useM most (u' + c1) = [dint ((u' + c1 : Nat) : Int), dint (most : Int)] := by unfold useM; rw [if_pos hfit1]
            rw [o1, o2] at W1
            refine t_c trivial (W1) ?_
            refine t_e ?_
            clear hK K
            refine t_rg0 ?_
            refine t_no ?_
            refine t_rg0 ?_
            refine t_rg0 ?_
            have a1 : i + 1 ≤ l.length := by omega
            have a2 : u ≤ u' + c1 := by omega
            have a3 : M + (u' - u) + c1 ≤ M + (u' + c1 - u) := by omega
            have a4 : u' + c1 + c2 = u + c := by omega
            have a5 : l.length - (i + 1) < l.length - i := by omega
            refine t_b ?_
            refine t_sub [] trivial (ih (v1, i + 1, u' + c1) ⟨a1, hfit1, a2, MV.nle_mono a3 _ hN1, c2, hw, a4⟩ a5)
          · have o1 : outM most (u' + c1) v1.thing = .tup [nilI, dbool false] := by unfold outM; rw [if_neg hfit1]
            have o2 : useM most (u' + c1) = [dint (most : Int), dint (most : Int)] := by unfold useM; rw [if_neg hfit1]
            have hbig : ¬ u + c ≤ most := by omega
            have o3 : outM most (u + c) w.thing = .tup [nilI, dbool false] := by unfold outM; rw [if_neg hbig]
            have o4 : useM most (u + c) = [dint (most : Int), dint (most : Int)] := by unfold useM; rw [if_neg hbig]
            rw [o3, o4] at hR
            rw [o1, o2] at W1
            refine t_c trivial (W1) ?_
            refine t_e ?_
            clear hK K
            refine t_rg0 ?_
            refine t_yes ?_
            refine t_rg0 ?_
            repeat (first | refine W_seq ?_ | refine W_skip ?_ | refine W_block ?_ | refine W_inBlock ?_ | refine W_label ?_ | refine W_exit rfl ?_)
            first | refine W_retR hP hf hfn _ ([(b, [dint (most : Int), dint (most : Int)])]) (by first | (simp [go_sem, hP, hgl, hn]; done) | (simp [go_sem, hP, hgl, hn]; rfl)) (by simp [go_sem, hP, hgl, hn]) (by simp) ?_ hR.2 | refine W_endR hP hf hfn _ ([(b, [dint (most : Int), dint (most : Int)])]) (by first | (simp [go_sem, hP, hgl, hn]; done) | (simp [go_sem, hP, hgl, hn]; rfl)) (by simp [go_sem, hP, hgl, hn]) (by simp) ?_ hR.2
            rw [hR.1]
            refine ⟨?_, by simp⟩
            try simp
            try all_goals (simp [Ty.dv, Ty.cells_eq, Ty.kind_mk, Ty.args_mk, Tm.dv, Tm.cells_eq, Tm.kind_mk, Tm.index_mk, Tm.type_mk, Tm.args_mk, Val.dv, Val.cells_eq, Val.kind_mk, Val.num_mk, Val.list_mk, Val.args_mk, ints])
  · have hd : l.drop i = [] := List.drop_eq_nil_iff.2 (by omega)
    have hii : i = l.length := by omega
    subst hii
    rw [hd] at hc
    have hc0 : callC ev g [] = some (g, 0) := by cases g <;> rfl
    rw [hc0] at hc
    simp only [Option.some.injEq, Prod.mk.injEq] at hc
    obtain ⟨rfl, rfl⟩ := hc
    have hsm : u + c ≤ most := by omega
    have o3 : outM most (u + c) g.thing = .tup [g.thing, dbool true] := by unfold outM; rw [if_pos hsm]
    have o4 : useM most (u + c) = [dint (u' : Int), dint (most : Int)] := by unfold useM; rw [if_pos hsm]; rw [← hcc]; simp
    rw [o3, o4] at hR
    refine t_rg0 ?_
    refine t_no ?_
    refine t_rg0 ?_
    repeat (first | refine W_seq ?_ | refine W_skip ?_ | refine W_block ?_ | refine W_inBlock ?_ | refine W_label ?_ | refine W_exit rfl ?_)
    first | refine W_retR hP hf hfn _ ([(b, [dint (u' : Int), dint (most : Int)])]) (by first | (simp [go_sem, hP, hgl, hn]; done) | (simp [go_sem, hP, hgl, hn]; rfl)) (by simp [go_sem, hP, hgl, hn]) (by simp) ?_ hR.2 | refine W_endR hP hf hfn _ ([(b, [dint (u' : Int), dint (most : Int)])]) (by first | (simp [go_sem, hP, hgl, hn]; done) | (simp [go_sem, hP, hgl, hn]; rfl)) (by simp [go_sem, hP, hgl, hn]) (by simp) ?_ hR.2
    rw [hR.1]
    refine ⟨?_, by simp⟩
    try simp
    try all_goals (simp [Ty.dv, Ty.cells_eq, Ty.kind_mk, Ty.args_mk, Tm.dv, Tm.cells_eq, Tm.kind_mk, Tm.index_mk, Tm.type_mk, Tm.args_mk, Val.dv, Val.cells_eq, Val.kind_mk, Val.num_mk, Val.list_mk, Val.args_mk, ints])
end Go.Proofs.YtgfjcbofbbcnmaaDoor.Lift

/-
  Package machine: the walk of the parts of a node.
-/
namespace Go.Proofs.YtgfjcbofbbcnmaaDoor.Lift
set_option linter.unusedSimpArgs false
set_option linter.unusedVariables false
set_option linter.unnecessarySimpa false
open Go
variable {gl : Globs}

def at3 (l : List MV) (i : Nat) : DV := match l[i]? with
  | some v => v.thing
  | none => nilI
theorem at3_cell (l : List MV) (i : Nat) : (at3 l i).isCell = true := by unfold at3; split; exact thing_cell _; rfl
theorem cellsD_at3 (l : List MV) (i : Nat) : cellsD (at3 l i) = [at3 l i] := by unfold at3; split; exact cellsD_thing _; rfl
attribute [go_sem] at3_cell cellsD_at3
def arr3 (l : List MV) : List DV := [at3 l 0, at3 l 1, at3 l 2]
/-- the values before the work is out -/
def preC (ev : Evl) (most : Nat) (e : List MV) : Nat → List Tm → List MV
  | _, [] => []
  | u, t :: r => match ev t e with
    | none => []
    | some (v, c) => if u + c ≤ most then v :: preC ev most e (u + c) r else []
def outA (most n : Nat) (l : List MV) : DV := .tup [.agg (arr3 l), dbool (decide (n ≤ most))]
theorem preC_all {ev : Evl} {most : Nat} {e : List MV} : ∀ {l : List Tm} {u : Nat} {vs : List MV} {c : Nat}, allC ev l e = some (vs, c) → u + c ≤ most → preC ev most e u l = vs
  | [], u, vs, c, h, k => by simp only [allC, Option.some.injEq, Prod.mk.injEq] at h; rw [preC, h.1]
  | t :: r, u, vs, c, h, k => by
    simp only [allC] at h
    split at h
    · cases h
    · rename_i v c1 hv
      split at h
      · cases h
      · rename_i l c2 hl
        simp only [Option.some.injEq, Prod.mk.injEq] at h
        obtain ⟨rfl, rfl⟩ := h
        rw [preC, hv]
        simp only
        rw [if_pos (show u + c1 ≤ most by omega), preC_all hl (show u + c1 + c2 ≤ most by omega)]

theorem allM_ok {most : Nat} (hm : most ≤ 1073741824) {ev : Evl} (H : WalkM Tryd.prog gl 45 most ev) (hN : NleM most ev) {l : List Tm} {e vs : List MV} {u c : Nat} (b M : Nat)
    (h : allC ev l e = some (vs, c)) (h3 : l.length ≤ 3) (hu : u ≤ most) (hM : M + (most - u) ≤ 1073741824) (he : MV.nles M e) :
    Con1 Tryd.prog gl 70 [ptr b, .sl (l.map Tm.cells), MV.envM e] [(b, useM most u)] (outA most (u + c) (preC ev most e u l)) [(b, useM most (u + c))] := by
  refine t_in Tryd.func70 ?_
  intro X hP hgl hf hfn hn hR hids hfit
  have hu0 : useM most u = [dint (u : Int), dint (most : Int)] := by unfold useM; rw [if_pos hu]
  rw [hu0]
  have z0 : at3 [] 0 = nilI := rfl
  have z1 : at3 [] 1 = nilI := rfl
  have z2 : at3 [] 2 = nilI := rfl
  refine t_g0 ?_
  refine t_a ?_
  refine t_sub [] (j2 @z0 (j2 @z1 @z2)) (W_rounds (fun x : List MV × Nat × Nat => x.2.1 ≤ l.length ∧ x.2.2 ≤ most ∧ u ≤ x.2.2 ∧ x.1.length = x.2.1 ∧ MV.nles (M + (x.2.2 - u)) e ∧ ∃ c' vs', allC ev (l.drop x.2.1) e = some (vs', c') ∧ x.2.2 + c' = u + c ∧ x.1 ++ preC ev most e x.2.2 (l.drop x.2.1) = preC ev most e u l) (fun x : List MV × Nat × Nat => [(.slot 15, .one (.v (dint (x.2.1 : Int)))), (.slot 14, .one (.v (dint (l.length : Int)))), (.slot 13, .one (.v (.sl (l.map Tm.cells)))), (.slot 0, .one (.v (ptr b))), (.slot 2, .one (.v (MV.envM e))), (.slot 7, .one (.v (dbool false))), (.slot 6, .one (.loc 6 0)), (.slot 8, .one (.loc 8 0)), (.loc 6, .row ([.v nilI, .v nilI, .v nilI])), (.loc 8, .row ([.v (at3 x.1 0), .v (at3 x.1 1), .v (at3 x.1 2)])), (.heap  b, .row ([.v (dint (x.2.2 : Int)), .v (dint (most : Int))]))]) (fun x : List MV × Nat × Nat => l.length - x.2.1) (([] : List MV), 0, u) (⟨Nat.zero_le _, hu, Nat.le_refl u, rfl, by simpa using he, c, vs, by simpa using h, rfl, by simp⟩) ?_)
  rintro ⟨p, i, u'⟩ ⟨hi, hu', huu, hpl, hg, c', vs', hc, hcc, hpre⟩ ih
  simp only at hi hu' huu hpl hg hc hcc hpre
  by_cases hil : i < l.length
  · obtain ⟨t, ht⟩ : ∃ t, l[i]? = some t := ⟨l[i], List.getElem?_eq_getElem hil⟩
    have hd : l.drop i = t :: l.drop (i + 1) := by
      rw [List.drop_eq_getElem_cons hil]
      rw [List.getElem?_eq_getElem hil, Option.some.injEq] at ht
      rw [ht]
    rw [hd] at hc
    rw [hd] at hpre
    simp only [allC] at hc
    split at hc
    · cases hc
    rename_i v1 c1 hv1
    rw [preC, hv1] at hpre
    simp only at hpre
    split at hc
    · cases hc
    rename_i vs1 c2 hw
    simp only [Option.some.injEq, Prod.mk.injEq] at hc
    obtain ⟨rfl, rfl⟩ := hc
    have hgz : MV.nles (M + (u' - u)) e := hg
    have W1 := H b (M + (u' - u)) hv1 hu' (by omega) hg
    have hT := Tm.fold t
    have hu1 : useM most u' = [dint (u' : Int), dint (most : Int)] := by unfold useM; rw [if_pos hu']
    rw [hu1] at W1
    have hgi : (l.map Tm.cells)[i]? = some [dint t.kind, dint t.index, dint t.type.kind, .sl (t.type.args.map Ty.cells), .sl (t.args.map Tm.cells)] := by rw [List.getElem?_map, ht]; simp [Tm.cells_eq]
    have hne : l ≠ [] := by rintro rfl; simp at hil
    rcases (show i = 0 ∨ i = 1 ∨ i = 2 by omega) with rfl | rfl | rfl
    · refine t_rg0 ?_
      refine t_y (j2 @hne @hil) ?_
      refine t_rg (j2 @hgi @hT) ?_
      by_cases hfit1 : u' + c1 ≤ most
      · have o1 : outM most (u' + c1) v1.thing = .tup [v1.thing, dbool true] := by unfold outM; rw [if_pos hfit1]
        have o2 : useM most (u' + c1) = [dint ((u' + c1 : Nat) : Int), dint (most : Int)] := by unfold useM; rw [if_pos hfit1]
        rw [o1, o2] at W1
        refine t_c1 @hT W1 ?_
        refine t_rg0 ?_
        refine t_no ?_
        refine t_rg0 ?_
        refine t_rg0 ?_
        have a4 : u' + c1 + c2 = u + c := by omega
        have a6 : (p ++ [v1]).length = 0 + 1 := by simp [hpl]
        have a7 : at3 (p ++ [v1]) 0 = v1.thing := by simp [at3, hpl]
        have a8 : p ++ [v1] ++ preC ev most e (u' + c1) (l.drop (0 + 1)) = preC ev most e u l := by rw [List.append_assoc]; rw [← hpre, if_pos hfit1]; rfl
        have b1 : at3 (p ++ [v1]) 1 = at3 p 1 := by simp [at3, hpl, List.getElem?_append]
        have b2 : at3 (p ++ [v1]) 2 = at3 p 2 := by simp [at3, hpl, List.getElem?_append]
        have d1 : 0 + 1 ≤ l.length := by omega
        have d2 : u ≤ u' + c1 := by omega
        have d3 : M + (u' - u) ≤ M + (u' + c1 - u) := by omega
        have d5 : l.length - (0 + 1) < l.length - 0 := by omega
        refine t_b ?_
        refine t_sub [] (j2 @a7 (j2 @b1 @b2)) (ih (p ++ [v1], 0 + 1, u' + c1) ⟨d1, hfit1, d2, a6, MV.nles_mono d3 _ hgz, c2, vs1, hw, a4, a8⟩ d5)
      · have o1 : outM most (u' + c1) v1.thing = .tup [nilI, dbool false] := by unfold outM; rw [if_neg hfit1]
        have o2 : useM most (u' + c1) = [dint (most : Int), dint (most : Int)] := by unfold useM; rw [if_neg hfit1]
        have hbig : ¬ u + c ≤ most := by omega
        have o4 : useM most (u + c) = [dint (most : Int), dint (most : Int)] := by unfold useM; rw [if_neg hbig]
        have o5 : preC ev most e u l = p := by rw [← hpre, if_neg hfit1]; simp
        have o6 : decide (u + c ≤ most) = false := decide_eq_false hbig
        unfold outA at hR
        rw [o4, o5, o6] at hR
        rw [o1, o2] at W1
        refine t_c1 @hT W1 ?_
        refine t_rg0 ?_
        refine t_yes ?_
        refine t_rg0 ?_
        repeat (first | refine W_seq ?_ | refine W_skip ?_ | refine W_block ?_ | refine W_inBlock ?_ | refine W_label ?_ | refine W_exit rfl ?_)
        first | refine W_retR hP hf hfn _ ([(b, [dint (most : Int), dint (most : Int)])]) (by first | (simp [go_sem, hP, hgl, hn, arr3]; done) | (simp [go_sem, hP, hgl, hn, arr3]; rfl)) (by simp [go_sem, hP, hgl, hn, arr3]) (by simp) ?_ hR.2 | refine W_endR hP hf hfn _ ([(b, [dint (most : Int), dint (most : Int)])]) (by first | (simp [go_sem, hP, hgl, hn, arr3]; done) | (simp [go_sem, hP, hgl, hn, arr3]; rfl)) (by simp [go_sem, hP, hgl, hn, arr3]) (by simp) ?_ hR.2
        rw [hR.1]
        refine ⟨?_, by simp [arr3]⟩
        try simp [arr3]
        try all_goals (simp [Ty.dv, Ty.cells_eq, Ty.kind_mk, Ty.args_mk, Tm.dv, Tm.cells_eq, Tm.kind_mk, Tm.index_mk, Tm.type_mk, Tm.args_mk, Val.dv, Val.cells_eq, Val.kind_mk, Val.num_mk, Val.list_mk, Val.args_mk, ints])
    · refine t_rg0 ?_
      refine t_y (j2 @hne @hil) ?_
      refine t_rg (j2 @hgi @hT) ?_
      by_cases hfit1 : u' + c1 ≤ most
      · have o1 : outM most (u' + c1) v1.thing = .tup [v1.thing, dbool true] := by unfold outM; rw [if_pos hfit1]
        have o2 : useM most (u' + c1) = [dint ((u' + c1 : Nat) : Int), dint (most : Int)] := by unfold useM; rw [if_pos hfit1]
        rw [o1, o2] at W1
        refine t_c1 @hT W1 ?_
        refine t_rg0 ?_
        refine t_no ?_
        refine t_rg0 ?_
        refine t_rg0 ?_
        have a4 : u' + c1 + c2 = u + c := by omega
        have a6 : (p ++ [v1]).length = 1 + 1 := by simp [hpl]
        have a7 : at3 (p ++ [v1]) 1 = v1.thing := by simp [at3, hpl]
        have a8 : p ++ [v1] ++ preC ev most e (u' + c1) (l.drop (1 + 1)) = preC ev most e u l := by rw [List.append_assoc]; rw [← hpre, if_pos hfit1]; rfl
        have b0 : at3 (p ++ [v1]) 0 = at3 p 0 := by simp [at3, hpl, List.getElem?_append]
        have b2 : at3 (p ++ [v1]) 2 = at3 p 2 := by simp [at3, hpl, List.getElem?_append]
        have d1 : 1 + 1 ≤ l.length := by omega
        have d2 : u ≤ u' + c1 := by omega
        have d3 : M + (u' - u) ≤ M + (u' + c1 - u) := by omega
        have d5 : l.length - (1 + 1) < l.length - 1 := by omega
        refine t_b ?_
        refine t_sub [] (j2 @a7 (j2 @b0 @b2)) (ih (p ++ [v1], 1 + 1, u' + c1) ⟨d1, hfit1, d2, a6, MV.nles_mono d3 _ hgz, c2, vs1, hw, a4, a8⟩ d5)
      · have o1 : outM most (u' + c1) v1.thing = .tup [nilI, dbool false] := by unfold outM; rw [if_neg hfit1]
        have o2 : useM most (u' + c1) = [dint (most : Int), dint (most : Int)] := by unfold useM; rw [if_neg hfit1]
        have hbig : ¬ u + c ≤ most := by omega
        have o4 : useM most (u + c) = [dint (most : Int), dint (most : Int)] := by unfold useM; rw [if_neg hbig]
        have o5 : preC ev most e u l = p := by rw [← hpre, if_neg hfit1]; simp
        have o6 : decide (u + c ≤ most) = false := decide_eq_false hbig
        unfold outA at hR
        rw [o4, o5, o6] at hR
        rw [o1, o2] at W1
        refine t_c1 @hT W1 ?_
        refine t_rg0 ?_
        refine t_yes ?_
        refine t_rg0 ?_
        repeat (first | refine W_seq ?_ | refine W_skip ?_ | refine W_block ?_ | refine W_inBlock ?_ | refine W_label ?_ | refine W_exit rfl ?_)
        first | refine W_retR hP hf hfn _ ([(b, [dint (most : Int), dint (most : Int)])]) (by first | (simp [go_sem, hP, hgl, hn, arr3]; done) | (simp [go_sem, hP, hgl, hn, arr3]; rfl)) (by simp [go_sem, hP, hgl, hn, arr3]) (by simp) ?_ hR.2 | refine W_endR hP hf hfn _ ([(b, [dint (most : Int), dint (most : Int)])]) (by first | (simp [go_sem, hP, hgl, hn, arr3]; done) | (simp [go_sem, hP, hgl, hn, arr3]; rfl)) (by simp [go_sem, hP, hgl, hn, arr3]) (by simp) ?_ hR.2
        rw [hR.1]
        refine ⟨?_, by simp [arr3]⟩
        try simp [arr3]
        try all_goals (simp [Ty.dv, Ty.cells_eq, Ty.kind_mk, Ty.args_mk, Tm.dv, Tm.cells_eq, Tm.kind_mk, Tm.index_mk, Tm.type_mk, Tm.args_mk, Val.dv, Val.cells_eq, Val.kind_mk, Val.num_mk, Val.list_mk, Val.args_mk, ints])
    · refine t_rg0 ?_
      refine t_y (j2 @hne @hil) ?_
      refine t_rg (j2 @hgi @hT) ?_
      by_cases hfit1 : u' + c1 ≤ most
      · have o1 : outM most (u' + c1) v1.thing = .tup [v1.thing, dbool true] := by unfold outM; rw [if_pos hfit1]
        have o2 : useM most (u' + c1) = [dint ((u' + c1 : Nat) : Int), dint (most : Int)] := by unfold useM; rw [if_pos hfit1]
        rw [o1, o2] at W1
        refine t_c1 @hT W1 ?_
        refine t_rg0 ?_
        refine t_no ?_
        refine t_rg0 ?_
        refine t_rg0 ?_
        have a4 : u' + c1 + c2 = u + c := by omega
        have a6 : (p ++ [v1]).length = 2 + 1 := by simp [hpl]
        have a7 : at3 (p ++ [v1]) 2 = v1.thing := by simp [at3, hpl]
        have a8 : p ++ [v1] ++ preC ev most e (u' + c1) (l.drop (2 + 1)) = preC ev most e u l := by rw [List.append_assoc]; rw [← hpre, if_pos hfit1]; rfl
        have b0 : at3 (p ++ [v1]) 0 = at3 p 0 := by simp [at3, hpl, List.getElem?_append]
        have b1 : at3 (p ++ [v1]) 1 = at3 p 1 := by simp [at3, hpl, List.getElem?_append]
        have d1 : 2 + 1 ≤ l.length := by omega
        have d2 : u ≤ u' + c1 := by omega
        have d3 : M + (u' - u) ≤ M + (u' + c1 - u) := by omega
        have d5 : l.length - (2 + 1) < l.length - 2 := by omega
        refine t_b ?_
        refine t_sub [] (j2 @a7 (j2 @b0 @b1)) (ih (p ++ [v1], 2 + 1, u' + c1) ⟨d1, hfit1, d2, a6, MV.nles_mono d3 _ hgz, c2, vs1, hw, a4, a8⟩ d5)
      · have o1 : outM most (u' + c1) v1.thing = .tup [nilI, dbool false] := by unfold outM; rw [if_neg hfit1]
        have o2 : useM most (u' + c1) = [dint (most : Int), dint (most : Int)] := by unfold useM; rw [if_neg hfit1]
        have hbig : ¬ u + c ≤ most := by omega
        have o4 : useM most (u + c) = [dint (most : Int), dint (most : Int)] := by unfold useM; rw [if_neg hbig]
        have o5 : preC ev most e u l = p := by rw [← hpre, if_neg hfit1]; simp
        have o6 : decide (u + c ≤ most) = false := decide_eq_false hbig
        unfold outA at hR
        rw [o4, o5, o6] at hR
        rw [o1, o2] at W1
        refine t_c1 @hT W1 ?_
        refine t_rg0 ?_
        refine t_yes ?_
        refine t_rg0 ?_
        repeat (first | refine W_seq ?_ | refine W_skip ?_ | refine W_block ?_ | refine W_inBlock ?_ | refine W_label ?_ | refine W_exit rfl ?_)
        first | refine W_retR hP hf hfn _ ([(b, [dint (most : Int), dint (most : Int)])]) (by first | (simp [go_sem, hP, hgl, hn, arr3]; done) | (simp [go_sem, hP, hgl, hn, arr3]; rfl)) (by simp [go_sem, hP, hgl, hn, arr3]) (by simp) ?_ hR.2 | refine W_endR hP hf hfn _ ([(b, [dint (most : Int), dint (most : Int)])]) (by first | (simp [go_sem, hP, hgl, hn, arr3]; done) | (simp [go_sem, hP, hgl, hn, arr3]; rfl)) (by simp [go_sem, hP, hgl, hn, arr3]) (by simp) ?_ hR.2
        rw [hR.1]
        refine ⟨?_, by simp [arr3]⟩
        try simp [arr3]
        try all_goals (simp [Ty.dv, Ty.cells_eq, Ty.kind_mk, Ty.args_mk, Tm.dv, Tm.cells_eq, Tm.kind_mk, Tm.index_mk, Tm.type_mk, Tm.args_mk, Val.dv, Val.cells_eq, Val.kind_mk, Val.num_mk, Val.list_mk, Val.args_mk, ints])
  · have hd : l.drop i = [] := List.drop_eq_nil_iff.2 (by omega)
    have hii : i = l.length := by omega
    subst hii
    rw [hd] at hc hpre
    simp only [allC, Option.some.injEq, Prod.mk.injEq] at hc
    obtain ⟨rfl, rfl⟩ := hc
    simp only [preC, List.append_nil] at hpre
    have hsm : u + c ≤ most := by omega
    have o4 : useM most (u + c) = [dint (u' : Int), dint (most : Int)] := by unfold useM; rw [if_pos hsm]; rw [← hcc]; simp
    have o6 : decide (u + c ≤ most) = true := decide_eq_true hsm
    unfold outA at hR
    rw [← hpre, o4, o6] at hR
    refine t_rg0 ?_
    refine t_no ?_
    refine t_rg0 ?_
    repeat (first | refine W_seq ?_ | refine W_skip ?_ | refine W_block ?_ | refine W_inBlock ?_ | refine W_label ?_ | refine W_exit rfl ?_)
    first | refine W_retR hP hf hfn _ ([(b, [dint (u' : Int), dint (most : Int)])]) (by first | (simp [go_sem, hP, hgl, hn, arr3]; done) | (simp [go_sem, hP, hgl, hn, arr3]; rfl)) (by simp [go_sem, hP, hgl, hn, arr3]) (by simp) ?_ hR.2 | refine W_endR hP hf hfn _ ([(b, [dint (u' : Int), dint (most : Int)])]) (by first | (simp [go_sem, hP, hgl, hn, arr3]; done) | (simp [go_sem, hP, hgl, hn, arr3]; rfl)) (by simp [go_sem, hP, hgl, hn, arr3]) (by simp) ?_ hR.2
    rw [hR.1]
    refine ⟨?_, by simp [arr3]⟩
    try simp [arr3]
    try all_goals (simp [Ty.dv, Ty.cells_eq, Ty.kind_mk, Ty.args_mk, Tm.dv, Tm.cells_eq, Tm.kind_mk, Tm.index_mk, Tm.type_mk, Tm.args_mk, Val.dv, Val.cells_eq, Val.kind_mk, Val.num_mk, Val.list_mk, Val.args_mk, ints])
end Go.Proofs.YtgfjcbofbbcnmaaDoor.Lift

/-
  Package machine: the walk of the rounds of a recursion.
-/
namespace Go.Proofs.YtgfjcbofbbcnmaaDoor.Lift
set_option linter.unusedSimpArgs false
set_option linter.unusedVariables false
set_option linter.unnecessarySimpa false
open Go
variable {gl : Globs}

theorem thing_num (n : Nat) : (MV.num n).thing = .iface 3 (dint (n : Int)) := by rw [MV.thing]

theorem recM_ok {most : Nat} (hm : most ≤ 1073741824) {ev : Evl} (H : WalkM Tryd.prog gl 45 most ev) (hN : NleM most ev) (hNc : ∀ {f v : MV} {l : List MV} {c M : Nat}, callC ev f l = some (v, c) → f.nle M → MV.nles M l → v.nle (M + c)) {r f v : MV} {n u c : Nat} (b M : Nat)
    (h : recC ev f n 0 r = some (v, c)) (hu : u ≤ most) (hM : M + (most - u) ≤ 1073741824) (hr0 : r.nle M) (hf0 : f.nle M) (hn0 : n ≤ M) :
    Con1 Tryd.prog gl 71 [ptr b, .agg (arr3 [r, f, .num n])] [(b, useM most u)] (outM most (u + c) v.thing) [(b, useM most (u + c))] := by
  have z0 : at3 [r, f, .num n] 0 = r.thing := rfl
  have z1 : at3 [r, f, .num n] 1 = f.thing := rfl
  have z2 : at3 [r, f, .num n] 2 = .iface 3 (dint (n : Int)) := thing_num n
  have hu0 : useM most u = [dint (u : Int), dint (most : Int)] := by unfold useM; rw [if_pos hu]
  unfold arr3
  rw [z0, z1, z2, hu0]
  refine t_in Tryd.func71 ?_
  intro X hP hgl hf hfn hn hR hids hfit
  refine t_g0 ?_
  refine t_a ?_
  refine t_sub [] trivial (W_rounds (fun x : DV × Bool × Nat × Nat => x.1.isCell = true ∧ cellsD x.1 = [x.1] ∧ (x.2.1 = true → x.2.2.1 ≤ n ∧ x.2.2.2 ≤ most ∧ u ≤ x.2.2.2 ∧ ∃ (q : MV) (c' : Nat), x.1 = q.thing ∧ q.nle (M + (x.2.2.2 - u)) ∧ recC ev f (n - x.2.2.1) x.2.2.1 q = some (v, c') ∧ x.2.2.2 + c' = u + c) ∧ (x.2.1 = false → x.1 = nilI ∧ x.2.2.2 = most ∧ ¬ u + c ≤ most ∧ x.2.2.1 ≤ n + 1)) (fun x : DV × Bool × Nat × Nat => [(.slot 6, .one (.v x.1)), (.slot 7, .one (.v (dbool x.2.1))), (.slot 8, .one (.v (dint (x.2.2.1 : Int)))), (.slot 0, .one (.v (ptr b))), (.slot 4, .one (.v nilI)), (.slot 5, .one (.v (dbool false))), (.slot 3, .one (.loc 3 0)), (.loc 3, .row ([.v r.thing, .v f.thing, .v (.iface 3 (dint (n : Int)))])), (.heap  b, .row ([.v (dint (x.2.2.2 : Int)), .v (dint (most : Int))]))]) (fun x : DV × Bool × Nat × Nat => (if x.2.1 then n - x.2.2.1 + 1 else 0)) (r.thing, true, 0, u) (⟨thing_cell r, cellsD_thing r, fun _ => ⟨Nat.zero_le _, hu, Nat.le_refl u, r, c, rfl, by simpa using hr0, by simpa using h, rfl⟩, fun e => by cases e⟩) ?_)
  rintro ⟨y, ok, k, u'⟩ ⟨hy1, hy2, hy3, hy4⟩ ih
  simp only at hy1 hy2 hy3 hy4
  cases ok with
  | false =>
    obtain ⟨rfl, rfl, hbig, hk⟩ := hy4 rfl
    have o3 : outM u' (u + c) v.thing = .tup [nilI, dbool false] := by unfold outM; rw [if_neg hbig]
    have o4 : useM u' (u + c) = [dint (u' : Int), dint (u' : Int)] := by unfold useM; rw [if_neg hbig]
    rw [o3, o4] at hR
    refine t_rg0 ?_
    refine t_no ?_
    refine t_rg0 ?_
    repeat (first | refine W_seq ?_ | refine W_skip ?_ | refine W_block ?_ | refine W_inBlock ?_ | refine W_label ?_ | refine W_exit rfl ?_)
    first | refine W_retR hP hf hfn _ ([(b, [dint (u' : Int), dint (u' : Int)])]) (by first | (simp [go_sem, hP, hgl, hn]; done) | (simp [go_sem, hP, hgl, hn]; rfl)) (by simp [go_sem, hP, hgl, hn]) (by simp) ?_ hR.2 | refine W_endR hP hf hfn _ ([(b, [dint (u' : Int), dint (u' : Int)])]) (by first | (simp [go_sem, hP, hgl, hn]; done) | (simp [go_sem, hP, hgl, hn]; rfl)) (by simp [go_sem, hP, hgl, hn]) (by simp) ?_ hR.2
    rw [hR.1]
    refine ⟨?_, by simp⟩
    try simp
    try all_goals (simp [Ty.dv, Ty.cells_eq, Ty.kind_mk, Ty.args_mk, Tm.dv, Tm.cells_eq, Tm.kind_mk, Tm.index_mk, Tm.type_mk, Tm.args_mk, Val.dv, Val.cells_eq, Val.kind_mk, Val.num_mk, Val.list_mk, Val.args_mk, ints])
  | true =>
    obtain ⟨hk, hu', huu, q, c', rfl, hq, hc, hcc⟩ := hy3 rfl
    have hn1 : (n : Int) ≤ 1073741824 := by omega
    by_cases hkn : k < n
    · have e1 : n - k = (n - (k + 1)) + 1 := by omega
      rw [e1, recC] at hc
      split at hc
      · cases hc
      rename_i v1 c1 hv1
      split at hc
      · cases hc
      rename_i w c2 hw
      simp only [Option.some.injEq, Prod.mk.injEq] at hc
      obtain ⟨rfl, rfl⟩ := hc
      have hfg : f.nle (M + (u' - u)) := MV.nle_mono (by omega) _ hf0
      have hlg : MV.nles (M + (u' - u)) [.num k, q] := by simp only [MV.nles, MV.nle]; exact ⟨by omega, hq, trivial⟩
      have W1 := callM_ok hm H hN b (M + (u' - u)) hv1 hu' (by omega) hfg hlg
      have hN1 := hNc hv1 hfg hlg
      have hu1 : useM most u' = [dint (u' : Int), dint (most : Int)] := by unfold useM; rw [if_pos hu']
      have hkn' : (k : Int) < (n : Int) := by omega
      rw [hu1] at W1
      simp only [List.map, thing_num] at W1
      refine t_rg0 ?_
      refine t_yes ?_
      by_cases hfit1 : u' + c1 ≤ most
      · have o1 : outM most (u' + c1) v1.thing = .tup [v1.thing, dbool true] := by unfold outM; rw [if_pos hfit1]
        have o2 : useM most (u' + c1) = [dint ((u' + c1 : Nat) : Int), dint (most : Int)] := by unfold useM; rw [if_pos hfit1]
        rw [o1, o2] at W1
        refine t_c1 trivial W1 ?_
        refine t_rg0 ?_
        have d1 : k + 1 ≤ n := by omega
        have d2 : u ≤ u' + c1 := by omega
        have d3 : M + (u' - u) + c1 ≤ M + (u' + c1 - u) := by omega
        have d4 : u' + c1 + c2 = u + c := by omega
        have d5 : n - (k + 1) + 1 < n - k + 1 := by omega
        refine t_b ?_
        refine t_sub [] trivial (ih (v1.thing, true, k + 1, u' + c1) ⟨thing_cell v1, cellsD_thing v1, fun _ => ⟨d1, hfit1, d2, v1, c2, rfl, MV.nle_mono d3 _ hN1, hw, d4⟩, fun e => by cases e⟩ d5)
      · have o1 : outM most (u' + c1) v1.thing = .tup [nilI, dbool false] := by unfold outM; rw [if_neg hfit1]
        have o2 : useM most (u' + c1) = [dint (most : Int), dint (most : Int)] := by unfold useM; rw [if_neg hfit1]
        have hbig : ¬ u + c ≤ most := by omega
        have d1 : k + 1 ≤ n + 1 := by omega
        have d5 : 0 < n - k + 1 := by omega
        rw [o1, o2] at W1
        refine t_c1 trivial W1 ?_
        refine t_rg0 ?_
        refine t_b ?_
        refine t_sub [] trivial (ih (nilI, false, k + 1, most) ⟨rfl, rfl, fun e => (by cases e), fun _ => ⟨rfl, rfl, hbig, d1⟩⟩ d5)
    · have e0 : n - k = 0 := by omega
      rw [e0, recC] at hc
      simp only [Option.some.injEq, Prod.mk.injEq] at hc
      obtain ⟨rfl, rfl⟩ := hc
      have hkn' : (n : Int) ≤ (k : Int) := by omega
      have hsm : u + c ≤ most := by omega
      have o3 : outM most (u + c) q.thing = .tup [q.thing, dbool true] := by unfold outM; rw [if_pos hsm]
      have o4 : useM most (u + c) = [dint (u' : Int), dint (most : Int)] := by unfold useM; rw [if_pos hsm]; rw [← hcc]; simp
      rw [o3, o4] at hR
      refine t_rg0 ?_
      refine t_no ?_
      refine t_rg0 ?_
      repeat (first | refine W_seq ?_ | refine W_skip ?_ | refine W_block ?_ | refine W_inBlock ?_ | refine W_label ?_ | refine W_exit rfl ?_)
      first | refine W_retR hP hf hfn _ ([(b, [dint (u' : Int), dint (most : Int)])]) (by first | (simp [go_sem, hP, hgl, hn]; done) | (simp [go_sem, hP, hgl, hn]; rfl)) (by simp [go_sem, hP, hgl, hn]) (by simp) ?_ hR.2 | refine W_endR hP hf hfn _ ([(b, [dint (u' : Int), dint (most : Int)])]) (by first | (simp [go_sem, hP, hgl, hn]; done) | (simp [go_sem, hP, hgl, hn]; rfl)) (by simp [go_sem, hP, hgl, hn]) (by simp) ?_ hR.2
      rw [hR.1]
      refine ⟨?_, by simp⟩
      try simp
      try all_goals (simp [Ty.dv, Ty.cells_eq, Ty.kind_mk, Ty.args_mk, Tm.dv, Tm.cells_eq, Tm.kind_mk, Tm.index_mk, Tm.type_mk, Tm.args_mk, Val.dv, Val.cells_eq, Val.kind_mk, Val.num_mk, Val.list_mk, Val.args_mk, ints])
end Go.Proofs.YtgfjcbofbbcnmaaDoor.Lift

/-
  Plain law: how large the numbers of a run get; more depth changes nothing.
-/
namespace Go.Proofs.YtgfjcbofbbcnmaaDoor.Lift
set_option linter.unusedSimpArgs false
set_option linter.unusedVariables false
set_option linter.unnecessarySimpa false
open Go

theorem nle_call {most : Nat} {ev : Evl} (hN : NleM most ev) : ∀ {l : List MV} {f v : MV} {c M : Nat}, callC ev f l = some (v, c) → f.nle M → MV.nles M l → v.nle (M + c)
  | [], f, v, c, M, h, hf, hl => by
    have : callC ev f [] = some (f, 0) := by cases f <;> rfl
    rw [this] at h
    simp only [Option.some.injEq, Prod.mk.injEq] at h
    obtain ⟨rfl, rfl⟩ := h
    exact hf
  | a :: l, f, v, c, M, h, hf, hl => by
    cases f with
    | num n => cases h
    | list q => cases h
    | both p q => cases h
    | unit => cases h
    | clo body e =>
      simp only [callC] at h
      split at h
      · cases h
      rename_i v1 c1 hv1
      split at h
      · cases h
      rename_i w c2 hw
      simp only [Option.some.injEq, Prod.mk.injEq] at h
      obtain ⟨rfl, rfl⟩ := h
      simp only [MV.nle] at hf
      simp only [MV.nles] at hl
      have k := hN M hv1 (by simp only [MV.nles]; exact ⟨hl.1, hf⟩)
      have := nle_call hN hw k (MV.nles_mono (by omega) _ hl.2)
      rw [Nat.add_assoc] at this
      exact this
theorem nle_rec {most : Nat} {ev : Evl} (hN : NleM most ev) {f : MV} : ∀ {n k : Nat} {r v : MV} {c M : Nat}, recC ev f n k r = some (v, c) → f.nle M → r.nle M → k + n ≤ M → v.nle (M + c)
  | 0, k, r, v, c, M, h, hf, hr, hk => by
    simp only [recC, Option.some.injEq, Prod.mk.injEq] at h
    obtain ⟨rfl, rfl⟩ := h
    exact hr
  | n + 1, k, r, v, c, M, h, hf, hr, hk => by
    simp only [recC] at h
    split at h
    · cases h
    rename_i v1 c1 hv1
    split at h
    · cases h
    rename_i w c2 hw
    simp only [Option.some.injEq, Prod.mk.injEq] at h
    obtain ⟨rfl, rfl⟩ := h
    have k1 := nle_call hN hv1 hf (by simp only [MV.nles, MV.nle]; exact ⟨by omega, hr, trivial⟩)
    have := nle_rec hN hw (MV.nle_mono (by omega) _ hf) k1 (by omega)
    rw [Nat.add_assoc] at this
    exact this
theorem nle_fold {most : Nat} {ev : Evl} (hN : NleM most ev) {f r : MV} : ∀ {l : List Nat} {v : MV} {c M : Nat}, foldC ev f r l = some (v, c) → f.nle M → r.nle M → (l.length ≤ M ∧ ∀ n ∈ l, n ≤ M) → v.nle (M + c)
  | [], v, c, M, h, hf, hr, hl => by
    simp only [foldC, Option.some.injEq, Prod.mk.injEq] at h
    obtain ⟨rfl, rfl⟩ := h
    exact hr
  | x :: l, v, c, M, h, hf, hr, hl => by
    simp only [foldC] at h
    split at h
    · cases h
    rename_i v1 c1 hv1
    split at h
    · cases h
    rename_i w c2 hw
    simp only [Option.some.injEq, Prod.mk.injEq] at h
    obtain ⟨rfl, rfl⟩ := h
    have hl1 : l.length + 1 ≤ M := by simpa using hl.1
    have k1 := nle_fold hN hv1 hf hr ⟨by omega, fun n hn => hl.2 n (List.mem_cons_of_mem _ hn)⟩
    have hx : x ≤ M := hl.2 x (by simp)
    have k2 := nle_call hN hw (MV.nle_mono (show M ≤ M + c1 by omega) _ hf) (by
      simp only [MV.nles, MV.nle]
      exact ⟨by omega, ⟨by omega, fun n hn => Nat.le_trans (hl.2 n (List.mem_cons_of_mem _ hn)) (by omega)⟩, k1, trivial⟩)
    rw [Nat.add_assoc] at k2
    exact k2
theorem nle_all {most : Nat} {ev : Evl} (hN : NleM most ev) {e : List MV} : ∀ {l : List Tm} {vs : List MV} {c M : Nat}, allC ev l e = some (vs, c) → MV.nles M e → MV.nles (M + c) vs
  | [], vs, c, M, h, he => by
    simp only [allC, Option.some.injEq, Prod.mk.injEq] at h
    obtain ⟨rfl, rfl⟩ := h
    simp only [MV.nles]
  | t :: l, vs, c, M, h, he => by
    simp only [allC] at h
    split at h
    · cases h
    rename_i v1 c1 hv1
    split at h
    · cases h
    rename_i w c2 hw
    simp only [Option.some.injEq, Prod.mk.injEq] at h
    obtain ⟨rfl, rfl⟩ := h
    simp only [MV.nles]
    exact ⟨MV.nle_mono (by omega) _ (hN M hv1 he), MV.nles_mono (by omega) _ (nle_all hN hw he)⟩
theorem nle_node {most : Nat} {ev : Evl} (hN : NleM most ev) {k : Int} {l : List MV} {v : MV} {c M : Nat} (h : nodeC ev k l = some (v, c)) (hl : MV.nles M l) : v.nle (M + 1 + c) := by
  unfold nodeC at h
  repeat' split at h
  all_goals first
    | (cases h; done)
    | skip
  all_goals try simp only [MV.nles, MV.nle] at hl
  · exact nle_call hN h (MV.nle_mono (by omega) _ hl.1) (by simp only [MV.nles]; exact ⟨MV.nle_mono (by omega) _ hl.2.1, trivial⟩)
  · simp only [Option.some.injEq, Prod.mk.injEq] at h
    obtain ⟨rfl, rfl⟩ := h
    simp only [MV.nle]; omega
  · simp only [Option.some.injEq, Prod.mk.injEq] at h
    obtain ⟨rfl, rfl⟩ := h
    simp only [MV.nle]; omega
  · exact nle_rec hN h (MV.nle_mono (by omega) _ hl.2.1) (MV.nle_mono (by omega) _ hl.1) (by omega)
  · simp only [Option.some.injEq, Prod.mk.injEq] at h
    obtain ⟨rfl, rfl⟩ := h
    simp only [MV.nle]; simp
  · simp only [Option.some.injEq, Prod.mk.injEq] at h
    obtain ⟨rfl, rfl⟩ := h
    simp only [MV.nle, List.mem_cons, List.length_cons]
    refine ⟨by omega, ?_⟩
    rintro n (rfl | hn)
    · omega
    · exact Nat.le_trans (hl.2.1.2 n hn) (by omega)
  · exact nle_fold hN h (MV.nle_mono (by omega) _ hl.2.1) (MV.nle_mono (by omega) _ hl.1) ⟨by omega, fun n hn => Nat.le_trans (hl.2.2.1.2 n hn) (by omega)⟩
  · simp only [Option.some.injEq, Prod.mk.injEq] at h
    obtain ⟨rfl, rfl⟩ := h
    simp only [MV.nle]
    exact ⟨MV.nle_mono (by omega) _ hl.1, MV.nle_mono (by omega) _ hl.2.1⟩
  · simp only [Option.some.injEq, Prod.mk.injEq] at h
    obtain ⟨rfl, rfl⟩ := h
    exact MV.nle_mono (by omega) _ hl.1.1
  · simp only [Option.some.injEq, Prod.mk.injEq] at h
    obtain ⟨rfl, rfl⟩ := h
    exact MV.nle_mono (by omega) _ hl.1.2
  · simp only [Option.some.injEq, Prod.mk.injEq] at h
    obtain ⟨rfl, rfl⟩ := h
    simp only [MV.nle]
theorem nle_evS (most : Nat) : ∀ d, NleM most (evS d)
  | 0, t, e, v, c, M, h, he => by cases h
  | d + 1, t, e, v, c, M, h, he => by
    have hN := nle_evS most d
    rw [evS] at h
    split at h
    · split at h
      · rename_i hi
        simp only [Option.some.injEq, Prod.mk.injEq] at h
        obtain ⟨rfl, rfl⟩ := h
        have hg : e[t.index.toNat]? = some (e.getD t.index.toNat .unit) := by simp [List.getD, List.getElem?_eq_getElem hi.2]
        exact MV.nle_mono (by omega) _ (nles_get he hg)
      · cases h
    split at h
    · split at h
      · cases h
      · simp only [Option.some.injEq, Prod.mk.injEq] at h
        obtain ⟨rfl, rfl⟩ := h
        simp only [MV.nle]
        exact MV.nles_mono (by omega) _ he
    split at h
    · cases h
    split at h
    · cases h
    rename_i l c1 hl
    split at h
    · cases h
    rename_i w c2 hw
    simp only [Option.some.injEq, Prod.mk.injEq] at h
    obtain ⟨rfl, rfl⟩ := h
    unfold nodeS at hw
    split at hw
    · have := nle_node hN hw (nle_all hN hl he)
      exact MV.nle_mono (by omega) _ this
    · cases hw
end Go.Proofs.YtgfjcbofbbcnmaaDoor.Lift

/-
  Package machine: the walk of eval.
-/
namespace Go.Proofs.YtgfjcbofbbcnmaaDoor.Lift
set_option linter.unusedSimpArgs false
set_option linter.unusedVariables false
set_option linter.unnecessarySimpa false
open Go
variable {gl : Globs}

theorem evS_pos : ∀ {d : Nat} {t : Tm} {e : List MV} {v : MV} {c : Nat}, evS d t e = some (v, c) → 1 ≤ c
  | 0, t, e, v, c, h => by cases h
  | d + 1, t, e, v, c, h => by
    rw [evS] at h
    repeat' split at h
    all_goals first
      | (cases h; done)
      | (simp only [Option.some.injEq, Prod.mk.injEq] at h; omega)
theorem blC_nil0 : blC [] (some []) = some (True, .ag [] []) := rfl
attribute [go_sem] blC_nil0
theorem thing_list (l : List Nat) : (MV.list l).thing = .iface 100 (cellM l) := by rw [MV.thing]
theorem thing_both (x y : MV) : (MV.both x y).thing = .iface 106 (.ref [x.thing, y.thing]) := by rw [MV.thing]
theorem thing_unit : MV.unit.thing = .iface 110 (.agg []) := by rw [MV.thing]
theorem cellM_nil : cellM [] = nilP := rfl
theorem cellM_cons (n : Nat) (l : List Nat) : cellM (n :: l) = .ref [dint (n : Int), cellM l] := rfl
theorem outM_yes {most n : Nat} (h : n ≤ most) (v : DV) : outM most n v = .tup [v, dbool true] := by unfold outM; rw [if_pos h]
theorem outM_no {most n : Nat} (h : ¬ n ≤ most) (v : DV) : outM most n v = .tup [nilI, dbool false] := by unfold outM; rw [if_neg h]
theorem useM_yes {most n : Nat} (h : n ≤ most) : useM most n = [dint (n : Int), dint (most : Int)] := by unfold useM; rw [if_pos h]
theorem useM_no {most n : Nat} (h : ¬ n ≤ most) : useM most n = [dint (most : Int), dint (most : Int)] := by unfold useM; rw [if_neg h]

def FoldM (P : Program) (gl : Globs) (ff : FuncId) (most : Nat) (ev : Evl) : Prop :=
  ∀ ⦃r f v : MV⦄ ⦃l : List Nat⦄ ⦃u c : Nat⦄ (b M : Nat), foldC ev f r l = some (v, c) → u ≤ most → M + (most - u) ≤ 1073741824 → r.nle M → f.nle M → (l.length ≤ M ∧ ∀ n ∈ l, n ≤ M) →
    Con1 P gl ff [ptr b, .agg (arr3 [r, f, .list l])] [(b, useM most u)] (outM most (u + c) v.thing) [(b, useM most (u + c))]

/-- the first unit is spent; a variable, a function -/
theorem evalM_1 {most : Nat} (hm : most ≤ 1073741824) (t : Tm) {e : List MV} {u : Nat} (b : Nat) (hu : u ≤ most) (h1 : t.kind = 1) (hi : 0 ≤ t.index ∧ t.index.toNat < e.length) :
    Con1 Tryd.prog gl 45 [ptr b, t.dv, MV.envM e] [(b, useM most u)] (outM most (u + 1) (e.getD t.index.toNat .unit).thing) [(b, useM most (u + 1))] := by
  rw [useM_yes hu]
  have hti : (t.index.toNat : Int) = t.index := Int.toNat_of_nonneg hi.1
  have W1 := env_at_ok (gl := gl) e t.index.toNat hi.2
  rw [hti] at W1
  by_cases hf1 : u + 1 ≤ most
  · rw [useM_yes hf1, outM_yes hf1]
    have hum : ¬ (most : Int) ≤ (u : Int) := by omega
    refine t_in Tryd.func45 ?_
    intro X hP hgl hf hfn hn hR hids hfit
    refine t_g (j2 @hum @h1) ?_
    refine t_c1 trivial W1 ?_
    repeat (first | refine W_seq ?_ | refine W_skip ?_ | refine W_block ?_ | refine W_inBlock ?_ | refine W_label ?_ | refine W_exit rfl ?_)
    first | refine W_retR hP hf hfn _ ([(b, [dint ((u + 1 : Nat) : Int), dint (most : Int)])]) (by first | (simp [go_sem, hP, hgl, hn]; done) | (simp [go_sem, hP, hgl, hn]; rfl)) (by simp [go_sem, hP, hgl, hn]) (by simp) ?_ hR.2 | refine W_endR hP hf hfn _ ([(b, [dint ((u + 1 : Nat) : Int), dint (most : Int)])]) (by first | (simp [go_sem, hP, hgl, hn]; done) | (simp [go_sem, hP, hgl, hn]; rfl)) (by simp [go_sem, hP, hgl, hn]) (by simp) ?_ hR.2
    rw [hR.1]
    refine ⟨?_, by simp⟩
    try simp
    try all_goals (simp [Ty.dv, Ty.cells_eq, Ty.kind_mk, Ty.args_mk, Tm.dv, Tm.cells_eq, Tm.kind_mk, Tm.index_mk, Tm.type_mk, Tm.args_mk, Val.dv, Val.cells_eq, Val.kind_mk, Val.num_mk, Val.list_mk, Val.args_mk, ints])
  · rw [useM_no hf1, outM_no hf1]
    have hum : (most : Int) ≤ (u : Int) := by omega
    have hue : (u : Int) = (most : Int) := by omega
    refine t_in Tryd.func45 ?_
    intro X hP hgl hf hfn hn hR hids hfit
    refine t_g @hum ?_
    repeat (first | refine W_seq ?_ | refine W_skip ?_ | refine W_block ?_ | refine W_inBlock ?_ | refine W_label ?_ | refine W_exit rfl ?_)
    first | refine W_retR hP hf hfn _ ([(b, [dint (most : Int), dint (most : Int)])]) (by first | (simp [go_sem, hP, hgl, hn, hue]; done) | (simp [go_sem, hP, hgl, hn, hue]; rfl)) (by simp [go_sem, hP, hgl, hn, hue]) (by simp) ?_ hR.2 | refine W_endR hP hf hfn _ ([(b, [dint (most : Int), dint (most : Int)])]) (by first | (simp [go_sem, hP, hgl, hn, hue]; done) | (simp [go_sem, hP, hgl, hn, hue]; rfl)) (by simp [go_sem, hP, hgl, hn, hue]) (by simp) ?_ hR.2
    rw [hR.1]
    refine ⟨?_, by simp [hue]⟩
    try simp [hue]
    try all_goals (simp [Ty.dv, Ty.cells_eq, Ty.kind_mk, Ty.args_mk, Tm.dv, Tm.cells_eq, Tm.kind_mk, Tm.index_mk, Tm.type_mk, Tm.args_mk, Val.dv, Val.cells_eq, Val.kind_mk, Val.num_mk, Val.list_mk, Val.args_mk, ints])

theorem evalM_2 {most : Nat} (hm : most ≤ 1073741824) (t : Tm) {e : List MV} {u : Nat} (b : Nat) (hu : u ≤ most) (h2 : t.kind = 2) {body : Tm} {rest : List Tm} (ha : t.args = body :: rest) :
    Con1 Tryd.prog gl 45 [ptr b, t.dv, MV.envM e] [(b, useM most u)] (outM most (u + 1) (MV.clo body e).thing) [(b, useM most (u + 1))] := by
  rw [useM_yes hu]
  by_cases hf1 : u + 1 ≤ most
  · rw [useM_yes hf1, outM_yes hf1, thing_clo]
    have hum : ¬ (most : Int) ≤ (u : Int) := by omega
    have hg : (t.args.map Tm.cells)[0]? = some [dint body.kind, dint body.index, dint body.type.kind, .sl (body.type.args.map Ty.cells), .sl (body.args.map Tm.cells)] := by rw [ha]; simp [Tm.cells_eq]
    have hg' : t.args[0]? = some body := by rw [ha]; rfl
    have hT := Tm.fold body
    refine t_in Tryd.func45 ?_
    intro X hP hgl hf hfn hn hR hids hfit
    refine t_g (j2 @hum @h2) ?_
    refine W_reg [42] fun K hK => ?_
    simp [go_sem, hP, hgl, hn, hg, hg', hT, Tm.cells_eq]
    refine vcK_boxR (cs := [dint body.kind, dint body.index, dint body.type.kind, .sl (body.type.args.map Ty.cells), .sl (body.args.map Tm.cells), MV.envM e]) (y := .ag [dint body.kind, dint body.index, dint body.type.kind, .sl (body.type.args.map Ty.cells), .sl (body.args.map Tm.cells), MV.envM e] []) (by simp [go_sem, hP, hgl, hn]) (by simp [go_sem]) (by simp [go_sem]) (by rw [hn]; exact Nat.le_of_ble_eq_true rfl) (by rfl) ?_
    simp [go_sem, hP, hgl, hn]
    refine t_e ?_
    clear hK K
    repeat (first | refine W_seq ?_ | refine W_skip ?_ | refine W_block ?_ | refine W_inBlock ?_ | refine W_label ?_ | refine W_exit rfl ?_)
    first | refine W_retR hP hf hfn _ ([(b, [dint ((u + 1 : Nat) : Int), dint (most : Int)])]) (by first | (simp [go_sem, hP, hgl, hn]; done) | (simp [go_sem, hP, hgl, hn]; rfl)) (by simp [go_sem, hP, hgl, hn]) (by simp) ?_ hR.2 | refine W_endR hP hf hfn _ ([(b, [dint ((u + 1 : Nat) : Int), dint (most : Int)])]) (by first | (simp [go_sem, hP, hgl, hn]; done) | (simp [go_sem, hP, hgl, hn]; rfl)) (by simp [go_sem, hP, hgl, hn]) (by simp) ?_ hR.2
    rw [hR.1]
    refine ⟨?_, by simp⟩
    try simp
    try all_goals (simp [Ty.dv, Ty.cells_eq, Ty.kind_mk, Ty.args_mk, Tm.dv, Tm.cells_eq, Tm.kind_mk, Tm.index_mk, Tm.type_mk, Tm.args_mk, Val.dv, Val.cells_eq, Val.kind_mk, Val.num_mk, Val.list_mk, Val.args_mk, ints])
  · rw [useM_no hf1, outM_no hf1]
    have hum : (most : Int) ≤ (u : Int) := by omega
    have hue : (u : Int) = (most : Int) := by omega
    refine t_in Tryd.func45 ?_
    intro X hP hgl hf hfn hn hR hids hfit
    refine t_g @hum ?_
    repeat (first | refine W_seq ?_ | refine W_skip ?_ | refine W_block ?_ | refine W_inBlock ?_ | refine W_label ?_ | refine W_exit rfl ?_)
    first | refine W_retR hP hf hfn _ ([(b, [dint (most : Int), dint (most : Int)])]) (by first | (simp [go_sem, hP, hgl, hn, hue]; done) | (simp [go_sem, hP, hgl, hn, hue]; rfl)) (by simp [go_sem, hP, hgl, hn, hue]) (by simp) ?_ hR.2 | refine W_endR hP hf hfn _ ([(b, [dint (most : Int), dint (most : Int)])]) (by first | (simp [go_sem, hP, hgl, hn, hue]; done) | (simp [go_sem, hP, hgl, hn, hue]; rfl)) (by simp [go_sem, hP, hgl, hn, hue]) (by simp) ?_ hR.2
    rw [hR.1]
    refine ⟨?_, by simp [hue]⟩
    try simp [hue]
    try all_goals (simp [Ty.dv, Ty.cells_eq, Ty.kind_mk, Ty.args_mk, Tm.dv, Tm.cells_eq, Tm.kind_mk, Tm.index_mk, Tm.type_mk, Tm.args_mk, Val.dv, Val.cells_eq, Val.kind_mk, Val.num_mk, Val.list_mk, Val.args_mk, ints])
end Go.Proofs.YtgfjcbofbbcnmaaDoor.Lift

namespace Go.Proofs.YtgfjcbofbbcnmaaDoor.Lift
set_option linter.unusedSimpArgs false
set_option linter.unusedVariables false
set_option linter.unnecessarySimpa false
open Go
variable {gl : Globs}

/-- a slice of one-cell elements -/
def ones (l : List DV) : List (List DV) := l.map fun x => [x]
theorem ones_length (l : List DV) : (ones l).length = l.length := by simp [ones]
theorem ones_get {l : List DV} {i : Nat} {x : DV} (h : l[i]? = some x) : (ones l)[i]? = some [x] := by simp [ones, h]
attribute [go_sem] ones_length

theorem backwardM_ok (l : List DV) : Con Tryd.prog gl 83 [.sl (ones l)] [] fun r φ => ∃ b, r = .prim (.func (.func 93) #[] #[.pointer (some ⟨b, 0, none⟩)]) ∧ φ = [(b, [.sl (ones l)])] := by
  refine t_in Tryd.func83 ?_
  intro X hP hgl hf hfn hn hR hids hfit
  refine t_rg0 ?_
  refine W_expose 1 (by simp [go_sem]; rfl) ?_
  intro b hb
  simp [go_sem]
  refine t_rg0 ?_
  refine t_a ?_
  refine W_retR hP hf hfn (.prim (.func (.func 93) #[] #[.pointer (some ⟨b, 0, none⟩)])) [(b, [.sl (ones l)])] (by simp [go_sem, hP, hgl, hn]) (by simp [go_sem]) (by simp) (by rw [hR.1]; exact ⟨b, rfl, rfl⟩) hR.2

/-- what is asked of yield: the numbers from the last one on -/
def BackM (P : Program) (gl : Globs) (l : List DV) (φ : Nat → Objs) (Stop : Objs → Loop → Prop) (lp : Nat) (r : Loop) (D0 : Nat → Nat → Prop) (w0 : World) : Prop :=
  ∀ (i : Nat) (x : DV), l[i]? = some x → YC P gl D0 w0 lp r [dint i, x] (φ (i + 1)) fun b φ' r' => if b = true then φ' = φ i ∧ r' = r else Stop φ' r'

theorem backItM_ok (l : List DV) (hlen : l.length ≤ 2147483648) (b0 : Nat) (φ : Nat → Objs) (hφ : ∀ i, (φ i).map (·.1) = (φ 0).map (·.1)) (hnd : ((φ 0).map (·.1)).Nodup) (hb0 : b0 ∉ (φ 0).map (·.1)) {Stop : Objs → Loop → Prop} (hStop : ∀ ψ r', Stop ψ r' → ψ.map (·.1) = (φ 0).map (·.1)) (lp : Nat) (r : Loop) (hps : r.params.size = 2) :
    ItC Tryd.prog gl 93 [.prim (.func (.yield lp) #[] #[]), ptr b0] ((b0, [.sl (ones l)]) :: φ l.length) lp r (BackM Tryd.prog gl l φ Stop lp r) (fun φ' r' => (φ' = (b0, [.sl (ones l)]) :: φ 0 ∧ r' = r) ∨ ∃ ψ, φ' = (b0, [.sl (ones l)]) :: ψ ∧ Stop ψ r') := by
  refine ItC_intro Tryd.func93 rfl (by kernel_rfl) (Nat.le_of_ble_eq_true rfl) ?_
  intro X hP hgl hf hfn hn hmd hids hfit hlp hY
  simp only [List.map_cons, List.mem_cons, not_or, hφ] at hlp
  obtain ⟨hlb, hlφ⟩ := hlp
  have hin : ∀ (i : Nat) (A : St), (∀ m v, (m, v) ∈ A → ∀ b ∈ (φ 0).map (·.1), m ≠ .heap b) → objsIn (get (A ++ heapSt (φ i))) (φ i) := fun i A h => objsIn_tail (by rw [hφ]; exact hnd) (by rw [hφ]; exact h)
  simp only [entryL, entry, argSt, heapSt, List.map_cons, List.map_nil, List.cons_append, List.nil_append]
  refine t_rg @hlb ?_
  refine t_a ?_
  refine W_tail (A' := [(.slot 3, .one (.v (dint ((l.length : Int) - 1 - (0 : Nat))))), (.slot 0, .one (.v (.prim (.func (.yield lp) #[] #[])))), (.slot 1, .one (.v (ptr b0))), (.heap lp, .ob r), (.heap b0, .row [.v (.sl (ones l))])]) (A := [_, _, _, _, _, _, _, _]) ?_ ?_ ?_
  · intro m v h
    simp only [List.mem_cons, List.not_mem_nil, or_false, Prod.mk.injEq] at h
    rcases h with ⟨rfl, rfl⟩ | ⟨rfl, rfl⟩ | ⟨rfl, rfl⟩ | ⟨rfl, rfl⟩ | ⟨rfl, rfl⟩ <;> simp [go_sem, hlb]
  · simp only [List.cons_append, List.nil_append]
    refine W_upto (X := X) l.length (fun _ => True) (fun j => (.slot 3, .one (.v (dint ((l.length : Int) - 1 - (j : Nat))))) :: (.slot 0, .one (.v (.prim (.func (.yield lp) #[] #[])))) :: (.slot 1, .one (.v (ptr b0))) :: (.heap lp, .ob r) :: (.heap b0, .row [.v (.sl (ones l))]) :: heapSt (φ (l.length - j))) trivial ?_ ?_
    · intro j hj _ hnext
      obtain ⟨i, hi⟩ : ∃ i : Nat, l.length = j + 1 + i := ⟨l.length - (j + 1), by omega⟩
      have hi1 : (l.length : Int) - 1 - (j : Nat) = (i : Nat) := by omega
      have hi2 : l.length - j = i + 1 := by omega
      have hi3 : l.length - (j + 1) = i := by omega
      have hx : l[i]? = some l[i] := List.getElem?_eq_getElem (by omega)
      rw [hi1, hi2]
      rw [hi3] at hnext
      generalize l[i] = x at hx
      have hgi := ones_get hx
      refine t_rg0 ?_
      refine t_yes ?_
      refine t_a ?_
      first | refine W_reg [] fun K hK => ?_ | refine W_regd (by rw [hP]; exact mixed) [] fun K hK => ?_
      refine t_s (j2 @hlb @hgi) ?_
      repeat (refine ⟨by omega, ?_⟩)
      refine vcK_yieldA (by simp [go_sem]) hP hgl (hY i x hx) hps (by simp [go_sem]) rfl ?_ (by rw [hφ]; exact hnd) (by simp [go_sem]) (by rw [hn]; exact Nat.le_of_ble_eq_true rfl) [(.slot 3, .one (.v (dint (i : Nat)))), (.slot 0, .one (.v (.prim (.func (.yield lp) #[] #[])))), (.slot 1, .one (.v (ptr b0))), (.heap b0, .row [.v (.sl (ones l))])] ?_ ?_ ?_
      · repeat (first | refine objsIn_slot ?_ | refine objsIn_heap (by rw [hφ]; assumption) ?_)
        exact objsIn_self (by rw [hφ]; exact hnd)
      · intro m v h
        simp only [List.mem_cons, List.not_mem_nil, or_false, Prod.mk.injEq] at h
        rw [hφ]
        rcases h with ⟨rfl, rfl⟩ | ⟨rfl, rfl⟩ | ⟨rfl, rfl⟩ | ⟨rfl, rfl⟩
        · simp [go_sem]
        · simp [go_sem]
        · simp [go_sem]
        · refine ⟨by simp [go_sem, hlb], by simp, by simp; exact fun e => hlb e.symm, fun b hb e => ?_⟩
          cases e; exact hb0 hb
      · intro b φ' r' h
        have : φ'.map (·.1) = (φ 0).map (·.1) := by
          split at h
          · rw [h.1, hφ]
          · exact hStop _ _ h
        rw [this]
        exact ⟨hnd, hlφ⟩
      · intro b φ' r' h _
        simp only [List.cons_append, List.nil_append]
        cases b with
        | true =>
          simp only [if_true] at h
          obtain ⟨rfl, rfl⟩ := h
          simp [go_sem, hP, hgl, hn]
          refine t_e ?_
          clear hK K
          refine t_no ?_
          refine t_rg0 ?_
          refine t_a ?_
          refine W_tail (A' := [(.slot 3, .one (.v (dint ((l.length : Int) - 1 - (j + 1 : Nat))))), (.slot 0, .one (.v (.prim (.func (.yield lp) #[] #[])))), (.slot 1, .one (.v (ptr b0))), (.heap lp, .ob r'), (.heap b0, .row [.v (.sl (ones l))])]) (A := [_, _, _, _, _, _, _, _, _]) ?_ (hnext trivial) ?_
          · intro m v h
            simp only [List.mem_cons, List.not_mem_nil, or_false, Prod.mk.injEq] at h
            rcases h with ⟨rfl, rfl⟩ | ⟨rfl, rfl⟩ | ⟨rfl, rfl⟩ | ⟨rfl, rfl⟩ | ⟨rfl, rfl⟩ <;> simp [go_sem, hlb]
            omega
          · intro m v h
            simp only [List.mem_cons, List.not_mem_nil, or_false, Prod.mk.injEq] at h
            rw [hφ]
            intro b hb
            rcases h with ⟨rfl, rfl⟩ | ⟨rfl, rfl⟩ | ⟨rfl, rfl⟩ | ⟨rfl, rfl⟩ | ⟨rfl, rfl⟩ | ⟨rfl, rfl⟩ | ⟨rfl, rfl⟩ | ⟨rfl, rfl⟩ | ⟨rfl, rfl⟩ <;> first | (simp; done) | (intro e; cases e; first | exact hb0 hb | exact hlφ hb)
        | false =>
          simp only [Bool.false_eq_true, if_false] at h
          have hids' := hStop _ _ h
          simp [go_sem, hP, hgl, hn]
          refine t_e ?_
          clear hK K
          refine t_yes ?_
          refine t_a ?_
          refine W_itfin hmd (φ := (b0, [.sl (ones l)]) :: φ') (q := r') (r := .tup []) (by rw [hP, hf, hfn]; exact Tryd.func93) (by rw [hfn]; simp [go_sem]) (objsIn_one ?_ ?_) ?_ ?_ (.inr ⟨φ', rfl, h⟩) outs_ret
          · simp [go_sem, hlb]
          · repeat (first | refine objsIn_slot ?_ | refine objsIn_heap (by rw [hids']; assumption) ?_)
            exact objsIn_self (by rw [hids']; exact hnd)
          · simp only [List.map_cons, List.nodup_cons, hids']; exact ⟨hb0, hnd⟩
          · simp [go_sem, hlb]
    · intro _
      refine t_rg0 ?_
      refine t_no ?_
      refine t_a ?_
      refine W_itfin hmd (φ := (b0, [.sl (ones l)]) :: φ 0) (q := r) (r := .tup []) (by rw [hP, hf, hfn]; exact Tryd.func93) (by rw [hfn]; simp [go_sem]) (objsIn_one ?_ ?_) ?_ ?_ (.inl ⟨rfl, rfl⟩) outs_end
      · simp [go_sem, hlb]
      · repeat (first | refine objsIn_slot ?_ | refine objsIn_heap (by assumption) ?_)
        exact objsIn_self hnd
      · simp only [List.map_cons, List.nodup_cons]; exact ⟨hb0, hnd⟩
      · simp [go_sem, hlb]
  · intro m v h
    simp only [List.mem_cons, List.not_mem_nil, or_false, Prod.mk.injEq] at h
    rw [hφ]
    intro b hb
    rcases h with ⟨rfl, rfl⟩ | ⟨rfl, rfl⟩ | ⟨rfl, rfl⟩ | ⟨rfl, rfl⟩ | ⟨rfl, rfl⟩ | ⟨rfl, rfl⟩ | ⟨rfl, rfl⟩ | ⟨rfl, rfl⟩ <;> first | (simp; done) | (intro e; cases e; first | exact hb0 hb | exact hlφ hb)
end Go.Proofs.YtgfjcbofbbcnmaaDoor.Lift

