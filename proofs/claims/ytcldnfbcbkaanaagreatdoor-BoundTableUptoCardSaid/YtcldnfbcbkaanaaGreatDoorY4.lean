import Derived.Test.YtcldnfbcbkaanaaGreatDoorY3
/-
  Plain facts: what is drawn out of a deck of numbers: types, contexts, terms; their forms.
-/
namespace Go.Proofs.YtcldnfbcbkaanaaGreatDoor.Lift
set_option linter.unusedSimpArgs false
set_option linter.unusedVariables false
set_option linter.unnecessarySimpa false
open Go

/-- a small type -/
def typeD (l : List Int) : Nat → Nat → Ty × Nat
  | 0, p =>
    if (nextD l p 7).1 = 3 then (Ty.mk 2 [], (nextD l p 7).2) else if (nextD l p 7).1 = 4 then (Ty.mk 5 [], (nextD l p 7).2) else (Ty.mk 1 [], (nextD l p 7).2)
  | n + 1, p =>
    if (nextD l p 7).1 = 3 then (Ty.mk 2 [], (nextD l p 7).2) else if (nextD l p 7).1 = 4 then (Ty.mk 5 [], (nextD l p 7).2)
    else if (nextD l p 7).1 = 5 then (Ty.mk 3 [(typeD l n (nextD l p 7).2).1, (typeD l n (typeD l n (nextD l p 7).2).2).1], (typeD l n (typeD l n (nextD l p 7).2).2).2)
    else if (nextD l p 7).1 = 6 then (Ty.mk 4 [(typeD l n (nextD l p 7).2).1, (typeD l n (typeD l n (nextD l p 7).2).2).1], (typeD l n (typeD l n (nextD l p 7).2).2).2)
    else (Ty.mk 1 [], (nextD l p 7).2)

/-- the variable i's type -/
def varTy (g : List Ty) (i : Nat) : Ty := g.getD (g.length - 1 - i) zeroTy
/-- the variables of a type -/
def varsN (g : List Ty) (t : Ty) : List Nat := (List.range g.length).filter fun i => (varTy g i).same t
/-- the first variable that is a function into a type -/
def funN (g : List Ty) (t : Ty) : Option Nat := (List.range g.length).find? fun i => decide ((varTy g i).kind = 4) && ((varTy g i).arg 1).same t

/-- a variable, if one is chosen -/
def pickD (l : List Int) (t : Ty) (g : List Ty) (p : Nat) : Option Tm × Nat :=
  if (varsN g t).length = 0 then (none, p)
  else if (nextD l p 3).1 = 0 then (none, (nextD l p 3).2)
  else (some (vT ((varsN g t).getD (nextD l (nextD l p 3).2 (varsN g t).length).1.toNat 0 : Nat)), (nextD l (nextD l p 3).2 (varsN g t).length).2)

def numD (l : List Int) (p : Nat) : Tm × Nat := (numTm (nextD l p 3).1.toNat, (nextD l p 3).2)

/-- a term of a type, without depth -/
def leafD (l : List Int) (t : Ty) (g : List Ty) (p : Nat) : Tm × Nat :=
  match pickD l t g p with
  | (some x, q) => (x, q)
  | (none, q) =>
    match t with
    | .mk k ts =>
      if k = 1 then numD l q
      else if k = 2 then (nT 7 [], q)
      else match ts with
        | [a, b] =>
          if k = 3 then (nT 10 [(leafD l a g q).1, (leafD l b g (leafD l a g q).2).1], (leafD l b g (leafD l a g q).2).2)
          else if k = 4 then (Tm.mk 2 0 a [(leafD l b (g ++ [a]) q).1], (leafD l b (g ++ [a]) q).2)
          else (nT 13 [], q)
        | _ => (nT 13 [], q)
termination_by SizeOf.sizeOf t

/-- the end of a draw: by the type -/
def endD (l : List Int) (F : Ty → List Ty → Nat → Tm × Nat) (t : Ty) (g : List Ty) (q : Nat) : Tm × Nat :=
  if t.kind = 1 then
    if (nextD l q 5).1 = 0 then (nT 5 [(F t g (nextD l q 5).2).1], (F t g (nextD l q 5).2).2)
    else if (nextD l q 5).1 = 1 then (appsT plusT [(F t g (nextD l q 5).2).1, (F t g (F t g (nextD l q 5).2).2).1], (F t g (F t g (nextD l q 5).2).2).2)
    else if (nextD l q 5).1 = 2 then (appsT subT [(F t g (nextD l q 5).2).1, (F t g (F t g (nextD l q 5).2).2).1], (F t g (F t g (nextD l q 5).2).2).2)
    else numD l (nextD l q 5).2
  else if t.kind = 2 then
    if (nextD l q 2).1 = 0 then (nT 8 [(F (Ty.mk 1 []) g (nextD l q 2).2).1, (F t g (F (Ty.mk 1 []) g (nextD l q 2).2).2).1], (F t g (F (Ty.mk 1 []) g (nextD l q 2).2).2).2)
    else (nT 7 [], (nextD l q 2).2)
  else if t.kind = 3 then (nT 10 [(F (t.arg 0) g q).1, (F (t.arg 1) g (F (t.arg 0) g q).2).1], (F (t.arg 1) g (F (t.arg 0) g q).2).2)
  else if t.kind = 4 then (Tm.mk 2 0 (t.arg 0) [(F (t.arg 1) (g ++ [t.arg 0]) q).1], (F (t.arg 1) (g ++ [t.arg 0]) q).2)
  else (nT 13 [], q)

/-- a draw with depth, without a variable: by the choice k -/
def stepD (l : List Int) (F : Ty → List Ty → Nat → Tm × Nat) (t : Ty) (g : List Ty) (k : Int) (q : Nat) : Tm × Nat :=
  if k = 0 then
    let s := typeD l 0 q
    let x := F t (g ++ [s.1]) s.2
    let y := F s.1 g x.2
    (nT 3 [Tm.mk 2 0 s.1 [x.1], y.1], y.2)
  else if k = 1 then
    let s := typeD l 0 q
    let x := F t g s.2
    let y := F s.1 g x.2
    (nT 11 [nT 10 [x.1, y.1]], y.2)
  else if k = 2 then
    let x := F t (g ++ [Ty.mk 1 [], t]) q
    let y := F t g x.2
    let z := numD l y.2
    (Tm.mk 6 0 t [y.1, Tm.mk 2 0 (Ty.mk 1 []) [Tm.mk 2 0 t [x.1]], z.1], z.2)
  else if k = 3 then
    let x := F t (g ++ [Ty.mk 1 [], Ty.mk 2 [], t]) q
    let y := F t g x.2
    let z := F (Ty.mk 2 []) g y.2
    (Tm.mk 9 0 t [y.1, Tm.mk 2 0 (Ty.mk 1 []) [Tm.mk 2 0 (Ty.mk 2 []) [Tm.mk 2 0 t [x.1]]], z.1], z.2)
  else if k = 4 then
    let s := typeD l 0 q
    let x := F s.1 g s.2
    let y := F t g x.2
    (nT 12 [nT 10 [x.1, y.1]], y.2)
  else if k = 5 then
    match funN g t with
    | some i => (nT 3 [vT i, (F ((varTy g i).arg 0) g q).1], (F ((varTy g i).arg 0) g q).2)
    | none => endD l F t g q
  else endD l F t g q

/-- a term of a type in a context -/
def termD (l : List Int) : Nat → Ty → List Ty → Nat → Tm × Nat
  | 0, t, g, p => leafD l t g p
  | n + 1, t, g, p =>
    match pickD l t g p with
    | (some x, q) => (x, q)
    | (none, q) => stepD l (termD l n) t g (nextD l q 8).1 (nextD l q 8).2

theorem leafD_eq (l : List Int) (t : Ty) (g : List Ty) (p : Nat) (ht : t.ok) : leafD l t g p =
    match pickD l t g p with
    | (some x, q) => (x, q)
    | (none, q) =>
      if t.kind = 1 then numD l q
      else if t.kind = 2 then (nT 7 [], q)
      else if t.kind = 3 then (nT 10 [(leafD l (t.arg 0) g q).1, (leafD l (t.arg 1) g (leafD l (t.arg 0) g q).2).1], (leafD l (t.arg 1) g (leafD l (t.arg 0) g q).2).2)
      else if t.kind = 4 then (Tm.mk 2 0 (t.arg 0) [(leafD l (t.arg 1) (g ++ [t.arg 0]) q).1], (leafD l (t.arg 1) (g ++ [t.arg 0]) q).2)
      else (nT 13 [], q) := by
  rw [leafD.eq_def]
  rcases pickD l t g p with ⟨_ | x, q⟩
  · cases t with
    | mk k ts =>
      simp only [Ty.kind]
      by_cases h1 : k = 1
      · simp [h1]
      by_cases h2 : k = 2
      · simp [h2]
      simp only [h1, h2, if_false]
      by_cases h34 : k = 3 ∨ k = 4
      · obtain ⟨a, b, e, -, -, e0, e1⟩ := Ty.ok_args ht h34
        simp only [Ty.args] at e
        subst e
        rw [e0, e1]
        rfl
      · have h3 : k ≠ 3 := fun e => h34 (.inl e)
        have h4 : k ≠ 4 := fun e => h34 (.inr e)
        simp only [h3, h4, if_false]
        match ts with
        | [a, b] => rfl
        | [] => rfl
        | [_] => rfl
        | _ :: _ :: _ :: _ => rfl
  · rfl

theorem ty_two {k : Int} {a b : Ty} (hk : k = 3 ∨ k = 4) (ha : a.shape = true) (hb : b.shape = true) : (Ty.mk k [a, b]).shape = true := by
  rcases hk with rfl | rfl <;> simp [Ty.shape, Ty.shape.shapes, tyKind, ha, hb]

theorem typeD_facts (l : List Int) : ∀ (n p : Nat), p ≤ l.length → (typeD l n p).2 ≤ l.length ∧ (typeD l n p).1.shape = true ∧ (typeD l n p).1.count + 1 ≤ 2 ^ (n + 1)
  | 0, p, hp => by
    have hq := nextD_le (n := 7) hp
    unfold typeD
    split
    · exact ⟨hq, rfl, Nat.le_refl 2⟩
    · split
      · exact ⟨hq, rfl, Nat.le_refl 2⟩
      · exact ⟨hq, rfl, Nat.le_refl 2⟩
  | n + 1, p, hp => by
    have hq := nextD_le (n := 7) hp
    obtain ⟨a1, a2, a3⟩ := typeD_facts l n _ hq
    obtain ⟨b1, b2, b3⟩ := typeD_facts l n _ a1
    have h2 : 2 ≤ 2 ^ (n + 1) := Nat.pow_le_pow_right (n := 2) (by decide) (show 1 ≤ n + 1 by omega)
    have h3 : 2 ^ (n + 1 + 1) = 2 ^ (n + 1) * 2 := Nat.pow_succ ..
    have hc : ∀ (k : Int) (a b : Ty), (Ty.mk k [a, b]).count = 1 + (a.count + (b.count + 0)) := fun _ _ _ => rfl
    unfold typeD
    split
    · exact ⟨hq, rfl, by show 1 + 0 + 1 ≤ _; omega⟩
    split
    · exact ⟨hq, rfl, by show 1 + 0 + 1 ≤ _; omega⟩
    split
    · exact ⟨b1, ty_two (.inl rfl) a2 b2, by rw [hc]; omega⟩
    split
    · exact ⟨b1, ty_two (.inr rfl) a2 b2, by rw [hc]; omega⟩
    · exact ⟨hq, rfl, by show 1 + 0 + 1 ≤ _; omega⟩

/-- a small type -/
def Ty.small (t : Ty) : Prop := t.shape = true ∧ t.count ≤ 15
theorem Ty.small.ok {t : Ty} (h : t.small) : t.ok := ⟨h.1, by have := h.2; omega⟩
theorem Ty.small.arg {t : Ty} (h : t.small) (hk : t.kind = 3 ∨ t.kind = 4) : (t.arg 0).small ∧ (t.arg 1).small ∧ (t.arg 0).count + (t.arg 1).count < t.count := by
  obtain ⟨a, b, e, oa, ob, e0, e1⟩ := Ty.ok_args h.ok hk
  have hc : t.count = 1 + (a.count + (b.count + 0)) := by rw [Ty.count_eq, e]; rfl
  have := h.2
  rw [e0, e1]
  exact ⟨⟨oa.1, by omega⟩, ⟨ob.1, by omega⟩, by omega⟩
theorem typeD_small (l : List Int) {n p : Nat} (hp : p ≤ l.length) (hn : n ≤ 3) : (typeD l n p).2 ≤ l.length ∧ (typeD l n p).1.small := by
  obtain ⟨h1, h2, h3⟩ := typeD_facts l n p hp
  have : 2 ^ (n + 1) ≤ 2 ^ 4 := Nat.pow_le_pow_right (by decide) (by omega)
  exact ⟨h1, h2, by omega⟩
theorem small_nat : (Ty.mk 1 []).small := ⟨rfl, by decide⟩
theorem small_list : (Ty.mk 2 []).small := ⟨rfl, by decide⟩
theorem varTy_mem {g : List Ty} {i : Nat} (h : i < g.length) : varTy g i ∈ g ∧ g[g.length - 1 - i]? = some (varTy g i) := by
  have hl : g.length - 1 - i < g.length := by omega
  unfold varTy
  rw [List.getD_eq_getElem?_getD, List.getElem?_eq_getElem hl]
  exact ⟨List.getElem_mem _, rfl⟩
theorem varsN_mem {g : List Ty} {t : Ty} {i : Nat} (h : i ∈ varsN g t) : i < g.length ∧ varTy g i = t := by
  simp only [varsN, List.mem_filter, List.mem_range, Ty.same_iff] at h
  exact h
theorem funN_some {g : List Ty} {t : Ty} {i : Nat} (h : funN g t = some i) : i < g.length ∧ (varTy g i).kind = 4 ∧ (varTy g i).arg 1 = t := by
  have h1 := List.find?_some h
  have h2 := List.mem_of_find?_eq_some h
  simp only [Bool.and_eq_true, decide_eq_true_eq, Ty.same_iff] at h1
  exact ⟨List.mem_range.1 h2, h1.1, h1.2⟩

theorem pickD_le {l : List Int} {t : Ty} {g : List Ty} {p : Nat} (hp : p ≤ l.length) : (pickD l t g p).2 ≤ l.length := by
  unfold pickD
  split
  · exact hp
  · split
    · exact nextD_le hp
    · exact nextD_le (nextD_le hp)
theorem pickD_some {l : List Int} {t : Ty} {g : List Ty} {p q : Nat} {x : Tm} (h : pickD l t g p = (some x, q)) : ∃ i : Nat, x = vT i ∧ i < g.length ∧ varTy g i = t := by
  unfold pickD at h
  split at h
  · cases h
  · rename_i hne
    split at h
    · cases h
    · simp only [Prod.mk.injEq, Option.some.injEq] at h
      generalize hk : (nextD l (nextD l p 3).2 (varsN g t).length).1.toNat = k at h
      have hb := nextD_bd (l := l) (p := (nextD l p 3).2) (n := (varsN g t).length) (by omega)
      have hlt : k < (varsN g t).length := by omega
      refine ⟨(varsN g t)[k], ?_, varsN_mem (List.getElem_mem hlt)⟩
      rw [← h.1, List.getD_eq_getElem?_getD, List.getElem?_eq_getElem hlt, Option.getD_some]

theorem shape_v {i : Nat} : (vT i).shape = true := by
  unfold vT
  rw [Tm.shape_eq]
  simp [Tm.kind, Tm.index, Tm.type, Tm.args, Tm.shape.shapes, tmKind, tyOfKind, arityI, Ty.zero, Ty.kind, Ty.args]
theorem shape_n {k : Int} {a : List Tm} (h : (a.length : Int) = arityI k) (hk : ¬ (k = 2 ∨ k = 6 ∨ k = 9)) (ha : ∀ x ∈ a, x.shape = true) : (nT k a).shape = true := by
  unfold nT
  rw [Tm.shape_eq]
  have hz : tyOfKind k (Ty.mk 0 []) = true := by unfold tyOfKind; rw [if_neg hk]; rfl
  simp only [Tm.kind, Tm.index, Tm.type, Tm.args, (Tm.shapes_iff a).2 ha, tmKind, hz, h]
  simp
theorem shape_t {k : Int} {s : Ty} {a : List Tm} (h : (a.length : Int) = arityI k) (hk : k = 2 ∨ k = 6 ∨ k = 9) (hs : s.ok) (ha : ∀ x ∈ a, x.shape = true) : (Tm.mk k 0 s a).shape = true := by
  rw [Tm.shape_eq]
  simp only [Tm.kind, Tm.index, Tm.type, Tm.args, (Tm.shapes_iff a).2 ha, tmKind, tyOfKind, if_pos hk, h, (Ty.checkN_iff s).2 hs]
  simp

/-- what holds of all that F draws -/
def Draws (l : List Int) (F : Ty → List Ty → Nat → Tm × Nat) (Q : Ty → List Ty → Tm → Prop) : Prop :=
  ∀ t g p, t.small → (∀ x ∈ g, x.small) → p ≤ l.length → (F t g p).2 ≤ l.length ∧ Q t g (F t g p).1

/-- what a property of drawn terms must obey -/
structure DrawOK (Q : Ty → List Ty → Tm → Prop) : Prop where
  var : ∀ g i, i < g.length → Q (varTy g i) g (vT (i : Nat))
  num : ∀ g n, n < 3 → Q (Ty.mk 1 []) g (numTm n)
  app : ∀ g s t f x, s.small → t.small → Q (Ty.mk 4 [s, t]) g f → Q s g x → Q t g (nT 3 [f, x])
  lam : ∀ g s t x, s.small → t.small → Q t (g ++ [s]) x → Q (Ty.mk 4 [s, t]) g (Tm.mk 2 0 s [x])
  lam2 : ∀ g s t r x, s.small → t.small → r.small → Q r (g ++ [s, t]) x → Q (Ty.mk 4 [s, Ty.mk 4 [t, r]]) g (Tm.mk 2 0 s [Tm.mk 2 0 t [x]])
  lam3 : ∀ g s t u r x, s.small → t.small → u.small → r.small → Q r (g ++ [s, t, u]) x → Q (Ty.mk 4 [s, Ty.mk 4 [t, Ty.mk 4 [u, r]]]) g (Tm.mk 2 0 s [Tm.mk 2 0 t [Tm.mk 2 0 u [x]]])
  pair : ∀ g s t x y, s.small → t.small → Q s g x → Q t g y → Q (Ty.mk 3 [s, t]) g (nT 10 [x, y])
  fst : ∀ g s t x, s.small → t.small → Q (Ty.mk 3 [s, t]) g x → Q s g (nT 11 [x])
  snd : ∀ g s t x, s.small → t.small → Q (Ty.mk 3 [s, t]) g x → Q t g (nT 12 [x])
  rc : ∀ g t x f n, t.small → Q t g x → Q (Ty.mk 4 [Ty.mk 1 [], Ty.mk 4 [t, t]]) g f → Q (Ty.mk 1 []) g n → Q t g (Tm.mk 6 0 t [x, f, n])
  fold : ∀ g t x f n, t.small → Q t g x → Q (Ty.mk 4 [Ty.mk 1 [], Ty.mk 4 [Ty.mk 2 [], Ty.mk 4 [t, t]]]) g f → Q (Ty.mk 2 []) g n → Q t g (Tm.mk 9 0 t [x, f, n])
  succ : ∀ g x, Q (Ty.mk 1 []) g x → Q (Ty.mk 1 []) g (nT 5 [x])
  plus : ∀ g x y, Q (Ty.mk 1 []) g x → Q (Ty.mk 1 []) g y → Q (Ty.mk 1 []) g (appsT plusT [x, y])
  sub : ∀ g x y, Q (Ty.mk 1 []) g x → Q (Ty.mk 1 []) g y → Q (Ty.mk 1 []) g (appsT subT [x, y])
  nil : ∀ g, Q (Ty.mk 2 []) g (nT 7 [])
  cons : ∀ g x y, Q (Ty.mk 1 []) g x → Q (Ty.mk 2 []) g y → Q (Ty.mk 2 []) g (nT 8 [x, y])
  unit : ∀ g, Q (Ty.mk 5 []) g (nT 13 [])

theorem numD_facts {l : List Int} {Q : Ty → List Ty → Tm → Prop} (hQ : DrawOK Q) {p : Nat} (hp : p ≤ l.length) (g : List Ty) : (numD l p).2 ≤ l.length ∧ Q (Ty.mk 1 []) g (numD l p).1 := by
  have := nextD_bd (l := l) (p := p) (n := 3) (by decide)
  exact ⟨nextD_le hp, hQ.num g _ (by omega)⟩

theorem small_kinds {t : Ty} (h : t.small) : (t.kind = 1 ∧ t = Ty.mk 1 []) ∨ (t.kind = 2 ∧ t = Ty.mk 2 []) ∨ (t.kind = 5 ∧ t = Ty.mk 5 []) ∨ (t.kind = 3 ∧ t = Ty.mk 3 [t.arg 0, t.arg 1]) ∨ (t.kind = 4 ∧ t = Ty.mk 4 [t.arg 0, t.arg 1]) := by
  cases t with
  | mk k ts =>
    have h1 := h.1
    rw [Ty.shape_eq, Bool.and_eq_true] at h1
    have hk := h1.1
    unfold tyKind at hk
    simp [Ty.kind, Ty.args] at hk
    rcases hk with ⟨h2, rfl⟩ | ⟨h2, h3⟩
    · rcases of_decide_eq_true h2 with rfl | rfl | rfl <;> simp [Ty.kind]
    · match ts, h3 with
      | [a, b], _ => rcases of_decide_eq_true h2 with rfl | rfl <;> simp [Ty.kind, Ty.arg, Ty.args]

theorem endD_facts {l : List Int} {F : Ty → List Ty → Nat → Tm × Nat} {Q : Ty → List Ty → Tm → Prop} (hQ : DrawOK Q) (hF : Draws l F Q) : Draws l (endD l F) Q := by
  intro t g p ht hg hp
  unfold endD
  have h5 := nextD_le (n := 5) hp
  have h2 := nextD_le (n := 2) hp
  rcases small_kinds ht with ⟨h, e⟩ | ⟨h, e⟩ | ⟨h, e⟩ | ⟨h, e⟩ | ⟨h, e⟩
  · rw [if_pos h]
    obtain ⟨a1, a2⟩ := hF t g _ ht hg h5
    obtain ⟨b1, b2⟩ := hF t g _ ht hg a1
    rw [e] at a1 a2 b1 b2 ⊢
    split
    · exact ⟨a1, hQ.succ g _ a2⟩
    split
    · exact ⟨b1, hQ.plus g _ _ a2 b2⟩
    split
    · exact ⟨b1, hQ.sub g _ _ a2 b2⟩
    · exact numD_facts hQ h5 g
  · rw [if_neg (by omega), if_pos h]
    obtain ⟨a1, a2⟩ := hF _ g _ small_nat hg h2
    obtain ⟨b1, b2⟩ := hF t g _ ht hg a1
    rw [e] at b1 b2 ⊢
    split
    · exact ⟨b1, hQ.cons g _ _ a2 b2⟩
    · exact ⟨h2, hQ.nil g⟩
  · rw [if_neg (by omega), if_neg (by omega), if_neg (by omega), if_neg (by omega)]
    rw [e]
    exact ⟨hp, hQ.unit g⟩
  · rw [if_neg (by omega), if_neg (by omega), if_pos h]
    obtain ⟨s0, s1, _⟩ := ht.arg (.inl h)
    obtain ⟨a1, a2⟩ := hF _ g _ s0 hg hp
    obtain ⟨b1, b2⟩ := hF _ g _ s1 hg a1
    refine ⟨b1, ?_⟩
    rw [e]
    exact hQ.pair g _ _ _ _ s0 s1 a2 b2
  · rw [if_neg (by omega), if_neg (by omega), if_neg (by omega), if_pos h]
    obtain ⟨s0, s1, _⟩ := ht.arg (.inr h)
    obtain ⟨a1, a2⟩ := hF (t.arg 1) (g ++ [t.arg 0]) _ s1 (by intro x hx; rcases List.mem_append.1 hx with hx | hx; exact hg x hx; rw [List.mem_singleton.1 hx]; exact s0) hp
    refine ⟨a1, ?_⟩
    rw [e]
    exact hQ.lam g _ _ _ s0 s1 a2

theorem stepD_facts {l : List Int} {F : Ty → List Ty → Nat → Tm × Nat} {Q : Ty → List Ty → Tm → Prop} (hQ : DrawOK Q) (hF : Draws l F Q) (k : Int) : Draws l (fun t g p => stepD l F t g k p) Q := by
  intro t g p ht hg hp
  have hg1 : ∀ a : List Ty, (∀ x ∈ a, x.small) → ∀ x ∈ g ++ a, x.small := by
    intro a ha x hx
    rcases List.mem_append.1 hx with hx | hx
    · exact hg x hx
    · exact ha x hx
  have hg2 : ∀ s : Ty, s.small → ∀ x ∈ g ++ [s], x.small := fun s hs => hg1 [s] (by simpa using hs)
  obtain ⟨s1, s2⟩ := typeD_small l (n := 0) hp (by decide)
  show (stepD l F t g k p).2 ≤ l.length ∧ Q t g (stepD l F t g k p).1
  unfold stepD
  split
  · obtain ⟨a1, a2⟩ := hF t _ _ ht (hg2 _ s2) s1
    obtain ⟨b1, b2⟩ := hF _ g _ s2 hg a1
    exact ⟨b1, hQ.app g _ _ _ _ s2 ht (hQ.lam g _ _ _ s2 ht a2) b2⟩
  split
  · obtain ⟨a1, a2⟩ := hF t g _ ht hg s1
    obtain ⟨b1, b2⟩ := hF _ g _ s2 hg a1
    exact ⟨b1, hQ.fst g _ _ _ ht s2 (hQ.pair g _ _ _ _ ht s2 a2 b2)⟩
  split
  · obtain ⟨a1, a2⟩ := hF t _ _ ht (hg1 [Ty.mk 1 [], t] (by intro x hx; simp at hx; rcases hx with rfl | rfl; exact small_nat; exact ht)) hp
    obtain ⟨b1, b2⟩ := hF t g _ ht hg a1
    obtain ⟨c1, c2⟩ := numD_facts hQ b1 g
    exact ⟨c1, hQ.rc g _ _ _ _ ht b2 (hQ.lam2 g _ _ _ _ small_nat ht ht a2) c2⟩
  split
  · obtain ⟨a1, a2⟩ := hF t _ _ ht (hg1 [Ty.mk 1 [], Ty.mk 2 [], t] (by intro x hx; simp at hx; rcases hx with rfl | rfl | rfl; exact small_nat; exact small_list; exact ht)) hp
    obtain ⟨b1, b2⟩ := hF t g _ ht hg a1
    obtain ⟨c1, c2⟩ := hF _ g _ small_list hg b1
    exact ⟨c1, hQ.fold g _ _ _ _ ht b2 (hQ.lam3 g _ _ _ _ _ small_nat small_list ht ht a2) c2⟩
  split
  · obtain ⟨a1, a2⟩ := hF _ g _ s2 hg s1
    obtain ⟨b1, b2⟩ := hF t g _ ht hg a1
    exact ⟨b1, hQ.snd g _ _ _ s2 ht (hQ.pair g _ _ _ _ s2 ht a2 b2)⟩
  split
  · split
    · rename_i i hi
      obtain ⟨f1, f2, f3⟩ := funN_some hi
      have hfs := hg _ (varTy_mem f1).1
      obtain ⟨c0, c1, -⟩ := hfs.arg (.inr f2)
      obtain ⟨a1, a2⟩ := hF _ g _ c0 hg hp
      have hv := hQ.var g i f1
      rcases small_kinds hfs with ⟨h, e⟩ | ⟨h, e⟩ | ⟨h, e⟩ | ⟨h, e⟩ | ⟨h, e⟩
      · omega
      · omega
      · omega
      · omega
      · rw [e, f3] at hv
        exact ⟨a1, hQ.app g _ _ _ _ c0 ht hv a2⟩
    · exact endD_facts hQ hF t g p ht hg hp
  · exact endD_facts hQ hF t g p ht hg hp

theorem leafD_facts {l : List Int} {Q : Ty → List Ty → Tm → Prop} (hQ : DrawOK Q) : Draws l (leafD l) Q := by
  intro t
  generalize hn : t.count = n
  induction n using Nat.strongRecOn generalizing t with
  | _ n ih =>
  intro g p ht hg hp
  rw [leafD_eq l t g p ht.ok]
  have hq := pickD_le (t := t) (g := g) hp
  split
  · rename_i x q hx
    obtain ⟨i, rfl, h1, h2⟩ := pickD_some hx
    rw [hx] at hq
    have := hQ.var g i h1
    rw [h2] at this
    exact ⟨hq, this⟩
  · rename_i q hx
    rw [hx] at hq
    rcases small_kinds ht with ⟨h, e⟩ | ⟨h, e⟩ | ⟨h, e⟩ | ⟨h, e⟩ | ⟨h, e⟩
    · rw [if_pos h, e]; exact numD_facts hQ hq g
    · rw [if_neg (by omega), if_pos h, e]; exact ⟨hq, hQ.nil g⟩
    · rw [if_neg (by omega), if_neg (by omega), if_neg (by omega), if_neg (by omega), e]; exact ⟨hq, hQ.unit g⟩
    · rw [if_neg (by omega), if_neg (by omega), if_pos h]
      obtain ⟨s0, s1, hc⟩ := ht.arg (.inl h)
      have p0 := Ty.count_eq (t.arg 0)
      have p1 := Ty.count_eq (t.arg 1)
      obtain ⟨a1, a2⟩ := ih _ (by omega) (t.arg 0) rfl g _ s0 hg hq
      obtain ⟨b1, b2⟩ := ih _ (by omega) (t.arg 1) rfl g _ s1 hg a1
      refine ⟨b1, ?_⟩
      have := hQ.pair g _ _ _ _ s0 s1 a2 b2
      rw [← e] at this
      exact this
    · rw [if_neg (by omega), if_neg (by omega), if_neg (by omega), if_pos h]
      obtain ⟨s0, s1, hc⟩ := ht.arg (.inr h)
      have p0 := Ty.count_eq (t.arg 0)
      have p1 := Ty.count_eq (t.arg 1)
      obtain ⟨a1, a2⟩ := ih _ (by omega) (t.arg 1) rfl (g ++ [t.arg 0]) _ s1 (by intro x hx; rcases List.mem_append.1 hx with hx | hx; exact hg x hx; rw [List.mem_singleton.1 hx]; exact s0) hq
      refine ⟨a1, ?_⟩
      have := hQ.lam g _ _ _ s0 s1 a2
      rw [← e] at this
      exact this

theorem termD_facts {l : List Int} {Q : Ty → List Ty → Tm → Prop} (hQ : DrawOK Q) : ∀ n, Draws l (termD l n) Q
  | 0 => leafD_facts hQ
  | n + 1 => by
    intro t g p ht hg hp
    have hq := pickD_le (t := t) (g := g) hp
    unfold termD
    split
    · rename_i x q hx
      obtain ⟨i, rfl, h1, h2⟩ := pickD_some hx
      rw [hx] at hq
      have := hQ.var g i h1
      rw [h2] at this
      exact ⟨hq, this⟩
    · rename_i q hx
      rw [hx] at hq
      exact stepD_facts hQ (termD_facts hQ n) _ t g _ ht hg (nextD_le hq)

theorem app2_shape {f x y : Tm} (hf : f.shape = true) (hx : x.shape = true) (hy : y.shape = true) : (appsT f [x, y]).shape = true := by
  show (nT 3 [nT 3 [f, x], y]).shape = true
  exact shape_n rfl (by decide) (by intro z hz; simp at hz; rcases hz with rfl | rfl; exact shape_n rfl (by decide) (by intro z hz; simp at hz; rcases hz with rfl | rfl; exact hf; exact hx); exact hy)

theorem closed_shape : DrawOK (fun _ _ x => x.shape = true) where
  var _ _ _ := shape_v
  num _ n _ := num_shape n
  app _ _ _ _ _ _ _ hf hx := shape_n rfl (by decide) (by intro z hz; simp at hz; rcases hz with rfl | rfl; exact hf; exact hx)
  lam _ _ _ _ hs _ hx := shape_t rfl (.inl rfl) hs.ok (by intro z hz; simp at hz; rw [hz]; exact hx)
  lam2 _ _ _ _ _ hs ht _ hx := shape_t rfl (.inl rfl) hs.ok (by intro z hz; simp at hz; rw [hz]; exact shape_t rfl (.inl rfl) ht.ok (by intro z hz; simp at hz; rw [hz]; exact hx))
  lam3 _ _ _ _ _ _ hs ht hu _ hx := shape_t rfl (.inl rfl) hs.ok (by intro z hz; simp at hz; rw [hz]; exact shape_t rfl (.inl rfl) ht.ok (by intro z hz; simp at hz; rw [hz]; exact shape_t rfl (.inl rfl) hu.ok (by intro z hz; simp at hz; rw [hz]; exact hx)))
  pair _ _ _ _ _ _ _ hf hx := shape_n rfl (by decide) (by intro z hz; simp at hz; rcases hz with rfl | rfl; exact hf; exact hx)
  fst _ _ _ _ _ _ hx := shape_n rfl (by decide) (by intro z hz; simp at hz; rw [hz]; exact hx)
  snd _ _ _ _ _ _ hx := shape_n rfl (by decide) (by intro z hz; simp at hz; rw [hz]; exact hx)
  rc _ _ _ _ _ ht hx hf hn := shape_t rfl (.inr (.inl rfl)) ht.ok (by intro z hz; simp at hz; rcases hz with rfl | rfl | rfl; exact hx; exact hf; exact hn)
  fold _ _ _ _ _ ht hx hf hn := shape_t rfl (.inr (.inr rfl)) ht.ok (by intro z hz; simp at hz; rcases hz with rfl | rfl | rfl; exact hx; exact hf; exact hn)
  succ _ _ hx := shape_n rfl (by decide) (by intro z hz; simp at hz; rw [hz]; exact hx)
  plus _ _ _ hx hy := app2_shape (by decide) hx hy
  sub _ _ _ hx hy := app2_shape (by decide) hx hy
  nil _ := rfl
  cons _ _ _ hf hx := shape_n rfl (by decide) (by intro z hz; simp at hz; rcases hz with rfl | rfl; exact hf; exact hx)
  unit _ := rfl
end Go.Proofs.YtcldnfbcbkaanaaGreatDoor.Lift

namespace Go.Proofs.YtcldnfbcbkaanaaGreatDoor.Lift
set_option linter.unusedSimpArgs false
set_option linter.unusedVariables false
set_option linter.unnecessarySimpa false
open Go
variable {gl : Globs}

/-- the parts of a node, by its form -/
theorem Val.okB_kind {v : Val} (h : v.okB = true) : (v.kind = 1 ∧ 0 ≤ v.num ∧ v.list = [] ∧ v.args = []) ∨ (v.kind = 2 ∧ v.num = 0 ∧ (∀ n ∈ v.list, 0 ≤ n) ∧ v.args = []) ∨ (v.kind = 3 ∧ v.num = 0 ∧ v.list = [] ∧ ∃ a b, v.args = [a, b]) ∨ (v.kind = 4 ∧ v.num = 0 ∧ v.list = [] ∧ v.args = []) := by
  unfold Val.okB at h
  by_cases h1 : v.kind = 1
  · simp [h1] at h; exact .inl ⟨h1, h.1.1, h.1.2, h.2⟩
  by_cases h2 : v.kind = 2
  · simp [h2] at h; exact .inr (.inl ⟨h2, h.1.1, h.1.2, h.2⟩)
  by_cases h3 : v.kind = 3
  · simp [h3] at h
    refine .inr (.inr (.inl ⟨h3, h.1.1, h.1.2, ?_⟩))
    match hq : v.args, h.2 with
    | [a, b], _ => exact ⟨a, b, rfl⟩
  by_cases h4 : v.kind = 4
  · simp [h4] at h; exact .inr (.inr (.inr ⟨h4, h.1.1, h.1.2, h.2⟩))
  simp [h1, h2, h3, h4] at h

/-- whether all nodes have a form -/
theorem Val.nodes_flat {v : Val} (h : v.args = []) : v.nodesN.2 = v.okB := by rw [nodesN_eq, h]; rfl
theorem Val.nodes_pair {v a b : Val} (h : v.args = [a, b]) : v.nodesN.2 = (v.okB && (a.nodesN.2 && b.nodesN.2)) := by
  rw [nodesN_eq, h]
  cases ho : v.okB <;> simp [nodesN.nodesL]
  cases ha : a.nodesN.2 <;> simp
theorem Val.nodes_bad {v : Val} (h : v.okB = false) : v.nodesN.2 = false := by rw [nodesN_eq, h, nodesL_no]
theorem Val.nodes_count (v : Val) (h : v.nodesN.2 = true) : v.nodesN.1 = v.count := by
  induction v using Val.ind with
  | h v ih =>
  have key : ∀ l : List Val, (∀ a ∈ l, a.nodesN.2 = true → a.nodesN.1 = a.count) → ∀ (n : Int) (ok : Bool), (nodesN.nodesL l (n, ok)).2 = true → (nodesN.nodesL l (n, ok)).1 = n + count.counts l := by
    intro l
    induction l with
    | nil => intro _ n ok _; simp [nodesN.nodesL, count.counts]
    | cons a r ihr =>
      intro hl n ok hok
      cases ok with
      | false => rw [nodesL_no] at hok; cases hok
      | true =>
        simp only [nodesN.nodesL, if_true] at hok ⊢
        have ha : a.nodesN.2 = true := (nodesL_ok hok).1
        rw [ihr (fun b hb => hl b (List.mem_cons_of_mem _ hb)) _ _ hok, hl a (by simp) ha]
        simp only [count.counts]
        omega
  rw [nodesN_eq] at h ⊢
  rw [key v.args ih _ _ h, count_eq]
  omega

theorem snocI {l : List Int} {i : Nat} {Q : Int → Prop} (h : ∀ (j : Nat) (x : Int), j < i → l[j]? = some x → Q x) (h1 : ∀ x, l[i]? = some x → Q x) : ∀ (j : Nat) (x : Int), j < i + 1 → l[j]? = some x → Q x := by
  intro j x hj hx
  by_cases e : j = i
  · rw [e] at hx; exact h1 x hx
  · exact h j x (by omega) hx

set_option maxHeartbeats 2000000 in
theorem shape5_ok (v : Val) : Con1 Tryz.prog gl 154 [v.dv] [] (dbool v.nodesN.2) [] := by
  induction v using Val.ind with
  | h v ih =>
  refine t_in Tryz.func154 ?_
  intro X hP hgl hf hfn hn hR hids hfit
  have hl1 := Val.fit_args (hfit v.dv (by simp))
  have hl2 := Val.fit_list (hfit v.dv (by simp))
  by_cases h1 : v.kind = 1
  · have hv : v.nodesN.2 = v.okB := by
      by_cases ha : v.args = []
      · exact Val.nodes_flat ha
      · have : v.okB = false := by unfold Val.okB; simp [h1, ha]
        rw [Val.nodes_bad this, this]
    have hb : v.okB = (decide (0 ≤ v.num) && decide (v.list.length = 0) && decide (v.args.length = 0)) := by unfold Val.okB; simp [h1]
    rw [hv, hb] at hR
    by_cases q1 : 0 ≤ v.num
    · by_cases q2 : v.list.length = 0
      · by_cases q3 : v.args.length = 0
        · refine t_g (j2 @h1 (j2 @q1 (j2 @q2 @q3))) ?_
          refine t_r ?_
          simp [go_sem, hP, hgl, hn, q1, q2, q3] <;> (try omega)
        · refine t_g (j2 @h1 (j2 @q1 (j2 @q2 @q3))) ?_
          refine t_r ?_
          simp [go_sem, hP, hgl, hn, q1, q2, q3] <;> (try omega)
      · refine t_g (j2 @h1 (j2 @q1 @q2)) ?_
        refine t_r ?_
        simp [go_sem, hP, hgl, hn, q1, q2] <;> (try omega)
    · refine t_g (j2 @h1 @q1) ?_
      refine t_r ?_
      simp [go_sem, hP, hgl, hn, q1] <;> (try omega)
  by_cases h2 : v.kind = 2
  · have hv : v.nodesN.2 = v.okB := by
      by_cases ha : v.args = []
      · exact Val.nodes_flat ha
      · have : v.okB = false := by unfold Val.okB; simp [h2, ha]
        rw [Val.nodes_bad this, this]
    have hb : v.okB = (decide (v.num = 0) && !v.list.any (fun n => decide (n < 0)) && decide (v.args.length = 0)) := by unfold Val.okB; simp [h2]
    rw [hv, hb] at hR
    refine t_g @h2 ?_
    refine t_a ?_
    refine t_sub [] trivial (W_upto (v.list.length) (fun i => ∀ (j : Nat) (x : Int), j < i → v.list[j]? = some x → 0 ≤ x) (fun i => [(.slot 29, .one (.v (dint i))), (.slot 28, .one (.v (dint v.list.length))), (.slot 27, .one (.v (.sl (ints v.list)))), (.loc 1, .row ([.v (dint v.kind), .v (dint v.num), .v (.sl (ints v.list)), .v (.sl (v.args.map Val.cells))])), (.slot 1, .one (.loc 1 0))]) (by intro j x h; omega) ?_ ?_)
    · intro i hi hI hnext
      obtain ⟨x, hx⟩ : ∃ x, v.list[i]? = some x := ⟨_, List.getElem?_eq_getElem hi⟩
      have hgi := ints_get hx
      refine t_rg0 ?_
      refine t_yes ?_
      by_cases hneg : x < 0
      · have hany : v.list.any (fun n => decide (n < 0)) = true := List.any_eq_true.2 ⟨x, List.mem_of_getElem? hx, by simpa using hneg⟩
        refine t_g (j2 @hgi @hneg) ?_
        refine t_r ?_
        simp [go_sem, hP, hgl, hn, hany] <;> (try omega)
      · refine t_gt (wr []) trivial (j2 @hgi @hneg) (hnext (snocI hI fun y hy => by rw [hx] at hy; cases hy; omega))
    · intro hI
      have hany : v.list.any (fun n => decide (n < 0)) = false := by
        rw [List.any_eq_false]
        intro x hx
        obtain ⟨j, hj, rfl⟩ := List.mem_iff_getElem.1 hx
        have := hI j _ hj (List.getElem?_eq_getElem hj)
        simpa using this
      refine t_rg0 ?_
      refine t_no ?_
      by_cases q1 : v.num = 0
      · by_cases q3 : v.args.length = 0
        · refine t_g (j2 @q1 @q3) ?_
          refine t_r ?_
          simp [go_sem, hP, hgl, hn, hany, q1, q3] <;> (try omega)
        · refine t_g (j2 @q1 @q3) ?_
          refine t_r ?_
          simp [go_sem, hP, hgl, hn, hany, q1, q3] <;> (try omega)
      · refine t_g @q1 ?_
        refine t_r ?_
        simp [go_sem, hP, hgl, hn, hany, q1] <;> (try omega)
  by_cases h4 : v.kind = 4
  · have hv : v.nodesN.2 = v.okB := by
      by_cases ha : v.args = []
      · exact Val.nodes_flat ha
      · have : v.okB = false := by unfold Val.okB; simp [h4, ha]
        rw [Val.nodes_bad this, this]
    have hb : v.okB = (decide (v.num = 0) && decide (v.list.length = 0) && decide (v.args.length = 0)) := by unfold Val.okB; simp [h4]
    rw [hv, hb] at hR
    by_cases q1 : v.num = 0
    · by_cases q2 : v.list.length = 0
      · by_cases q3 : v.args.length = 0
        · refine t_g (j2 @h4 (j2 @q1 (j2 @q2 @q3))) ?_
          refine t_r ?_
          simp [go_sem, hP, hgl, hn, q1, q2, q3] <;> (try omega)
        · refine t_g (j2 @h4 (j2 @q1 (j2 @q2 @q3))) ?_
          refine t_r ?_
          simp [go_sem, hP, hgl, hn, q1, q2, q3] <;> (try omega)
      · refine t_g (j2 @h4 (j2 @q1 @q2)) ?_
        refine t_r ?_
        simp [go_sem, hP, hgl, hn, q1, q2] <;> (try omega)
    · refine t_g (j2 @h4 @q1) ?_
      refine t_r ?_
      simp [go_sem, hP, hgl, hn, q1] <;> (try omega)
  by_cases h3 : v.kind = 3
  · have hb : v.okB = (decide (v.num = 0) && decide (v.list.length = 0) && decide (v.args.length = 2)) := by unfold Val.okB; simp [h3]
    by_cases q1 : v.num = 0
    · by_cases q2 : v.list.length = 0
      · by_cases q3 : v.args.length = 2
        · obtain ⟨a, b, hab⟩ : ∃ a b, v.args = [a, b] := by
            match hq : v.args, q3 with
            | [a, b], _ => exact ⟨a, b, rfl⟩
          have hv := Val.nodes_pair hab
          rw [hv, hb] at hR
          by_cases ha : a.nodesN.2 = true
          · refine t_g @h3 ?_
            refine t_c2 (j2 @h3 (j2 @q1 (j2 @q2 (j2 @hab @ha)))) (ih a (by rw [hab]; simp)) (ih b (by rw [hab]; simp)) ?_
            refine t_r ?_
            simp [go_sem, hP, hgl, hn, q1, q2, q3, ha] <;> (try omega)
          · have ha' : a.nodesN.2 = false := by simpa using ha
            refine t_g @h3 ?_
            refine t_c1 (j2 @h3 (j2 @q1 (j2 @q2 (j2 @hab @ha')))) (ih a (by rw [hab]; simp)) ?_
            refine t_r ?_
            simp [go_sem, hP, hgl, hn, q1, q2, q3, ha'] <;> (try omega)
        · rw [Val.nodes_bad (by rw [hb]; simp [q3])] at hR
          have q4 : ¬ (v.args.length : Int) = 2 := by omega
          refine t_g (j2 @h3 (j2 @q1 (j2 @q2 @q4))) ?_
          refine t_r ?_
          simp [go_sem, hP, hgl, hn] <;> (try omega)
      · rw [Val.nodes_bad (by rw [hb]; simp [q2])] at hR
        refine t_g (j2 @h3 (j2 @q1 @q2)) ?_
        refine t_r ?_
        simp [go_sem, hP, hgl, hn] <;> (try omega)
    · rw [Val.nodes_bad (by rw [hb]; simp [q1])] at hR
      refine t_g (j2 @h3 @q1) ?_
      refine t_r ?_
      simp [go_sem, hP, hgl, hn] <;> (try omega)
  rw [Val.nodes_bad (by unfold Val.okB; simp [h1, h2, h3, h4])] at hR
  refine t_g (j2 @h1 (j2 @h2 (j2 @h3 @h4))) ?_
  refine t_r ?_
  simp [go_sem, hP, hgl, hn] <;> (try omega)

theorem nodes5_ok (v : Val) (hc : v.count ≤ 1073741824) : Con1 Tryz.prog gl 155 [v.dv] [] (dint v.count) [] := by
  induction v using Val.ind with
  | h v ih =>
  refine t_in Tryz.func155 ?_
  intro X hP hgl hf hfn hn hR hids hfit
  have hl1 := Val.fit_args (hfit v.dv (by simp))
  have hcv := Val.count_eq v
  refine t_g0 ?_
  refine t_a ?_
  refine W_sub [] (by simp [go_sem]) (by simp [go_sem, Val.count.counts] <;> omega) (by simp [go_sem]) (W_list (v.args) (fun done rest => [(.slot 9, .one (.v (dint done.length))), (.slot 8, .one (.v (dint v.args.length))), (.slot 7, .one (.v (.sl (v.args.map Val.cells)))), (.slot 3, .one (.v (dint (1 + Val.count.counts done : Nat)))), (.slot 2, .one (.v (dint 0)))]) ?_ ?_)
  · intro done x rest hL hg0 hnext
    have hlt : done.length < v.args.length := by rw [hL]; simp
    have hxm := List.mem_of_getElem? hg0
    have hca := Val.counts_append done (x :: rest)
    have hcs := Val.counts_append done [x]
    rw [← hL] at hca
    simp only [Val.count.counts] at hca hcs
    refine t_rg0 ?_
    refine t_yes ?_
    refine t_g @hg0 ?_
    refine t_c1 @hg0 (ih x hxm (by omega)) ?_
    refine t_gt (wr []) @hcs trivial hnext
  · refine t_rg0 ?_
    refine t_no ?_
    refine t_g0 ?_
    refine t_r ?_
    simp [go_sem, hP, hgl, hn, hcv] <;> (try omega)

theorem Val.checkN_eq (v : Val) : v.checkN = if v.nodesN.2 = true then if 64 < v.count then 4 else 0 else 2 := by
  unfold Val.checkN
  by_cases h : v.nodesN.2 = true
  · rw [if_pos h, if_pos h, Val.nodes_count v h]
    by_cases h2 : 64 < v.count
    · rw [if_pos (by omega), if_pos h2]
    · rw [if_neg (by omega), if_neg h2]
  · rw [if_neg h, if_neg h]

theorem check5_ok (v : Val) (hc : v.count ≤ 1073741824) : Con1 Tryz.prog gl 89 [v.dv] [] (dint v.checkN) [] := by
  refine t_in Tryz.func89 ?_
  intro X hP hgl hf hfn hn hR hids hfit
  rw [Val.checkN_eq] at hR
  refine t_g0 ?_
  refine t_c1 trivial (shape5_ok v) ?_
  by_cases h : v.nodesN.2 = true
  · rw [if_pos h] at hR
    refine t_g @h ?_
    refine t_c1 trivial (nodes5_ok v hc) ?_
    by_cases h2 : 64 < v.count
    · refine t_g @h2 ?_
      refine t_r ?_
      simp [go_sem, hP, hgl, hn, h2] <;> (try omega)
    · refine t_g @h2 ?_
      refine t_r ?_
      simp [go_sem, hP, hgl, hn, h2] <;> (try omega)
  · rw [if_neg h] at hR
    refine t_g @h ?_
    refine t_r ?_
    simp [go_sem, hP, hgl, hn] <;> (try omega)

theorem typed5_ok (v : Val) (ht : v.nodesN.2 = true) : Con1 Tryz.prog gl 90 [v.dv] [] v.tyN.dv [] := by
  induction v using Val.ind with
  | h v ih =>
  refine t_in Tryz.func90 ?_
  intro X hP hgl hf hfn hn hR hids hfit
  have hok : v.okB = true := by
    cases hq : v.okB with
    | true => rfl
    | false => rw [Val.nodes_bad hq] at ht; cases ht
  rw [Val.tyN_eq] at hR
  rcases Val.okB_kind hok with ⟨h, -⟩ | ⟨h, -⟩ | ⟨h, -, -, a, b, hab⟩ | ⟨h, -⟩
  · refine t_g @h ?_
    refine t_c1 trivial ref01_nat_ok ?_
    refine t_r ?_
    simp [go_sem, hP, hgl, hn, h] <;> (try omega)
    all_goals exact t_f
  · refine t_g @h ?_
    refine t_c1 trivial ref01_list_ok ?_
    refine t_r ?_
    simp [go_sem, hP, hgl, hn, h] <;> (try omega)
    all_goals exact t_f
  · have hv := Val.nodes_pair hab
    rw [ht, hok] at hv
    simp at hv
    refine t_g @h ?_
    refine t_c3 (j2 @h @hab) (ih a (by rw [hab]; simp) hv.1) (ih b (by rw [hab]; simp) hv.2) (ref01_two_ok a.tyN b.tyN) ?_
    refine t_r ?_
    simp [go_sem, hP, hgl, hn, h, hab] <;> (try omega)
    all_goals exact t_f
  · refine t_g @h ?_
    refine t_c1 trivial ref01_unit_ok ?_
    refine t_r ?_
    simp [go_sem, hP, hgl, hn, h] <;> (try omega)
    all_goals exact t_f

theorem typeE5_ok (v : Val) (hc : v.count ≤ 1073741824) : Con1 Tryz.prog gl 31 [v.dv] [] (.tup [v.typeE.1.dv, dint v.typeE.2]) [] := by
  refine t_in Tryz.func31 ?_
  intro X hP hgl hf hfn hn hR hids hfit
  refine t_g0 ?_
  refine t_c1 trivial (check5_ok v hc) ?_
  by_cases h : v.checkN = 0
  · have hok : v.nodesN.2 = true := by
      unfold Val.checkN at h
      split at h
      · assumption
      · cases h
    refine t_g @h ?_
    refine t_c1 trivial (typed5_ok v hok) ?_
    refine t_r ?_
    simp [go_sem, hP, hgl, hn, Val.typeE, h] <;> (try omega)
    all_goals exact t_f
  · refine t_g @h ?_
    refine t_r ?_
    simp [go_sem, hP, hgl, hn, Val.typeE, h, zeroTy] <;> (try omega)
    all_goals exact t_f
end Go.Proofs.YtcldnfbcbkaanaaGreatDoor.Lift

/-
  Plain law: the rounds of reduction on closed typed terms.
-/
namespace Go.Proofs.YtcldnfbcbkaanaaGreatDoor.Lift
set_option linter.unusedSimpArgs false
set_option linter.unusedVariables false
set_option linter.unnecessarySimpa false
open Go

theorem dn_shape {Γ : List T} {t : Tm} {a : T} {F : Env Γ → a.V} (h : Dn Γ t a F) : t.shape = true := by
  have one : ∀ {x : Tm}, x.shape = true → ∀ z ∈ [x], z.shape = true := by intro x hx z hz; rw [List.mem_singleton.1 hz]; exact hx
  have two : ∀ {x y : Tm}, x.shape = true → y.shape = true → ∀ z ∈ [x, y], z.shape = true := by
    intro x y hx hy z hz; simp at hz; rcases hz with rfl | rfl; exact hx; exact hy
  have three : ∀ {x y w : Tm}, x.shape = true → y.shape = true → w.shape = true → ∀ z ∈ [x, y, w], z.shape = true := by
    intro x y w hx hy hw z hz; simp at hz; rcases hz with rfl | rfl | rfl; exact hx; exact hy; exact hw
  induction h with
  | var h => exact shape_v
  | lam ha hb ih => exact shape_t rfl (.inl rfl) (T.ok_ty ha) (one ih)
  | app hf hx ihf ihx => exact shape_n rfl (by decide) (two ihf ihx)
  | zero => rfl
  | succ hx ih => exact shape_n rfl (by decide) (one ih)
  | rc ha hb hf hn ihb ihf ihn => exact shape_t rfl (.inr (.inl rfl)) (T.ok_ty ha) (three ihb ihf ihn)
  | nil => rfl
  | cons hx hl ihx ihl => exact shape_n rfl (by decide) (two ihx ihl)
  | fold ha hb hf hn ihb ihf ihn => exact shape_t rfl (.inr (.inr rfl)) (T.ok_ty ha) (three ihb ihf ihn)
  | pair hx hy ihx ihy => exact shape_n rfl (by decide) (two ihx ihy)
  | fst hx ih => exact shape_n rfl (by decide) (one ih)
  | snd hx ih => exact shape_n rfl (by decide) (one ih)
  | unit => rfl

theorem At.lt {Γ : List T} {i : Nat} {a : T} {p : Env Γ → a.V} (h : At Γ i a p) : i < Γ.length := by
  have := h.get
  exact (List.getElem?_eq_some_iff.1 this).1

theorem dn_least {Γ : List T} {t : Tm} {a : T} {F : Env Γ → a.V} (h : Dn Γ t a F) : ∀ m : Int, (Γ.length : Int) + t.count ≤ m → t.leastN m = true := by
  have node0 : ∀ (k : Int) (y : Ty) (m : Int), 0 ≤ m → (Tm.mk k 0 y []).leastN m = true := by
    intro k y m hm; rw [Tm.leastN_eq]; have h9 : decide (m < (0 : Int)) = false := decide_eq_false (by omega); simp [Tm.index, Tm.args, Tm.leastN.leasts, h9] <;> exact decide_eq_false (by omega)
  have node1 : ∀ (k : Int) (y : Ty) (x : Tm) (m : Int), 0 ≤ m → x.leastN m = true → (Tm.mk k 0 y [x]).leastN m = true := by
    intro k y x m hm h1; rw [Tm.leastN_eq]; have h9 : decide (m < (0 : Int)) = false := decide_eq_false (by omega); simp [Tm.index, Tm.args, Tm.leastN.leasts, h9, h1] <;> exact decide_eq_false (by omega)
  have node2 : ∀ (k : Int) (y : Ty) (x z : Tm) (m : Int), 0 ≤ m → x.leastN m = true → z.leastN m = true → (Tm.mk k 0 y [x, z]).leastN m = true := by
    intro k y x z m hm h1 h2; rw [Tm.leastN_eq]; have h9 : decide (m < (0 : Int)) = false := decide_eq_false (by omega); simp [Tm.index, Tm.args, Tm.leastN.leasts, h9, h1, h2] <;> exact decide_eq_false (by omega)
  have node3 : ∀ (k : Int) (y : Ty) (x z w : Tm) (m : Int), 0 ≤ m → x.leastN m = true → z.leastN m = true → w.leastN m = true → (Tm.mk k 0 y [x, z, w]).leastN m = true := by
    intro k y x z w m hm h1 h2 h3; rw [Tm.leastN_eq]; have h9 : decide (m < (0 : Int)) = false := decide_eq_false (by omega); simp [Tm.index, Tm.args, Tm.leastN.leasts, h9, h1, h2, h3] <;> exact decide_eq_false (by omega)
  induction h with
  | var h =>
    intro m hm
    have := h.lt
    rename_i Γ i a p
    have h9 : decide (m < ((i : Nat) : Int)) = false := decide_eq_false (by omega)
    rw [vT, Tm.leastN_eq]
    simp [Tm.index, Tm.args, Tm.leastN.leasts, h9] <;> exact decide_eq_false (by omega)
  | lam ha hb ih =>
    intro m hm
    rename_i Γ a r b f
    have hc : (lamT a b).count = 1 + (b.count + 0) := rfl
    rw [hc] at hm
    exact node1 _ _ _ _ (by omega) (ih m (by simp only [List.length_cons]; omega))
  | app hf hx ihf ihx =>
    intro m hm
    rename_i Γ a b f x F X
    have hc : (nT 3 [f, x]).count = 1 + (f.count + (x.count + 0)) := rfl
    rw [hc] at hm
    exact node2 _ _ _ _ _ (by omega) (ihf m (by omega)) (ihx m (by omega))
  | zero => intro m hm; exact node0 _ _ _ (by omega)
  | succ hx ih =>
    intro m hm
    rename_i Γ x X
    have hc : (nT 5 [x]).count = 1 + (x.count + 0) := rfl
    rw [hc] at hm
    exact node1 _ _ _ _ (by omega) (ih m (by omega))
  | rc ha hb hf hn ihb ihf ihn =>
    intro m hm
    rename_i Γ a b f n B F N
    have hc : (Tm.mk 6 0 a.ty [b, f, n]).count = 1 + (b.count + (f.count + (n.count + 0))) := rfl
    rw [hc] at hm
    exact node3 _ _ _ _ _ _ (by omega) (ihb m (by omega)) (ihf m (by omega)) (ihn m (by omega))
  | nil => intro m hm; exact node0 _ _ _ (by omega)
  | cons hx hl ihx ihl =>
    intro m hm
    rename_i Γ x l X L
    have hc : (nT 8 [x, l]).count = 1 + (x.count + (l.count + 0)) := rfl
    rw [hc] at hm
    exact node2 _ _ _ _ _ (by omega) (ihx m (by omega)) (ihl m (by omega))
  | fold ha hb hf hn ihb ihf ihn =>
    intro m hm
    rename_i Γ a b f n B F N
    have hc : (Tm.mk 9 0 a.ty [b, f, n]).count = 1 + (b.count + (f.count + (n.count + 0))) := rfl
    rw [hc] at hm
    exact node3 _ _ _ _ _ _ (by omega) (ihb m (by omega)) (ihf m (by omega)) (ihn m (by omega))
  | pair hx hy ihx ihy =>
    intro m hm
    rename_i Γ a b x y X Y
    have hc : (nT 10 [x, y]).count = 1 + (x.count + (y.count + 0)) := rfl
    rw [hc] at hm
    exact node2 _ _ _ _ _ (by omega) (ihx m (by omega)) (ihy m (by omega))
  | fst hx ih =>
    intro m hm
    rename_i Γ a b x X
    have hc : (nT 11 [x]).count = 1 + (x.count + 0) := rfl
    rw [hc] at hm
    exact node1 _ _ _ _ (by omega) (ih m (by omega))
  | snd hx ih =>
    intro m hm
    rename_i Γ a b x X
    have hc : (nT 12 [x]).count = 1 + (x.count + 0) := rfl
    rw [hc] at hm
    exact node1 _ _ _ _ (by omega) (ih m (by omega))
  | unit => intro m hm; exact node0 _ _ _ (by omega)

theorem up_count (t : Tm) (f b : Int) : (t.upN f b).count = t.count := by
  induction t using Tm.ind generalizing f with
  | h t ih =>
  rw [Tm.upN_eq, Tm.count_eq, Tm.count_eq t, Tm.args_mk]
  have key : ∀ l : List Tm, (∀ a ∈ l, a ∈ t.args) → Tm.count.counts (l.map fun x => x.upN (f + bindI t.kind) b) = Tm.count.counts l := by
    intro l
    induction l with
    | nil => intro _; rfl
    | cons a r ihr => intro h; simp only [List.map_cons, Tm.count.counts, ih a (h a (by simp)), ihr fun b hb => h b (by simp [hb])]
  rw [key t.args fun _ h => h]

/-- plain values have a form, and as many nodes as their types at most -/
theorem valOf_nodes : ∀ (a : T) (v : a.V), a.plain → (valOf a v).nodesN.2 = true ∧ (valOf a v).count ≤ a.size
  | .nat, n, _ => ⟨by rw [Val.nodes_flat rfl]; simp [valOf, Val.okB, Val.kind, Val.num, Val.list, Val.args]; exact decide_eq_true (Int.natCast_nonneg _), Nat.le_refl _⟩
  | .list, l, _ => ⟨by rw [Val.nodes_flat rfl]; simp [valOf, Val.okB, Val.kind, Val.num, Val.list, Val.args]; intro x hx; obtain ⟨n, _, rfl⟩ := List.mem_map.1 hx; exact Int.natCast_nonneg _, Nat.le_refl _⟩
  | .unit, _, _ => ⟨rfl, Nat.le_refl _⟩
  | .pair a b, p, h => by
    obtain ⟨a1, a2⟩ := valOf_nodes a p.1 h.1
    obtain ⟨b1, b2⟩ := valOf_nodes b p.2 h.2
    refine ⟨?_, ?_⟩
    · rw [Val.nodes_pair (v := valOf (.pair a b) p) rfl, a1, b1]; rfl
    · show 1 + ((valOf a p.1).count + ((valOf b p.2).count + 0)) ≤ 1 + a.size + b.size
      omega
  | .fn _ _, _, h => h.elim

end Go.Proofs.YtcldnfbcbkaanaaGreatDoor.Lift

/-
  Plain law: a machine that evaluates terms and counts its work; it returns what is denoted.
-/
namespace Go.Proofs.YtcldnfbcbkaanaaGreatDoor.Lift
set_option linter.unusedSimpArgs false
set_option linter.unusedVariables false
set_option linter.unnecessarySimpa false
open Go

/-- a value of a machine -/
inductive MV where
  | num (n : Nat)
  | list (l : List Nat)
  | both (a b : MV)
  | unit
  | clo (b : Tm) (e : List MV)

abbrev Evl := Tm → List MV → Option (MV × Nat)

/-- some terms, one after the other -/
def allC (ev : Evl) : List Tm → List MV → Option (List MV × Nat)
  | [], _ => some ([], 0)
  | t :: r, e => match ev t e with
    | none => none
    | some (v, c) => match allC ev r e with
      | none => none
      | some (l, c') => some (v :: l, c + c')
/-- a closure called with some values -/
def callC (ev : Evl) : MV → List MV → Option (MV × Nat)
  | f, [] => some (f, 0)
  | .clo b e, a :: r => match ev b (a :: e) with
    | none => none
    | some (v, c) => match callC ev v r with
      | none => none
      | some (w, c') => some (w, c + c')
  | _, _ => none
/-- n rounds from k on -/
def recC (ev : Evl) (f : MV) : Nat → Nat → MV → Option (MV × Nat)
  | 0, _, r => some (r, 0)
  | n + 1, k, r => match callC ev f [.num k, r] with
    | none => none
    | some (r', c) => match recC ev f n (k + 1) r' with
      | none => none
      | some (w, c') => some (w, c + c')
/-- through a list, from its end -/
def foldC (ev : Evl) (f : MV) (r : MV) : List Nat → Option (MV × Nat)
  | [] => some (r, 0)
  | x :: l => match foldC ev f r l with
    | none => none
    | some (r', c) => match callC ev f [.num x, .list l, r'] with
      | none => none
      | some (w, c') => some (w, c + c')
/-- a node whose parts have values -/
def nodeC (ev : Evl) (k : Int) (l : List MV) : Option (MV × Nat) :=
  if k = 3 then match l with
    | [f, x] => callC ev f [x]
    | _ => none
  else if k = 4 then some (.num 0, 0)
  else if k = 5 then match l with
    | [.num n] => some (.num (n + 1), 0)
    | _ => none
  else if k = 6 then match l with
    | [b, f, .num n] => recC ev f n 0 b
    | _ => none
  else if k = 7 then some (.list [], 0)
  else if k = 8 then match l with
    | [.num n, .list m] => some (.list (n :: m), 0)
    | _ => none
  else if k = 9 then match l with
    | [b, f, .list m] => foldC ev f b m
    | _ => none
  else if k = 10 then match l with
    | [x, y] => some (.both x y, 0)
    | _ => none
  else if k = 11 then match l with
    | [.both x _] => some (x, 0)
    | _ => none
  else if k = 12 then match l with
    | [.both _ y] => some (y, 0)
    | _ => none
  else some (.unit, 0)
/-- a term below some values, to a depth: its value and the work -/
def evC : Nat → Tm → List MV → Option (MV × Nat)
  | 0, _, _ => none
  | d + 1, t, e =>
    if t.kind = 1 then some (e.getD t.index.toNat .unit, 1)
    else if t.kind = 2 then some (.clo (t.argN 0) e, 1)
    else match allC (evC d) t.args e with
      | none => none
      | some (l, c) => match nodeC (evC d) t.kind l with
        | none => none
        | some (v, c') => some (v, 1 + c + c')

/-- what a value of a machine is a value of -/
def Rl : (a : T) → MV → a.V → Prop
  | .nat, v, n => v = .num n
  | .list, v, l => v = .list l
  | .unit, v, _ => v = .unit
  | .pair a b, v, p => ∃ x y, v = .both x y ∧ Rl a x p.1 ∧ Rl b y p.2
  | .fn a b, v, f => ∃ body e, v = .clo body e ∧ ∀ (x : MV) (y : a.V), Rl a x y → ∀ (d : Nat) (r : MV) (c : Nat), evC d body (x :: e) = some (r, c) → Rl b r (f y)

/-- the values of the variables -/
def RlE : (Γ : List T) → List MV → Env Γ → Prop
  | [], e, _ => e = []
  | a :: Γ, e, ρ => ∃ x r, e = x :: r ∧ Rl a x ρ.1 ∧ RlE Γ r ρ.2

theorem RlE.get {Γ : List T} {i : Nat} {a : T} {p : Env Γ → a.V} (h : At Γ i a p) : ∀ {e : List MV} {ρ : Env Γ}, RlE Γ e ρ → Rl a (e.getD i .unit) (p ρ) := by
  induction h with
  | zero => rintro e ρ ⟨x, r, rfl, h1, h2⟩; exact h1
  | succ h ih => rintro e ρ ⟨x, r, rfl, h1, h2⟩; simpa using ih h2

theorem natRec_range {α : Type} (b : α) (f : Nat → α → α) : ∀ n : Nat, natRec b f n = (List.range' 0 n).foldl (fun r i => f i r) b
  | 0 => rfl
  | n + 1 => by
    rw [List.range'_1_concat, List.foldl_append, ← natRec_range b f n]
    simp [natRec]
end Go.Proofs.YtcldnfbcbkaanaaGreatDoor.Lift

/-
  Package machine's values as data, and how a variable's value is found.
-/
namespace Go.Proofs.YtcldnfbcbkaanaaGreatDoor.Lift
set_option linter.unusedSimpArgs false
set_option linter.unusedVariables false
set_option linter.unnecessarySimpa false
open Go
variable {gl : Globs}

abbrev nilP : DV := .prim (.pointer none)
abbrev nilI : DV := .prim .nilIface
def cellM : List Nat → DV
  | [] => nilP
  | n :: l => .ref [dint (n : Int), cellM l]
mutual
def MV.thing : MV → DV
  | .num n => .iface 3 (dint (n : Int))
  | .list l => .iface 176 (cellM l)
  | .both a b => .iface 182 (.ref [MV.thing a, MV.thing b])
  | .unit => .iface 186 (.agg [])
  | .clo b e => .iface 192 (.ref (b.cells ++ [MV.envM e]))
def MV.envM : List MV → DV
  | [] => nilP
  | v :: e => .ref [MV.thing v, MV.envM e]
end
theorem cellM_cell : ∀ l, (cellM l).isCell = true
  | [] => rfl
  | _ :: _ => rfl
theorem thing_cell (v : MV) : v.thing.isCell = true := by cases v <;> (simp only [MV.thing]; rfl)
theorem envM_cell (e : List MV) : (MV.envM e).isCell = true := by cases e <;> (simp only [MV.envM]; rfl)
theorem cellsD_thing (v : MV) : cellsD v.thing = [v.thing] := by cases v <;> (simp only [MV.thing]; rfl)
theorem cellsD_envM (e : List MV) : cellsD (MV.envM e) = [MV.envM e] := by cases e <;> (simp only [MV.envM]; rfl)
theorem cellsD_cellM (l : List Nat) : cellsD (cellM l) = [cellM l] := by cases l <;> rfl
attribute [go_sem] cellM_cell thing_cell envM_cell cellsD_thing cellsD_envM cellsD_cellM

theorem env_at_ok (e : List MV) (i : Nat) (hi : i < e.length) : Con1 Tryz.prog gl 143 [MV.envM e, dint (i : Int)] [] (e.getD i .unit).thing [] := by
  refine t_in Tryz.func143 ?_
  intro X hP hgl hf hfn hn hR hids hfit
  have h0 : e.drop (i - i) = e := by simp
  have hi1 : intOK .i64 i := hfit (dint i) (by simp)
  rw [intOK_i64] at hi1
  refine t_g0 ?_
  refine t_a ?_
  refine t_sub [] @h0 (W_rounds (fun k : Nat => k ≤ i) (fun k : Nat => [(.slot 0, .one (.v (MV.envM (e.drop (i - k))))), (.slot 1, .one (.v (dint (k : Int)))), (.slot 4, .one (.v nilI))]) (fun k : Nat => k) i (Nat.le_refl i) ?_)
  intro k hk ih
  obtain ⟨v, r, hr⟩ : ∃ v r, e.drop (i - k) = v :: r := by
    cases hq : e.drop (i - k) with
    | nil => have := List.drop_eq_nil_iff.1 hq; omega
    | cons v r => exact ⟨v, r, rfl⟩
  have hE : MV.envM (e.drop (i - k)) = .ref [v.thing, MV.envM r] := by rw [hr, MV.envM]
  cases k with
  | zero =>
    have hv : (e[i]?.getD MV.unit) = v := by
      have := congrArg (fun l => l.head?) hr
      simp only [Nat.sub_zero, List.head?_drop, List.head?_cons] at this
      simp [this]
    rw [Nat.sub_zero] at hE
    refine t_rg0 ?_
    refine t_no ?_
    refine t_g @hE ?_
    refine t_r ?_
    simp [go_sem, hP, hgl, hn, hv] <;> (try omega)
  | succ k =>
    have hd : e.drop (i - k) = r := by
      have h1 : i - k = (i - (k + 1)) + 1 := by omega
      rw [h1, ← List.drop_drop, hr, List.drop_one, List.tail_cons]
    have hk0 : (0 : Int) < (k : Int) + 1 := by omega
    refine t_rg0 ?_
    refine t_yes ?_
    refine t_rg @hE ?_
    refine t_rg0 ?_
    refine t_b ?_
    refine t_sub [] @hd (ih k (by omega) (by omega))
end Go.Proofs.YtcldnfbcbkaanaaGreatDoor.Lift

/-
  Package machine: a run as a function (with its work), and the walk of a call.
-/
namespace Go.Proofs.YtcldnfbcbkaanaaGreatDoor.Lift
set_option linter.unusedSimpArgs false
set_option linter.unusedVariables false
set_option linter.unnecessarySimpa false
open Go
variable {gl : Globs}

def nodeS (ev : Evl) (k : Int) (l : List MV) : Option (MV × Nat) := if 3 ≤ k ∧ k ≤ 13 then nodeC ev k l else none
/-- a run to a depth: none where it would be stuck, or deeper -/
def evS : Nat → Evl
  | 0, _, _ => none
  | d + 1, t, e =>
    if t.kind = 1 then if 0 ≤ t.index ∧ t.index.toNat < e.length then some (e.getD t.index.toNat .unit, 1) else none
    else if t.kind = 2 then if t.args.length = 0 then none else some (.clo (t.argN 0) e, 1)
    else if 3 < t.args.length then none
    else match allC (evS d) t.args e with
      | none => none
      | some (l, c) => match nodeS (evS d) t.kind l with
        | none => none
        | some (v, c') => some (v, 1 + c + c')

/-! numbers up to M -/
mutual
def MV.nle (M : Nat) : MV → Prop
  | .num n => n ≤ M
  | .list l => l.length ≤ M ∧ ∀ n ∈ l, n ≤ M
  | .both a b => MV.nle M a ∧ MV.nle M b
  | .unit => True
  | .clo _ e => MV.nles M e
def MV.nles (M : Nat) : List MV → Prop
  | [] => True
  | v :: e => MV.nle M v ∧ MV.nles M e
end

/-- what is told of a work of n where most is the most -/
def outM (most n : Nat) (v : DV) : DV := if n ≤ most then .tup [v, dbool true] else .tup [nilI, dbool false]
def useM (most n : Nat) : List DV := [dint (if n ≤ most then (n : Int) else (most : Int)), dint (most : Int)]

/-- what is asked of a run, to be walked -/
def WalkM (P : Program) (gl : Globs) (fe : FuncId) (most : Nat) (ev : Evl) : Prop :=
  ∀ ⦃t : Tm⦄ ⦃e : List MV⦄ ⦃u : Nat⦄ ⦃v : MV⦄ ⦃c : Nat⦄ (b : Nat) (M : Nat), ev t e = some (v, c) → u ≤ most → M + (most - u) ≤ 1073741824 → MV.nles M e →
    Con1 P gl fe [ptr b, t.dv, MV.envM e] [(b, useM most u)] (outM most (u + c) v.thing) [(b, useM most (u + c))]
def NleM (most : Nat) (ev : Evl) : Prop :=
  ∀ ⦃t : Tm⦄ ⦃e : List MV⦄ ⦃v : MV⦄ ⦃c : Nat⦄ (M : Nat), ev t e = some (v, c) → MV.nles M e → v.nle (M + c)

theorem thing_clo (b : Tm) (e : List MV) : (MV.clo b e).thing = .iface 192 (.ref [dint b.kind, dint b.index, dint b.type.kind, .sl (b.type.args.map Ty.cells), .sl (b.args.map Tm.cells), MV.envM e]) := by
  rw [MV.thing, Tm.cells_eq]; rfl
theorem envM_cons (v : MV) (e : List MV) : MV.envM (v :: e) = .ref [v.thing, MV.envM e] := by rw [MV.envM]

mutual
theorem MV.nle_mono {M N : Nat} (h : M ≤ N) : ∀ v : MV, v.nle M → v.nle N
  | .num n, k => by simp only [MV.nle] at k ⊢; omega
  | .list l, k => by simp only [MV.nle] at k ⊢; exact ⟨Nat.le_trans k.1 h, fun n hn => Nat.le_trans (k.2 n hn) h⟩
  | .both a b, k => by simp only [MV.nle] at k ⊢; exact ⟨MV.nle_mono h a k.1, MV.nle_mono h b k.2⟩
  | .unit, _ => by simp only [MV.nle]
  | .clo b e, k => by simp only [MV.nle] at k ⊢; exact MV.nles_mono h e k
theorem MV.nles_mono {M N : Nat} (h : M ≤ N) : ∀ e : List MV, MV.nles M e → MV.nles N e
  | [], _ => by simp only [MV.nles]
  | v :: e, k => by simp only [MV.nles] at k ⊢; exact ⟨MV.nle_mono h v k.1, MV.nles_mono h e k.2⟩
end

theorem nles_get {M : Nat} : ∀ {l : List MV} {i : Nat} {a : MV}, MV.nles M l → l[i]? = some a → a.nle M
  | x :: l, 0, a, h, k => by simp only [MV.nles] at h; simp at k; rw [← k]; exact h.1
  | x :: l, i + 1, a, h, k => by simp only [MV.nles] at h; exact nles_get h.2 (by simpa using k)
theorem callM_ok {most : Nat} (hm : most ≤ 1073741824) {ev : Evl} (H : WalkM Tryz.prog gl 75 most ev) (hN : NleM most ev) {f v : MV} {l : List MV} {u c : Nat} (b M : Nat)
    (h : callC ev f l = some (v, c)) (hu : u ≤ most) (hM : M + (most - u) ≤ 1073741824) (hF : f.nle M) (hL : MV.nles M l) :
    Con1 Tryz.prog gl 76 [ptr b, f.thing, .sl (l.map fun x => [x.thing])] [(b, useM most u)] (outM most (u + c) v.thing) [(b, useM most (u + c))] := by
  refine t_in Tryz.func76 ?_
  intro X hP hgl hf hfn hn hR hids hfit
  have hl1 : (l.length : Int) ≤ 2147483648 := by have := hfit (.sl (l.map fun x => [x.thing])) (by simp); simp [DV.fit] at this; have := this.1; simp [BIG] at this; omega
  have hu0 : useM most u = [dint (u : Int), dint (most : Int)] := by unfold useM; rw [if_pos hu]
  rw [hu0]
  refine t_g0 ?_
  refine t_a ?_
  refine t_sub [] trivial (W_rounds (fun x : MV × Nat × Nat => x.2.1 ≤ l.length ∧ x.2.2 ≤ most ∧ u ≤ x.2.2 ∧ x.1.nle (M + (x.2.2 - u)) ∧ ∃ c', callC ev x.1 (l.drop x.2.1) = some (v, c') ∧ x.2.2 + c' = u + c) (fun x : MV × Nat × Nat => [(.slot 15, .one (.v (dint (x.2.1 : Int)))), (.slot 14, .one (.v (dint (l.length : Int)))), (.slot 13, .one (.v (.sl (l.map fun x => [x.thing])))), (.slot 0, .one (.v (ptr b))), (.slot 1, .one (.v x.1.thing)), (.slot 6, .one (.v nilI)), (.slot 7, .one (.v (dbool false))), (.heap  b, .row ([.v (dint (x.2.2 : Int)), .v (dint (most : Int))]))]) (fun x : MV × Nat × Nat => l.length - x.2.1) (f, 0, u) (⟨Nat.zero_le _, hu, Nat.le_refl u, by simpa using hF, c, by simpa using h, rfl⟩) ?_)
  rintro ⟨g, i, u'⟩ ⟨hi, hu', huu, hg, c', hc, hcc⟩ ih
  simp only at hi hu' huu hg hc hcc
  by_cases hil : i < l.length
  · obtain ⟨a, ha⟩ : ∃ a, l[i]? = some a := ⟨l[i], List.getElem?_eq_getElem hil⟩
    have hd : l.drop i = a :: l.drop (i + 1) := by
      rw [List.drop_eq_getElem_cons hil]
      rw [List.getElem?_eq_getElem hil, Option.some.injEq] at ha
      rw [ha]
    rw [hd] at hc
    have hmem : a.nle M := nles_get hL ha
    cases g with
    | num n => cases hc
    | list q => cases hc
    | both p q => cases hc
    | unit => cases hc
    | clo body e =>
      simp only [callC] at hc
      split at hc
      · cases hc
      · rename_i v1 c1 hv1
        split at hc
        · cases hc
        · rename_i w c2 hw
          simp only [Option.some.injEq, Prod.mk.injEq] at hc
          obtain ⟨rfl, rfl⟩ := hc
          simp only [MV.nle] at hg
          have hes : MV.nles (M + (u' - u)) (a :: e) := by simp only [MV.nles]; exact ⟨MV.nle_mono (by omega) _ hmem, hg⟩
          have W1 := H b (M + (u' - u)) hv1 hu' (by omega) hes
          have hN1 := hN (M + (u' - u)) hv1 hes
          have hth := thing_clo body e
          have hT := Tm.fold body
          have hu1 : useM most u' = [dint (u' : Int), dint (most : Int)] := by unfold useM; rw [if_pos hu']
          rw [hu1, envM_cons] at W1
          have hgi : (l.map fun x => [x.thing])[i]? = some [a.thing] := by rw [List.getElem?_map, ha]; rfl
          rw [hth]
          generalize l.map (fun x => [x.thing]) = L at *
          refine t_rg0 ?_
          refine t_yes ?_
          refine t_rg @hgi ?_
          refine t_rg0 ?_
          refine t_a ?_
          refine W_regd (by rw [hP]; exact mixed) [33] fun K hK => ?_
          simp [go_sem, hP, hgl, hn, hT]
          refine vcdC_boxR (cs := [a.thing, MV.envM e]) (y := .ag [a.thing, MV.envM e] []) (fun _ _ => vcd_sound) (by simp [go_sem, hP, hgl, hn]) (by simp [go_sem]) (by simp [go_sem]) (by rw [hn]; exact Nat.le_of_ble_eq_true rfl) (by rfl) ?_
          simp [go_sem, hP, hgl, hn]
          by_cases hfit1 : u' + c1 ≤ most
          · have o1 : outM most (u' + c1) v1.thing = .tup [v1.thing, dbool true] := by unfold outM; rw [if_pos hfit1]
            have o2 : useM most (u' + c1) = [dint ((u' + c1 : Nat) : Int), dint (most : Int)] := by unfold useM; rw [if_pos hfit1]
            rw [o1, o2] at W1
            refine t_c trivial (W1) ?_
            refine t_e ?_
            clear hK K
            refine t_rg0 ?_
            refine t_no ?_
            refine t_rg0 ?_
            refine t_rg0 ?_
            have a1 : i + 1 ≤ l.length := by omega
            have a2 : u ≤ u' + c1 := by omega
            have a3 : M + (u' - u) + c1 ≤ M + (u' + c1 - u) := by omega
            have a4 : u' + c1 + c2 = u + c := by omega
            have a5 : l.length - (i + 1) < l.length - i := by omega
            refine t_b ?_
            refine t_sub [] trivial (ih (v1, i + 1, u' + c1) ⟨a1, hfit1, a2, MV.nle_mono a3 _ hN1, c2, hw, a4⟩ a5)
          · have o1 : outM most (u' + c1) v1.thing = .tup [nilI, dbool false] := by unfold outM; rw [if_neg hfit1]
            have o2 : useM most (u' + c1) = [dint (most : Int), dint (most : Int)] := by unfold useM; rw [if_neg hfit1]
            have hbig : ¬ u + c ≤ most := by omega
            have o3 : outM most (u + c) w.thing = .tup [nilI, dbool false] := by unfold outM; rw [if_neg hbig]
            have o4 : useM most (u + c) = [dint (most : Int), dint (most : Int)] := by unfold useM; rw [if_neg hbig]
            rw [o3, o4] at hR
            rw [o1, o2] at W1
            refine t_c trivial (W1) ?_
            refine t_e ?_
            clear hK K
            refine t_rg0 ?_
            refine t_yes ?_
            refine t_rg0 ?_
            repeat (first | refine W_seq ?_ | refine W_skip ?_ | refine W_block ?_ | refine W_inBlock ?_ | refine W_label ?_ | refine W_exit rfl ?_)
            first | refine W_retR hP hf hfn _ ([(b, [dint (most : Int), dint (most : Int)])]) (by first | (simp [go_sem, hP, hgl, hn]; done) | (simp [go_sem, hP, hgl, hn]; rfl)) (by simp [go_sem, hP, hgl, hn]) (by simp) ?_ hR.2 | refine W_endR hP hf hfn _ ([(b, [dint (most : Int), dint (most : Int)])]) (by first | (simp [go_sem, hP, hgl, hn]; done) | (simp [go_sem, hP, hgl, hn]; rfl)) (by simp [go_sem, hP, hgl, hn]) (by simp) ?_ hR.2
            rw [hR.1]
            refine ⟨?_, by simp⟩
            try simp
            try all_goals (simp [Ty.dv, Ty.cells_eq, Ty.kind_mk, Ty.args_mk, Tm.dv, Tm.cells_eq, Tm.kind_mk, Tm.index_mk, Tm.type_mk, Tm.args_mk, Val.dv, Val.cells_eq, Val.kind_mk, Val.num_mk, Val.list_mk, Val.args_mk, ints])
  · have hd : l.drop i = [] := List.drop_eq_nil_iff.2 (by omega)
    have hii : i = l.length := by omega
    subst hii
    rw [hd] at hc
    have hc0 : callC ev g [] = some (g, 0) := by cases g <;> rfl
    rw [hc0] at hc
    simp only [Option.some.injEq, Prod.mk.injEq] at hc
    obtain ⟨rfl, rfl⟩ := hc
    have hsm : u + c ≤ most := by omega
    have o3 : outM most (u + c) g.thing = .tup [g.thing, dbool true] := by unfold outM; rw [if_pos hsm]
    have o4 : useM most (u + c) = [dint (u' : Int), dint (most : Int)] := by unfold useM; rw [if_pos hsm]; rw [← hcc]; simp
    rw [o3, o4] at hR
    refine t_rg0 ?_
    refine t_no ?_
    refine t_rg0 ?_
    repeat (first | refine W_seq ?_ | refine W_skip ?_ | refine W_block ?_ | refine W_inBlock ?_ | refine W_label ?_ | refine W_exit rfl ?_)
    first | refine W_retR hP hf hfn _ ([(b, [dint (u' : Int), dint (most : Int)])]) (by first | (simp [go_sem, hP, hgl, hn]; done) | (simp [go_sem, hP, hgl, hn]; rfl)) (by simp [go_sem, hP, hgl, hn]) (by simp) ?_ hR.2 | refine W_endR hP hf hfn _ ([(b, [dint (u' : Int), dint (most : Int)])]) (by first | (simp [go_sem, hP, hgl, hn]; done) | (simp [go_sem, hP, hgl, hn]; rfl)) (by simp [go_sem, hP, hgl, hn]) (by simp) ?_ hR.2
    rw [hR.1]
    refine ⟨?_, by simp⟩
    try simp
    try all_goals (simp [Ty.dv, Ty.cells_eq, Ty.kind_mk, Ty.args_mk, Tm.dv, Tm.cells_eq, Tm.kind_mk, Tm.index_mk, Tm.type_mk, Tm.args_mk, Val.dv, Val.cells_eq, Val.kind_mk, Val.num_mk, Val.list_mk, Val.args_mk, ints])
end Go.Proofs.YtcldnfbcbkaanaaGreatDoor.Lift

/-
  Package machine: the walk of the parts of a node.
-/
namespace Go.Proofs.YtcldnfbcbkaanaaGreatDoor.Lift
set_option linter.unusedSimpArgs false
set_option linter.unusedVariables false
set_option linter.unnecessarySimpa false
open Go
variable {gl : Globs}

def at3 (l : List MV) (i : Nat) : DV := match l[i]? with
  | some v => v.thing
  | none => nilI
theorem at3_cell (l : List MV) (i : Nat) : (at3 l i).isCell = true := by unfold at3; split; exact thing_cell _; rfl
theorem cellsD_at3 (l : List MV) (i : Nat) : cellsD (at3 l i) = [at3 l i] := by unfold at3; split; exact cellsD_thing _; rfl
attribute [go_sem] at3_cell cellsD_at3
def arr3 (l : List MV) : List DV := [at3 l 0, at3 l 1, at3 l 2]
/-- the values before the work is out -/
def preC (ev : Evl) (most : Nat) (e : List MV) : Nat → List Tm → List MV
  | _, [] => []
  | u, t :: r => match ev t e with
    | none => []
    | some (v, c) => if u + c ≤ most then v :: preC ev most e (u + c) r else []
def outA (most n : Nat) (l : List MV) : DV := .tup [.agg (arr3 l), dbool (decide (n ≤ most))]
theorem preC_all {ev : Evl} {most : Nat} {e : List MV} : ∀ {l : List Tm} {u : Nat} {vs : List MV} {c : Nat}, allC ev l e = some (vs, c) → u + c ≤ most → preC ev most e u l = vs
  | [], u, vs, c, h, k => by simp only [allC, Option.some.injEq, Prod.mk.injEq] at h; rw [preC, h.1]
  | t :: r, u, vs, c, h, k => by
    simp only [allC] at h
    split at h
    · cases h
    · rename_i v c1 hv
      split at h
      · cases h
      · rename_i l c2 hl
        simp only [Option.some.injEq, Prod.mk.injEq] at h
        obtain ⟨rfl, rfl⟩ := h
        rw [preC, hv]
        simp only
        rw [if_pos (show u + c1 ≤ most by omega), preC_all hl (show u + c1 + c2 ≤ most by omega)]

theorem allM_ok {most : Nat} (hm : most ≤ 1073741824) {ev : Evl} (H : WalkM Tryz.prog gl 75 most ev) (hN : NleM most ev) {l : List Tm} {e vs : List MV} {u c : Nat} (b M : Nat)
    (h : allC ev l e = some (vs, c)) (h3 : l.length ≤ 3) (hu : u ≤ most) (hM : M + (most - u) ≤ 1073741824) (he : MV.nles M e) :
    Con1 Tryz.prog gl 144 [ptr b, .sl (l.map Tm.cells), MV.envM e] [(b, useM most u)] (outA most (u + c) (preC ev most e u l)) [(b, useM most (u + c))] := by
  refine t_in Tryz.func144 ?_
  intro X hP hgl hf hfn hn hR hids hfit
  have hu0 : useM most u = [dint (u : Int), dint (most : Int)] := by unfold useM; rw [if_pos hu]
  rw [hu0]
  have z0 : at3 [] 0 = nilI := rfl
  have z1 : at3 [] 1 = nilI := rfl
  have z2 : at3 [] 2 = nilI := rfl
  refine t_g0 ?_
  refine t_a ?_
  refine t_sub [] (j2 @z0 (j2 @z1 @z2)) (W_rounds (fun x : List MV × Nat × Nat => x.2.1 ≤ l.length ∧ x.2.2 ≤ most ∧ u ≤ x.2.2 ∧ x.1.length = x.2.1 ∧ MV.nles (M + (x.2.2 - u)) e ∧ ∃ c' vs', allC ev (l.drop x.2.1) e = some (vs', c') ∧ x.2.2 + c' = u + c ∧ x.1 ++ preC ev most e x.2.2 (l.drop x.2.1) = preC ev most e u l) (fun x : List MV × Nat × Nat => [(.slot 15, .one (.v (dint (x.2.1 : Int)))), (.slot 14, .one (.v (dint (l.length : Int)))), (.slot 13, .one (.v (.sl (l.map Tm.cells)))), (.slot 0, .one (.v (ptr b))), (.slot 2, .one (.v (MV.envM e))), (.slot 7, .one (.v (dbool false))), (.slot 6, .one (.loc 6 0)), (.slot 8, .one (.loc 8 0)), (.loc 6, .row ([.v nilI, .v nilI, .v nilI])), (.loc 8, .row ([.v (at3 x.1 0), .v (at3 x.1 1), .v (at3 x.1 2)])), (.heap  b, .row ([.v (dint (x.2.2 : Int)), .v (dint (most : Int))]))]) (fun x : List MV × Nat × Nat => l.length - x.2.1) (([] : List MV), 0, u) (⟨Nat.zero_le _, hu, Nat.le_refl u, rfl, by simpa using he, c, vs, by simpa using h, rfl, by simp⟩) ?_)
  rintro ⟨p, i, u'⟩ ⟨hi, hu', huu, hpl, hg, c', vs', hc, hcc, hpre⟩ ih
  simp only at hi hu' huu hpl hg hc hcc hpre
  by_cases hil : i < l.length
  · obtain ⟨t, ht⟩ : ∃ t, l[i]? = some t := ⟨l[i], List.getElem?_eq_getElem hil⟩
    have hd : l.drop i = t :: l.drop (i + 1) := by
      rw [List.drop_eq_getElem_cons hil]
      rw [List.getElem?_eq_getElem hil, Option.some.injEq] at ht
      rw [ht]
    rw [hd] at hc
    rw [hd] at hpre
    simp only [allC] at hc
    split at hc
    · cases hc
    rename_i v1 c1 hv1
    rw [preC, hv1] at hpre
    simp only at hpre
    split at hc
    · cases hc
    rename_i vs1 c2 hw
    simp only [Option.some.injEq, Prod.mk.injEq] at hc
    obtain ⟨rfl, rfl⟩ := hc
    have hgz : MV.nles (M + (u' - u)) e := hg
    have W1 := H b (M + (u' - u)) hv1 hu' (by omega) hg
    have hT := Tm.fold t
    have hu1 : useM most u' = [dint (u' : Int), dint (most : Int)] := by unfold useM; rw [if_pos hu']
    rw [hu1] at W1
    have hgi : (l.map Tm.cells)[i]? = some [dint t.kind, dint t.index, dint t.type.kind, .sl (t.type.args.map Ty.cells), .sl (t.args.map Tm.cells)] := by rw [List.getElem?_map, ht]; simp [Tm.cells_eq]
    have hne : l ≠ [] := by rintro rfl; simp at hil
    rcases (show i = 0 ∨ i = 1 ∨ i = 2 by omega) with rfl | rfl | rfl
    · refine t_rg0 ?_
      refine t_y (j2 @hne @hil) ?_
      refine t_rg (j2 @hgi @hT) ?_
      by_cases hfit1 : u' + c1 ≤ most
      · have o1 : outM most (u' + c1) v1.thing = .tup [v1.thing, dbool true] := by unfold outM; rw [if_pos hfit1]
        have o2 : useM most (u' + c1) = [dint ((u' + c1 : Nat) : Int), dint (most : Int)] := by unfold useM; rw [if_pos hfit1]
        rw [o1, o2] at W1
        refine t_c1 @hT W1 ?_
        refine t_rg0 ?_
        refine t_no ?_
        refine t_rg0 ?_
        refine t_rg0 ?_
        have a4 : u' + c1 + c2 = u + c := by omega
        have a6 : (p ++ [v1]).length = 0 + 1 := by simp [hpl]
        have a7 : at3 (p ++ [v1]) 0 = v1.thing := by simp [at3, hpl]
        have a8 : p ++ [v1] ++ preC ev most e (u' + c1) (l.drop (0 + 1)) = preC ev most e u l := by rw [List.append_assoc]; rw [← hpre, if_pos hfit1]; rfl
        have b1 : at3 (p ++ [v1]) 1 = at3 p 1 := by simp [at3, hpl, List.getElem?_append]
        have b2 : at3 (p ++ [v1]) 2 = at3 p 2 := by simp [at3, hpl, List.getElem?_append]
        have d1 : 0 + 1 ≤ l.length := by omega
        have d2 : u ≤ u' + c1 := by omega
        have d3 : M + (u' - u) ≤ M + (u' + c1 - u) := by omega
        have d5 : l.length - (0 + 1) < l.length - 0 := by omega
        refine t_b ?_
        refine t_sub [] (j2 @a7 (j2 @b1 @b2)) (ih (p ++ [v1], 0 + 1, u' + c1) ⟨d1, hfit1, d2, a6, MV.nles_mono d3 _ hgz, c2, vs1, hw, a4, a8⟩ d5)
      · have o1 : outM most (u' + c1) v1.thing = .tup [nilI, dbool false] := by unfold outM; rw [if_neg hfit1]
        have o2 : useM most (u' + c1) = [dint (most : Int), dint (most : Int)] := by unfold useM; rw [if_neg hfit1]
        have hbig : ¬ u + c ≤ most := by omega
        have o4 : useM most (u + c) = [dint (most : Int), dint (most : Int)] := by unfold useM; rw [if_neg hbig]
        have o5 : preC ev most e u l = p := by rw [← hpre, if_neg hfit1]; simp
        have o6 : decide (u + c ≤ most) = false := decide_eq_false hbig
        unfold outA at hR
        rw [o4, o5, o6] at hR
        rw [o1, o2] at W1
        refine t_c1 @hT W1 ?_
        refine t_rg0 ?_
        refine t_yes ?_
        refine t_rg0 ?_
        repeat (first | refine W_seq ?_ | refine W_skip ?_ | refine W_block ?_ | refine W_inBlock ?_ | refine W_label ?_ | refine W_exit rfl ?_)
        first | refine W_retR hP hf hfn _ ([(b, [dint (most : Int), dint (most : Int)])]) (by first | (simp [go_sem, hP, hgl, hn, arr3]; done) | (simp [go_sem, hP, hgl, hn, arr3]; rfl)) (by simp [go_sem, hP, hgl, hn, arr3]) (by simp) ?_ hR.2 | refine W_endR hP hf hfn _ ([(b, [dint (most : Int), dint (most : Int)])]) (by first | (simp [go_sem, hP, hgl, hn, arr3]; done) | (simp [go_sem, hP, hgl, hn, arr3]; rfl)) (by simp [go_sem, hP, hgl, hn, arr3]) (by simp) ?_ hR.2
        rw [hR.1]
        refine ⟨?_, by simp [arr3]⟩
        try simp [arr3]
        try all_goals (simp [Ty.dv, Ty.cells_eq, Ty.kind_mk, Ty.args_mk, Tm.dv, Tm.cells_eq, Tm.kind_mk, Tm.index_mk, Tm.type_mk, Tm.args_mk, Val.dv, Val.cells_eq, Val.kind_mk, Val.num_mk, Val.list_mk, Val.args_mk, ints])
    · refine t_rg0 ?_
      refine t_y (j2 @hne @hil) ?_
      refine t_rg (j2 @hgi @hT) ?_
      by_cases hfit1 : u' + c1 ≤ most
      · have o1 : outM most (u' + c1) v1.thing = .tup [v1.thing, dbool true] := by unfold outM; rw [if_pos hfit1]
        have o2 : useM most (u' + c1) = [dint ((u' + c1 : Nat) : Int), dint (most : Int)] := by unfold useM; rw [if_pos hfit1]
        rw [o1, o2] at W1
        refine t_c1 @hT W1 ?_
        refine t_rg0 ?_
        refine t_no ?_
        refine t_rg0 ?_
        refine t_rg0 ?_
        have a4 : u' + c1 + c2 = u + c := by omega
        have a6 : (p ++ [v1]).length = 1 + 1 := by simp [hpl]
        have a7 : at3 (p ++ [v1]) 1 = v1.thing := by simp [at3, hpl]
        have a8 : p ++ [v1] ++ preC ev most e (u' + c1) (l.drop (1 + 1)) = preC ev most e u l := by rw [List.append_assoc]; rw [← hpre, if_pos hfit1]; rfl
        have b0 : at3 (p ++ [v1]) 0 = at3 p 0 := by simp [at3, hpl, List.getElem?_append]
        have b2 : at3 (p ++ [v1]) 2 = at3 p 2 := by simp [at3, hpl, List.getElem?_append]
        have d1 : 1 + 1 ≤ l.length := by omega
        have d2 : u ≤ u' + c1 := by omega
        have d3 : M + (u' - u) ≤ M + (u' + c1 - u) := by omega
        have d5 : l.length - (1 + 1) < l.length - 1 := by omega
        refine t_b ?_
        refine t_sub [] (j2 @a7 (j2 @b0 @b2)) (ih (p ++ [v1], 1 + 1, u' + c1) ⟨d1, hfit1, d2, a6, MV.nles_mono d3 _ hgz, c2, vs1, hw, a4, a8⟩ d5)
      · have o1 : outM most (u' + c1) v1.thing = .tup [nilI, dbool false] := by unfold outM; rw [if_neg hfit1]
        have o2 : useM most (u' + c1) = [dint (most : Int), dint (most : Int)] := by unfold useM; rw [if_neg hfit1]
        have hbig : ¬ u + c ≤ most := by omega
        have o4 : useM most (u + c) = [dint (most : Int), dint (most : Int)] := by unfold useM; rw [if_neg hbig]
        have o5 : preC ev most e u l = p := by rw [← hpre, if_neg hfit1]; simp
        have o6 : decide (u + c ≤ most) = false := decide_eq_false hbig
        unfold outA at hR
        rw [o4, o5, o6] at hR
        rw [o1, o2] at W1
        refine t_c1 @hT W1 ?_
        refine t_rg0 ?_
        refine t_yes ?_
        refine t_rg0 ?_
        repeat (first | refine W_seq ?_ | refine W_skip ?_ | refine W_block ?_ | refine W_inBlock ?_ | refine W_label ?_ | refine W_exit rfl ?_)
        first | refine W_retR hP hf hfn _ ([(b, [dint (most : Int), dint (most : Int)])]) (by first | (simp [go_sem, hP, hgl, hn, arr3]; done) | (simp [go_sem, hP, hgl, hn, arr3]; rfl)) (by simp [go_sem, hP, hgl, hn, arr3]) (by simp) ?_ hR.2 | refine W_endR hP hf hfn _ ([(b, [dint (most : Int), dint (most : Int)])]) (by first | (simp [go_sem, hP, hgl, hn, arr3]; done) | (simp [go_sem, hP, hgl, hn, arr3]; rfl)) (by simp [go_sem, hP, hgl, hn, arr3]) (by simp) ?_ hR.2
        rw [hR.1]
        refine ⟨?_, by simp [arr3]⟩
        try simp [arr3]
        try all_goals (simp [Ty.dv, Ty.cells_eq, Ty.kind_mk, Ty.args_mk, Tm.dv, Tm.cells_eq, Tm.kind_mk, Tm.index_mk, Tm.type_mk, Tm.args_mk, Val.dv, Val.cells_eq, Val.kind_mk, Val.num_mk, Val.list_mk, Val.args_mk, ints])
    · refine t_rg0 ?_
      refine t_y (j2 @hne @hil) ?_
      refine t_rg (j2 @hgi @hT) ?_
      by_cases hfit1 : u' + c1 ≤ most
      · have o1 : outM most (u' + c1) v1.thing = .tup [v1.thing, dbool true] := by unfold outM; rw [if_pos hfit1]
        have o2 : useM most (u' + c1) = [dint ((u' + c1 : Nat) : Int), dint (most : Int)] := by unfold useM; rw [if_pos hfit1]
        rw [o1, o2] at W1
        refine t_c1 @hT W1 ?_
        refine t_rg0 ?_
        refine t_no ?_
        refine t_rg0 ?_
        refine t_rg0 ?_
        have a4 : u' + c1 + c2 = u + c := by omega
        have a6 : (p ++ [v1]).length = 2 + 1 := by simp [hpl]
        have a7 : at3 (p ++ [v1]) 2 = v1.thing := by simp [at3, hpl]
        have a8 : p ++ [v1] ++ preC ev most e (u' + c1) (l.drop (2 + 1)) = preC ev most e u l := by rw [List.append_assoc]; rw [← hpre, if_pos hfit1]; rfl
        have b0 : at3 (p ++ [v1]) 0 = at3 p 0 := by simp [at3, hpl, List.getElem?_append]
        have b1 : at3 (p ++ [v1]) 1 = at3 p 1 := by simp [at3, hpl, List.getElem?_append]
        have d1 : 2 + 1 ≤ l.length := by omega
        have d2 : u ≤ u' + c1 := by omega
        have d3 : M + (u' - u) ≤ M + (u' + c1 - u) := by omega
        have d5 : l.length - (2 + 1) < l.length - 2 := by omega
        refine t_b ?_
        refine t_sub [] (j2 @a7 (j2 @b0 @b1)) (ih (p ++ [v1], 2 + 1, u' + c1) ⟨d1, hfit1, d2, a6, MV.nles_mono d3 _ hgz, c2, vs1, hw, a4, a8⟩ d5)
      · have o1 : outM most (u' + c1) v1.thing = .tup [nilI, dbool false] := by unfold outM; rw [if_neg hfit1]
        have o2 : useM most (u' + c1) = [dint (most : Int), dint (most : Int)] := by unfold useM; rw [if_neg hfit1]
        have hbig : ¬ u + c ≤ most := by omega
        have o4 : useM most (u + c) = [dint (most : Int), dint (most : Int)] := by unfold useM; rw [if_neg hbig]
        have o5 : preC ev most e u l = p := by rw [← hpre, if_neg hfit1]; simp
        have o6 : decide (u + c ≤ most) = false := decide_eq_false hbig
        unfold outA at hR
        rw [o4, o5, o6] at hR
        rw [o1, o2] at W1
        refine t_c1 @hT W1 ?_
        refine t_rg0 ?_
        refine t_yes ?_
        refine t_rg0 ?_
        repeat (first | refine W_seq ?_ | refine W_skip ?_ | refine W_block ?_ | refine W_inBlock ?_ | refine W_label ?_ | refine W_exit rfl ?_)
        first | refine W_retR hP hf hfn _ ([(b, [dint (most : Int), dint (most : Int)])]) (by first | (simp [go_sem, hP, hgl, hn, arr3]; done) | (simp [go_sem, hP, hgl, hn, arr3]; rfl)) (by simp [go_sem, hP, hgl, hn, arr3]) (by simp) ?_ hR.2 | refine W_endR hP hf hfn _ ([(b, [dint (most : Int), dint (most : Int)])]) (by first | (simp [go_sem, hP, hgl, hn, arr3]; done) | (simp [go_sem, hP, hgl, hn, arr3]; rfl)) (by simp [go_sem, hP, hgl, hn, arr3]) (by simp) ?_ hR.2
        rw [hR.1]
        refine ⟨?_, by simp [arr3]⟩
        try simp [arr3]
        try all_goals (simp [Ty.dv, Ty.cells_eq, Ty.kind_mk, Ty.args_mk, Tm.dv, Tm.cells_eq, Tm.kind_mk, Tm.index_mk, Tm.type_mk, Tm.args_mk, Val.dv, Val.cells_eq, Val.kind_mk, Val.num_mk, Val.list_mk, Val.args_mk, ints])
  · have hd : l.drop i = [] := List.drop_eq_nil_iff.2 (by omega)
    have hii : i = l.length := by omega
    subst hii
    rw [hd] at hc hpre
    simp only [allC, Option.some.injEq, Prod.mk.injEq] at hc
    obtain ⟨rfl, rfl⟩ := hc
    simp only [preC, List.append_nil] at hpre
    have hsm : u + c ≤ most := by omega
    have o4 : useM most (u + c) = [dint (u' : Int), dint (most : Int)] := by unfold useM; rw [if_pos hsm]; rw [← hcc]; simp
    have o6 : decide (u + c ≤ most) = true := decide_eq_true hsm
    unfold outA at hR
    rw [← hpre, o4, o6] at hR
    refine t_rg0 ?_
    refine t_no ?_
    refine t_rg0 ?_
    repeat (first | refine W_seq ?_ | refine W_skip ?_ | refine W_block ?_ | refine W_inBlock ?_ | refine W_label ?_ | refine W_exit rfl ?_)
    first | refine W_retR hP hf hfn _ ([(b, [dint (u' : Int), dint (most : Int)])]) (by first | (simp [go_sem, hP, hgl, hn, arr3]; done) | (simp [go_sem, hP, hgl, hn, arr3]; rfl)) (by simp [go_sem, hP, hgl, hn, arr3]) (by simp) ?_ hR.2 | refine W_endR hP hf hfn _ ([(b, [dint (u' : Int), dint (most : Int)])]) (by first | (simp [go_sem, hP, hgl, hn, arr3]; done) | (simp [go_sem, hP, hgl, hn, arr3]; rfl)) (by simp [go_sem, hP, hgl, hn, arr3]) (by simp) ?_ hR.2
    rw [hR.1]
    refine ⟨?_, by simp [arr3]⟩
    try simp [arr3]
    try all_goals (simp [Ty.dv, Ty.cells_eq, Ty.kind_mk, Ty.args_mk, Tm.dv, Tm.cells_eq, Tm.kind_mk, Tm.index_mk, Tm.type_mk, Tm.args_mk, Val.dv, Val.cells_eq, Val.kind_mk, Val.num_mk, Val.list_mk, Val.args_mk, ints])
end Go.Proofs.YtcldnfbcbkaanaaGreatDoor.Lift

/-
  Package machine: the walk of the rounds of a recursion.
-/
namespace Go.Proofs.YtcldnfbcbkaanaaGreatDoor.Lift
set_option linter.unusedSimpArgs false
set_option linter.unusedVariables false
set_option linter.unnecessarySimpa false
open Go
variable {gl : Globs}

theorem thing_num (n : Nat) : (MV.num n).thing = .iface 3 (dint (n : Int)) := by rw [MV.thing]

theorem recM_ok {most : Nat} (hm : most ≤ 1073741824) {ev : Evl} (H : WalkM Tryz.prog gl 75 most ev) (hN : NleM most ev) (hNc : ∀ {f v : MV} {l : List MV} {c M : Nat}, callC ev f l = some (v, c) → f.nle M → MV.nles M l → v.nle (M + c)) {r f v : MV} {n u c : Nat} (b M : Nat)
    (h : recC ev f n 0 r = some (v, c)) (hu : u ≤ most) (hM : M + (most - u) ≤ 1073741824) (hr0 : r.nle M) (hf0 : f.nle M) (hn0 : n ≤ M) :
    Con1 Tryz.prog gl 145 [ptr b, .agg (arr3 [r, f, .num n])] [(b, useM most u)] (outM most (u + c) v.thing) [(b, useM most (u + c))] := by
  have z0 : at3 [r, f, .num n] 0 = r.thing := rfl
  have z1 : at3 [r, f, .num n] 1 = f.thing := rfl
  have z2 : at3 [r, f, .num n] 2 = .iface 3 (dint (n : Int)) := thing_num n
  have hu0 : useM most u = [dint (u : Int), dint (most : Int)] := by unfold useM; rw [if_pos hu]
  unfold arr3
  rw [z0, z1, z2, hu0]
  refine t_in Tryz.func145 ?_
  intro X hP hgl hf hfn hn hR hids hfit
  refine t_g0 ?_
  refine t_a ?_
  refine t_sub [] trivial (W_rounds (fun x : DV × Bool × Nat × Nat => x.1.isCell = true ∧ cellsD x.1 = [x.1] ∧ (x.2.1 = true → x.2.2.1 ≤ n ∧ x.2.2.2 ≤ most ∧ u ≤ x.2.2.2 ∧ ∃ (q : MV) (c' : Nat), x.1 = q.thing ∧ q.nle (M + (x.2.2.2 - u)) ∧ recC ev f (n - x.2.2.1) x.2.2.1 q = some (v, c') ∧ x.2.2.2 + c' = u + c) ∧ (x.2.1 = false → x.1 = nilI ∧ x.2.2.2 = most ∧ ¬ u + c ≤ most ∧ x.2.2.1 ≤ n + 1)) (fun x : DV × Bool × Nat × Nat => [(.slot 6, .one (.v x.1)), (.slot 7, .one (.v (dbool x.2.1))), (.slot 8, .one (.v (dint (x.2.2.1 : Int)))), (.slot 0, .one (.v (ptr b))), (.slot 4, .one (.v nilI)), (.slot 5, .one (.v (dbool false))), (.slot 3, .one (.loc 3 0)), (.loc 3, .row ([.v r.thing, .v f.thing, .v (.iface 3 (dint (n : Int)))])), (.heap  b, .row ([.v (dint (x.2.2.2 : Int)), .v (dint (most : Int))]))]) (fun x : DV × Bool × Nat × Nat => (if x.2.1 then n - x.2.2.1 + 1 else 0)) (r.thing, true, 0, u) (⟨thing_cell r, cellsD_thing r, fun _ => ⟨Nat.zero_le _, hu, Nat.le_refl u, r, c, rfl, by simpa using hr0, by simpa using h, rfl⟩, fun e => by cases e⟩) ?_)
  rintro ⟨y, ok, k, u'⟩ ⟨hy1, hy2, hy3, hy4⟩ ih
  simp only at hy1 hy2 hy3 hy4
  cases ok with
  | false =>
    obtain ⟨rfl, rfl, hbig, hk⟩ := hy4 rfl
    have o3 : outM u' (u + c) v.thing = .tup [nilI, dbool false] := by unfold outM; rw [if_neg hbig]
    have o4 : useM u' (u + c) = [dint (u' : Int), dint (u' : Int)] := by unfold useM; rw [if_neg hbig]
    rw [o3, o4] at hR
    refine t_rg0 ?_
    refine t_no ?_
    refine t_rg0 ?_
    repeat (first | refine W_seq ?_ | refine W_skip ?_ | refine W_block ?_ | refine W_inBlock ?_ | refine W_label ?_ | refine W_exit rfl ?_)
    first | refine W_retR hP hf hfn _ ([(b, [dint (u' : Int), dint (u' : Int)])]) (by first | (simp [go_sem, hP, hgl, hn]; done) | (simp [go_sem, hP, hgl, hn]; rfl)) (by simp [go_sem, hP, hgl, hn]) (by simp) ?_ hR.2 | refine W_endR hP hf hfn _ ([(b, [dint (u' : Int), dint (u' : Int)])]) (by first | (simp [go_sem, hP, hgl, hn]; done) | (simp [go_sem, hP, hgl, hn]; rfl)) (by simp [go_sem, hP, hgl, hn]) (by simp) ?_ hR.2
    rw [hR.1]
    refine ⟨?_, by simp⟩
    try simp
    try all_goals (simp [Ty.dv, Ty.cells_eq, Ty.kind_mk, Ty.args_mk, Tm.dv, Tm.cells_eq, Tm.kind_mk, Tm.index_mk, Tm.type_mk, Tm.args_mk, Val.dv, Val.cells_eq, Val.kind_mk, Val.num_mk, Val.list_mk, Val.args_mk, ints])
  | true =>
    obtain ⟨hk, hu', huu, q, c', rfl, hq, hc, hcc⟩ := hy3 rfl
    have hn1 : (n : Int) ≤ 1073741824 := by omega
    by_cases hkn : k < n
    · have e1 : n - k = (n - (k + 1)) + 1 := by omega
      rw [e1, recC] at hc
      split at hc
      · cases hc
      rename_i v1 c1 hv1
      split at hc
      · cases hc
      rename_i w c2 hw
      simp only [Option.some.injEq, Prod.mk.injEq] at hc
      obtain ⟨rfl, rfl⟩ := hc
      have hfg : f.nle (M + (u' - u)) := MV.nle_mono (by omega) _ hf0
      have hlg : MV.nles (M + (u' - u)) [.num k, q] := by simp only [MV.nles, MV.nle]; exact ⟨by omega, hq, trivial⟩
      have W1 := callM_ok hm H hN b (M + (u' - u)) hv1 hu' (by omega) hfg hlg
      have hN1 := hNc hv1 hfg hlg
      have hu1 : useM most u' = [dint (u' : Int), dint (most : Int)] := by unfold useM; rw [if_pos hu']
      have hkn' : (k : Int) < (n : Int) := by omega
      rw [hu1] at W1
      simp only [List.map, thing_num] at W1
      refine t_rg0 ?_
      refine t_yes ?_
      by_cases hfit1 : u' + c1 ≤ most
      · have o1 : outM most (u' + c1) v1.thing = .tup [v1.thing, dbool true] := by unfold outM; rw [if_pos hfit1]
        have o2 : useM most (u' + c1) = [dint ((u' + c1 : Nat) : Int), dint (most : Int)] := by unfold useM; rw [if_pos hfit1]
        rw [o1, o2] at W1
        refine t_c1 trivial W1 ?_
        refine t_rg0 ?_
        have d1 : k + 1 ≤ n := by omega
        have d2 : u ≤ u' + c1 := by omega
        have d3 : M + (u' - u) + c1 ≤ M + (u' + c1 - u) := by omega
        have d4 : u' + c1 + c2 = u + c := by omega
        have d5 : n - (k + 1) + 1 < n - k + 1 := by omega
        refine t_b ?_
        refine t_sub [] trivial (ih (v1.thing, true, k + 1, u' + c1) ⟨thing_cell v1, cellsD_thing v1, fun _ => ⟨d1, hfit1, d2, v1, c2, rfl, MV.nle_mono d3 _ hN1, hw, d4⟩, fun e => by cases e⟩ d5)
      · have o1 : outM most (u' + c1) v1.thing = .tup [nilI, dbool false] := by unfold outM; rw [if_neg hfit1]
        have o2 : useM most (u' + c1) = [dint (most : Int), dint (most : Int)] := by unfold useM; rw [if_neg hfit1]
        have hbig : ¬ u + c ≤ most := by omega
        have d1 : k + 1 ≤ n + 1 := by omega
        have d5 : 0 < n - k + 1 := by omega
        rw [o1, o2] at W1
        refine t_c1 trivial W1 ?_
        refine t_rg0 ?_
        refine t_b ?_
        refine t_sub [] trivial (ih (nilI, false, k + 1, most) ⟨rfl, rfl, fun e => (by cases e), fun _ => ⟨rfl, rfl, hbig, d1⟩⟩ d5)
    · have e0 : n - k = 0 := by omega
      rw [e0, recC] at hc
      simp only [Option.some.injEq, Prod.mk.injEq] at hc
      obtain ⟨rfl, rfl⟩ := hc
      have hkn' : (n : Int) ≤ (k : Int) := by omega
      have hsm : u + c ≤ most := by omega
      have o3 : outM most (u + c) q.thing = .tup [q.thing, dbool true] := by unfold outM; rw [if_pos hsm]
      have o4 : useM most (u + c) = [dint (u' : Int), dint (most : Int)] := by unfold useM; rw [if_pos hsm]; rw [← hcc]; simp
      rw [o3, o4] at hR
      refine t_rg0 ?_
      refine t_no ?_
      refine t_rg0 ?_
      repeat (first | refine W_seq ?_ | refine W_skip ?_ | refine W_block ?_ | refine W_inBlock ?_ | refine W_label ?_ | refine W_exit rfl ?_)
      first | refine W_retR hP hf hfn _ ([(b, [dint (u' : Int), dint (most : Int)])]) (by first | (simp [go_sem, hP, hgl, hn]; done) | (simp [go_sem, hP, hgl, hn]; rfl)) (by simp [go_sem, hP, hgl, hn]) (by simp) ?_ hR.2 | refine W_endR hP hf hfn _ ([(b, [dint (u' : Int), dint (most : Int)])]) (by first | (simp [go_sem, hP, hgl, hn]; done) | (simp [go_sem, hP, hgl, hn]; rfl)) (by simp [go_sem, hP, hgl, hn]) (by simp) ?_ hR.2
      rw [hR.1]
      refine ⟨?_, by simp⟩
      try simp
      try all_goals (simp [Ty.dv, Ty.cells_eq, Ty.kind_mk, Ty.args_mk, Tm.dv, Tm.cells_eq, Tm.kind_mk, Tm.index_mk, Tm.type_mk, Tm.args_mk, Val.dv, Val.cells_eq, Val.kind_mk, Val.num_mk, Val.list_mk, Val.args_mk, ints])
end Go.Proofs.YtcldnfbcbkaanaaGreatDoor.Lift

/-
  Plain law: how large the numbers of a run get; more depth changes nothing.
-/
namespace Go.Proofs.YtcldnfbcbkaanaaGreatDoor.Lift
set_option linter.unusedSimpArgs false
set_option linter.unusedVariables false
set_option linter.unnecessarySimpa false
open Go

theorem nle_call {most : Nat} {ev : Evl} (hN : NleM most ev) : ∀ {l : List MV} {f v : MV} {c M : Nat}, callC ev f l = some (v, c) → f.nle M → MV.nles M l → v.nle (M + c)
  | [], f, v, c, M, h, hf, hl => by
    have : callC ev f [] = some (f, 0) := by cases f <;> rfl
    rw [this] at h
    simp only [Option.some.injEq, Prod.mk.injEq] at h
    obtain ⟨rfl, rfl⟩ := h
    exact hf
  | a :: l, f, v, c, M, h, hf, hl => by
    cases f with
    | num n => cases h
    | list q => cases h
    | both p q => cases h
    | unit => cases h
    | clo body e =>
      simp only [callC] at h
      split at h
      · cases h
      rename_i v1 c1 hv1
      split at h
      · cases h
      rename_i w c2 hw
      simp only [Option.some.injEq, Prod.mk.injEq] at h
      obtain ⟨rfl, rfl⟩ := h
      simp only [MV.nle] at hf
      simp only [MV.nles] at hl
      have k := hN M hv1 (by simp only [MV.nles]; exact ⟨hl.1, hf⟩)
      have := nle_call hN hw k (MV.nles_mono (by omega) _ hl.2)
      rw [Nat.add_assoc] at this
      exact this
theorem nle_rec {most : Nat} {ev : Evl} (hN : NleM most ev) {f : MV} : ∀ {n k : Nat} {r v : MV} {c M : Nat}, recC ev f n k r = some (v, c) → f.nle M → r.nle M → k + n ≤ M → v.nle (M + c)
  | 0, k, r, v, c, M, h, hf, hr, hk => by
    simp only [recC, Option.some.injEq, Prod.mk.injEq] at h
    obtain ⟨rfl, rfl⟩ := h
    exact hr
  | n + 1, k, r, v, c, M, h, hf, hr, hk => by
    simp only [recC] at h
    split at h
    · cases h
    rename_i v1 c1 hv1
    split at h
    · cases h
    rename_i w c2 hw
    simp only [Option.some.injEq, Prod.mk.injEq] at h
    obtain ⟨rfl, rfl⟩ := h
    have k1 := nle_call hN hv1 hf (by simp only [MV.nles, MV.nle]; exact ⟨by omega, hr, trivial⟩)
    have := nle_rec hN hw (MV.nle_mono (by omega) _ hf) k1 (by omega)
    rw [Nat.add_assoc] at this
    exact this
theorem nle_fold {most : Nat} {ev : Evl} (hN : NleM most ev) {f r : MV} : ∀ {l : List Nat} {v : MV} {c M : Nat}, foldC ev f r l = some (v, c) → f.nle M → r.nle M → (l.length ≤ M ∧ ∀ n ∈ l, n ≤ M) → v.nle (M + c)
  | [], v, c, M, h, hf, hr, hl => by
    simp only [foldC, Option.some.injEq, Prod.mk.injEq] at h
    obtain ⟨rfl, rfl⟩ := h
    exact hr
  | x :: l, v, c, M, h, hf, hr, hl => by
    simp only [foldC] at h
    split at h
    · cases h
    rename_i v1 c1 hv1
    split at h
    · cases h
    rename_i w c2 hw
    simp only [Option.some.injEq, Prod.mk.injEq] at h
    obtain ⟨rfl, rfl⟩ := h
    have hl1 : l.length + 1 ≤ M := by simpa using hl.1
    have k1 := nle_fold hN hv1 hf hr ⟨by omega, fun n hn => hl.2 n (List.mem_cons_of_mem _ hn)⟩
    have hx : x ≤ M := hl.2 x (by simp)
    have k2 := nle_call hN hw (MV.nle_mono (show M ≤ M + c1 by omega) _ hf) (by
      simp only [MV.nles, MV.nle]
      exact ⟨by omega, ⟨by omega, fun n hn => Nat.le_trans (hl.2 n (List.mem_cons_of_mem _ hn)) (by omega)⟩, k1, trivial⟩)
    rw [Nat.add_assoc] at k2
    exact k2
theorem nle_all {most : Nat} {ev : Evl} (hN : NleM most ev) {e : List MV} : ∀ {l : List Tm} {vs : List MV} {c M : Nat}, allC ev l e = some (vs, c) → MV.nles M e → MV.nles (M + c) vs
  | [], vs, c, M, h, he => by
    simp only [allC, Option.some.injEq, Prod.mk.injEq] at h
    obtain ⟨rfl, rfl⟩ := h
    simp only [MV.nles]
  | t :: l, vs, c, M, h, he => by
    simp only [allC] at h
    split at h
    · cases h
    rename_i v1 c1 hv1
    split at h
    · cases h
    rename_i w c2 hw
    simp only [Option.some.injEq, Prod.mk.injEq] at h
    obtain ⟨rfl, rfl⟩ := h
    simp only [MV.nles]
    exact ⟨MV.nle_mono (by omega) _ (hN M hv1 he), MV.nles_mono (by omega) _ (nle_all hN hw he)⟩
theorem nle_node {most : Nat} {ev : Evl} (hN : NleM most ev) {k : Int} {l : List MV} {v : MV} {c M : Nat} (h : nodeC ev k l = some (v, c)) (hl : MV.nles M l) : v.nle (M + 1 + c) := by
  unfold nodeC at h
  repeat' split at h
  all_goals first
    | (cases h; done)
    | skip
  all_goals try simp only [MV.nles, MV.nle] at hl
  · exact nle_call hN h (MV.nle_mono (by omega) _ hl.1) (by simp only [MV.nles]; exact ⟨MV.nle_mono (by omega) _ hl.2.1, trivial⟩)
  · simp only [Option.some.injEq, Prod.mk.injEq] at h
    obtain ⟨rfl, rfl⟩ := h
    simp only [MV.nle]; omega
  · simp only [Option.some.injEq, Prod.mk.injEq] at h
    obtain ⟨rfl, rfl⟩ := h
    simp only [MV.nle]; omega
  · exact nle_rec hN h (MV.nle_mono (by omega) _ hl.2.1) (MV.nle_mono (by omega) _ hl.1) (by omega)
  · simp only [Option.some.injEq, Prod.mk.injEq] at h
    obtain ⟨rfl, rfl⟩ := h
    simp only [MV.nle]; simp
  · simp only [Option.some.injEq, Prod.mk.injEq] at h
    obtain ⟨rfl, rfl⟩ := h
    simp only [MV.nle, List.mem_cons, List.length_cons]
    refine ⟨by omega, ?_⟩
    rintro n (rfl | hn)
    · omega
    · exact Nat.le_trans (hl.2.1.2 n hn) (by omega)
  · exact nle_fold hN h (MV.nle_mono (by omega) _ hl.2.1) (MV.nle_mono (by omega) _ hl.1) ⟨by omega, fun n hn => Nat.le_trans (hl.2.2.1.2 n hn) (by omega)⟩
  · simp only [Option.some.injEq, Prod.mk.injEq] at h
    obtain ⟨rfl, rfl⟩ := h
    simp only [MV.nle]
    exact ⟨MV.nle_mono (by omega) _ hl.1, MV.nle_mono (by omega) _ hl.2.1⟩
  · simp only [Option.some.injEq, Prod.mk.injEq] at h
    obtain ⟨rfl, rfl⟩ := h
    exact MV.nle_mono (by omega) _ hl.1.1
  · simp only [Option.some.injEq, Prod.mk.injEq] at h
    obtain ⟨rfl, rfl⟩ := h
    exact MV.nle_mono (by omega) _ hl.1.2
  · simp only [Option.some.injEq, Prod.mk.injEq] at h
    obtain ⟨rfl, rfl⟩ := h
    simp only [MV.nle]
theorem nle_evS (most : Nat) : ∀ d, NleM most (evS d)
  | 0, t, e, v, c, M, h, he => by cases h
  | d + 1, t, e, v, c, M, h, he => by
    have hN := nle_evS most d
    rw [evS] at h
    split at h
    · split at h
      · rename_i hi
        simp only [Option.some.injEq, Prod.mk.injEq] at h
        obtain ⟨rfl, rfl⟩ := h
        have hg : e[t.index.toNat]? = some (e.getD t.index.toNat .unit) := by simp [List.getD, List.getElem?_eq_getElem hi.2]
        exact MV.nle_mono (by omega) _ (nles_get he hg)
      · cases h
    split at h
    · split at h
      · cases h
      · simp only [Option.some.injEq, Prod.mk.injEq] at h
        obtain ⟨rfl, rfl⟩ := h
        simp only [MV.nle]
        exact MV.nles_mono (by omega) _ he
    split at h
    · cases h
    split at h
    · cases h
    rename_i l c1 hl
    split at h
    · cases h
    rename_i w c2 hw
    simp only [Option.some.injEq, Prod.mk.injEq] at h
    obtain ⟨rfl, rfl⟩ := h
    unfold nodeS at hw
    split at hw
    · have := nle_node hN hw (nle_all hN hl he)
      exact MV.nle_mono (by omega) _ this
    · cases hw
end Go.Proofs.YtcldnfbcbkaanaaGreatDoor.Lift

/-
  Package machine: the walk of eval.
-/
namespace Go.Proofs.YtcldnfbcbkaanaaGreatDoor.Lift
set_option linter.unusedSimpArgs false
set_option linter.unusedVariables false
set_option linter.unnecessarySimpa false
open Go
variable {gl : Globs}

theorem evS_pos : ∀ {d : Nat} {t : Tm} {e : List MV} {v : MV} {c : Nat}, evS d t e = some (v, c) → 1 ≤ c
  | 0, t, e, v, c, h => by cases h
  | d + 1, t, e, v, c, h => by
    rw [evS] at h
    repeat' split at h
    all_goals first
      | (cases h; done)
      | (simp only [Option.some.injEq, Prod.mk.injEq] at h; omega)
theorem blC_nil0 : blC [] (some []) = some (True, .ag [] []) := rfl
attribute [go_sem] blC_nil0
theorem thing_list (l : List Nat) : (MV.list l).thing = .iface 176 (cellM l) := by rw [MV.thing]
theorem thing_both (x y : MV) : (MV.both x y).thing = .iface 182 (.ref [x.thing, y.thing]) := by rw [MV.thing]
theorem thing_unit : MV.unit.thing = .iface 186 (.agg []) := by rw [MV.thing]
theorem cellM_nil : cellM [] = nilP := rfl
theorem cellM_cons (n : Nat) (l : List Nat) : cellM (n :: l) = .ref [dint (n : Int), cellM l] := rfl
theorem outM_yes {most n : Nat} (h : n ≤ most) (v : DV) : outM most n v = .tup [v, dbool true] := by unfold outM; rw [if_pos h]
theorem outM_no {most n : Nat} (h : ¬ n ≤ most) (v : DV) : outM most n v = .tup [nilI, dbool false] := by unfold outM; rw [if_neg h]
theorem useM_yes {most n : Nat} (h : n ≤ most) : useM most n = [dint (n : Int), dint (most : Int)] := by unfold useM; rw [if_pos h]
theorem useM_no {most n : Nat} (h : ¬ n ≤ most) : useM most n = [dint (most : Int), dint (most : Int)] := by unfold useM; rw [if_neg h]

def FoldM (P : Program) (gl : Globs) (ff : FuncId) (most : Nat) (ev : Evl) : Prop :=
  ∀ ⦃r f v : MV⦄ ⦃l : List Nat⦄ ⦃u c : Nat⦄ (b M : Nat), foldC ev f r l = some (v, c) → u ≤ most → M + (most - u) ≤ 1073741824 → r.nle M → f.nle M → (l.length ≤ M ∧ ∀ n ∈ l, n ≤ M) →
    Con1 P gl ff [ptr b, .agg (arr3 [r, f, .list l])] [(b, useM most u)] (outM most (u + c) v.thing) [(b, useM most (u + c))]

/-- the first unit is spent; a variable, a function -/
theorem evalM_1 {most : Nat} (hm : most ≤ 1073741824) (t : Tm) {e : List MV} {u : Nat} (b : Nat) (hu : u ≤ most) (h1 : t.kind = 1) (hi : 0 ≤ t.index ∧ t.index.toNat < e.length) :
    Con1 Tryz.prog gl 75 [ptr b, t.dv, MV.envM e] [(b, useM most u)] (outM most (u + 1) (e.getD t.index.toNat .unit).thing) [(b, useM most (u + 1))] := by
  rw [useM_yes hu]
  have hti : (t.index.toNat : Int) = t.index := Int.toNat_of_nonneg hi.1
  have W1 := env_at_ok (gl := gl) e t.index.toNat hi.2
  rw [hti] at W1
  by_cases hf1 : u + 1 ≤ most
  · rw [useM_yes hf1, outM_yes hf1]
    have hum : ¬ (most : Int) ≤ (u : Int) := by omega
    refine t_in Tryz.func75 ?_
    intro X hP hgl hf hfn hn hR hids hfit
    refine t_g (j2 @hum @h1) ?_
    refine t_c1 trivial W1 ?_
    repeat (first | refine W_seq ?_ | refine W_skip ?_ | refine W_block ?_ | refine W_inBlock ?_ | refine W_label ?_ | refine W_exit rfl ?_)
    first | refine W_retR hP hf hfn _ ([(b, [dint ((u + 1 : Nat) : Int), dint (most : Int)])]) (by first | (simp [go_sem, hP, hgl, hn]; done) | (simp [go_sem, hP, hgl, hn]; rfl)) (by simp [go_sem, hP, hgl, hn]) (by simp) ?_ hR.2 | refine W_endR hP hf hfn _ ([(b, [dint ((u + 1 : Nat) : Int), dint (most : Int)])]) (by first | (simp [go_sem, hP, hgl, hn]; done) | (simp [go_sem, hP, hgl, hn]; rfl)) (by simp [go_sem, hP, hgl, hn]) (by simp) ?_ hR.2
    rw [hR.1]
    refine ⟨?_, by simp⟩
    try simp
    try all_goals (simp [Ty.dv, Ty.cells_eq, Ty.kind_mk, Ty.args_mk, Tm.dv, Tm.cells_eq, Tm.kind_mk, Tm.index_mk, Tm.type_mk, Tm.args_mk, Val.dv, Val.cells_eq, Val.kind_mk, Val.num_mk, Val.list_mk, Val.args_mk, ints])
  · rw [useM_no hf1, outM_no hf1]
    have hum : (most : Int) ≤ (u : Int) := by omega
    have hue : (u : Int) = (most : Int) := by omega
    refine t_in Tryz.func75 ?_
    intro X hP hgl hf hfn hn hR hids hfit
    refine t_g @hum ?_
    repeat (first | refine W_seq ?_ | refine W_skip ?_ | refine W_block ?_ | refine W_inBlock ?_ | refine W_label ?_ | refine W_exit rfl ?_)
    first | refine W_retR hP hf hfn _ ([(b, [dint (most : Int), dint (most : Int)])]) (by first | (simp [go_sem, hP, hgl, hn, hue]; done) | (simp [go_sem, hP, hgl, hn, hue]; rfl)) (by simp [go_sem, hP, hgl, hn, hue]) (by simp) ?_ hR.2 | refine W_endR hP hf hfn _ ([(b, [dint (most : Int), dint (most : Int)])]) (by first | (simp [go_sem, hP, hgl, hn, hue]; done) | (simp [go_sem, hP, hgl, hn, hue]; rfl)) (by simp [go_sem, hP, hgl, hn, hue]) (by simp) ?_ hR.2
    rw [hR.1]
    refine ⟨?_, by simp [hue]⟩
    try simp [hue]
    try all_goals (simp [Ty.dv, Ty.cells_eq, Ty.kind_mk, Ty.args_mk, Tm.dv, Tm.cells_eq, Tm.kind_mk, Tm.index_mk, Tm.type_mk, Tm.args_mk, Val.dv, Val.cells_eq, Val.kind_mk, Val.num_mk, Val.list_mk, Val.args_mk, ints])

theorem evalM_2 {most : Nat} (hm : most ≤ 1073741824) (t : Tm) {e : List MV} {u : Nat} (b : Nat) (hu : u ≤ most) (h2 : t.kind = 2) {body : Tm} {rest : List Tm} (ha : t.args = body :: rest) :
    Con1 Tryz.prog gl 75 [ptr b, t.dv, MV.envM e] [(b, useM most u)] (outM most (u + 1) (MV.clo body e).thing) [(b, useM most (u + 1))] := by
  rw [useM_yes hu]
  by_cases hf1 : u + 1 ≤ most
  · rw [useM_yes hf1, outM_yes hf1, thing_clo]
    have hum : ¬ (most : Int) ≤ (u : Int) := by omega
    have hg : (t.args.map Tm.cells)[0]? = some [dint body.kind, dint body.index, dint body.type.kind, .sl (body.type.args.map Ty.cells), .sl (body.args.map Tm.cells)] := by rw [ha]; simp [Tm.cells_eq]
    have hg' : t.args[0]? = some body := by rw [ha]; rfl
    have hT := Tm.fold body
    refine t_in Tryz.func75 ?_
    intro X hP hgl hf hfn hn hR hids hfit
    refine t_g (j2 @hum @h2) ?_
    refine W_reg [42] fun K hK => ?_
    simp [go_sem, hP, hgl, hn, hg, hg', hT, Tm.cells_eq]
    refine vcK_boxR (cs := [dint body.kind, dint body.index, dint body.type.kind, .sl (body.type.args.map Ty.cells), .sl (body.args.map Tm.cells), MV.envM e]) (y := .ag [dint body.kind, dint body.index, dint body.type.kind, .sl (body.type.args.map Ty.cells), .sl (body.args.map Tm.cells), MV.envM e] []) (by simp [go_sem, hP, hgl, hn]) (by simp [go_sem]) (by simp [go_sem]) (by rw [hn]; exact Nat.le_of_ble_eq_true rfl) (by rfl) ?_
    simp [go_sem, hP, hgl, hn]
    refine t_e ?_
    clear hK K
    repeat (first | refine W_seq ?_ | refine W_skip ?_ | refine W_block ?_ | refine W_inBlock ?_ | refine W_label ?_ | refine W_exit rfl ?_)
    first | refine W_retR hP hf hfn _ ([(b, [dint ((u + 1 : Nat) : Int), dint (most : Int)])]) (by first | (simp [go_sem, hP, hgl, hn]; done) | (simp [go_sem, hP, hgl, hn]; rfl)) (by simp [go_sem, hP, hgl, hn]) (by simp) ?_ hR.2 | refine W_endR hP hf hfn _ ([(b, [dint ((u + 1 : Nat) : Int), dint (most : Int)])]) (by first | (simp [go_sem, hP, hgl, hn]; done) | (simp [go_sem, hP, hgl, hn]; rfl)) (by simp [go_sem, hP, hgl, hn]) (by simp) ?_ hR.2
    rw [hR.1]
    refine ⟨?_, by simp⟩
    try simp
    try all_goals (simp [Ty.dv, Ty.cells_eq, Ty.kind_mk, Ty.args_mk, Tm.dv, Tm.cells_eq, Tm.kind_mk, Tm.index_mk, Tm.type_mk, Tm.args_mk, Val.dv, Val.cells_eq, Val.kind_mk, Val.num_mk, Val.list_mk, Val.args_mk, ints])
  · rw [useM_no hf1, outM_no hf1]
    have hum : (most : Int) ≤ (u : Int) := by omega
    have hue : (u : Int) = (most : Int) := by omega
    refine t_in Tryz.func75 ?_
    intro X hP hgl hf hfn hn hR hids hfit
    refine t_g @hum ?_
    repeat (first | refine W_seq ?_ | refine W_skip ?_ | refine W_block ?_ | refine W_inBlock ?_ | refine W_label ?_ | refine W_exit rfl ?_)
    first | refine W_retR hP hf hfn _ ([(b, [dint (most : Int), dint (most : Int)])]) (by first | (simp [go_sem, hP, hgl, hn, hue]; done) | (simp [go_sem, hP, hgl, hn, hue]; rfl)) (by simp [go_sem, hP, hgl, hn, hue]) (by simp) ?_ hR.2 | refine W_endR hP hf hfn _ ([(b, [dint (most : Int), dint (most : Int)])]) (by first | (simp [go_sem, hP, hgl, hn, hue]; done) | (simp [go_sem, hP, hgl, hn, hue]; rfl)) (by simp [go_sem, hP, hgl, hn, hue]) (by simp) ?_ hR.2
    rw [hR.1]
    refine ⟨?_, by simp [hue]⟩
    try simp [hue]
    try all_goals (simp [Ty.dv, Ty.cells_eq, Ty.kind_mk, Ty.args_mk, Tm.dv, Tm.cells_eq, Tm.kind_mk, Tm.index_mk, Tm.type_mk, Tm.args_mk, Val.dv, Val.cells_eq, Val.kind_mk, Val.num_mk, Val.list_mk, Val.args_mk, ints])
end Go.Proofs.YtcldnfbcbkaanaaGreatDoor.Lift

namespace Go.Proofs.YtcldnfbcbkaanaaGreatDoor.Lift
set_option linter.unusedSimpArgs false
set_option linter.unusedVariables false
set_option linter.unnecessarySimpa false
open Go
variable {gl : Globs}

/-- a slice of one-cell elements -/
def ones (l : List DV) : List (List DV) := l.map fun x => [x]
theorem ones_length (l : List DV) : (ones l).length = l.length := by simp [ones]
theorem ones_get {l : List DV} {i : Nat} {x : DV} (h : l[i]? = some x) : (ones l)[i]? = some [x] := by simp [ones, h]
attribute [go_sem] ones_length

theorem backwardM_ok (l : List DV) : Con Tryz.prog gl 195 [.sl (ones l)] [] fun r φ => ∃ b, r = .prim (.func (.func 240) #[] #[.pointer (some ⟨b, 0, none⟩)]) ∧ φ = [(b, [.sl (ones l)])] := by
  refine t_in Tryz.func195 ?_
  intro X hP hgl hf hfn hn hR hids hfit
  refine t_rg0 ?_
  refine W_expose 1 (by simp [go_sem]; rfl) ?_
  intro b hb
  simp [go_sem]
  refine t_rg0 ?_
  refine t_a ?_
  refine W_retR hP hf hfn (.prim (.func (.func 240) #[] #[.pointer (some ⟨b, 0, none⟩)])) [(b, [.sl (ones l)])] (by simp [go_sem, hP, hgl, hn]) (by simp [go_sem]) (by simp) (by rw [hR.1]; exact ⟨b, rfl, rfl⟩) hR.2

/-- what is asked of yield: the numbers from the last one on -/
def BackM (P : Program) (gl : Globs) (l : List DV) (φ : Nat → Objs) (Stop : Objs → Loop → Prop) (lp : Nat) (r : Loop) (D0 : Nat → Nat → Prop) (w0 : World) : Prop :=
  ∀ (i : Nat) (x : DV), l[i]? = some x → YC P gl D0 w0 lp r [dint i, x] (φ (i + 1)) fun b φ' r' => if b = true then φ' = φ i ∧ r' = r else Stop φ' r'

theorem backItM_ok (l : List DV) (hlen : l.length ≤ 2147483648) (b0 : Nat) (φ : Nat → Objs) (hφ : ∀ i, (φ i).map (·.1) = (φ 0).map (·.1)) (hnd : ((φ 0).map (·.1)).Nodup) (hb0 : b0 ∉ (φ 0).map (·.1)) {Stop : Objs → Loop → Prop} (hStop : ∀ ψ r', Stop ψ r' → ψ.map (·.1) = (φ 0).map (·.1)) (lp : Nat) (r : Loop) (hps : r.params.size = 2) :
    ItC Tryz.prog gl 240 [.prim (.func (.yield lp) #[] #[]), ptr b0] ((b0, [.sl (ones l)]) :: φ l.length) lp r (BackM Tryz.prog gl l φ Stop lp r) (fun φ' r' => (φ' = (b0, [.sl (ones l)]) :: φ 0 ∧ r' = r) ∨ ∃ ψ, φ' = (b0, [.sl (ones l)]) :: ψ ∧ Stop ψ r') := by
  refine ItC_intro Tryz.func240 rfl (by kernel_rfl) (Nat.le_of_ble_eq_true rfl) ?_
  intro X hP hgl hf hfn hn hmd hids hfit hlp hY
  simp only [List.map_cons, List.mem_cons, not_or, hφ] at hlp
  obtain ⟨hlb, hlφ⟩ := hlp
  have hin : ∀ (i : Nat) (A : St), (∀ m v, (m, v) ∈ A → ∀ b ∈ (φ 0).map (·.1), m ≠ .heap b) → objsIn (get (A ++ heapSt (φ i))) (φ i) := fun i A h => objsIn_tail (by rw [hφ]; exact hnd) (by rw [hφ]; exact h)
  simp only [entryL, entry, argSt, heapSt, List.map_cons, List.map_nil, List.cons_append, List.nil_append]
  refine t_rg @hlb ?_
  refine t_a ?_
  refine W_tail (A' := [(.slot 3, .one (.v (dint ((l.length : Int) - 1 - (0 : Nat))))), (.slot 0, .one (.v (.prim (.func (.yield lp) #[] #[])))), (.slot 1, .one (.v (ptr b0))), (.heap lp, .ob r), (.heap b0, .row [.v (.sl (ones l))])]) (A := [_, _, _, _, _, _, _, _]) ?_ ?_ ?_
  · intro m v h
    simp only [List.mem_cons, List.not_mem_nil, or_false, Prod.mk.injEq] at h
    rcases h with ⟨rfl, rfl⟩ | ⟨rfl, rfl⟩ | ⟨rfl, rfl⟩ | ⟨rfl, rfl⟩ | ⟨rfl, rfl⟩ <;> simp [go_sem, hlb]
  · simp only [List.cons_append, List.nil_append]
    refine W_upto (X := X) l.length (fun _ => True) (fun j => (.slot 3, .one (.v (dint ((l.length : Int) - 1 - (j : Nat))))) :: (.slot 0, .one (.v (.prim (.func (.yield lp) #[] #[])))) :: (.slot 1, .one (.v (ptr b0))) :: (.heap lp, .ob r) :: (.heap b0, .row [.v (.sl (ones l))]) :: heapSt (φ (l.length - j))) trivial ?_ ?_
    · intro j hj _ hnext
      obtain ⟨i, hi⟩ : ∃ i : Nat, l.length = j + 1 + i := ⟨l.length - (j + 1), by omega⟩
      have hi1 : (l.length : Int) - 1 - (j : Nat) = (i : Nat) := by omega
      have hi2 : l.length - j = i + 1 := by omega
      have hi3 : l.length - (j + 1) = i := by omega
      have hx : l[i]? = some l[i] := List.getElem?_eq_getElem (by omega)
      rw [hi1, hi2]
      rw [hi3] at hnext
      generalize l[i] = x at hx
      have hgi := ones_get hx
      refine t_rg0 ?_
      refine t_yes ?_
      refine t_a ?_
      first | refine W_reg [] fun K hK => ?_ | refine W_regd (by rw [hP]; exact mixed) [] fun K hK => ?_
      refine t_s (j2 @hlb @hgi) ?_
      repeat (refine ⟨by omega, ?_⟩)
      refine vcK_yieldA (by simp [go_sem]) hP hgl (hY i x hx) hps (by simp [go_sem]) rfl ?_ (by rw [hφ]; exact hnd) (by simp [go_sem]) (by rw [hn]; exact Nat.le_of_ble_eq_true rfl) [(.slot 3, .one (.v (dint (i : Nat)))), (.slot 0, .one (.v (.prim (.func (.yield lp) #[] #[])))), (.slot 1, .one (.v (ptr b0))), (.heap b0, .row [.v (.sl (ones l))])] ?_ ?_ ?_
      · repeat (first | refine objsIn_slot ?_ | refine objsIn_heap (by rw [hφ]; assumption) ?_)
        exact objsIn_self (by rw [hφ]; exact hnd)
      · intro m v h
        simp only [List.mem_cons, List.not_mem_nil, or_false, Prod.mk.injEq] at h
        rw [hφ]
        rcases h with ⟨rfl, rfl⟩ | ⟨rfl, rfl⟩ | ⟨rfl, rfl⟩ | ⟨rfl, rfl⟩
        · simp [go_sem]
        · simp [go_sem]
        · simp [go_sem]
        · refine ⟨by simp [go_sem, hlb], by simp, by simp; exact fun e => hlb e.symm, fun b hb e => ?_⟩
          cases e; exact hb0 hb
      · intro b φ' r' h
        have : φ'.map (·.1) = (φ 0).map (·.1) := by
          split at h
          · rw [h.1, hφ]
          · exact hStop _ _ h
        rw [this]
        exact ⟨hnd, hlφ⟩
      · intro b φ' r' h _
        simp only [List.cons_append, List.nil_append]
        cases b with
        | true =>
          simp only [if_true] at h
          obtain ⟨rfl, rfl⟩ := h
          simp [go_sem, hP, hgl, hn]
          refine t_e ?_
          clear hK K
          refine t_no ?_
          refine t_rg0 ?_
          refine t_a ?_
          refine W_tail (A' := [(.slot 3, .one (.v (dint ((l.length : Int) - 1 - (j + 1 : Nat))))), (.slot 0, .one (.v (.prim (.func (.yield lp) #[] #[])))), (.slot 1, .one (.v (ptr b0))), (.heap lp, .ob r'), (.heap b0, .row [.v (.sl (ones l))])]) (A := [_, _, _, _, _, _, _, _, _]) ?_ (hnext trivial) ?_
          · intro m v h
            simp only [List.mem_cons, List.not_mem_nil, or_false, Prod.mk.injEq] at h
            rcases h with ⟨rfl, rfl⟩ | ⟨rfl, rfl⟩ | ⟨rfl, rfl⟩ | ⟨rfl, rfl⟩ | ⟨rfl, rfl⟩ <;> simp [go_sem, hlb]
            omega
          · intro m v h
            simp only [List.mem_cons, List.not_mem_nil, or_false, Prod.mk.injEq] at h
            rw [hφ]
            intro b hb
            rcases h with ⟨rfl, rfl⟩ | ⟨rfl, rfl⟩ | ⟨rfl, rfl⟩ | ⟨rfl, rfl⟩ | ⟨rfl, rfl⟩ | ⟨rfl, rfl⟩ | ⟨rfl, rfl⟩ | ⟨rfl, rfl⟩ | ⟨rfl, rfl⟩ <;> first | (simp; done) | (intro e; cases e; first | exact hb0 hb | exact hlφ hb)
        | false =>
          simp only [Bool.false_eq_true, if_false] at h
          have hids' := hStop _ _ h
          simp [go_sem, hP, hgl, hn]
          refine t_e ?_
          clear hK K
          refine t_yes ?_
          refine t_a ?_
          refine W_itfin hmd (φ := (b0, [.sl (ones l)]) :: φ') (q := r') (r := .tup []) (by rw [hP, hf, hfn]; exact Tryz.func240) (by rw [hfn]; simp [go_sem]) (objsIn_one ?_ ?_) ?_ ?_ (.inr ⟨φ', rfl, h⟩) outs_ret
          · simp [go_sem, hlb]
          · repeat (first | refine objsIn_slot ?_ | refine objsIn_heap (by rw [hids']; assumption) ?_)
            exact objsIn_self (by rw [hids']; exact hnd)
          · simp only [List.map_cons, List.nodup_cons, hids']; exact ⟨hb0, hnd⟩
          · simp [go_sem, hlb]
    · intro _
      refine t_rg0 ?_
      refine t_no ?_
      refine t_a ?_
      refine W_itfin hmd (φ := (b0, [.sl (ones l)]) :: φ 0) (q := r) (r := .tup []) (by rw [hP, hf, hfn]; exact Tryz.func240) (by rw [hfn]; simp [go_sem]) (objsIn_one ?_ ?_) ?_ ?_ (.inl ⟨rfl, rfl⟩) outs_end
      · simp [go_sem, hlb]
      · repeat (first | refine objsIn_slot ?_ | refine objsIn_heap (by assumption) ?_)
        exact objsIn_self hnd
      · simp only [List.map_cons, List.nodup_cons]; exact ⟨hb0, hnd⟩
      · simp [go_sem, hlb]
  · intro m v h
    simp only [List.mem_cons, List.not_mem_nil, or_false, Prod.mk.injEq] at h
    rw [hφ]
    intro b hb
    rcases h with ⟨rfl, rfl⟩ | ⟨rfl, rfl⟩ | ⟨rfl, rfl⟩ | ⟨rfl, rfl⟩ | ⟨rfl, rfl⟩ | ⟨rfl, rfl⟩ | ⟨rfl, rfl⟩ | ⟨rfl, rfl⟩ <;> first | (simp; done) | (intro e; cases e; first | exact hb0 hb | exact hlφ hb)
end Go.Proofs.YtcldnfbcbkaanaaGreatDoor.Lift

/-
  Package machine: the walk of a fold.
-/
namespace Go.Proofs.YtcldnfbcbkaanaaGreatDoor.Lift
set_option linter.unusedSimpArgs false
set_option linter.unusedVariables false
set_option linter.unnecessarySimpa false
open Go
variable {gl : Globs}

/-- the cells of a list, the first one first -/
def cellsOf : List Nat → List DV
  | [] => []
  | n :: l => cellM (n :: l) :: cellsOf l
theorem cellsOf_length : ∀ l, (cellsOf l).length = l.length
  | [] => rfl
  | n :: l => by simp [cellsOf, cellsOf_length l]
theorem cellsOf_get : ∀ {l : List Nat} {i : Nat}, i < l.length → (cellsOf l)[i]? = some (cellM (l.drop i))
  | n :: l, 0, _ => rfl
  | n :: l, i + 1, h => by simpa [cellsOf] using cellsOf_get (l := l) (i := i) (by simpa using h)

theorem fold_drop {ev : Evl} {f r : MV} : ∀ {l : List Nat} {v : MV} {c : Nat} (i : Nat), foldC ev f r l = some (v, c) → ∃ v' c', foldC ev f r (l.drop i) = some (v', c') ∧ c' ≤ c
  | l, v, c, 0, h => ⟨v, c, h, Nat.le_refl _⟩
  | [], v, c, i + 1, h => ⟨v, c, h, Nat.le_refl _⟩
  | x :: l, v, c, i + 1, h => by
    simp only [foldC] at h
    split at h
    · cases h
    rename_i v1 c1 hv1
    split at h
    · cases h
    rename_i w c2 hw
    simp only [Option.some.injEq, Prod.mk.injEq] at h
    obtain ⟨rfl, rfl⟩ := h
    obtain ⟨v', c', h1, h2⟩ := fold_drop i hv1
    exact ⟨v', c', h1, by omega⟩
theorem fold_step {ev : Evl} {f r : MV} {x : Nat} {l : List Nat} {v : MV} {c : Nat} (h : foldC ev f r (x :: l) = some (v, c)) : ∃ v1 c1 c2, foldC ev f r l = some (v1, c1) ∧ callC ev f [.num x, .list l, v1] = some (v, c2) ∧ c = c1 + c2 := by
  simp only [foldC] at h
  split at h
  · cases h
  rename_i v1 c1 hv1
  split at h
  · cases h
  rename_i w c2 hw
  simp only [Option.some.injEq, Prod.mk.injEq] at h
  obtain ⟨rfl, rfl⟩ := h
  exact ⟨v1, c1, c2, hv1, hw, rfl⟩
def foldS (ev : Evl) (f r : MV) (l : List Nat) (i : Nat) : MV × Nat := (foldC ev f r (l.drop i)).getD (.unit, 0)

theorem room_le {M c1 most u : Nat} (h : M + (most - u) ≤ 1073741824) (k : u + c1 ≤ most) : M + c1 + (most - (u + c1)) ≤ 1073741824 := by omega
set_option maxHeartbeats 1000000 in
theorem foldM_ok {most : Nat} (hm : most ≤ 1073741824) {ev : Evl} (H : WalkM Tryz.prog gl 75 most ev) (hN : NleM most ev) : FoldM Tryz.prog gl 146 most ev := by
  intro r f v l u c b M h hu hM hr0 hf0 hl0
  have z0 : at3 [r, f, .list l] 0 = r.thing := rfl
  have z1 : at3 [r, f, .list l] 1 = f.thing := rfl
  have z2 : at3 [r, f, .list l] 2 = .iface 176 (cellM l) := thing_list l
  have hll : (l.length : Int) ≤ 1073741824 := by omega
  unfold arr3
  rw [z0, z1, z2, useM_yes hu]
  refine t_in Tryz.func146 ?_
  intro X hP hgl hf hfn hn hR hids hfit
  refine t_g0 ?_
  refine t_a ?_
  refine W_sub [(1006, 0)] (by simp [go_sem]) (by simp [go_sem, ones] <;> omega) (by simp [go_sem]) (W_rounds (fun x : List DV × List Nat => x.1 ++ cellsOf x.2 = cellsOf l ∧ x.1.length + x.2.length = l.length) (fun x : List DV × List Nat => [(.slot 6, .one (.own 1006 (ones x.1))), (.tok 1006, .tk 1 x.1.length), (.slot 7, .one (.v (cellM x.2))), (.slot 4, .one (.v nilI)), (.slot 5, .one (.v (dbool false))), (.slot 2, .one (.loc 2 0)), (.loc 2, .row ([.v (ptr b)])), (.slot 3, .one (.loc 3 0)), (.loc 3, .row ([.v r.thing, .v f.thing, .v (.iface 176 (cellM l))])), (.heap  b, .row ([.v (dint (u : Int)), .v (dint (most : Int))]))]) (fun x : List DV × List Nat => x.2.length) (([] : List DV), l) (⟨rfl, by simp⟩) ?_)
  rintro ⟨cs, q⟩ ⟨hq1, hq2⟩ ih
  simp only at hq1 hq2
  cases q with
  | cons n q =>
    have hcm := cellM_cons n q
    have hon := ones_length cs
    simp only [List.length_cons] at hq2
    have hle : (cs.length : Int) + 1 ≤ 1073741824 := by omega
    have hcl : cs.length ≤ 2147483647 := by omega
    have hwid : ∀ e : List DV, e ∈ ones cs → e.length = 1 := by intro e he; simp only [ones, List.mem_map] at he; obtain ⟨x, -, rfl⟩ := he; rfl
    have hone : ones cs ++ [[DV.ref [dint (n : Int), cellM q]]] = ones (cs ++ [DV.ref [dint (n : Int), cellM q]]) := by simp [ones]
    have e1 : (cs ++ [DV.ref [dint (n : Int), cellM q]]) ++ cellsOf q = cellsOf l := by rw [← hq1, cellsOf, hcm]; simp
    have e2 : (cs ++ [DV.ref [dint (n : Int), cellM q]]).length + q.length = l.length := by simp; omega
    have e3 : q.length < (n :: q).length := by simp
    rw [hcm]
    refine t_rg0 ?_
    refine t_yes ?_
    refine t_rg (j2 @hcl (j2 @hwid @hon)) ?_
    refine t_rg0 ?_
    have hl1 : (cs ++ [DV.ref [dint (n : Int), cellM q]]).length = cs.length + 1 := by simp
    refine t_b ?_
    refine t_sub [(1006, 24)] (j2 @hone (j2 @hon @hl1)) (ih (cs ++ [DV.ref [dint (n : Int), cellM q]], q) ⟨e1, e2⟩ e3)
  | nil =>
    simp only [cellsOf, List.append_nil] at hq1
    subst hq1
    have hcm := cellM_nil
    rw [hcm]
    refine t_rg0 ?_
    refine t_no ?_
    refine t_rg0 ?_
    refine t_a ?_
    first | refine W_reg [] fun K hK => ?_ | refine W_regd (by rw [hP]; exact mixed) [] fun K hK => ?_
    refine t_s0 ?_
    repeat (refine ⟨by omega, ?_⟩)
    refine vcK_callR hP hgl (backwardM_ok (cellsOf l)) (by simp [go_sem]) rfl (by simp [go_sem]) (by simp) (by rw [hn]; exact Nat.le_of_ble_eq_true rfl) ?_
    rintro rr ψ ⟨b0, rfl, rfl⟩ hdis
    simp [go_sem] at hdis ⊢
    refine t_e ?_
    clear hK K
    refine t_a ?_
    refine W_expose 2 (by simp [go_sem]; rfl) ?_
    intro b2 hb2
    simp [go_sem, hdis] at hb2 ⊢
    refine W_expose 3 (by simp [go_sem]; rfl) ?_
    intro b3 hb3
    simp [go_sem, hdis, hb2] at hb3 ⊢
    refine W_expose 8 (by simp [go_sem]; rfl) ?_
    intro b8 hb8
    simp [go_sem, hdis, hb2, hb3] at hb8 ⊢
    refine W_expose 9 (by simp [go_sem]; rfl) ?_
    intro b9 hb9
    simp [go_sem, hdis, hb2, hb3, hb8] at hb9 ⊢
    have hnds : ¬ b0 = b := fun e => hdis e.symm
    obtain ⟨q1, q2⟩ := hb2
    obtain ⟨q3, q4, q5⟩ := hb3
    obtain ⟨q6, q7, q8, q9⟩ := hb8
    obtain ⟨q10, q11, q12, q13, q14⟩ := hb9
    have q15 : ¬ b9 = b := fun e => q14 e.symm
    have q16 : ¬ b8 = b := fun e => q9 e.symm
    have q17 : ¬ b3 = b := fun e => q5 e.symm
    have q18 : ¬ b2 = b := fun e => q2 e.symm
    have p1 := Ne.symm q1
    have p3 := Ne.symm q3
    have p4 := Ne.symm q4
    have p6 := Ne.symm q6
    have p7 := Ne.symm q7
    have p8 := Ne.symm q8
    have p10 := Ne.symm q10
    have p11 := Ne.symm q11
    have p12 := Ne.symm q12
    have p13 := Ne.symm q13
    have hS : ∀ i, foldC ev f r (l.drop i) = some (foldS ev f r l i) ∧ (foldS ev f r l i).2 ≤ c := by
      intro i
      obtain ⟨v', c', e1, e2⟩ := fold_drop i h
      unfold foldS
      rw [e1]
      exact ⟨rfl, e2⟩
    have hS0 : foldS ev f r l 0 = (v, c) := by unfold foldS; rw [List.drop_zero, h]; rfl
    have hSl : foldS ev f r l l.length = (r, 0) := by unfold foldS; rw [List.drop_length]; rfl
    generalize hSS : foldS ev f r l = S at hS hS0 hSl
    let Φ : Nat → Objs := fun i => [(b2, [ptr b]), (b3, [r.thing, f.thing, .iface 176 (cellM l)]), (b8, [if u + (S i).2 ≤ most then (S i).1.thing else nilI]), (b9, [dbool (decide (u + (S i).2 ≤ most))]), (b, useM most (u + (S i).2))]
    have hlenc : (cellsOf l).length = l.length := cellsOf_length l
    have hΦl : Φ (cellsOf l).length = [(b2, [ptr b]), (b3, [r.thing, f.thing, .iface 176 (cellM l)]), (b8, [r.thing]), (b9, [dbool true]), (b, [dint (u : Int), dint (most : Int)])] := by
      simp only [Φ, hlenc, hSl, Nat.add_zero, if_pos hu, useM_yes hu, decide_eq_true hu]
    refine W_rangeFunc hR.2 (f := 240) (fi := #[]) (ca := #[.pointer (some ⟨b0, 0, none⟩)]) (by simp [go_sem]) (by simp [primOK]) (φ := (b0, [.sl (ones (cellsOf l))]) :: Φ (cellsOf l).length) ?_ ?_ (Y := BackM X.P X.gl (cellsOf l) Φ (fun ψ r' => ∃ i, ψ = Φ i ∧ ¬ u + (S i).2 ≤ most ∧ r'.state = .done ∧ r'.pending = some (.exit 2))) (R := fun φ' r' => (φ' = (b0, [.sl (ones (cellsOf l))]) :: Φ 0 ∧ r'.state = .ready ∧ r'.pending = none) ∨ ∃ i, φ' = (b0, [.sl (ones (cellsOf l))]) :: Φ i ∧ ¬ u + (S i).2 ≤ most ∧ r'.state = .done ∧ r'.pending = some (.exit 2)) (SL := [(2, ptr b2), (3, ptr b3), (8, ptr b8), (9, ptr b9)]) ?_ ?_ ?_ ?_ ?_
    · rw [hΦl]
      refine objsIn_one ?_ (objsIn_one ?_ (objsIn_one ?_ (objsIn_one ?_ (objsIn_one ?_ (objsIn_one ?_ (by simp [objsIn]))))))
      all_goals simp [go_sem, hdis, hnds, q1, q2, q3, q4, q5, q6, q7, q8, q9, q10, q11, q12, q13, q14, q15, q16, q17, q18, p1, p3, p4, p6, p7, p8, p10, p11, p12, p13]
    · rw [hΦl]
      simp [hdis, hnds, q1, q2, q3, q4, q5, q6, q7, q8, q9, q10, q11, q12, q13, q14, q15, q16, q17, q18, p1, p3, p4, p6, p7, p8, p10, p11, p12, p13]
      try (refine ⟨?_, ?_⟩ <;> (intro e; subst e; simp_all))
    · intro n x h
      simp only [List.mem_cons, List.not_mem_nil, or_false, Prod.mk.injEq] at h
      rcases h with ⟨rfl, rfl⟩ | ⟨rfl, rfl⟩ | ⟨rfl, rfl⟩ | ⟨rfl, rfl⟩ <;> simp [go_sem]
    · intro lp rr h1 h2 h3 h4
      have := backItM_ok (gl := gl) (cellsOf l) (by rw [hlenc]; omega) b0 Φ (fun _ => rfl) (by simp only [Φ]; simp [hdis, hnds, q1, q2, q3, q4, q5, q6, q7, q8, q9, q10, q11, q12, q13, q14, q15, q16, q17, q18, p1, p3, p4, p6, p7, p8, p10, p11, p12, p13]; try (intro e; subst e; simp_all)) (by simp only [Φ]; simp [hdis, hnds, q1, q2, q3, q4, q5, q6, q7, q8, q9, q10, q11, q12, q13, q14, q15, q16, q17, q18, p1, p3, p4, p6, p7, p8, p10, p11, p12, p13]) (Stop := fun ψ r' => ∃ i, ψ = Φ i ∧ ¬ u + (S i).2 ≤ most ∧ r'.state = .done ∧ r'.pending = some (.exit 2)) (by rintro ψ r' ⟨i, rfl, -⟩; rfl) lp rr (by rw [h3]; rfl)
      rw [hP, hgl]
      refine ⟨this.1, fun D w vs a1 a2 a3 a4 a5 a6 => (this.2 D w vs a1 a2 a3 a4 a5 a6).mono ?_⟩
      rintro e w' ⟨v1, D', φ', r', rfl, hR', rest⟩
      refine ⟨v1, D', φ', r', rfl, ?_, rest⟩
      rcases hR' with ⟨rfl, rfl⟩ | ⟨ψ, hψ, i, rfl, k1, k2, k3⟩
      · exact .inl ⟨rfl, h1, h2⟩
      · exact .inr ⟨i, hψ, k1, k2, k3⟩
    · intro lp rr D0 w0 h1 h2 h3 h4 h5 h6 h7 h8 h9 i x hx
      rw [hP, hgl]
      have hil : i < l.length := by have := (List.getElem?_eq_some_iff.1 hx).1; rw [hlenc] at this; exact this
      rw [cellsOf_get hil, Option.some.injEq] at hx
      subst hx
      refine YC_round X.n h5 h9 h1 (by rw [h3]; rfl) (by rw [h3, hn]; decide) (by rw [h3]; decide) (by rw [h3]; simp) ?_
      intro X' hP' hgl' hf' hn' hmd' hids' hl' hfit'
      rw [h3, h6, h7]
      rw [hn] at hn'
      clear hP hgl hn
      have hP := hP'
      have hgl := hgl'
      have hn := hn'
      have hl2 : ¬ lp = b2 ∧ ¬ lp = b3 ∧ ¬ lp = b8 ∧ ¬ lp = b9 ∧ ¬ lp = b := by simpa [Φ] using hl'
      obtain ⟨x2, x3, x8, x9, xb⟩ := hl2
      have i2 := Ne.symm x2
      have i3 := Ne.symm x3
      have i8 := Ne.symm x8
      have i9 := Ne.symm x9
      have ib := Ne.symm xb
      obtain ⟨n, hdi⟩ : ∃ n, l.drop i = n :: l.drop (i + 1) := ⟨l[i], List.drop_eq_getElem_cons hil⟩
      have hcm := cellM_cons n (l.drop (i + 1))
      have hfS := (hS i).1
      rw [hdi] at hfS ⊢
      obtain ⟨v1, c1, c2, g1, g2, g3⟩ := fold_step hfS
      have hS1 := (hS (i + 1)).1
      rw [g1, Option.some.injEq] at hS1
      rw [hcm]
      by_cases hfa : u + c1 ≤ most
      · have hΦ1 : Φ (i + 1) = [(b2, [ptr b]), (b3, [r.thing, f.thing, .iface 176 (cellM l)]), (b8, [v1.thing]), (b9, [dbool true]), (b, [dint ((u + c1 : Nat) : Int), dint (most : Int)])] := by
          simp only [Φ, ← hS1, if_pos hfa, useM_yes hfa, decide_eq_true hfa]
        have hbd : ∀ n' ∈ l.drop (i + 1), n' ≤ M := fun n' hn' => hl0.2 n' (List.mem_of_mem_drop hn')
        have hbl : (l.drop (i + 1)).length ≤ M := by have := hl0.1; rw [List.length_drop]; omega
        have hnM : n ≤ M := hl0.2 n (List.mem_of_mem_drop (by rw [hdi]; exact List.mem_cons_self))
        have hv1 := nle_fold hN g1 hf0 hr0 ⟨hbl, hbd⟩
        have w1 : f.nle (M + c1) := MV.nle_mono (Nat.le_add_right M c1) f hf0
        have w2 : M + c1 + (most - (u + c1)) ≤ 1073741824 := room_le hM hfa
        have w3 : MV.nles (M + c1) [.num n, .list (l.drop (i + 1)), v1] := by
          simp only [MV.nles, MV.nle]
          exact ⟨by omega, ⟨by omega, fun n' hn' => Nat.le_trans (hbd n' hn') (Nat.le_add_right M c1)⟩, hv1, trivial⟩
        have W1 := callM_ok hm H hN b (M + c1) g2 hfa w2 w1 w3
        rw [useM_yes hfa] at W1
        simp only [List.map, thing_num, thing_list] at W1
        rw [hΦ1]
        simp only [entryR, h3, parSt, slotSt, heapSt, List.cons_append, List.nil_append]
        refine t_rg (j2 @hdis (j2 @hnds (j2 @q1 (j2 @q2 (j2 @q3 (j2 @q4 (j2 @q5 (j2 @q6 (j2 @q7 (j2 @q8 (j2 @q9 (j2 @q10 (j2 @q11 (j2 @q12 (j2 @q13 (j2 @q14 (j2 @q15 (j2 @q16 (j2 @q17 (j2 @q18 (j2 @p1 (j2 @p3 (j2 @p4 (j2 @p6 (j2 @p7 (j2 @p8 (j2 @p10 (j2 @p11 (j2 @p12 (j2 @p13 (j2 @x2 (j2 @x3 (j2 @x8 (j2 @x9 (j2 @xb (j2 @i2 (j2 @i3 (j2 @i8 (j2 @i9 @ib))))))))))))))))))))))))))))))))))))))) ?_
        refine W_begin (r := rr) (l := lp) (by simp [Ctx.rd, hmd']) (by simp [go_sem]) h1 ?_
        simp [go_sem, hdis, hnds, q1, q2, q3, q4, q5, q6, q7, q8, q9, q10, q11, q12, q13, q14, q15, q16, q17, q18, p1, p3, p4, p6, p7, p8, p10, p11, p12, p13, x2, x3, x8, x9, xb, i2, i3, i8, i9, ib]
        refine t_rg (j2 @hdis (j2 @hnds (j2 @q1 (j2 @q2 (j2 @q3 (j2 @q4 (j2 @q5 (j2 @q6 (j2 @q7 (j2 @q8 (j2 @q9 (j2 @q10 (j2 @q11 (j2 @q12 (j2 @q13 (j2 @q14 (j2 @q15 (j2 @q16 (j2 @q17 (j2 @q18 (j2 @p1 (j2 @p3 (j2 @p4 (j2 @p6 (j2 @p7 (j2 @p8 (j2 @p10 (j2 @p11 (j2 @p12 (j2 @p13 (j2 @x2 (j2 @x3 (j2 @x8 (j2 @x9 (j2 @xb (j2 @i2 (j2 @i3 (j2 @i8 (j2 @i9 @ib))))))))))))))))))))))))))))))))))))))) ?_
        refine t_no ?_
        by_cases hfb : u + c1 + c2 ≤ most
        · have o1 : outM most (u + c1 + c2) (S i).1.thing = .tup [(S i).1.thing, dbool true] := outM_yes hfb _
          have hΦ0 : Φ i = [(b2, [ptr b]), (b3, [r.thing, f.thing, .iface 176 (cellM l)]), (b8, [(S i).1.thing]), (b9, [dbool true]), (b, [dint ((u + c1 + c2 : Nat) : Int), dint (most : Int)])] := by
            have e9 : u + (S i).2 = u + c1 + c2 := by omega
            simp only [Φ, e9, if_pos hfb, useM_yes hfb, decide_eq_true hfb]
          rw [o1, useM_yes hfb] at W1
          refine t_a ?_
          first | refine W_reg [] fun K hK => ?_ | refine W_regd (by rw [hP]; exact mixed) [] fun K hK => ?_
          refine t_s (j2 @hdis (j2 @hnds (j2 @q1 (j2 @q2 (j2 @q3 (j2 @q4 (j2 @q5 (j2 @q6 (j2 @q7 (j2 @q8 (j2 @q9 (j2 @q10 (j2 @q11 (j2 @q12 (j2 @q13 (j2 @q14 (j2 @q15 (j2 @q16 (j2 @q17 (j2 @q18 (j2 @p1 (j2 @p3 (j2 @p4 (j2 @p6 (j2 @p7 (j2 @p8 (j2 @p10 (j2 @p11 (j2 @p12 (j2 @p13 (j2 @x2 (j2 @x3 (j2 @x8 (j2 @x9 (j2 @xb (j2 @i2 (j2 @i3 (j2 @i8 (j2 @i9 @ib))))))))))))))))))))))))))))))))))))))) ?_
          repeat (refine ⟨by omega, ?_⟩)
          first | refine vcK_call hP hgl (W1) (by simp [go_sem, hP, hgl, hn, hdis, hnds, q1, q2, q3, q4, q5, q6, q7, q8, q9, q10, q11, q12, q13, q14, q15, q16, q17, q18, p1, p3, p4, p6, p7, p8, p10, p11, p12, p13, x2, x3, x8, x9, xb, i2, i3, i8, i9, ib]) rfl (by simp [go_sem, hP, hgl, hn, hdis, hnds, q1, q2, q3, q4, q5, q6, q7, q8, q9, q10, q11, q12, q13, q14, q15, q16, q17, q18, p1, p3, p4, p6, p7, p8, p10, p11, p12, p13, x2, x3, x8, x9, xb, i2, i3, i8, i9, ib]) (by simp [hdis, hnds, q1, q2, q3, q4, q5, q6, q7, q8, q9, q10, q11, q12, q13, q14, q15, q16, q17, q18, p1, p3, p4, p6, p7, p8, p10, p11, p12, p13, x2, x3, x8, x9, xb, i2, i3, i8, i9, ib]) (by rw [hn]; exact Nat.le_of_ble_eq_true rfl) ?_ | refine vcdC_call (fun _ _ => vcd_sound) hP hgl (W1) (by simp [go_sem, hP, hgl, hn, hdis, hnds, q1, q2, q3, q4, q5, q6, q7, q8, q9, q10, q11, q12, q13, q14, q15, q16, q17, q18, p1, p3, p4, p6, p7, p8, p10, p11, p12, p13, x2, x3, x8, x9, xb, i2, i3, i8, i9, ib]) rfl (by simp [go_sem, hP, hgl, hn, hdis, hnds, q1, q2, q3, q4, q5, q6, q7, q8, q9, q10, q11, q12, q13, q14, q15, q16, q17, q18, p1, p3, p4, p6, p7, p8, p10, p11, p12, p13, x2, x3, x8, x9, xb, i2, i3, i8, i9, ib]) (by simp [hdis, hnds, q1, q2, q3, q4, q5, q6, q7, q8, q9, q10, q11, q12, q13, q14, q15, q16, q17, q18, p1, p3, p4, p6, p7, p8, p10, p11, p12, p13, x2, x3, x8, x9, xb, i2, i3, i8, i9, ib]) (by rw [hn]; exact Nat.le_of_ble_eq_true rfl) ?_
          simp [go_sem, hP, hgl, hn, hdis, hnds, q1, q2, q3, q4, q5, q6, q7, q8, q9, q10, q11, q12, q13, q14, q15, q16, q17, q18, p1, p3, p4, p6, p7, p8, p10, p11, p12, p13, x2, x3, x8, x9, xb, i2, i3, i8, i9, ib]
          refine t_e ?_
          clear hK K
          refine t_a ?_
          refine W_rdfin hmd' (φ := Φ i) ?_ (by simp only [Φ]; simp [hdis, hnds, q1, q2, q3, q4, q5, q6, q7, q8, q9, q10, q11, q12, q13, q14, q15, q16, q17, q18, p1, p3, p4, p6, p7, p8, p10, p11, p12, p13]) (by simp [go_sem, hdis, hnds, q1, q2, q3, q4, q5, q6, q7, q8, q9, q10, q11, q12, q13, q14, q15, q16, q17, q18, p1, p3, p4, p6, p7, p8, p10, p11, p12, p13, x2, x3, x8, x9, xb, i2, i3, i8, i9, ib]) none rfl ?_
          · rw [hΦ0]
            refine objsIn_one ?_ (objsIn_one ?_ (objsIn_one ?_ (objsIn_one ?_ (objsIn_one ?_ (by simp [objsIn])))))
            all_goals simp [go_sem, hdis, hnds, q1, q2, q3, q4, q5, q6, q7, q8, q9, q10, q11, q12, q13, q14, q15, q16, q17, q18, p1, p3, p4, p6, p7, p8, p10, p11, p12, p13, x2, x3, x8, x9, xb, i2, i3, i8, i9, ib]
          · simp only [Option.isNone_none, if_true, true_and]
            cases rr; simp only [pastL] at h1 h2 ⊢; subst h1 h2; rfl
        · have o1 : outM most (u + c1 + c2) (S i).1.thing = .tup [nilI, dbool false] := outM_no hfb _
          have hΦ0 : Φ i = [(b2, [ptr b]), (b3, [r.thing, f.thing, .iface 176 (cellM l)]), (b8, [nilI]), (b9, [dbool false]), (b, [dint (most : Int), dint (most : Int)])] := by
            have e9 : u + (S i).2 = u + c1 + c2 := by omega
            simp only [Φ, e9, if_neg hfb, useM_no hfb, decide_eq_false hfb]
          rw [o1, useM_no hfb] at W1
          refine t_a ?_
          first | refine W_reg [] fun K hK => ?_ | refine W_regd (by rw [hP]; exact mixed) [] fun K hK => ?_
          refine t_s (j2 @hdis (j2 @hnds (j2 @q1 (j2 @q2 (j2 @q3 (j2 @q4 (j2 @q5 (j2 @q6 (j2 @q7 (j2 @q8 (j2 @q9 (j2 @q10 (j2 @q11 (j2 @q12 (j2 @q13 (j2 @q14 (j2 @q15 (j2 @q16 (j2 @q17 (j2 @q18 (j2 @p1 (j2 @p3 (j2 @p4 (j2 @p6 (j2 @p7 (j2 @p8 (j2 @p10 (j2 @p11 (j2 @p12 (j2 @p13 (j2 @x2 (j2 @x3 (j2 @x8 (j2 @x9 (j2 @xb (j2 @i2 (j2 @i3 (j2 @i8 (j2 @i9 @ib))))))))))))))))))))))))))))))))))))))) ?_
          repeat (refine ⟨by omega, ?_⟩)
          first | refine vcK_call hP hgl (W1) (by simp [go_sem, hP, hgl, hn, hdis, hnds, q1, q2, q3, q4, q5, q6, q7, q8, q9, q10, q11, q12, q13, q14, q15, q16, q17, q18, p1, p3, p4, p6, p7, p8, p10, p11, p12, p13, x2, x3, x8, x9, xb, i2, i3, i8, i9, ib]) rfl (by simp [go_sem, hP, hgl, hn, hdis, hnds, q1, q2, q3, q4, q5, q6, q7, q8, q9, q10, q11, q12, q13, q14, q15, q16, q17, q18, p1, p3, p4, p6, p7, p8, p10, p11, p12, p13, x2, x3, x8, x9, xb, i2, i3, i8, i9, ib]) (by simp [hdis, hnds, q1, q2, q3, q4, q5, q6, q7, q8, q9, q10, q11, q12, q13, q14, q15, q16, q17, q18, p1, p3, p4, p6, p7, p8, p10, p11, p12, p13, x2, x3, x8, x9, xb, i2, i3, i8, i9, ib]) (by rw [hn]; exact Nat.le_of_ble_eq_true rfl) ?_ | refine vcdC_call (fun _ _ => vcd_sound) hP hgl (W1) (by simp [go_sem, hP, hgl, hn, hdis, hnds, q1, q2, q3, q4, q5, q6, q7, q8, q9, q10, q11, q12, q13, q14, q15, q16, q17, q18, p1, p3, p4, p6, p7, p8, p10, p11, p12, p13, x2, x3, x8, x9, xb, i2, i3, i8, i9, ib]) rfl (by simp [go_sem, hP, hgl, hn, hdis, hnds, q1, q2, q3, q4, q5, q6, q7, q8, q9, q10, q11, q12, q13, q14, q15, q16, q17, q18, p1, p3, p4, p6, p7, p8, p10, p11, p12, p13, x2, x3, x8, x9, xb, i2, i3, i8, i9, ib]) (by simp [hdis, hnds, q1, q2, q3, q4, q5, q6, q7, q8, q9, q10, q11, q12, q13, q14, q15, q16, q17, q18, p1, p3, p4, p6, p7, p8, p10, p11, p12, p13, x2, x3, x8, x9, xb, i2, i3, i8, i9, ib]) (by rw [hn]; exact Nat.le_of_ble_eq_true rfl) ?_
          simp [go_sem, hP, hgl, hn, hdis, hnds, q1, q2, q3, q4, q5, q6, q7, q8, q9, q10, q11, q12, q13, q14, q15, q16, q17, q18, p1, p3, p4, p6, p7, p8, p10, p11, p12, p13, x2, x3, x8, x9, xb, i2, i3, i8, i9, ib]
          refine t_e ?_
          clear hK K
          refine t_a ?_
          refine W_rdfin hmd' (φ := Φ i) ?_ (by simp only [Φ]; simp [hdis, hnds, q1, q2, q3, q4, q5, q6, q7, q8, q9, q10, q11, q12, q13, q14, q15, q16, q17, q18, p1, p3, p4, p6, p7, p8, p10, p11, p12, p13]) (by simp [go_sem, hdis, hnds, q1, q2, q3, q4, q5, q6, q7, q8, q9, q10, q11, q12, q13, q14, q15, q16, q17, q18, p1, p3, p4, p6, p7, p8, p10, p11, p12, p13, x2, x3, x8, x9, xb, i2, i3, i8, i9, ib]) none rfl ?_
          · rw [hΦ0]
            refine objsIn_one ?_ (objsIn_one ?_ (objsIn_one ?_ (objsIn_one ?_ (objsIn_one ?_ (by simp [objsIn])))))
            all_goals simp [go_sem, hdis, hnds, q1, q2, q3, q4, q5, q6, q7, q8, q9, q10, q11, q12, q13, q14, q15, q16, q17, q18, p1, p3, p4, p6, p7, p8, p10, p11, p12, p13, x2, x3, x8, x9, xb, i2, i3, i8, i9, ib]
          · simp only [Option.isNone_none, if_true, true_and]
            cases rr; simp only [pastL] at h1 h2 ⊢; subst h1 h2; rfl
      · have hΦ1 : Φ (i + 1) = [(b2, [ptr b]), (b3, [r.thing, f.thing, .iface 176 (cellM l)]), (b8, [nilI]), (b9, [dbool false]), (b, [dint (most : Int), dint (most : Int)])] := by
          simp only [Φ, ← hS1, if_neg hfa, useM_no hfa, decide_eq_false hfa]
        rw [hΦ1]
        simp only [entryR, h3, parSt, slotSt, heapSt, List.cons_append, List.nil_append]
        refine t_rg (j2 @hdis (j2 @hnds (j2 @q1 (j2 @q2 (j2 @q3 (j2 @q4 (j2 @q5 (j2 @q6 (j2 @q7 (j2 @q8 (j2 @q9 (j2 @q10 (j2 @q11 (j2 @q12 (j2 @q13 (j2 @q14 (j2 @q15 (j2 @q16 (j2 @q17 (j2 @q18 (j2 @p1 (j2 @p3 (j2 @p4 (j2 @p6 (j2 @p7 (j2 @p8 (j2 @p10 (j2 @p11 (j2 @p12 (j2 @p13 (j2 @x2 (j2 @x3 (j2 @x8 (j2 @x9 (j2 @xb (j2 @i2 (j2 @i3 (j2 @i8 (j2 @i9 @ib))))))))))))))))))))))))))))))))))))))) ?_
        refine W_begin (r := rr) (l := lp) (by simp [Ctx.rd, hmd']) (by simp [go_sem]) h1 ?_
        simp [go_sem, hdis, hnds, q1, q2, q3, q4, q5, q6, q7, q8, q9, q10, q11, q12, q13, q14, q15, q16, q17, q18, p1, p3, p4, p6, p7, p8, p10, p11, p12, p13, x2, x3, x8, x9, xb, i2, i3, i8, i9, ib]
        refine t_rg (j2 @hdis (j2 @hnds (j2 @q1 (j2 @q2 (j2 @q3 (j2 @q4 (j2 @q5 (j2 @q6 (j2 @q7 (j2 @q8 (j2 @q9 (j2 @q10 (j2 @q11 (j2 @q12 (j2 @q13 (j2 @q14 (j2 @q15 (j2 @q16 (j2 @q17 (j2 @q18 (j2 @p1 (j2 @p3 (j2 @p4 (j2 @p6 (j2 @p7 (j2 @p8 (j2 @p10 (j2 @p11 (j2 @p12 (j2 @p13 (j2 @x2 (j2 @x3 (j2 @x8 (j2 @x9 (j2 @xb (j2 @i2 (j2 @i3 (j2 @i8 (j2 @i9 @ib))))))))))))))))))))))))))))))))))))))) ?_
        refine t_yes ?_
        refine W_rdfin hmd' (φ := Φ (i + 1)) ?_ (by simp only [Φ]; simp [hdis, hnds, q1, q2, q3, q4, q5, q6, q7, q8, q9, q10, q11, q12, q13, q14, q15, q16, q17, q18, p1, p3, p4, p6, p7, p8, p10, p11, p12, p13]) (by simp [go_sem, hdis, hnds, q1, q2, q3, q4, q5, q6, q7, q8, q9, q10, q11, q12, q13, q14, q15, q16, q17, q18, p1, p3, p4, p6, p7, p8, p10, p11, p12, p13, x2, x3, x8, x9, xb, i2, i3, i8, i9, ib]) (some (.exit 2)) ⟨_, rfl, rfl⟩ ?_
        · rw [hΦ1]
          refine objsIn_one ?_ (objsIn_one ?_ (objsIn_one ?_ (objsIn_one ?_ (objsIn_one ?_ (by simp [objsIn])))))
          all_goals simp [go_sem, hdis, hnds, q1, q2, q3, q4, q5, q6, q7, q8, q9, q10, q11, q12, q13, q14, q15, q16, q17, q18, p1, p3, p4, p6, p7, p8, p10, p11, p12, p13, x2, x3, x8, x9, xb, i2, i3, i8, i9, ib]
        · rw [if_neg (by simp)]
          exact ⟨i + 1, rfl, by rw [← hS1]; exact hfa, rfl, rfl⟩
    · rintro φ' r' (⟨-, h, -⟩ | ⟨_, -, -, h, -⟩) <;> (rw [h]; simp)
    · rintro φ' r' (⟨rfl, -, h⟩ | ⟨i, rfl, hi, -, h⟩) -
      · rw [h]
        by_cases hfc : u + c ≤ most
        · rw [outM_yes hfc, useM_yes hfc] at hR
          have hΦ0 : Φ 0 = [(b2, [ptr b]), (b3, [r.thing, f.thing, .iface 176 (cellM l)]), (b8, [v.thing]), (b9, [dbool true]), (b, [dint ((u + c : Nat) : Int), dint (most : Int)])] := by
            simp only [Φ, hS0, if_pos hfc, useM_yes hfc, decide_eq_true hfc]
          rw [hΦ0, hΦl]
          simp [go_sem, hdis, hnds, q1, q2, q3, q4, q5, q6, q7, q8, q9, q10, q11, q12, q13, q14, q15, q16, q17, q18, p1, p3, p4, p6, p7, p8, p10, p11, p12, p13]
          refine t_rg (j2 @hdis (j2 @hnds (j2 @q1 (j2 @q2 (j2 @q3 (j2 @q4 (j2 @q5 (j2 @q6 (j2 @q7 (j2 @q8 (j2 @q9 (j2 @q10 (j2 @q11 (j2 @q12 (j2 @q13 (j2 @q14 (j2 @q15 (j2 @q16 (j2 @q17 (j2 @q18 (j2 @p1 (j2 @p3 (j2 @p4 (j2 @p6 (j2 @p7 (j2 @p8 (j2 @p10 (j2 @p11 (j2 @p12 @p13))))))))))))))))))))))))))))) ?_
          repeat (first | refine W_seq ?_ | refine W_skip ?_ | refine W_block ?_ | refine W_inBlock ?_ | refine W_label ?_ | refine W_exit rfl ?_)
          first | refine W_retR hP hf hfn _ ([(b, [dint ((u + c : Nat) : Int), dint (most : Int)])]) (by first | (simp [go_sem, hP, hgl, hn, hdis, hnds, q1, q2, q3, q4, q5, q6, q7, q8, q9, q10, q11, q12, q13, q14, q15, q16, q17, q18, p1, p3, p4, p6, p7, p8, p10, p11, p12, p13]; done) | (simp [go_sem, hP, hgl, hn, hdis, hnds, q1, q2, q3, q4, q5, q6, q7, q8, q9, q10, q11, q12, q13, q14, q15, q16, q17, q18, p1, p3, p4, p6, p7, p8, p10, p11, p12, p13]; rfl)) (by simp [go_sem, hP, hgl, hn, hdis, hnds, q1, q2, q3, q4, q5, q6, q7, q8, q9, q10, q11, q12, q13, q14, q15, q16, q17, q18, p1, p3, p4, p6, p7, p8, p10, p11, p12, p13]) (by simp) ?_ hR.2 | refine W_endR hP hf hfn _ ([(b, [dint ((u + c : Nat) : Int), dint (most : Int)])]) (by first | (simp [go_sem, hP, hgl, hn, hdis, hnds, q1, q2, q3, q4, q5, q6, q7, q8, q9, q10, q11, q12, q13, q14, q15, q16, q17, q18, p1, p3, p4, p6, p7, p8, p10, p11, p12, p13]; done) | (simp [go_sem, hP, hgl, hn, hdis, hnds, q1, q2, q3, q4, q5, q6, q7, q8, q9, q10, q11, q12, q13, q14, q15, q16, q17, q18, p1, p3, p4, p6, p7, p8, p10, p11, p12, p13]; rfl)) (by simp [go_sem, hP, hgl, hn, hdis, hnds, q1, q2, q3, q4, q5, q6, q7, q8, q9, q10, q11, q12, q13, q14, q15, q16, q17, q18, p1, p3, p4, p6, p7, p8, p10, p11, p12, p13]) (by simp) ?_ hR.2
          rw [hR.1]
          refine ⟨?_, by simp [hdis, hnds, q1, q2, q3, q4, q5, q6, q7, q8, q9, q10, q11, q12, q13, q14, q15, q16, q17, q18, p1, p3, p4, p6, p7, p8, p10, p11, p12, p13]⟩
          try simp [hdis, hnds, q1, q2, q3, q4, q5, q6, q7, q8, q9, q10, q11, q12, q13, q14, q15, q16, q17, q18, p1, p3, p4, p6, p7, p8, p10, p11, p12, p13]
          try all_goals (simp [Ty.dv, Ty.cells_eq, Ty.kind_mk, Ty.args_mk, Tm.dv, Tm.cells_eq, Tm.kind_mk, Tm.index_mk, Tm.type_mk, Tm.args_mk, Val.dv, Val.cells_eq, Val.kind_mk, Val.num_mk, Val.list_mk, Val.args_mk, ints])
        · rw [outM_no hfc, useM_no hfc] at hR
          have hΦ0 : Φ 0 = [(b2, [ptr b]), (b3, [r.thing, f.thing, .iface 176 (cellM l)]), (b8, [nilI]), (b9, [dbool false]), (b, [dint (most : Int), dint (most : Int)])] := by
            simp only [Φ, hS0, if_neg hfc, useM_no hfc, decide_eq_false hfc]
          rw [hΦ0, hΦl]
          simp [go_sem, hdis, hnds, q1, q2, q3, q4, q5, q6, q7, q8, q9, q10, q11, q12, q13, q14, q15, q16, q17, q18, p1, p3, p4, p6, p7, p8, p10, p11, p12, p13]
          refine t_rg (j2 @hdis (j2 @hnds (j2 @q1 (j2 @q2 (j2 @q3 (j2 @q4 (j2 @q5 (j2 @q6 (j2 @q7 (j2 @q8 (j2 @q9 (j2 @q10 (j2 @q11 (j2 @q12 (j2 @q13 (j2 @q14 (j2 @q15 (j2 @q16 (j2 @q17 (j2 @q18 (j2 @p1 (j2 @p3 (j2 @p4 (j2 @p6 (j2 @p7 (j2 @p8 (j2 @p10 (j2 @p11 (j2 @p12 @p13))))))))))))))))))))))))))))) ?_
          repeat (first | refine W_seq ?_ | refine W_skip ?_ | refine W_block ?_ | refine W_inBlock ?_ | refine W_label ?_ | refine W_exit rfl ?_)
          first | refine W_retR hP hf hfn _ ([(b, [dint (most : Int), dint (most : Int)])]) (by first | (simp [go_sem, hP, hgl, hn, hdis, hnds, q1, q2, q3, q4, q5, q6, q7, q8, q9, q10, q11, q12, q13, q14, q15, q16, q17, q18, p1, p3, p4, p6, p7, p8, p10, p11, p12, p13]; done) | (simp [go_sem, hP, hgl, hn, hdis, hnds, q1, q2, q3, q4, q5, q6, q7, q8, q9, q10, q11, q12, q13, q14, q15, q16, q17, q18, p1, p3, p4, p6, p7, p8, p10, p11, p12, p13]; rfl)) (by simp [go_sem, hP, hgl, hn, hdis, hnds, q1, q2, q3, q4, q5, q6, q7, q8, q9, q10, q11, q12, q13, q14, q15, q16, q17, q18, p1, p3, p4, p6, p7, p8, p10, p11, p12, p13]) (by simp) ?_ hR.2 | refine W_endR hP hf hfn _ ([(b, [dint (most : Int), dint (most : Int)])]) (by first | (simp [go_sem, hP, hgl, hn, hdis, hnds, q1, q2, q3, q4, q5, q6, q7, q8, q9, q10, q11, q12, q13, q14, q15, q16, q17, q18, p1, p3, p4, p6, p7, p8, p10, p11, p12, p13]; done) | (simp [go_sem, hP, hgl, hn, hdis, hnds, q1, q2, q3, q4, q5, q6, q7, q8, q9, q10, q11, q12, q13, q14, q15, q16, q17, q18, p1, p3, p4, p6, p7, p8, p10, p11, p12, p13]; rfl)) (by simp [go_sem, hP, hgl, hn, hdis, hnds, q1, q2, q3, q4, q5, q6, q7, q8, q9, q10, q11, q12, q13, q14, q15, q16, q17, q18, p1, p3, p4, p6, p7, p8, p10, p11, p12, p13]) (by simp) ?_ hR.2
          rw [hR.1]
          refine ⟨?_, by simp [hdis, hnds, q1, q2, q3, q4, q5, q6, q7, q8, q9, q10, q11, q12, q13, q14, q15, q16, q17, q18, p1, p3, p4, p6, p7, p8, p10, p11, p12, p13]⟩
          try simp [hdis, hnds, q1, q2, q3, q4, q5, q6, q7, q8, q9, q10, q11, q12, q13, q14, q15, q16, q17, q18, p1, p3, p4, p6, p7, p8, p10, p11, p12, p13]
          try all_goals (simp [Ty.dv, Ty.cells_eq, Ty.kind_mk, Ty.args_mk, Tm.dv, Tm.cells_eq, Tm.kind_mk, Tm.index_mk, Tm.type_mk, Tm.args_mk, Val.dv, Val.cells_eq, Val.kind_mk, Val.num_mk, Val.list_mk, Val.args_mk, ints])
      · rw [h]
        have hfc : ¬ u + c ≤ most := by have := (hS i).2; omega
        rw [outM_no hfc, useM_no hfc] at hR
        have hΦ0 : Φ i = [(b2, [ptr b]), (b3, [r.thing, f.thing, .iface 176 (cellM l)]), (b8, [nilI]), (b9, [dbool false]), (b, [dint (most : Int), dint (most : Int)])] := by
          simp only [Φ, if_neg hi, useM_no hi, decide_eq_false hi]
        rw [hΦ0, hΦl]
        simp [go_sem, hdis, hnds, q1, q2, q3, q4, q5, q6, q7, q8, q9, q10, q11, q12, q13, q14, q15, q16, q17, q18, p1, p3, p4, p6, p7, p8, p10, p11, p12, p13]
        refine t_rg (j2 @hdis (j2 @hnds (j2 @q1 (j2 @q2 (j2 @q3 (j2 @q4 (j2 @q5 (j2 @q6 (j2 @q7 (j2 @q8 (j2 @q9 (j2 @q10 (j2 @q11 (j2 @q12 (j2 @q13 (j2 @q14 (j2 @q15 (j2 @q16 (j2 @q17 (j2 @q18 (j2 @p1 (j2 @p3 (j2 @p4 (j2 @p6 (j2 @p7 (j2 @p8 (j2 @p10 (j2 @p11 (j2 @p12 @p13))))))))))))))))))))))))))))) ?_
        repeat (first | refine W_seq ?_ | refine W_skip ?_ | refine W_block ?_ | refine W_inBlock ?_ | refine W_label ?_ | refine W_exit rfl ?_)
        first | refine W_retR hP hf hfn _ ([(b, [dint (most : Int), dint (most : Int)])]) (by first | (simp [go_sem, hP, hgl, hn, hdis, hnds, q1, q2, q3, q4, q5, q6, q7, q8, q9, q10, q11, q12, q13, q14, q15, q16, q17, q18, p1, p3, p4, p6, p7, p8, p10, p11, p12, p13]; done) | (simp [go_sem, hP, hgl, hn, hdis, hnds, q1, q2, q3, q4, q5, q6, q7, q8, q9, q10, q11, q12, q13, q14, q15, q16, q17, q18, p1, p3, p4, p6, p7, p8, p10, p11, p12, p13]; rfl)) (by simp [go_sem, hP, hgl, hn, hdis, hnds, q1, q2, q3, q4, q5, q6, q7, q8, q9, q10, q11, q12, q13, q14, q15, q16, q17, q18, p1, p3, p4, p6, p7, p8, p10, p11, p12, p13]) (by simp) ?_ hR.2 | refine W_endR hP hf hfn _ ([(b, [dint (most : Int), dint (most : Int)])]) (by first | (simp [go_sem, hP, hgl, hn, hdis, hnds, q1, q2, q3, q4, q5, q6, q7, q8, q9, q10, q11, q12, q13, q14, q15, q16, q17, q18, p1, p3, p4, p6, p7, p8, p10, p11, p12, p13]; done) | (simp [go_sem, hP, hgl, hn, hdis, hnds, q1, q2, q3, q4, q5, q6, q7, q8, q9, q10, q11, q12, q13, q14, q15, q16, q17, q18, p1, p3, p4, p6, p7, p8, p10, p11, p12, p13]; rfl)) (by simp [go_sem, hP, hgl, hn, hdis, hnds, q1, q2, q3, q4, q5, q6, q7, q8, q9, q10, q11, q12, q13, q14, q15, q16, q17, q18, p1, p3, p4, p6, p7, p8, p10, p11, p12, p13]) (by simp) ?_ hR.2
        rw [hR.1]
        refine ⟨?_, by simp [hdis, hnds, q1, q2, q3, q4, q5, q6, q7, q8, q9, q10, q11, q12, q13, q14, q15, q16, q17, q18, p1, p3, p4, p6, p7, p8, p10, p11, p12, p13]⟩
        try simp [hdis, hnds, q1, q2, q3, q4, q5, q6, q7, q8, q9, q10, q11, q12, q13, q14, q15, q16, q17, q18, p1, p3, p4, p6, p7, p8, p10, p11, p12, p13]
        try all_goals (simp [Ty.dv, Ty.cells_eq, Ty.kind_mk, Ty.args_mk, Tm.dv, Tm.cells_eq, Tm.kind_mk, Tm.index_mk, Tm.type_mk, Tm.args_mk, Val.dv, Val.cells_eq, Val.kind_mk, Val.num_mk, Val.list_mk, Val.args_mk, ints])
end Go.Proofs.YtcldnfbcbkaanaaGreatDoor.Lift

/-
  Package machine: eval, kind by kind.
-/
namespace Go.Proofs.YtcldnfbcbkaanaaGreatDoor.Lift
set_option linter.unusedSimpArgs false
set_option linter.unusedVariables false
set_option linter.unnecessarySimpa false
open Go
variable {gl : Globs}

/-- nothing is left -/
theorem evalM_0 {most : Nat} (hm : most ≤ 1073741824) (t : Tm) {e : List MV} {u : Nat} (b : Nat) (hu : u ≤ most) (hf1 : ¬ u + 1 ≤ most) :
    Con1 Tryz.prog gl 75 [ptr b, t.dv, MV.envM e] [(b, useM most u)] (.tup [nilI, dbool false]) [(b, [dint (most : Int), dint (most : Int)])] := by
  rw [useM_yes hu]
  have hum : (most : Int) ≤ (u : Int) := by omega
  have hue : (u : Int) = (most : Int) := by omega
  refine t_in Tryz.func75 ?_
  intro X hP hgl hf hfn hn hR hids hfit
  refine t_g @hum ?_
  repeat (first | refine W_seq ?_ | refine W_skip ?_ | refine W_block ?_ | refine W_inBlock ?_ | refine W_label ?_ | refine W_exit rfl ?_)
  first | refine W_retR hP hf hfn _ ([(b, [dint (most : Int), dint (most : Int)])]) (by first | (simp [go_sem, hP, hgl, hn, hue]; done) | (simp [go_sem, hP, hgl, hn, hue]; rfl)) (by simp [go_sem, hP, hgl, hn, hue]) (by simp) ?_ hR.2 | refine W_endR hP hf hfn _ ([(b, [dint (most : Int), dint (most : Int)])]) (by first | (simp [go_sem, hP, hgl, hn, hue]; done) | (simp [go_sem, hP, hgl, hn, hue]; rfl)) (by simp [go_sem, hP, hgl, hn, hue]) (by simp) ?_ hR.2
  rw [hR.1]
  refine ⟨?_, by simp [hue]⟩
  try simp [hue]
  try all_goals (simp [Ty.dv, Ty.cells_eq, Ty.kind_mk, Ty.args_mk, Tm.dv, Tm.cells_eq, Tm.kind_mk, Tm.index_mk, Tm.type_mk, Tm.args_mk, Val.dv, Val.cells_eq, Val.kind_mk, Val.num_mk, Val.list_mk, Val.args_mk, ints])

/-- the parts are too much -/
theorem evalM_all {most : Nat} (hm : most ≤ 1073741824) {ev : Evl} (H : WalkM Tryz.prog gl 75 most ev) (hN : NleM most ev) (t : Tm) {e : List MV} {u : Nat} (b M : Nat) (hu : u ≤ most) (hM : M + (most - u) ≤ 1073741824) (he : MV.nles M e)
    (h3 : t.args.length ≤ 3) (hk1 : ¬ t.kind = 1) (hk2 : ¬ t.kind = 2) {vs : List MV} {c1 : Nat} (hall : allC ev t.args e = some (vs, c1)) (hf1 : u + 1 ≤ most) (hf2 : ¬ u + 1 + c1 ≤ most) :
    Con1 Tryz.prog gl 75 [ptr b, t.dv, MV.envM e] [(b, useM most u)] (.tup [nilI, dbool false]) [(b, [dint (most : Int), dint (most : Int)])] := by
  rw [useM_yes hu]
  have hum : ¬ (most : Int) ≤ (u : Int) := by omega
  have A1 := allM_ok hm H hN b (M + 1) hall h3 hf1 (by omega) (MV.nles_mono (by omega) _ he)
  have o6 : decide (u + 1 + c1 ≤ most) = false := decide_eq_false hf2
  unfold outA arr3 at A1
  rw [useM_yes hf1, useM_no hf2, o6] at A1
  generalize preC ev most e (u + 1) t.args = pp at A1
  refine t_in Tryz.func75 ?_
  intro X hP hgl hf hfn hn hR hids hfit
  refine t_g (j2 @hum (j2 @hk1 @hk2)) ?_
  refine t_c1 trivial A1 ?_
  refine t_g0 ?_
  repeat (first | refine W_seq ?_ | refine W_skip ?_ | refine W_block ?_ | refine W_inBlock ?_ | refine W_label ?_ | refine W_exit rfl ?_)
  first | refine W_retR hP hf hfn _ ([(b, [dint (most : Int), dint (most : Int)])]) (by first | (simp [go_sem, hP, hgl, hn]; done) | (simp [go_sem, hP, hgl, hn]; rfl)) (by simp [go_sem, hP, hgl, hn]) (by simp) ?_ hR.2 | refine W_endR hP hf hfn _ ([(b, [dint (most : Int), dint (most : Int)])]) (by first | (simp [go_sem, hP, hgl, hn]; done) | (simp [go_sem, hP, hgl, hn]; rfl)) (by simp [go_sem, hP, hgl, hn]) (by simp) ?_ hR.2
  rw [hR.1]
  refine ⟨?_, by simp⟩
  try simp
  try all_goals (simp [Ty.dv, Ty.cells_eq, Ty.kind_mk, Ty.args_mk, Tm.dv, Tm.cells_eq, Tm.kind_mk, Tm.index_mk, Tm.type_mk, Tm.args_mk, Val.dv, Val.cells_eq, Val.kind_mk, Val.num_mk, Val.list_mk, Val.args_mk, ints])

theorem evalM_k3 {most : Nat} (hm : most ≤ 1073741824) {ev : Evl} (H : WalkM Tryz.prog gl 75 most ev) (hN : NleM most ev) (t : Tm) {e : List MV} {u : Nat} (b M : Nat) (hu : u ≤ most) (hM : M + (most - u) ≤ 1073741824) (he : MV.nles M e)
    (h3 : t.args.length ≤ 3) (hk : t.kind = 3) {f x : MV} {v : MV} {c2 : Nat} {c1 : Nat} (hall : allC ev t.args e = some ([f, x], c1)) (hf1 : u + 1 ≤ most) (hf2 : u + 1 + c1 ≤ most) (hnode : callC ev f [x] = some (v, c2)) :
    Con1 Tryz.prog gl 75 [ptr b, t.dv, MV.envM e] [(b, useM most u)] (outM most (u + 1 + c1 + c2) v.thing) [(b, useM most (u + 1 + c1 + c2))] := by
  rw [useM_yes hu]
  have hum : ¬ (most : Int) ≤ (u : Int) := by omega
  have A1 := allM_ok hm H hN b (M + 1) hall h3 hf1 (by omega) (MV.nles_mono (by omega) _ he)
  have B1 := nle_all hN hall he
  have o6 : decide (u + 1 + c1 ≤ most) = true := decide_eq_true hf2
  unfold outA arr3 at A1
  rw [useM_yes hf1, useM_yes hf2, o6, preC_all hall hf2] at A1
  have z0 : at3 [f, x] 0 = f.thing := by first | rfl | (simp only [at3]; rw [MV.thing]; done) | exact rfl
  have z1 : at3 [f, x] 1 = x.thing := by first | rfl | (simp only [at3]; rw [MV.thing]; done) | exact rfl
  have z2 : at3 [f, x] 2 = nilI := by first | rfl | (simp only [at3]; rw [MV.thing]; done) | exact rfl
  rw [z0, z1, z2] at A1
  simp only [MV.nles] at B1
  have W1 := callM_ok hm H hN b (M + c1) hnode hf2 (by omega) B1.1 (by simp only [MV.nles]; exact ⟨B1.2.1, trivial⟩)
  rw [useM_yes hf2] at W1
  simp only [List.map] at W1
  by_cases hf3 : u + 1 + c1 + c2 ≤ most
  · rw [useM_yes hf3, outM_yes hf3] at W1 ⊢
    refine t_in Tryz.func75 ?_
    intro X hP hgl hf hfn hn hR hids hfit
    refine t_g (j2 @hum @hk) ?_
    refine t_c1 trivial A1 ?_
    refine t_g @hk ?_
    refine t_c1 trivial W1 ?_
    repeat (first | refine W_seq ?_ | refine W_skip ?_ | refine W_block ?_ | refine W_inBlock ?_ | refine W_label ?_ | refine W_exit rfl ?_)
    first | refine W_retR hP hf hfn _ ([(b, [dint ((u + 1 + c1 + c2 : Nat) : Int), dint (most : Int)])]) (by first | (simp [go_sem, hP, hgl, hn]; done) | (simp [go_sem, hP, hgl, hn]; rfl)) (by simp [go_sem, hP, hgl, hn]) (by simp) ?_ hR.2 | refine W_endR hP hf hfn _ ([(b, [dint ((u + 1 + c1 + c2 : Nat) : Int), dint (most : Int)])]) (by first | (simp [go_sem, hP, hgl, hn]; done) | (simp [go_sem, hP, hgl, hn]; rfl)) (by simp [go_sem, hP, hgl, hn]) (by simp) ?_ hR.2
    rw [hR.1]
    refine ⟨?_, by simp⟩
    try simp
    try all_goals (simp [Ty.dv, Ty.cells_eq, Ty.kind_mk, Ty.args_mk, Tm.dv, Tm.cells_eq, Tm.kind_mk, Tm.index_mk, Tm.type_mk, Tm.args_mk, Val.dv, Val.cells_eq, Val.kind_mk, Val.num_mk, Val.list_mk, Val.args_mk, ints])
  · rw [useM_no hf3, outM_no hf3] at W1 ⊢
    refine t_in Tryz.func75 ?_
    intro X hP hgl hf hfn hn hR hids hfit
    refine t_g (j2 @hum @hk) ?_
    refine t_c1 trivial A1 ?_
    refine t_g @hk ?_
    refine t_c1 trivial W1 ?_
    repeat (first | refine W_seq ?_ | refine W_skip ?_ | refine W_block ?_ | refine W_inBlock ?_ | refine W_label ?_ | refine W_exit rfl ?_)
    first | refine W_retR hP hf hfn _ ([(b, [dint (most : Int), dint (most : Int)])]) (by first | (simp [go_sem, hP, hgl, hn]; done) | (simp [go_sem, hP, hgl, hn]; rfl)) (by simp [go_sem, hP, hgl, hn]) (by simp) ?_ hR.2 | refine W_endR hP hf hfn _ ([(b, [dint (most : Int), dint (most : Int)])]) (by first | (simp [go_sem, hP, hgl, hn]; done) | (simp [go_sem, hP, hgl, hn]; rfl)) (by simp [go_sem, hP, hgl, hn]) (by simp) ?_ hR.2
    rw [hR.1]
    refine ⟨?_, by simp⟩
    try simp
    try all_goals (simp [Ty.dv, Ty.cells_eq, Ty.kind_mk, Ty.args_mk, Tm.dv, Tm.cells_eq, Tm.kind_mk, Tm.index_mk, Tm.type_mk, Tm.args_mk, Val.dv, Val.cells_eq, Val.kind_mk, Val.num_mk, Val.list_mk, Val.args_mk, ints])

theorem evalM_k4 {most : Nat} (hm : most ≤ 1073741824) {ev : Evl} (H : WalkM Tryz.prog gl 75 most ev) (hN : NleM most ev) (t : Tm) {e : List MV} {u : Nat} (b M : Nat) (hu : u ≤ most) (hM : M + (most - u) ≤ 1073741824) (he : MV.nles M e)
    (h3 : t.args.length ≤ 3) (hk : t.kind = 4) {vs : List MV} {c1 : Nat} (hall : allC ev t.args e = some (vs, c1)) (hf1 : u + 1 ≤ most) (hf2 : u + 1 + c1 ≤ most) :
    Con1 Tryz.prog gl 75 [ptr b, t.dv, MV.envM e] [(b, useM most u)] (.tup [(.iface 3 (dint (0 : Int))), dbool true]) [(b, [dint ((u + 1 + c1 : Nat) : Int), dint (most : Int)])] := by
  rw [useM_yes hu]
  have hum : ¬ (most : Int) ≤ (u : Int) := by omega
  have A1 := allM_ok hm H hN b (M + 1) hall h3 hf1 (by omega) (MV.nles_mono (by omega) _ he)
  have B1 := nle_all hN hall he
  have o6 : decide (u + 1 + c1 ≤ most) = true := decide_eq_true hf2
  unfold outA arr3 at A1
  rw [useM_yes hf1, useM_yes hf2, o6, preC_all hall hf2] at A1
  refine t_in Tryz.func75 ?_
  intro X hP hgl hf hfn hn hR hids hfit
  refine t_g (j2 @hum @hk) ?_
  refine t_c1 trivial A1 ?_
  refine t_g @hk ?_
  repeat (first | refine W_seq ?_ | refine W_skip ?_ | refine W_block ?_ | refine W_inBlock ?_ | refine W_label ?_ | refine W_exit rfl ?_)
  first | refine W_retR hP hf hfn _ ([(b, [dint ((u + 1 + c1 : Nat) : Int), dint (most : Int)])]) (by first | (simp [go_sem, hP, hgl, hn]; done) | (simp [go_sem, hP, hgl, hn]; rfl)) (by simp [go_sem, hP, hgl, hn]) (by simp) ?_ hR.2 | refine W_endR hP hf hfn _ ([(b, [dint ((u + 1 + c1 : Nat) : Int), dint (most : Int)])]) (by first | (simp [go_sem, hP, hgl, hn]; done) | (simp [go_sem, hP, hgl, hn]; rfl)) (by simp [go_sem, hP, hgl, hn]) (by simp) ?_ hR.2
  rw [hR.1]
  refine ⟨?_, by simp⟩
  try simp
  try all_goals (simp [Ty.dv, Ty.cells_eq, Ty.kind_mk, Ty.args_mk, Tm.dv, Tm.cells_eq, Tm.kind_mk, Tm.index_mk, Tm.type_mk, Tm.args_mk, Val.dv, Val.cells_eq, Val.kind_mk, Val.num_mk, Val.list_mk, Val.args_mk, ints])

theorem evalM_k5 {most : Nat} (hm : most ≤ 1073741824) {ev : Evl} (H : WalkM Tryz.prog gl 75 most ev) (hN : NleM most ev) (t : Tm) {e : List MV} {u : Nat} (b M : Nat) (hu : u ≤ most) (hM : M + (most - u) ≤ 1073741824) (he : MV.nles M e)
    (h3 : t.args.length ≤ 3) (hk : t.kind = 5) {n : Nat} {c1 : Nat} (hall : allC ev t.args e = some ([.num n], c1)) (hf1 : u + 1 ≤ most) (hf2 : u + 1 + c1 ≤ most) :
    Con1 Tryz.prog gl 75 [ptr b, t.dv, MV.envM e] [(b, useM most u)] (.tup [(.iface 3 (dint (((n + 1 : Nat)) : Int))), dbool true]) [(b, [dint ((u + 1 + c1 : Nat) : Int), dint (most : Int)])] := by
  rw [useM_yes hu]
  have hum : ¬ (most : Int) ≤ (u : Int) := by omega
  have A1 := allM_ok hm H hN b (M + 1) hall h3 hf1 (by omega) (MV.nles_mono (by omega) _ he)
  have B1 := nle_all hN hall he
  have o6 : decide (u + 1 + c1 ≤ most) = true := decide_eq_true hf2
  unfold outA arr3 at A1
  rw [useM_yes hf1, useM_yes hf2, o6, preC_all hall hf2] at A1
  have z0 : at3 [.num n] 0 = (.iface 3 (dint (n : Int))) := by first | rfl | (simp only [at3]; rw [MV.thing]; done) | exact thing_num _
  have z1 : at3 [.num n] 1 = nilI := by first | rfl | (simp only [at3]; rw [MV.thing]; done) | exact rfl
  have z2 : at3 [.num n] 2 = nilI := by first | rfl | (simp only [at3]; rw [MV.thing]; done) | exact rfl
  rw [z0, z1, z2] at A1
  refine t_in Tryz.func75 ?_
  intro X hP hgl hf hfn hn hR hids hfit
  refine t_g (j2 @hum @hk) ?_
  refine t_c1 trivial A1 ?_
  simp only [MV.nles, MV.nle] at B1
  have hn1 : (n : Int) ≤ 1073741824 := by omega
  have hn2 : ((n + 1 : Nat) : Int) = (n : Int) + 1 := by omega
  refine t_g (j2 @hk @hn1) ?_
  repeat (first | refine W_seq ?_ | refine W_skip ?_ | refine W_block ?_ | refine W_inBlock ?_ | refine W_label ?_ | refine W_exit rfl ?_)
  first | refine W_retR hP hf hfn _ ([(b, [dint ((u + 1 + c1 : Nat) : Int), dint (most : Int)])]) (by first | (simp [go_sem, hP, hgl, hn, hn2]; done) | (simp [go_sem, hP, hgl, hn, hn2]; rfl)) (by simp [go_sem, hP, hgl, hn, hn2]) (by simp) ?_ hR.2 | refine W_endR hP hf hfn _ ([(b, [dint ((u + 1 + c1 : Nat) : Int), dint (most : Int)])]) (by first | (simp [go_sem, hP, hgl, hn, hn2]; done) | (simp [go_sem, hP, hgl, hn, hn2]; rfl)) (by simp [go_sem, hP, hgl, hn, hn2]) (by simp) ?_ hR.2
  rw [hR.1]
  refine ⟨?_, by simp [hn2]⟩
  try simp [hn2]
  try all_goals (simp [Ty.dv, Ty.cells_eq, Ty.kind_mk, Ty.args_mk, Tm.dv, Tm.cells_eq, Tm.kind_mk, Tm.index_mk, Tm.type_mk, Tm.args_mk, Val.dv, Val.cells_eq, Val.kind_mk, Val.num_mk, Val.list_mk, Val.args_mk, ints])

theorem evalM_k6 {most : Nat} (hm : most ≤ 1073741824) {ev : Evl} (H : WalkM Tryz.prog gl 75 most ev) (hN : NleM most ev) (t : Tm) {e : List MV} {u : Nat} (b M : Nat) (hu : u ≤ most) (hM : M + (most - u) ≤ 1073741824) (he : MV.nles M e)
    (h3 : t.args.length ≤ 3) (hk : t.kind = 6) {r f : MV} {n : Nat} {v : MV} {c2 : Nat} {c1 : Nat} (hall : allC ev t.args e = some ([r, f, .num n], c1)) (hf1 : u + 1 ≤ most) (hf2 : u + 1 + c1 ≤ most) (hnode : recC ev f n 0 r = some (v, c2)) :
    Con1 Tryz.prog gl 75 [ptr b, t.dv, MV.envM e] [(b, useM most u)] (outM most (u + 1 + c1 + c2) v.thing) [(b, useM most (u + 1 + c1 + c2))] := by
  rw [useM_yes hu]
  have hum : ¬ (most : Int) ≤ (u : Int) := by omega
  have A1 := allM_ok hm H hN b (M + 1) hall h3 hf1 (by omega) (MV.nles_mono (by omega) _ he)
  have B1 := nle_all hN hall he
  have o6 : decide (u + 1 + c1 ≤ most) = true := decide_eq_true hf2
  unfold outA arr3 at A1
  rw [useM_yes hf1, useM_yes hf2, o6, preC_all hall hf2] at A1
  simp only [MV.nles, MV.nle] at B1
  have W1 := recM_ok hm H hN (fun h => nle_call hN h) b (M + c1) hnode hf2 (by omega) B1.1 B1.2.1 B1.2.2.1
  unfold arr3 at W1
  rw [useM_yes hf2] at W1
  by_cases hf3 : u + 1 + c1 + c2 ≤ most
  · rw [useM_yes hf3, outM_yes hf3] at W1 ⊢
    refine t_in Tryz.func75 ?_
    intro X hP hgl hf hfn hn hR hids hfit
    refine t_g (j2 @hum @hk) ?_
    refine t_c1 trivial A1 ?_
    refine t_g @hk ?_
    refine t_c1 trivial W1 ?_
    repeat (first | refine W_seq ?_ | refine W_skip ?_ | refine W_block ?_ | refine W_inBlock ?_ | refine W_label ?_ | refine W_exit rfl ?_)
    first | refine W_retR hP hf hfn _ ([(b, [dint ((u + 1 + c1 + c2 : Nat) : Int), dint (most : Int)])]) (by first | (simp [go_sem, hP, hgl, hn]; done) | (simp [go_sem, hP, hgl, hn]; rfl)) (by simp [go_sem, hP, hgl, hn]) (by simp) ?_ hR.2 | refine W_endR hP hf hfn _ ([(b, [dint ((u + 1 + c1 + c2 : Nat) : Int), dint (most : Int)])]) (by first | (simp [go_sem, hP, hgl, hn]; done) | (simp [go_sem, hP, hgl, hn]; rfl)) (by simp [go_sem, hP, hgl, hn]) (by simp) ?_ hR.2
    rw [hR.1]
    refine ⟨?_, by simp⟩
    try simp
    try all_goals (simp [Ty.dv, Ty.cells_eq, Ty.kind_mk, Ty.args_mk, Tm.dv, Tm.cells_eq, Tm.kind_mk, Tm.index_mk, Tm.type_mk, Tm.args_mk, Val.dv, Val.cells_eq, Val.kind_mk, Val.num_mk, Val.list_mk, Val.args_mk, ints])
  · rw [useM_no hf3, outM_no hf3] at W1 ⊢
    refine t_in Tryz.func75 ?_
    intro X hP hgl hf hfn hn hR hids hfit
    refine t_g (j2 @hum @hk) ?_
    refine t_c1 trivial A1 ?_
    refine t_g @hk ?_
    refine t_c1 trivial W1 ?_
    repeat (first | refine W_seq ?_ | refine W_skip ?_ | refine W_block ?_ | refine W_inBlock ?_ | refine W_label ?_ | refine W_exit rfl ?_)
    first | refine W_retR hP hf hfn _ ([(b, [dint (most : Int), dint (most : Int)])]) (by first | (simp [go_sem, hP, hgl, hn]; done) | (simp [go_sem, hP, hgl, hn]; rfl)) (by simp [go_sem, hP, hgl, hn]) (by simp) ?_ hR.2 | refine W_endR hP hf hfn _ ([(b, [dint (most : Int), dint (most : Int)])]) (by first | (simp [go_sem, hP, hgl, hn]; done) | (simp [go_sem, hP, hgl, hn]; rfl)) (by simp [go_sem, hP, hgl, hn]) (by simp) ?_ hR.2
    rw [hR.1]
    refine ⟨?_, by simp⟩
    try simp
    try all_goals (simp [Ty.dv, Ty.cells_eq, Ty.kind_mk, Ty.args_mk, Tm.dv, Tm.cells_eq, Tm.kind_mk, Tm.index_mk, Tm.type_mk, Tm.args_mk, Val.dv, Val.cells_eq, Val.kind_mk, Val.num_mk, Val.list_mk, Val.args_mk, ints])

theorem evalM_k7 {most : Nat} (hm : most ≤ 1073741824) {ev : Evl} (H : WalkM Tryz.prog gl 75 most ev) (hN : NleM most ev) (t : Tm) {e : List MV} {u : Nat} (b M : Nat) (hu : u ≤ most) (hM : M + (most - u) ≤ 1073741824) (he : MV.nles M e)
    (h3 : t.args.length ≤ 3) (hk : t.kind = 7) {vs : List MV} {c1 : Nat} (hall : allC ev t.args e = some (vs, c1)) (hf1 : u + 1 ≤ most) (hf2 : u + 1 + c1 ≤ most) :
    Con1 Tryz.prog gl 75 [ptr b, t.dv, MV.envM e] [(b, useM most u)] (.tup [(.iface 176 (cellM [])), dbool true]) [(b, [dint ((u + 1 + c1 : Nat) : Int), dint (most : Int)])] := by
  rw [useM_yes hu]
  have hum : ¬ (most : Int) ≤ (u : Int) := by omega
  have A1 := allM_ok hm H hN b (M + 1) hall h3 hf1 (by omega) (MV.nles_mono (by omega) _ he)
  have B1 := nle_all hN hall he
  have o6 : decide (u + 1 + c1 ≤ most) = true := decide_eq_true hf2
  unfold outA arr3 at A1
  rw [useM_yes hf1, useM_yes hf2, o6, preC_all hall hf2] at A1
  refine t_in Tryz.func75 ?_
  intro X hP hgl hf hfn hn hR hids hfit
  refine t_g (j2 @hum @hk) ?_
  refine t_c1 trivial A1 ?_
  have hnil := cellM_nil
  refine t_g @hk ?_
  repeat (first | refine W_seq ?_ | refine W_skip ?_ | refine W_block ?_ | refine W_inBlock ?_ | refine W_label ?_ | refine W_exit rfl ?_)
  first | refine W_retR hP hf hfn _ ([(b, [dint ((u + 1 + c1 : Nat) : Int), dint (most : Int)])]) (by first | (simp [go_sem, hP, hgl, hn, cellM_nil]; done) | (simp [go_sem, hP, hgl, hn, cellM_nil]; rfl)) (by simp [go_sem, hP, hgl, hn, cellM_nil]) (by simp) ?_ hR.2 | refine W_endR hP hf hfn _ ([(b, [dint ((u + 1 + c1 : Nat) : Int), dint (most : Int)])]) (by first | (simp [go_sem, hP, hgl, hn, cellM_nil]; done) | (simp [go_sem, hP, hgl, hn, cellM_nil]; rfl)) (by simp [go_sem, hP, hgl, hn, cellM_nil]) (by simp) ?_ hR.2
  rw [hR.1]
  refine ⟨?_, by simp [cellM_nil]⟩
  try simp [cellM_nil]
  try all_goals (simp [Ty.dv, Ty.cells_eq, Ty.kind_mk, Ty.args_mk, Tm.dv, Tm.cells_eq, Tm.kind_mk, Tm.index_mk, Tm.type_mk, Tm.args_mk, Val.dv, Val.cells_eq, Val.kind_mk, Val.num_mk, Val.list_mk, Val.args_mk, ints])

theorem evalM_k9 {most : Nat} (hm : most ≤ 1073741824) {ev : Evl} (H : WalkM Tryz.prog gl 75 most ev) (hN : NleM most ev) (hFold : FoldM Tryz.prog gl 146 most ev) (t : Tm) {e : List MV} {u : Nat} (b M : Nat) (hu : u ≤ most) (hM : M + (most - u) ≤ 1073741824) (he : MV.nles M e)
    (h3 : t.args.length ≤ 3) (hk : t.kind = 9) {r f : MV} {l : List Nat} {v : MV} {c2 : Nat} {c1 : Nat} (hall : allC ev t.args e = some ([r, f, .list l], c1)) (hf1 : u + 1 ≤ most) (hf2 : u + 1 + c1 ≤ most) (hnode : foldC ev f r l = some (v, c2)) :
    Con1 Tryz.prog gl 75 [ptr b, t.dv, MV.envM e] [(b, useM most u)] (outM most (u + 1 + c1 + c2) v.thing) [(b, useM most (u + 1 + c1 + c2))] := by
  rw [useM_yes hu]
  have hum : ¬ (most : Int) ≤ (u : Int) := by omega
  have A1 := allM_ok hm H hN b (M + 1) hall h3 hf1 (by omega) (MV.nles_mono (by omega) _ he)
  have B1 := nle_all hN hall he
  have o6 : decide (u + 1 + c1 ≤ most) = true := decide_eq_true hf2
  unfold outA arr3 at A1
  rw [useM_yes hf1, useM_yes hf2, o6, preC_all hall hf2] at A1
  simp only [MV.nles, MV.nle] at B1
  have W1 := hFold b (M + c1) hnode hf2 (by omega) B1.1 B1.2.1 B1.2.2.1
  unfold arr3 at W1
  rw [useM_yes hf2] at W1
  by_cases hf3 : u + 1 + c1 + c2 ≤ most
  · rw [useM_yes hf3, outM_yes hf3] at W1 ⊢
    refine t_in Tryz.func75 ?_
    intro X hP hgl hf hfn hn hR hids hfit
    refine t_g (j2 @hum @hk) ?_
    refine t_c1 trivial A1 ?_
    refine t_g @hk ?_
    refine t_c1 trivial W1 ?_
    repeat (first | refine W_seq ?_ | refine W_skip ?_ | refine W_block ?_ | refine W_inBlock ?_ | refine W_label ?_ | refine W_exit rfl ?_)
    first | refine W_retR hP hf hfn _ ([(b, [dint ((u + 1 + c1 + c2 : Nat) : Int), dint (most : Int)])]) (by first | (simp [go_sem, hP, hgl, hn]; done) | (simp [go_sem, hP, hgl, hn]; rfl)) (by simp [go_sem, hP, hgl, hn]) (by simp) ?_ hR.2 | refine W_endR hP hf hfn _ ([(b, [dint ((u + 1 + c1 + c2 : Nat) : Int), dint (most : Int)])]) (by first | (simp [go_sem, hP, hgl, hn]; done) | (simp [go_sem, hP, hgl, hn]; rfl)) (by simp [go_sem, hP, hgl, hn]) (by simp) ?_ hR.2
    rw [hR.1]
    refine ⟨?_, by simp⟩
    try simp
    try all_goals (simp [Ty.dv, Ty.cells_eq, Ty.kind_mk, Ty.args_mk, Tm.dv, Tm.cells_eq, Tm.kind_mk, Tm.index_mk, Tm.type_mk, Tm.args_mk, Val.dv, Val.cells_eq, Val.kind_mk, Val.num_mk, Val.list_mk, Val.args_mk, ints])
  · rw [useM_no hf3, outM_no hf3] at W1 ⊢
    refine t_in Tryz.func75 ?_
    intro X hP hgl hf hfn hn hR hids hfit
    refine t_g (j2 @hum @hk) ?_
    refine t_c1 trivial A1 ?_
    refine t_g @hk ?_
    refine t_c1 trivial W1 ?_
    repeat (first | refine W_seq ?_ | refine W_skip ?_ | refine W_block ?_ | refine W_inBlock ?_ | refine W_label ?_ | refine W_exit rfl ?_)
    first | refine W_retR hP hf hfn _ ([(b, [dint (most : Int), dint (most : Int)])]) (by first | (simp [go_sem, hP, hgl, hn]; done) | (simp [go_sem, hP, hgl, hn]; rfl)) (by simp [go_sem, hP, hgl, hn]) (by simp) ?_ hR.2 | refine W_endR hP hf hfn _ ([(b, [dint (most : Int), dint (most : Int)])]) (by first | (simp [go_sem, hP, hgl, hn]; done) | (simp [go_sem, hP, hgl, hn]; rfl)) (by simp [go_sem, hP, hgl, hn]) (by simp) ?_ hR.2
    rw [hR.1]
    refine ⟨?_, by simp⟩
    try simp
    try all_goals (simp [Ty.dv, Ty.cells_eq, Ty.kind_mk, Ty.args_mk, Tm.dv, Tm.cells_eq, Tm.kind_mk, Tm.index_mk, Tm.type_mk, Tm.args_mk, Val.dv, Val.cells_eq, Val.kind_mk, Val.num_mk, Val.list_mk, Val.args_mk, ints])

theorem evalM_k11 {most : Nat} (hm : most ≤ 1073741824) {ev : Evl} (H : WalkM Tryz.prog gl 75 most ev) (hN : NleM most ev) (t : Tm) {e : List MV} {u : Nat} (b M : Nat) (hu : u ≤ most) (hM : M + (most - u) ≤ 1073741824) (he : MV.nles M e)
    (h3 : t.args.length ≤ 3) (hk : t.kind = 11) {x y : MV} {c1 : Nat} (hall : allC ev t.args e = some ([.both x y], c1)) (hf1 : u + 1 ≤ most) (hf2 : u + 1 + c1 ≤ most) :
    Con1 Tryz.prog gl 75 [ptr b, t.dv, MV.envM e] [(b, useM most u)] (.tup [x.thing, dbool true]) [(b, [dint ((u + 1 + c1 : Nat) : Int), dint (most : Int)])] := by
  rw [useM_yes hu]
  have hum : ¬ (most : Int) ≤ (u : Int) := by omega
  have A1 := allM_ok hm H hN b (M + 1) hall h3 hf1 (by omega) (MV.nles_mono (by omega) _ he)
  have B1 := nle_all hN hall he
  have o6 : decide (u + 1 + c1 ≤ most) = true := decide_eq_true hf2
  unfold outA arr3 at A1
  rw [useM_yes hf1, useM_yes hf2, o6, preC_all hall hf2] at A1
  have z0 : at3 [.both x y] 0 = (.iface 182 (.ref [x.thing, y.thing])) := by first | rfl | (simp only [at3]; rw [MV.thing]; done) | exact thing_both _ _
  have z1 : at3 [.both x y] 1 = nilI := by first | rfl | (simp only [at3]; rw [MV.thing]; done) | exact rfl
  have z2 : at3 [.both x y] 2 = nilI := by first | rfl | (simp only [at3]; rw [MV.thing]; done) | exact rfl
  rw [z0, z1, z2] at A1
  refine t_in Tryz.func75 ?_
  intro X hP hgl hf hfn hn hR hids hfit
  refine t_g (j2 @hum @hk) ?_
  refine t_c1 trivial A1 ?_
  refine t_g @hk ?_
  repeat (first | refine W_seq ?_ | refine W_skip ?_ | refine W_block ?_ | refine W_inBlock ?_ | refine W_label ?_ | refine W_exit rfl ?_)
  first | refine W_retR hP hf hfn _ ([(b, [dint ((u + 1 + c1 : Nat) : Int), dint (most : Int)])]) (by first | (simp [go_sem, hP, hgl, hn]; done) | (simp [go_sem, hP, hgl, hn]; rfl)) (by simp [go_sem, hP, hgl, hn]) (by simp) ?_ hR.2 | refine W_endR hP hf hfn _ ([(b, [dint ((u + 1 + c1 : Nat) : Int), dint (most : Int)])]) (by first | (simp [go_sem, hP, hgl, hn]; done) | (simp [go_sem, hP, hgl, hn]; rfl)) (by simp [go_sem, hP, hgl, hn]) (by simp) ?_ hR.2
  rw [hR.1]
  refine ⟨?_, by simp⟩
  try simp
  try all_goals (simp [Ty.dv, Ty.cells_eq, Ty.kind_mk, Ty.args_mk, Tm.dv, Tm.cells_eq, Tm.kind_mk, Tm.index_mk, Tm.type_mk, Tm.args_mk, Val.dv, Val.cells_eq, Val.kind_mk, Val.num_mk, Val.list_mk, Val.args_mk, ints])

theorem evalM_k12 {most : Nat} (hm : most ≤ 1073741824) {ev : Evl} (H : WalkM Tryz.prog gl 75 most ev) (hN : NleM most ev) (t : Tm) {e : List MV} {u : Nat} (b M : Nat) (hu : u ≤ most) (hM : M + (most - u) ≤ 1073741824) (he : MV.nles M e)
    (h3 : t.args.length ≤ 3) (hk : t.kind = 12) {x y : MV} {c1 : Nat} (hall : allC ev t.args e = some ([.both x y], c1)) (hf1 : u + 1 ≤ most) (hf2 : u + 1 + c1 ≤ most) :
    Con1 Tryz.prog gl 75 [ptr b, t.dv, MV.envM e] [(b, useM most u)] (.tup [y.thing, dbool true]) [(b, [dint ((u + 1 + c1 : Nat) : Int), dint (most : Int)])] := by
  rw [useM_yes hu]
  have hum : ¬ (most : Int) ≤ (u : Int) := by omega
  have A1 := allM_ok hm H hN b (M + 1) hall h3 hf1 (by omega) (MV.nles_mono (by omega) _ he)
  have B1 := nle_all hN hall he
  have o6 : decide (u + 1 + c1 ≤ most) = true := decide_eq_true hf2
  unfold outA arr3 at A1
  rw [useM_yes hf1, useM_yes hf2, o6, preC_all hall hf2] at A1
  have z0 : at3 [.both x y] 0 = (.iface 182 (.ref [x.thing, y.thing])) := by first | rfl | (simp only [at3]; rw [MV.thing]; done) | exact thing_both _ _
  have z1 : at3 [.both x y] 1 = nilI := by first | rfl | (simp only [at3]; rw [MV.thing]; done) | exact rfl
  have z2 : at3 [.both x y] 2 = nilI := by first | rfl | (simp only [at3]; rw [MV.thing]; done) | exact rfl
  rw [z0, z1, z2] at A1
  refine t_in Tryz.func75 ?_
  intro X hP hgl hf hfn hn hR hids hfit
  refine t_g (j2 @hum @hk) ?_
  refine t_c1 trivial A1 ?_
  refine t_g @hk ?_
  repeat (first | refine W_seq ?_ | refine W_skip ?_ | refine W_block ?_ | refine W_inBlock ?_ | refine W_label ?_ | refine W_exit rfl ?_)
  first | refine W_retR hP hf hfn _ ([(b, [dint ((u + 1 + c1 : Nat) : Int), dint (most : Int)])]) (by first | (simp [go_sem, hP, hgl, hn]; done) | (simp [go_sem, hP, hgl, hn]; rfl)) (by simp [go_sem, hP, hgl, hn]) (by simp) ?_ hR.2 | refine W_endR hP hf hfn _ ([(b, [dint ((u + 1 + c1 : Nat) : Int), dint (most : Int)])]) (by first | (simp [go_sem, hP, hgl, hn]; done) | (simp [go_sem, hP, hgl, hn]; rfl)) (by simp [go_sem, hP, hgl, hn]) (by simp) ?_ hR.2
  rw [hR.1]
  refine ⟨?_, by simp⟩
  try simp
  try all_goals (simp [Ty.dv, Ty.cells_eq, Ty.kind_mk, Ty.args_mk, Tm.dv, Tm.cells_eq, Tm.kind_mk, Tm.index_mk, Tm.type_mk, Tm.args_mk, Val.dv, Val.cells_eq, Val.kind_mk, Val.num_mk, Val.list_mk, Val.args_mk, ints])

theorem evalM_k13 {most : Nat} (hm : most ≤ 1073741824) {ev : Evl} (H : WalkM Tryz.prog gl 75 most ev) (hN : NleM most ev) (t : Tm) {e : List MV} {u : Nat} (b M : Nat) (hu : u ≤ most) (hM : M + (most - u) ≤ 1073741824) (he : MV.nles M e)
    (h3 : t.args.length ≤ 3) (hk : t.kind = 13) {vs : List MV} {c1 : Nat} (hall : allC ev t.args e = some (vs, c1)) (hf1 : u + 1 ≤ most) (hf2 : u + 1 + c1 ≤ most) :
    Con1 Tryz.prog gl 75 [ptr b, t.dv, MV.envM e] [(b, useM most u)] (.tup [(.iface 186 (.agg [])), dbool true]) [(b, [dint ((u + 1 + c1 : Nat) : Int), dint (most : Int)])] := by
  rw [useM_yes hu]
  have hum : ¬ (most : Int) ≤ (u : Int) := by omega
  have A1 := allM_ok hm H hN b (M + 1) hall h3 hf1 (by omega) (MV.nles_mono (by omega) _ he)
  have B1 := nle_all hN hall he
  have o6 : decide (u + 1 + c1 ≤ most) = true := decide_eq_true hf2
  unfold outA arr3 at A1
  rw [useM_yes hf1, useM_yes hf2, o6, preC_all hall hf2] at A1
  refine t_in Tryz.func75 ?_
  intro X hP hgl hf hfn hn hR hids hfit
  refine t_g (j2 @hum @hk) ?_
  refine t_c1 trivial A1 ?_
  refine t_g @hk ?_
  repeat (first | refine W_seq ?_ | refine W_skip ?_ | refine W_block ?_ | refine W_inBlock ?_ | refine W_label ?_ | refine W_exit rfl ?_)
  first | refine W_retR hP hf hfn _ ([(b, [dint ((u + 1 + c1 : Nat) : Int), dint (most : Int)])]) (by first | (simp [go_sem, hP, hgl, hn]; done) | (simp [go_sem, hP, hgl, hn]; rfl)) (by simp [go_sem, hP, hgl, hn]) (by simp) ?_ hR.2 | refine W_endR hP hf hfn _ ([(b, [dint ((u + 1 + c1 : Nat) : Int), dint (most : Int)])]) (by first | (simp [go_sem, hP, hgl, hn]; done) | (simp [go_sem, hP, hgl, hn]; rfl)) (by simp [go_sem, hP, hgl, hn]) (by simp) ?_ hR.2
  rw [hR.1]
  refine ⟨?_, by simp⟩
  try simp
  try all_goals (simp [Ty.dv, Ty.cells_eq, Ty.kind_mk, Ty.args_mk, Tm.dv, Tm.cells_eq, Tm.kind_mk, Tm.index_mk, Tm.type_mk, Tm.args_mk, Val.dv, Val.cells_eq, Val.kind_mk, Val.num_mk, Val.list_mk, Val.args_mk, ints])

theorem evalM_k10 {most : Nat} (hm : most ≤ 1073741824) {ev : Evl} (H : WalkM Tryz.prog gl 75 most ev) (hN : NleM most ev) (t : Tm) {e : List MV} {u : Nat} (b M : Nat) (hu : u ≤ most) (hM : M + (most - u) ≤ 1073741824) (he : MV.nles M e)
    (h3 : t.args.length ≤ 3) (hk : t.kind = 10) {x y : MV} {c1 : Nat} (hall : allC ev t.args e = some ([x, y], c1)) (hf1 : u + 1 ≤ most) (hf2 : u + 1 + c1 ≤ most) :
    Con1 Tryz.prog gl 75 [ptr b, t.dv, MV.envM e] [(b, useM most u)] (.tup [(.iface 182 (.ref [x.thing, y.thing])), dbool true]) [(b, [dint ((u + 1 + c1 : Nat) : Int), dint (most : Int)])] := by
  rw [useM_yes hu]
  have hum : ¬ (most : Int) ≤ (u : Int) := by omega
  have A1 := allM_ok hm H hN b (M + 1) hall h3 hf1 (by omega) (MV.nles_mono (by omega) _ he)
  have B1 := nle_all hN hall he
  have o6 : decide (u + 1 + c1 ≤ most) = true := decide_eq_true hf2
  unfold outA arr3 at A1
  rw [useM_yes hf1, useM_yes hf2, o6, preC_all hall hf2] at A1
  have z0 : at3 [x, y] 0 = x.thing := by first | rfl | (simp only [at3]; rw [MV.thing]; done) | exact rfl
  have z1 : at3 [x, y] 1 = y.thing := by first | rfl | (simp only [at3]; rw [MV.thing]; done) | exact rfl
  have z2 : at3 [x, y] 2 = nilI := by first | rfl | (simp only [at3]; rw [MV.thing]; done) | exact rfl
  rw [z0, z1, z2] at A1
  refine t_in Tryz.func75 ?_
  intro X hP hgl hf hfn hn hR hids hfit
  refine t_g (j2 @hum @hk) ?_
  refine t_c1 trivial A1 ?_
  refine t_g @hk ?_
  refine W_reg [109] fun K hK => ?_
  simp [go_sem, hP, hgl, hn]
  refine vcK_boxR (cs := [x.thing, y.thing]) (y := .ag [x.thing, y.thing] []) (by simp [go_sem, hP, hgl, hn]) (by simp [go_sem]) (by simp [go_sem]) (by rw [hn]; exact Nat.le_of_ble_eq_true rfl) (by rfl) ?_
  simp [go_sem, hP, hgl, hn]
  refine t_e ?_
  clear hK K
  repeat (first | refine W_seq ?_ | refine W_skip ?_ | refine W_block ?_ | refine W_inBlock ?_ | refine W_label ?_ | refine W_exit rfl ?_)
  first | refine W_retR hP hf hfn _ ([(b, [dint ((u + 1 + c1 : Nat) : Int), dint (most : Int)])]) (by first | (simp [go_sem, hP, hgl, hn]; done) | (simp [go_sem, hP, hgl, hn]; rfl)) (by simp [go_sem, hP, hgl, hn]) (by simp) ?_ hR.2 | refine W_endR hP hf hfn _ ([(b, [dint ((u + 1 + c1 : Nat) : Int), dint (most : Int)])]) (by first | (simp [go_sem, hP, hgl, hn]; done) | (simp [go_sem, hP, hgl, hn]; rfl)) (by simp [go_sem, hP, hgl, hn]) (by simp) ?_ hR.2
  rw [hR.1]
  refine ⟨?_, by simp⟩
  try simp
  try all_goals (simp [Ty.dv, Ty.cells_eq, Ty.kind_mk, Ty.args_mk, Tm.dv, Tm.cells_eq, Tm.kind_mk, Tm.index_mk, Tm.type_mk, Tm.args_mk, Val.dv, Val.cells_eq, Val.kind_mk, Val.num_mk, Val.list_mk, Val.args_mk, ints])

theorem evalM_k8 {most : Nat} (hm : most ≤ 1073741824) {ev : Evl} (H : WalkM Tryz.prog gl 75 most ev) (hN : NleM most ev) (t : Tm) {e : List MV} {u : Nat} (b M : Nat) (hu : u ≤ most) (hM : M + (most - u) ≤ 1073741824) (he : MV.nles M e)
    (h3 : t.args.length ≤ 3) (hk : t.kind = 8) {n : Nat} {l : List Nat} {c1 : Nat} (hall : allC ev t.args e = some ([.num n, .list l], c1)) (hf1 : u + 1 ≤ most) (hf2 : u + 1 + c1 ≤ most) :
    Con1 Tryz.prog gl 75 [ptr b, t.dv, MV.envM e] [(b, useM most u)] (.tup [(.iface 176 (cellM (n :: l))), dbool true]) [(b, [dint ((u + 1 + c1 : Nat) : Int), dint (most : Int)])] := by
  rw [useM_yes hu]
  have hum : ¬ (most : Int) ≤ (u : Int) := by omega
  have A1 := allM_ok hm H hN b (M + 1) hall h3 hf1 (by omega) (MV.nles_mono (by omega) _ he)
  have B1 := nle_all hN hall he
  have o6 : decide (u + 1 + c1 ≤ most) = true := decide_eq_true hf2
  unfold outA arr3 at A1
  rw [useM_yes hf1, useM_yes hf2, o6, preC_all hall hf2] at A1
  have z0 : at3 [.num n, .list l] 0 = (.iface 3 (dint (n : Int))) := by first | rfl | (simp only [at3]; rw [MV.thing]; done) | exact thing_num _
  have z1 : at3 [.num n, .list l] 1 = (.iface 176 (cellM l)) := by first | rfl | (simp only [at3]; rw [MV.thing]; done) | exact thing_list _
  have z2 : at3 [.num n, .list l] 2 = nilI := by first | rfl | (simp only [at3]; rw [MV.thing]; done) | exact rfl
  rw [z0, z1, z2] at A1
  refine t_in Tryz.func75 ?_
  intro X hP hgl hf hfn hn hR hids hfit
  refine t_g (j2 @hum @hk) ?_
  refine t_c1 trivial A1 ?_
  refine t_g @hk ?_
  refine W_regd (by rw [hP]; exact mixed) [93] fun K hK => ?_
  simp [go_sem, hP, hgl, hn]
  refine vcdC_boxR (cs := [dint (n : Int), cellM l]) (y := .ag [dint (n : Int), cellM l] []) (fun _ _ => vcd_sound) (by simp [go_sem, hP, hgl, hn]) (by simp [go_sem]) (by simp [go_sem]) (by rw [hn]; exact Nat.le_of_ble_eq_true rfl) (by rfl) ?_
  simp [go_sem, hP, hgl, hn]
  refine t_e ?_
  clear hK K
  repeat (first | refine W_seq ?_ | refine W_skip ?_ | refine W_block ?_ | refine W_inBlock ?_ | refine W_label ?_ | refine W_exit rfl ?_)
  first | refine W_retR hP hf hfn _ ([(b, [dint ((u + 1 + c1 : Nat) : Int), dint (most : Int)])]) (by first | (simp [go_sem, hP, hgl, hn, cellM_cons]; done) | (simp [go_sem, hP, hgl, hn, cellM_cons]; rfl)) (by simp [go_sem, hP, hgl, hn, cellM_cons]) (by simp) ?_ hR.2 | refine W_endR hP hf hfn _ ([(b, [dint ((u + 1 + c1 : Nat) : Int), dint (most : Int)])]) (by first | (simp [go_sem, hP, hgl, hn, cellM_cons]; done) | (simp [go_sem, hP, hgl, hn, cellM_cons]; rfl)) (by simp [go_sem, hP, hgl, hn, cellM_cons]) (by simp) ?_ hR.2
  rw [hR.1]
  refine ⟨?_, by simp [cellM_cons]⟩
  try simp [cellM_cons]
  try all_goals (simp [Ty.dv, Ty.cells_eq, Ty.kind_mk, Ty.args_mk, Tm.dv, Tm.cells_eq, Tm.kind_mk, Tm.index_mk, Tm.type_mk, Tm.args_mk, Val.dv, Val.cells_eq, Val.kind_mk, Val.num_mk, Val.list_mk, Val.args_mk, ints])

end Go.Proofs.YtcldnfbcbkaanaaGreatDoor.Lift

/-
  Package machine: eval as a whole, by the depth.
-/
namespace Go.Proofs.YtcldnfbcbkaanaaGreatDoor.Lift
set_option linter.unusedSimpArgs false
set_option linter.unusedVariables false
set_option linter.unnecessarySimpa false
open Go
variable {gl : Globs}

theorem evalM_step {most : Nat} (hm : most ≤ 1073741824) {d : Nat} (H : WalkM Tryz.prog gl 75 most (evS d)) (hFold : FoldM Tryz.prog gl 146 most (evS d)) :
    WalkM Tryz.prog gl 75 most (evS (d + 1)) := by
  intro t e u v c b M h hu hM he
  have hN := nle_evS most d
  have hpos := evS_pos h
  by_cases hf1 : u + 1 ≤ most
  rotate_left
  · have hbig : ¬ u + c ≤ most := by omega
    rw [outM_no hbig, useM_no hbig]
    exact evalM_0 hm t b hu hf1
  rw [evS] at h
  by_cases h1 : t.kind = 1
  · rw [if_pos h1] at h
    split at h
    · rename_i hi
      simp only [Option.some.injEq, Prod.mk.injEq] at h
      obtain ⟨rfl, rfl⟩ := h
      exact evalM_1 hm t b hu h1 hi
    · cases h
  rw [if_neg h1] at h
  by_cases h2 : t.kind = 2
  · rw [if_pos h2] at h
    split at h
    · cases h
    · rename_i ha
      simp only [Option.some.injEq, Prod.mk.injEq] at h
      obtain ⟨rfl, rfl⟩ := h
      cases hargs : t.args with
      | nil => rw [hargs] at ha; exact absurd rfl ha
      | cons body rest =>
        have : t.argN 0 = body := by simp [Tm.argN, hargs]
        rw [this]
        exact evalM_2 hm t b hu h2 hargs
  rw [if_neg h2] at h
  split at h
  · cases h
  rename_i h3
  have h3 : t.args.length ≤ 3 := by omega
  split at h
  · cases h
  rename_i vs c1 hall
  split at h
  · cases h
  rename_i w c2 hnode
  simp only [Option.some.injEq, Prod.mk.injEq] at h
  obtain ⟨rfl, rfl⟩ := h
  have e0 : u + (1 + c1 + c2) = u + 1 + c1 + c2 := by omega
  rw [e0]
  by_cases hf2 : u + 1 + c1 ≤ most
  rotate_left
  · have hbig : ¬ u + 1 + c1 + c2 ≤ most := by omega
    rw [outM_no hbig, useM_no hbig]
    exact evalM_all hm H hN t b M hu hM he h3 h1 h2 hall hf1 hf2
  unfold nodeS at hnode
  split at hnode
  rotate_left
  · cases hnode
  rename_i hk
  unfold nodeC at hnode
  by_cases k3 : t.kind = 3
  · rw [if_pos k3] at hnode
    split at hnode
    · exact evalM_k3 hm H hN t b M hu hM he h3 k3 hall hf1 hf2 hnode
    · cases hnode
  rw [if_neg k3] at hnode
  by_cases k4 : t.kind = 4
  · rw [if_pos k4] at hnode
    simp only [Option.some.injEq, Prod.mk.injEq] at hnode
    obtain ⟨rfl, rfl⟩ := hnode
    rw [Nat.add_zero, outM_yes hf2, useM_yes hf2, thing_num]
    exact evalM_k4 hm H hN t b M hu hM he h3 k4 hall hf1 hf2
  rw [if_neg k4] at hnode
  by_cases k5 : t.kind = 5
  · rw [if_pos k5] at hnode
    split at hnode
    · simp only [Option.some.injEq, Prod.mk.injEq] at hnode
      obtain ⟨rfl, rfl⟩ := hnode
      rw [Nat.add_zero, outM_yes hf2, useM_yes hf2, thing_num]
      exact evalM_k5 hm H hN t b M hu hM he h3 k5 hall hf1 hf2
    · cases hnode
  rw [if_neg k5] at hnode
  by_cases k6 : t.kind = 6
  · rw [if_pos k6] at hnode
    split at hnode
    · exact evalM_k6 hm H hN t b M hu hM he h3 k6 hall hf1 hf2 hnode
    · cases hnode
  rw [if_neg k6] at hnode
  by_cases k7 : t.kind = 7
  · rw [if_pos k7] at hnode
    simp only [Option.some.injEq, Prod.mk.injEq] at hnode
    obtain ⟨rfl, rfl⟩ := hnode
    rw [Nat.add_zero, outM_yes hf2, useM_yes hf2, thing_list]
    exact evalM_k7 hm H hN t b M hu hM he h3 k7 hall hf1 hf2
  rw [if_neg k7] at hnode
  by_cases k8 : t.kind = 8
  · rw [if_pos k8] at hnode
    split at hnode
    · simp only [Option.some.injEq, Prod.mk.injEq] at hnode
      obtain ⟨rfl, rfl⟩ := hnode
      rw [Nat.add_zero, outM_yes hf2, useM_yes hf2, thing_list]
      exact evalM_k8 hm H hN t b M hu hM he h3 k8 hall hf1 hf2
    · cases hnode
  rw [if_neg k8] at hnode
  by_cases k9 : t.kind = 9
  · rw [if_pos k9] at hnode
    split at hnode
    · exact evalM_k9 hm H hN hFold t b M hu hM he h3 k9 hall hf1 hf2 hnode
    · cases hnode
  rw [if_neg k9] at hnode
  by_cases k10 : t.kind = 10
  · rw [if_pos k10] at hnode
    split at hnode
    · simp only [Option.some.injEq, Prod.mk.injEq] at hnode
      obtain ⟨rfl, rfl⟩ := hnode
      rw [Nat.add_zero, outM_yes hf2, useM_yes hf2, thing_both]
      exact evalM_k10 hm H hN t b M hu hM he h3 k10 hall hf1 hf2
    · cases hnode
  rw [if_neg k10] at hnode
  by_cases k11 : t.kind = 11
  · rw [if_pos k11] at hnode
    split at hnode
    · simp only [Option.some.injEq, Prod.mk.injEq] at hnode
      obtain ⟨rfl, rfl⟩ := hnode
      rw [Nat.add_zero, outM_yes hf2, useM_yes hf2]
      exact evalM_k11 hm H hN t b M hu hM he h3 k11 hall hf1 hf2
    · cases hnode
  rw [if_neg k11] at hnode
  by_cases k12 : t.kind = 12
  · rw [if_pos k12] at hnode
    split at hnode
    · simp only [Option.some.injEq, Prod.mk.injEq] at hnode
      obtain ⟨rfl, rfl⟩ := hnode
      rw [Nat.add_zero, outM_yes hf2, useM_yes hf2]
      exact evalM_k12 hm H hN t b M hu hM he h3 k12 hall hf1 hf2
    · cases hnode
  rw [if_neg k12] at hnode
  have k13 : t.kind = 13 := by omega
  simp only [Option.some.injEq, Prod.mk.injEq] at hnode
  obtain ⟨rfl, rfl⟩ := hnode
  rw [Nat.add_zero, outM_yes hf2, useM_yes hf2, thing_unit]
  exact evalM_k13 hm H hN t b M hu hM he h3 k13 hall hf1 hf2

/-- the walk of a run, if that of a fold is known -/
theorem walkM_all {most : Nat} (hm : most ≤ 1073741824) (hFold : ∀ ev, WalkM Tryz.prog gl 75 most ev → NleM most ev → FoldM Tryz.prog gl 146 most ev) :
    ∀ d, WalkM Tryz.prog gl 75 most (evS d)
  | 0 => by intro t e u v c b M h; cases h
  | d + 1 => evalM_step hm (walkM_all hm hFold d) (hFold _ (walkM_all hm hFold d) (nle_evS most d))
end Go.Proofs.YtcldnfbcbkaanaaGreatDoor.Lift

/-
  Package typing, the small functions: types with their sizes.
-/
namespace Go.Proofs.YtcldnfbcbkaanaaGreatDoor.Lift
set_option linter.unusedSimpArgs false
set_option linter.unusedVariables false
set_option linter.unnecessarySimpa false
open Go
variable {gl : Globs}

/-- a type with its size, as cells -/
def szC (t : Ty) : List DV := [dint t.kind, .sl (t.args.map Ty.cells), dint (t.count : Int)]
theorem szC_eq (t : Ty) : szC t = [dint t.kind, .sl (t.args.map Ty.cells), dint (t.count : Int)] := rfl

theorem sameType_ok (a b : Ty) : Con1 Tryz.prog gl 72 [a.dv, b.dv] [] (dbool (a.same b)) [] := by
  induction a using Ty.ind generalizing b with
  | h a ih =>
  refine t_in Tryz.func72 ?_
  intro X hP hgl hf hfn hn hR hids hfit
  have hla := Ty.fit_len (hfit a.dv (by simp))
  have hlb := Ty.fit_len (hfit b.dv (by simp))
  by_cases hk : a.kind = b.kind
  · by_cases hl : a.args.length = b.args.length
    · refine t_g (j2 @hk @hl) ?_
      refine t_a ?_
      refine t_sub [] (j2 @hk @hl) (W_upto (a.args.length) (fun i => ∀ (j : Nat) (x y : Ty), j < i → a.args[j]? = some x → b.args[j]? = some y → x.same y = true) (fun i => [(.slot 24, .one (.v (dint i))), (.slot 23, .one (.v (dint a.args.length))), (.slot 22, .one (.v (.sl (a.args.map Ty.cells)))), (.slot 3, .one (.loc 3 0)), (.loc 3, .row ([.v (dint b.kind), .v (.sl (b.args.map Ty.cells))]))]) (by intro j x y h; omega) ?_ ?_)
      · intro i hlt hI hnext
        obtain ⟨x, hx⟩ : ∃ x, a.args[i]? = some x := ⟨_, List.getElem?_eq_getElem hlt⟩
        obtain ⟨y, hy⟩ : ∃ y, b.args[i]? = some y := ⟨_, List.getElem?_eq_getElem (by omega)⟩
        refine t_rg0 ?_
        refine t_yes ?_
        refine t_g (j2 @hx @hy) ?_
        refine t_c1 (j2 @hx @hy) (ih x (List.mem_of_getElem? hx) y) ?_
        by_cases hs : x.same y = true
        · refine t_gt (wr []) trivial @hs (hnext ?_)
          intro j x' y' hj hx' hy'
          by_cases hji : j = i
          · subst hji; rw [hx] at hx'; rw [hy] at hy'; cases hx'; cases hy'; exact hs
          · exact hI j x' y' (by omega) hx' hy'
        · refine t_g @hs ?_
          refine t_r ?_
          simp [go_sem, hP, hgl, hn] <;> (try omega)
          refine Bool.eq_false_iff.2 ?_
          intro h
          rw [Ty.same_eq, Bool.and_eq_true, Ty.sames_iff] at h
          exact hs (h.2.2 i x y hx hy)
      · intro hI
        refine t_rg0 ?_
        refine t_no ?_
        refine t_g0 ?_
        refine t_r ?_
        simp [go_sem, hP, hgl, hn] <;> (try omega)
        rw [Ty.same_eq, Bool.and_eq_true, Ty.sames_iff]
        exact ⟨by simp [hk], hl, fun i x y hx hy => hI i x y (List.getElem?_eq_some_iff.1 hx).1 hx hy⟩
    · refine t_g (j2 @hk @hl) ?_
      refine t_r ?_
      simp [go_sem, hP, hgl, hn] <;> (try omega)
      refine Bool.eq_false_iff.2 ?_
      intro h
      rw [Ty.same_eq, Bool.and_eq_true, Ty.sames_iff] at h
      exact hl h.2.1
  · refine t_g @hk ?_
    refine t_r ?_
    simp [go_sem, hP, hgl, hn] <;> (try omega)
    simp [Ty.same_eq, hk]

theorem ownType_ok (t : Ty) : Con1 Tryz.prog gl 86 [t.dv] [] t.dv [] := by
  induction t using Ty.ind with
  | h t ih =>
  refine t_in Tryz.func86 ?_
  intro X hP hgl hf hfn hn hR hids hfit
  have hlen := Ty.fit_len (hfit t.dv (by simp))
  refine t_g0 ?_
  refine t_a ?_
  refine t_sub [(1003, 0)] trivial (W_list (t.args) (fun done rest => [(.slot 12, .one (.v (dint done.length))), (.slot 11, .one (.v (dint t.args.length))), (.slot 10, .one (.v (.sl (t.args.map Ty.cells)))), (.slot 3, .one (.loc 3 0)), (.loc 3, .row ([.v (dint t.kind), .own 1003 (done.map Ty.cells)])), (.tok 1003, .tk 2 done.length), (.slot 2, .one (.loc 2 0)), (.loc 2, .row ([.v (dint 0), .own 0 []]))]) ?_ ?_)
  · intro done x rest hL hg hnext
    have hlt : done.length < t.args.length := by rw [hL]; simp
    have hfo := Ty.fold x
    refine t_rg0 ?_
    refine t_yes ?_
    refine t_rg @hg ?_
    refine t_a ?_
    first | refine W_reg [] fun K hK => ?_ | refine W_regd (by rw [hP]; exact mixed) [] fun K hK => ?_
    refine t_s0 ?_
    refine t_c trivial (ih x (List.mem_of_getElem? hg)) ?_
    refine t_e ?_
    clear hK K
    refine t_rg0 ?_
    refine t_b ?_
    refine t_sub [(1003, 21)] trivial hnext
  · refine t_rg0 ?_
    refine t_no ?_
    refine t_g0 ?_
    refine t_r ?_
    simp [go_sem, hP, hgl, hn] <;> (try omega)
    all_goals exact t_f

theorem ty_of_ok (t : Ty) (ht : t.ok) : Con1 Tryz.prog gl 149 [t.dv] [] (.agg (szC t)) [] := by
  refine t_in Tryz.func149 ?_
  intro X hP hgl hf hfn hn hR hids hfit
  have hc := ht.2
  have h0 := (Ty.checkN_iff t).2 ht
  have hfo := Ty.fold t
  refine t_g0 ?_
  refine t_c1 (j2 @hfo @h0) (checktype_ok t (by omega)) ?_
  refine t_g @h0 ?_
  refine t_r ?_
  simp [go_sem, hP, hgl, hn, szC_eq t] <;> (try omega)

theorem ty_part_ok (t x : Ty) (i : Nat) (hx : t.args[i]? = some x) (ho : x.ok) : Con1 Tryz.prog gl 201 [.agg (szC t), dint (i : Int)] [] (.agg (szC x)) [] := by
  refine t_in Tryz.func201 ?_
  intro X hP hgl hf hfn hn hR hids hfit
  have hsz := szC_eq t
  have hfo := Ty.fold x
  refine t_rg @hsz ?_
  refine t_c1 (j2 @hx (j2 @hfo (szC_eq x))) (ty_of_ok x ho) ?_
  refine t_r ?_
  simp [go_sem, hP, hgl, hn, szC_eq x] <;> (try omega)

theorem ty_is_ok (t : Ty) (k : Int) : Con1 Tryz.prog gl 200 [.agg (szC t), dint k] [] (dbool (decide (t.kind = k))) [] := by
  refine t_in Tryz.func200 ?_
  intro X hP hgl hf hfn hn hR hids hfit
  have hsz := szC_eq t
  refine t_g @hsz ?_
  refine t_r ?_
  simp [go_sem, hP, hgl, hn] <;> (try omega)

theorem ty_same_ok (a b : Ty) : Con1 Tryz.prog gl 202 [.agg (szC a), .agg (szC b)] [] (dbool (a.same b)) [] := by
  refine t_in Tryz.func202 ?_
  intro X hP hgl hf hfn hn hR hids hfit
  have ha := szC_eq a
  have hb := szC_eq b
  have fa := Ty.fold a
  have fb := Ty.fold b
  by_cases h : a.count = b.count
  · refine t_rg (j2 @ha @hb) ?_
    refine t_c1 (j2 @ha (j2 @hb (j2 @h (j2 @fa @fb)))) (sameType_ok a b) ?_
    refine t_r ?_
    simp [go_sem, hP, hgl, hn] <;> (try omega)
  · have hs : a.same b = false := by
      refine Bool.eq_false_iff.2 fun e => h ?_
      rw [(Ty.same_iff a b).1 e]
    have hi : ¬ (a.count : Int) = (b.count : Int) := by omega
    refine t_g (j2 @ha (j2 @hb @hi)) ?_
    refine t_r ?_
    simp [go_sem, hP, hgl, hn, hs] <;> (try omega)

theorem ty_join_ok (k : Int) (a b : Ty) (hc : 1 + a.count + b.count ≤ 64) : Con1 Tryz.prog gl 150 [dint k, .agg (szC a), .agg (szC b)] [] (.tup [.agg (szC (Ty.mk k [a, b])), dint 0]) [] := by
  refine t_in Tryz.func150 ?_
  intro X hP hgl hf hfn hn hR hids hfit
  have ha := szC_eq a
  have hb := szC_eq b
  have hc1 : (1 : Int) + a.count + b.count ≤ 64 := by omega
  have hr : szC (Ty.mk k [a, b]) = [dint k, .sl [a.cells, b.cells], dint (1 + (a.count : Int) + (b.count : Int))] := by
    rw [szC_eq, count_two]
    simp [Ty.kind, Ty.args]
    omega
  refine t_g (j2 @ha (j2 @hb @hc1)) ?_
  refine t_r ?_
  simp [go_sem, hP, hgl, hn, hr, Ty.cells_eq a, Ty.cells_eq b] <;> (try omega)

theorem ty_plain_ok (k : Int) : Con1 Tryz.prog gl 199 [dint k] [] (.sl (ints (if k = 4 then [1] else if k = 5 then [1, 1] else if k = 7 then [2] else if k = 8 then [2, 1, 2] else if k = 13 then [5] else []))) [] := by
  refine t_in Tryz.func199 ?_
  intro X hP hgl hf hfn hn hR hids hfit
  by_cases hs0 : k = 4
  · refine t_g @hs0 ?_
    refine t_r ?_
    simp [go_sem, hP, hgl, hn, ints, hs0] <;> (try omega)
  by_cases hs1 : k = 5
  · refine t_g @hs1 ?_
    refine t_r ?_
    simp [go_sem, hP, hgl, hn, ints, hs1] <;> (try omega)
  by_cases hs2 : k = 7
  · refine t_g @hs2 ?_
    refine t_r ?_
    simp [go_sem, hP, hgl, hn, ints, hs2] <;> (try omega)
  by_cases hs3 : k = 8
  · refine t_g @hs3 ?_
    refine t_r ?_
    simp [go_sem, hP, hgl, hn, ints, hs3] <;> (try omega)
  by_cases hs4 : k = 13
  · refine t_g @hs4 ?_
    refine t_r ?_
    simp [go_sem, hP, hgl, hn, ints, hs4] <;> (try omega)
  refine t_g (j2 @hs0 (j2 @hs1 (j2 @hs2 (j2 @hs3 @hs4)))) ?_
  refine t_r ?_
  simp [go_sem, hP, hgl, hn, ints, hs0, hs1, hs2, hs3, hs4] <;> (try omega)

theorem nat_t_ok : Con1 Tryz.prog gl 191 [] [] (Ty.mk 1 []).dv [] := by
  refine t_in Tryz.func191 ?_
  intro X hP hgl hf hfn hn hR hids hfit
  refine t_g0 ?_
  refine t_r ?_
  simp [go_sem, hP, hgl, hn] <;> (try omega)
  all_goals exact t_f
theorem list_t_ok : Con1 Tryz.prog gl 190 [] [] (Ty.mk 2 []).dv [] := by
  refine t_in Tryz.func190 ?_
  intro X hP hgl hf hfn hn hR hids hfit
  refine t_g0 ?_
  refine t_r ?_
  simp [go_sem, hP, hgl, hn] <;> (try omega)
  all_goals exact t_f

/-- the type of a function of some arguments -/
def funT (r : Ty) (l : List Ty) : Ty := l.foldr (fun a r => Ty.mk 4 [a, r]) r

theorem fun_t_ok (r : Ty) (l : List Ty) : Con1 Tryz.prog gl 245 [r.dv, .sl (l.map Ty.cells)] [] (funT r l).dv [] := by
  refine t_in Tryz.func245 ?_
  intro X hP hgl hf hfn hn hR hids hfit
  have hll := sl_len (hfit (.sl (l.map Ty.cells)) (by simp))
  simp at hll
  have h0 : l.drop l.length = [] := List.drop_length
  refine t_g0 ?_
  refine t_a ?_
  refine W_sub [] (by simp [go_sem]) (by simp [go_sem, h0, funT, List.foldr_nil] <;> omega) (by simp [go_sem]) (W_rounds (fun k : Nat => k ≤ l.length) (fun k : Nat => [(.slot 1, .one (.v (.sl (l.map Ty.cells)))), (.slot 2, .one (.loc 2 0)), (.loc 2, .row ([.v (dint (funT r (l.drop k)).kind), .v (.sl ((funT r (l.drop k)).args.map Ty.cells))])), (.slot 4, .one (.loc 4 0)), (.loc 4, .row ([.v (dint 0), .own 0 []])), (.slot 5, .one (.v (dint ((k : Int) - 1))))]) (fun k : Nat => k) l.length (Nat.le_refl _) ?_)
  intro k hk ih
  cases k with
  | zero =>
    refine t_rg0 ?_
    refine t_no ?_
    refine t_g0 ?_
    refine t_r ?_
    simp [go_sem, hP, hgl, hn, Ty.cells_eq] <;> (try omega)
  | succ k =>
    have hlt : k < l.length := by omega
    obtain ⟨a, ha⟩ : ∃ a, l[k]? = some a := ⟨_, List.getElem?_eq_getElem hlt⟩
    have hd : l.drop k = a :: l.drop (k + 1) := by
      rw [List.drop_eq_getElem_cons hlt]
      rw [List.getElem?_eq_getElem hlt, Option.some.injEq] at ha
      rw [ha]
    have hfd : funT r (l.drop k) = Ty.mk 4 [a, funT r (l.drop (k + 1))] := by rw [hd]; rfl
    have hk1 : ((k + 1 : Nat) : Int) - 1 = (k : Int) := by omega
    have hle : (k : Int) ≤ 2147483648 := by omega
    have hcl := Ty.cells_eq (funT r (l.drop (k + 1)))
    have hih := ih k (by omega) (by omega)
    rw [hfd] at hih
    simp only [Ty.kind, Ty.args] at hih
    rw [hk1]
    refine t_rg0 ?_
    refine t_yes ?_
    refine t_rg @ha ?_
    refine t_rg0 ?_
    refine t_b ?_
    refine t_sub [] (Ty.cells_eq (funT r (l.drop (k + 1)))) hih
end Go.Proofs.YtcldnfbcbkaanaaGreatDoor.Lift

/-
  Package typing: the type of a node whose parts have types that fit.
-/
namespace Go.Proofs.YtcldnfbcbkaanaaGreatDoor.Lift
set_option linter.unusedSimpArgs false
set_option linter.unusedVariables false
set_option linter.unnecessarySimpa false
open Go
variable {gl : Globs}

def szZ : List DV := [dint 0, .sl [], dint 0]
def szO : Option Ty → List DV
  | some t => szC t
  | none => szZ
/-- three types with their sizes, as an array's cells -/
def sz3 (l : List Ty) : List DV := szO l[0]? ++ (szO l[1]? ++ szO l[2]?)
theorem sz3_0 : sz3 [] = [dint 0, .sl [], dint 0, dint 0, .sl [], dint 0, dint 0, .sl [], dint 0] := rfl
theorem sz3_1 (a : Ty) : sz3 [a] = [dint a.kind, .sl (a.args.map Ty.cells), dint (a.count : Int), dint 0, .sl [], dint 0, dint 0, .sl [], dint 0] := rfl
theorem sz3_2 (a b : Ty) : sz3 [a, b] = [dint a.kind, .sl (a.args.map Ty.cells), dint (a.count : Int), dint b.kind, .sl (b.args.map Ty.cells), dint (b.count : Int), dint 0, .sl [], dint 0] := rfl
theorem sz3_3 (a b c : Ty) : sz3 [a, b, c] = [dint a.kind, .sl (a.args.map Ty.cells), dint (a.count : Int), dint b.kind, .sl (b.args.map Ty.cells), dint (b.count : Int), dint c.kind, .sl (c.args.map Ty.cells), dint (c.count : Int)] := rfl

theorem ty_step_ok (t : Tm) : Con1 Tryz.prog gl 203 [t.dv] [] (funT t.type (if t.kind = 9 then [Ty.mk 1 [], Ty.mk 2 [], t.type] else [Ty.mk 1 [], t.type])).dv [] := by
  refine t_in Tryz.func203 ?_
  intro X hP hgl hf hfn hn hR hids hfit
  have hfo := Ty.fold t.type
  have hc := Ty.cells_eq t.type
  by_cases h : t.kind = 9
  · have w := fun_t_ok (gl := gl) t.type [Ty.mk 1 [], Ty.mk 2 [], t.type]
    refine t_g @h ?_
    refine t_c3 (j2 @h (j2 @hfo (j2 @hc (j2 @nat_v @list_v)))) nat_t_ok list_t_ok w ?_
    refine t_r ?_
    simp [go_sem, hP, hgl, hn, h] <;> (try omega)
    all_goals exact t_f
  · have w := fun_t_ok (gl := gl) t.type [Ty.mk 1 [], t.type]
    refine t_g @h ?_
    refine t_c2 (j2 @h (j2 @hfo (j2 @hc @nat_v))) nat_t_ok w ?_
    refine t_r ?_
    simp [go_sem, hP, hgl, hn, h] <;> (try omega)
    all_goals exact t_f

theorem of_dv (k : Int) : (Ty.mk k []).dv = .agg [dint k, .sl []] := rfl
theorem szC_k (k : Int) : szC (Ty.mk k []) = [dint k, .sl [], dint 1] := rfl

theorem node_k4 (t : Tm) (h : t.kind = 4) : Con1 Tryz.prog gl 151 [t.dv, .agg (sz3 [])] [] (.tup [.agg (szC (Ty.mk 1 [])), dint 0]) [] := by
  rw [sz3_0]
  have wp := ty_plain_ok (gl := gl) 4
  rw [if_pos rfl] at wp
  have wo := ty_of_ok (gl := gl) (Ty.mk 1 []) ok_nat
  rw [of_dv, szC_k] at wo
  rw [szC_k]
  refine t_in Tryz.func151 ?_
  intro X hP hgl hf hfn hn hR hids hfit
  have hi : ints [1] = [[dint 1]] := rfl
  rw [hi] at wp
  refine t_g @h ?_
  refine t_c1 @h wp ?_
  refine t_g0 ?_
  refine W_loop ?_
  refine t_g0 ?_
  refine t_c1 trivial wo ?_
  refine t_r ?_
  simp [go_sem, hP, hgl, hn] <;> (try omega)

theorem node_k7 (t : Tm) (h : t.kind = 7) : Con1 Tryz.prog gl 151 [t.dv, .agg (sz3 [])] [] (.tup [.agg (szC (Ty.mk 2 [])), dint 0]) [] := by
  rw [sz3_0]
  have wp := ty_plain_ok (gl := gl) 7
  rw [if_neg (by decide), if_neg (by decide), if_pos rfl] at wp
  have wo := ty_of_ok (gl := gl) (Ty.mk 2 []) ok_list
  rw [of_dv, szC_k] at wo
  rw [szC_k]
  refine t_in Tryz.func151 ?_
  intro X hP hgl hf hfn hn hR hids hfit
  have hi : ints [2] = [[dint 2]] := rfl
  rw [hi] at wp
  refine t_g @h ?_
  refine t_c1 @h wp ?_
  refine t_g0 ?_
  refine W_loop ?_
  refine t_g0 ?_
  refine t_c1 trivial wo ?_
  refine t_r ?_
  simp [go_sem, hP, hgl, hn] <;> (try omega)

theorem node_k13 (t : Tm) (h : t.kind = 13) : Con1 Tryz.prog gl 151 [t.dv, .agg (sz3 [])] [] (.tup [.agg (szC (Ty.mk 5 [])), dint 0]) [] := by
  rw [sz3_0]
  have wp := ty_plain_ok (gl := gl) 13
  rw [if_neg (by decide), if_neg (by decide), if_neg (by decide), if_neg (by decide), if_pos rfl] at wp
  have wo := ty_of_ok (gl := gl) (Ty.mk 5 []) ok_unit
  rw [of_dv, szC_k] at wo
  rw [szC_k]
  refine t_in Tryz.func151 ?_
  intro X hP hgl hf hfn hn hR hids hfit
  have hi : ints [5] = [[dint 5]] := rfl
  rw [hi] at wp
  refine t_g @h ?_
  refine t_c1 @h wp ?_
  refine t_g0 ?_
  refine W_loop ?_
  refine t_g0 ?_
  refine t_c1 trivial wo ?_
  refine t_r ?_
  simp [go_sem, hP, hgl, hn] <;> (try omega)

theorem node_k5 (t : Tm) (h : t.kind = 5) : Con1 Tryz.prog gl 151 [t.dv, .agg (sz3 [Ty.mk 1 []])] [] (.tup [.agg (szC (Ty.mk 1 [])), dint 0]) [] := by
  rw [sz3_1]
  have wp := ty_plain_ok (gl := gl) 5
  rw [if_neg (by decide), if_pos rfl] at wp
  have wo := ty_of_ok (gl := gl) (Ty.mk 1 []) ok_nat
  have wi := ty_is_ok (gl := gl) (Ty.mk 1 []) 1
  rw [of_dv, szC_k] at wo
  rw [szC_k] at wi ⊢
  have hi : ints [1, 1] = [[dint 1], [dint 1]] := rfl
  have hd : decide ((Ty.mk 1 []).kind = 1) = true := rfl
  have hk : (Ty.mk 1 []).kind = 1 := rfl
  have ha : (Ty.mk 1 []).args = [] := rfl
  have hc : (Ty.mk 1 []).count = 1 := rfl
  rw [hi] at wp
  rw [hd] at wi
  rw [hk, ha, hc]
  refine t_in Tryz.func151 ?_
  intro X hP hgl hf hfn hn hR hids hfit
  refine t_g @h ?_
  refine t_c1 @h wp ?_
  refine t_g0 ?_
  refine W_loop ?_
  refine t_g0 ?_
  refine t_c1 trivial wi ?_
  refine t_g0 ?_
  refine W_inLoop ?_
  refine t_g0 ?_
  refine t_c1 trivial wo ?_
  refine t_r ?_
  simp [go_sem, hP, hgl, hn] <;> (try omega)

theorem node_k8 (t : Tm) (h : t.kind = 8) : Con1 Tryz.prog gl 151 [t.dv, .agg (sz3 [Ty.mk 1 [], Ty.mk 2 []])] [] (.tup [.agg (szC (Ty.mk 2 [])), dint 0]) [] := by
  rw [sz3_2]
  have wp := ty_plain_ok (gl := gl) 8
  rw [if_neg (by decide), if_neg (by decide), if_neg (by decide), if_pos rfl] at wp
  have wo := ty_of_ok (gl := gl) (Ty.mk 2 []) ok_list
  have wi := ty_is_ok (gl := gl) (Ty.mk 1 []) 1
  have wj := ty_is_ok (gl := gl) (Ty.mk 2 []) 2
  rw [of_dv, szC_k] at wo
  rw [szC_k] at wi wj ⊢
  have hi : ints [2, 1, 2] = [[dint 2], [dint 1], [dint 2]] := rfl
  have hd : decide ((Ty.mk 1 []).kind = 1) = true := rfl
  have hk : (Ty.mk 1 []).kind = 1 := rfl
  have ha : (Ty.mk 1 []).args = [] := rfl
  have hc : (Ty.mk 1 []).count = 1 := rfl
  have hd2 : decide ((Ty.mk 2 []).kind = 2) = true := rfl
  have hk2 : (Ty.mk 2 []).kind = 2 := rfl
  have ha2 : (Ty.mk 2 []).args = [] := rfl
  have hc2 : (Ty.mk 2 []).count = 1 := rfl
  rw [hi] at wp
  rw [hd] at wi
  rw [hd2] at wj
  rw [hk, ha, hc, hk2, ha2, hc2]
  refine t_in Tryz.func151 ?_
  intro X hP hgl hf hfn hn hR hids hfit
  refine t_g @h ?_
  refine t_c1 @h wp ?_
  refine t_g0 ?_
  refine W_loop ?_
  refine t_g0 ?_
  refine t_c1 trivial wi ?_
  refine t_g0 ?_
  refine W_inLoop ?_
  refine t_g0 ?_
  refine t_c1 trivial wj ?_
  refine t_g0 ?_
  refine W_inLoop ?_
  refine t_g0 ?_
  refine t_c1 trivial wo ?_
  refine t_r ?_
  simp [go_sem, hP, hgl, hn] <;> (try omega)

theorem node_k3 (t : Tm) (h : t.kind = 3) (x y a r : Ty) (hk : x.kind = 4) (hx : x.args = [a, r]) (ha : a.ok) (hr : r.ok) (hs : a.same y = true) :
    Con1 Tryz.prog gl 151 [t.dv, .agg (sz3 [x, y])] [] (.tup [.agg (szC r), dint 0]) [] := by
  rw [sz3_2]
  have wp := ty_plain_ok (gl := gl) 3
  rw [if_neg (by decide), if_neg (by decide), if_neg (by decide), if_neg (by decide), if_neg (by decide)] at wp
  have wi := ty_is_ok (gl := gl) x 4
  have w0 := ty_part_ok (gl := gl) x a 0 (by rw [hx]; rfl) ha
  have w1 := ty_part_ok (gl := gl) x r 1 (by rw [hx]; rfl) hr
  have ws := ty_same_ok (gl := gl) a y
  have hi : ints [] = [] := rfl
  have hd : decide (x.kind = 4) = true := decide_eq_true hk
  rw [hi] at wp
  rw [hd] at wi
  rw [hs] at ws
  simp only [szC_eq] at wi w0 w1 ws ⊢
  refine t_in Tryz.func151 ?_
  intro X hP hgl hf hfn hn hR hids hfit
  refine t_g @h ?_
  refine t_c1 @h wp ?_
  refine t_g @h ?_
  refine t_c3 trivial wi w0 ws ?_
  refine t_g0 ?_
  refine t_c1 trivial w1 ?_
  refine t_r ?_
  simp [go_sem, hP, hgl, hn] <;> (try omega)

theorem node_k69 (t : Tm) (h : t.kind = 6 ∨ t.kind = 9) (ht : t.type.ok) (x y z : Ty) (hx : x.same t.type = true) (hy : y.same (funT t.type (if t.kind = 9 then [Ty.mk 1 [], Ty.mk 2 [], t.type] else [Ty.mk 1 [], t.type])) = true) (hz : z.kind = if t.kind = 9 then 2 else 1) :
    Con1 Tryz.prog gl 151 [t.dv, .agg (sz3 [x, y, z])] [] (.tup [.agg (szC t.type), dint 0]) [] := by
  rw [sz3_3]
  have wo := ty_of_ok (gl := gl) t.type ht
  have ws := ty_same_ok (gl := gl) x t.type
  have wt := ty_step_ok (gl := gl) t
  have wy := sameType_ok (gl := gl) y (funT t.type (if t.kind = 9 then [Ty.mk 1 [], Ty.mk 2 [], t.type] else [Ty.mk 1 [], t.type]))
  have fty := Ty.fold t.type
  have fy := Ty.fold y
  have ftt := Tm.fold t
  rw [hx] at ws
  rw [hy] at wy
  generalize funT t.type (if t.kind = 9 then [Ty.mk 1 [], Ty.mk 2 [], t.type] else [Ty.mk 1 [], t.type]) = st at *
  have fst := Ty.fold st
  have cst := Ty.cells_eq st
  simp only [szC_eq] at wo ws ⊢
  rcases h with h | h
  · have wp := ty_plain_ok (gl := gl) 6
    rw [if_neg (by decide), if_neg (by decide), if_neg (by decide), if_neg (by decide), if_neg (by decide)] at wp
    have hi : ints [] = [] := rfl
    rw [hi] at wp
    rw [if_neg (by omega)] at hz
    have wi := ty_is_ok (gl := gl) z 1
    rw [decide_eq_true hz] at wi
    simp only [szC_eq] at wi
    rw [h] at ftt
    refine t_in Tryz.func151 ?_
    intro X hP hgl hf hfn hn hR hids hfit
    refine t_g @h ?_
    refine t_c1 @h wp ?_
    refine t_g @h ?_
    refine t_c1 (j2 @h @fty) wo ?_
    refine t_g @h ?_
    refine t_c4 (j2 @h (j2 @fy (j2 @ftt @fst))) ws wt wy wi ?_
    refine t_g0 ?_
    refine t_r ?_
    simp [go_sem, hP, hgl, hn] <;> (try omega)
  · have wp := ty_plain_ok (gl := gl) 9
    rw [if_neg (by decide), if_neg (by decide), if_neg (by decide), if_neg (by decide), if_neg (by decide)] at wp
    have hi : ints [] = [] := rfl
    rw [hi] at wp
    rw [if_pos h] at hz
    have wi := ty_is_ok (gl := gl) z 2
    rw [decide_eq_true hz] at wi
    simp only [szC_eq] at wi
    rw [h] at ftt
    refine t_in Tryz.func151 ?_
    intro X hP hgl hf hfn hn hR hids hfit
    refine t_g @h ?_
    refine t_c1 @h wp ?_
    refine t_g @h ?_
    refine t_c1 (j2 @h @fty) wo ?_
    refine t_g @h ?_
    refine t_c4 (j2 @h (j2 @fy (j2 @ftt @fst))) ws wt wy wi ?_
    refine t_g0 ?_
    refine t_r ?_
    simp [go_sem, hP, hgl, hn] <;> (try omega)

theorem node_k10 (t : Tm) (h : t.kind = 10) (x y : Ty) (hc : 1 + x.count + y.count ≤ 64) :
    Con1 Tryz.prog gl 151 [t.dv, .agg (sz3 [x, y])] [] (.tup [.agg (szC (Ty.mk 3 [x, y])), dint 0]) [] := by
  rw [sz3_2]
  have wp := ty_plain_ok (gl := gl) 10
  rw [if_neg (by decide), if_neg (by decide), if_neg (by decide), if_neg (by decide), if_neg (by decide)] at wp
  have hi : ints [] = [] := rfl
  rw [hi] at wp
  have wj := ty_join_ok (gl := gl) 3 x y hc
  generalize Ty.mk 3 [x, y] = r at *
  simp only [szC_eq] at wj ⊢
  refine t_in Tryz.func151 ?_
  intro X hP hgl hf hfn hn hR hids hfit
  refine t_g @h ?_
  refine t_c1 @h wp ?_
  refine t_g @h ?_
  refine t_c1 trivial wj ?_
  refine t_r ?_
  simp [go_sem, hP, hgl, hn] <;> (try omega)

theorem node_k11 (t : Tm) (h : t.kind = 11) (x a b : Ty) (hk : x.kind = 3) (hx : x.args = [a, b]) (ha : a.ok) :
    Con1 Tryz.prog gl 151 [t.dv, .agg (sz3 [x])] [] (.tup [.agg (szC a), dint 0]) [] := by
  rw [sz3_1]
  have wp := ty_plain_ok (gl := gl) 11
  rw [if_neg (by decide), if_neg (by decide), if_neg (by decide), if_neg (by decide), if_neg (by decide)] at wp
  have hi : ints [] = [] := rfl
  rw [hi] at wp
  have wi := ty_is_ok (gl := gl) x 3
  have w0 := ty_part_ok (gl := gl) x a 0 (by rw [hx]; rfl) ha
  rw [decide_eq_true hk] at wi
  simp only [szC_eq] at wi w0 ⊢
  refine t_in Tryz.func151 ?_
  intro X hP hgl hf hfn hn hR hids hfit
  refine t_g @h ?_
  refine t_c1 @h wp ?_
  refine t_g @h ?_
  refine t_c1 trivial wi ?_
  refine t_g @h ?_
  refine t_c1 trivial w0 ?_
  refine t_r ?_
  simp [go_sem, hP, hgl, hn] <;> (try omega)

theorem node_k12 (t : Tm) (h : t.kind = 12) (x a b : Ty) (hk : x.kind = 3) (hx : x.args = [a, b]) (hb : b.ok) :
    Con1 Tryz.prog gl 151 [t.dv, .agg (sz3 [x])] [] (.tup [.agg (szC b), dint 0]) [] := by
  rw [sz3_1]
  have wp := ty_plain_ok (gl := gl) 12
  rw [if_neg (by decide), if_neg (by decide), if_neg (by decide), if_neg (by decide), if_neg (by decide)] at wp
  have hi : ints [] = [] := rfl
  rw [hi] at wp
  have wi := ty_is_ok (gl := gl) x 3
  have w0 := ty_part_ok (gl := gl) x b 1 (by rw [hx]; rfl) hb
  rw [decide_eq_true hk] at wi
  simp only [szC_eq] at wi w0 ⊢
  refine t_in Tryz.func151 ?_
  intro X hP hgl hf hfn hn hR hids hfit
  refine t_g @h ?_
  refine t_c1 @h wp ?_
  refine t_g @h ?_
  refine t_c1 trivial wi ?_
  refine t_g @h ?_
  refine t_c1 trivial w0 ?_
  refine t_r ?_
  simp [go_sem, hP, hgl, hn] <;> (try omega)
end Go.Proofs.YtcldnfbcbkaanaaGreatDoor.Lift

namespace Go.Proofs.YtcldnfbcbkaanaaGreatDoor.Lift
set_option linter.unusedSimpArgs false
set_option linter.unusedVariables false
set_option linter.unnecessarySimpa false
open Go
variable {gl : Globs}

theorem numeral_ok (n : Nat) : Con1 Tryz.prog gl 164 [dint n] [] (numTm n).dv [] := by
  refine t_in Tryz.func164 ?_
  intro X hP hgl hf hfn hn hR hids hfit
  have hn1 : intOK .i64 n := hfit (dint n) (by simp)
  rw [intOK_i64] at hn1
  refine t_g0 ?_
  refine t_c1 trivial (ref02_n_ok 4 []) ?_
  refine t_a ?_
  refine W_sub [] (by simp [go_sem]) (by simp [go_sem, numTm] <;> omega) (by simp [go_sem]) (W_rounds (fun x : Nat => x ≤ n) (fun x : Nat => [(.slot 0, .one (.v (dint x))), (.loc 3, .row ((numTm (n - x)).cells.map .v)), (.slot 3, .one (.loc 3 0)), (.loc 2, .row ([.v (dint 0), .v (dint 0), .v (dint 0), .own 0 [], .own 0 []])), (.slot 2, .one (.loc 2 0))]) (fun x : Nat => x) n (Nat.le_refl n) ?_)
  intro x hx ih
  cases x with
  | zero =>
    refine t_rg0 ?_
    refine t_no ?_
    refine t_g0 ?_
    refine t_r ?_
    simp [go_sem, hP, hgl, hn] <;> (try omega)
  | succ x =>
    have hs : n - x = (n - (x + 1)) + 1 := by omega
    refine t_rg0 ?_
    refine t_yes ?_
    refine t_rg0 ?_
    refine t_rg0 ?_
    repeat (first | refine W_inBlock ?_ | refine W_skip ?_ | refine W_label ?_ | refine W_exit rfl ?_)
    refine W_sub [] (by simp [go_sem]) (by simp [go_sem, hs, numTm] <;> omega) (by simp [go_sem]) (ih x (by omega) (by omega))

theorem ref05_number_ok (n : Nat) (hn4 : n < 4096) : Con1 Tryz.prog gl 120 [dint n] [] (.tup [(numTm n).dv, dint 0]) [] := by
  refine t_in Tryz.func120 ?_
  intro X hP hgl hf hfn hn hR hids hfit
  have h1 : ¬ (n : Int) < 0 := by omega
  have h2 : ¬ (4096 : Int) ≤ n := by omega
  refine t_g (j2 @h1 @h2) ?_
  refine t_c1 trivial (numeral_ok n) ?_
  refine t_r ?_
  simp [go_sem, hP, hgl, hn] <;> (try omega)

theorem mk_num_ok (n : Nat) (hn4 : n < 4096) : Con1 Tryz.prog gl 44 [dint n] [] (numTm n).dv [] := by
  refine t_in Tryz.func44 ?_
  intro X hP hgl hf hfn hn hR hids hfit
  refine t_g0 ?_
  refine t_c1 trivial (ref05_number_ok n hn4) ?_
  refine t_g0 ?_
  refine t_r ?_
  simp [go_sem, hP, hgl, hn] <;> (try omega)
  all_goals exact t_f

theorem lam5_ok (t : Tm) : Con1 Tryz.prog gl 55 [t.dv] [] (Tm.mk 2 0 (Ty.mk 1 []) [t]).dv [] := by
  refine t_in Tryz.func55 ?_
  intro X hP hgl hf hfn hn hR hids hfit
  refine t_g0 ?_
  refine t_c2 @nat_v ref01_nat_ok (ref02_t_ok 2 (Ty.mk 1 []) [t]) ?_
  refine t_r ?_
  simp [go_sem, hP, hgl, hn] <;> (try omega)
  all_goals exact t_f
theorem rec5_ok (a b c : Tm) : Con1 Tryz.prog gl 56 [a.dv, b.dv, c.dv] [] (Tm.mk 6 0 (Ty.mk 1 []) [a, b, c]).dv [] := by
  refine t_in Tryz.func56 ?_
  intro X hP hgl hf hfn hn hR hids hfit
  refine t_g0 ?_
  refine t_c2 @nat_v ref01_nat_ok (ref02_t_ok 6 (Ty.mk 1 []) [a, b, c]) ?_
  refine t_r ?_
  simp [go_sem, hP, hgl, hn] <;> (try omega)
  all_goals exact t_f
def lamN (t : Tm) : Tm := Tm.mk 2 0 (Ty.mk 1 []) [t]
def recN (a b c : Tm) : Tm := Tm.mk 6 0 (Ty.mk 1 []) [a, b, c]
theorem lam5' (t : Tm) : Con1 Tryz.prog gl 55 [t.dv] [] (lamN t).dv [] := lam5_ok t
theorem rec5' (a b c : Tm) : Con1 Tryz.prog gl 56 [a.dv, b.dv, c.dv] [] (recN a b c).dv [] := rec5_ok a b c
theorem var5 (i : Int) : Con1 Tryz.prog gl 58 [dint i] [] (vT i).dv [] := ref02_var_ok i
theorem n5 (k : Int) (l : List Tm) : Con1 Tryz.prog gl 57 [dint k, .sl (l.map Tm.cells)] [] (nT k l).dv [] := ref02_n_ok k l

theorem pred_eq : lamN (recN (nT 4 []) (lamN (lamN (vT 1))) (vT 0)) = predT := rfl
theorem plus_eq : lamN (lamN (recN (vT 1) (lamN (lamN (nT 5 [vT 0]))) (vT 0))) = plusT := rfl
theorem sub_eq : lamN (lamN (recN (vT 1) (lamN (lamN (nT 3 [predT, vT 0]))) (vT 0))) = subT := rfl
theorem ref05_pred_ok : Con1 Tryz.prog gl 19 [] [] predT.dv [] := by
  refine t_in Tryz.func19 ?_
  intro X hP hgl hf hfn hn hR hids hfit
  refine t_g0 ?_
  refine t_c7 trivial (n5 4 []) (var5 1) (lam5' (vT 1)) (lam5' (lamN (vT 1))) (var5 0) (rec5' (nT 4 []) (lamN (lamN (vT 1))) (vT 0)) (lam5' (recN (nT 4 []) (lamN (lamN (vT 1))) (vT 0))) ?_
  refine t_r ?_
  simp [go_sem, hP, hgl, hn, pred_eq] <;> (try omega)
theorem ref05_plus_ok : Con1 Tryz.prog gl 69 [] [] plusT.dv [] := by
  refine t_in Tryz.func69 ?_
  intro X hP hgl hf hfn hn hR hids hfit
  refine t_g0 ?_
  refine t_c9 trivial (var5 1) (var5 0) (n5 5 [vT 0]) (lam5' (nT 5 [vT 0])) (lam5' (lamN (nT 5 [vT 0]))) (var5 0) (rec5' (vT 1) (lamN (lamN (nT 5 [vT 0]))) (vT 0)) (lam5' (recN (vT 1) (lamN (lamN (nT 5 [vT 0]))) (vT 0))) (lam5' (lamN (recN (vT 1) (lamN (lamN (nT 5 [vT 0]))) (vT 0)))) ?_
  refine t_r ?_
  simp [go_sem, hP, hgl, hn, plus_eq] <;> (try omega)
theorem ref05_sub_ok : Con1 Tryz.prog gl 70 [] [] subT.dv [] := by
  refine t_in Tryz.func70 ?_
  intro X hP hgl hf hfn hn hR hids hfit
  refine t_g0 ?_
  refine t_c10 trivial (var5 1) ref05_pred_ok (var5 0) (n5 3 [predT, vT 0]) (lam5' (nT 3 [predT, vT 0])) (lam5' (lamN (nT 3 [predT, vT 0]))) (var5 0) (rec5' (vT 1) (lamN (lamN (nT 3 [predT, vT 0]))) (vT 0)) (lam5' (recN (vT 1) (lamN (lamN (nT 3 [predT, vT 0]))) (vT 0))) (lam5' (lamN (recN (vT 1) (lamN (lamN (nT 3 [predT, vT 0]))) (vT 0)))) ?_
  refine t_r ?_
  simp [go_sem, hP, hgl, hn, sub_eq] <;> (try omega)
end Go.Proofs.YtcldnfbcbkaanaaGreatDoor.Lift

namespace Go.Proofs.YtcldnfbcbkaanaaGreatDoor.Lift
set_option linter.unusedSimpArgs false
set_option linter.unusedVariables false
set_option linter.unnecessarySimpa false
open Go
variable {gl : Globs}

theorem mk_type_ok (n : Nat) (b : Nat) (l : List Int) (p : Nat) (hl : l.length ≤ 500) (hp : p ≤ l.length) (hn3 : n ≤ 3) :
    Con1 Tryz.prog gl 65 [ptr b, dint n] [(b, deck l p)] (typeD l n p).1.dv [(b, deck l (typeD l n p).2)] := by
  induction n generalizing p with
  | zero =>
    refine t_in Tryz.func65 ?_
    intro X hP hgl hf hfn hn hR hids hfit
    rw [typeD] at hR
    have hkb := nextD_bd (l := l) (p := p) (n := 7) (by decide)
    refine t_g0 ?_
    refine t_c1 trivial (next_ok b l p 7 (by decide) (by omega)) ?_
    generalize hd : nextD l p 7 = d at *
    obtain ⟨k, q⟩ := d
    simp only at hkb hR
    by_cases h3 : k = 3
    · refine t_g @h3 ?_
      refine t_c1 trivial ref01_list_ok ?_
      repeat (first | refine W_seq ?_ | refine W_skip ?_ | refine W_block ?_ | refine W_inBlock ?_ | refine W_label ?_ | refine W_exit rfl ?_)
      first | refine W_retR hP hf hfn _ ([(b, deck l q)]) (by first | (simp [go_sem, hP, hgl, hn, h3]; done) | (simp [go_sem, hP, hgl, hn, h3]; rfl)) (by simp [go_sem, hP, hgl, hn, h3]) (by simp) ?_ hR.2 | refine W_endR hP hf hfn _ ([(b, deck l q)]) (by first | (simp [go_sem, hP, hgl, hn, h3]; done) | (simp [go_sem, hP, hgl, hn, h3]; rfl)) (by simp [go_sem, hP, hgl, hn, h3]) (by simp) ?_ hR.2
      rw [hR.1]
      refine ⟨?_, by simp [h3]⟩
      try simp [h3]
      try all_goals (simp [Ty.dv, Ty.cells_eq, Ty.kind_mk, Ty.args_mk, Tm.dv, Tm.cells_eq, Tm.kind_mk, Tm.index_mk, Tm.type_mk, Tm.args_mk, Val.dv, Val.cells_eq, Val.kind_mk, Val.num_mk, Val.list_mk, Val.args_mk, ints])
    by_cases h4 : k = 4
    · refine t_g @h4 ?_
      refine t_c1 trivial ref01_unit_ok ?_
      repeat (first | refine W_seq ?_ | refine W_skip ?_ | refine W_block ?_ | refine W_inBlock ?_ | refine W_label ?_ | refine W_exit rfl ?_)
      first | refine W_retR hP hf hfn _ ([(b, deck l q)]) (by first | (simp [go_sem, hP, hgl, hn, h4]; done) | (simp [go_sem, hP, hgl, hn, h4]; rfl)) (by simp [go_sem, hP, hgl, hn, h4]) (by simp) ?_ hR.2 | refine W_endR hP hf hfn _ ([(b, deck l q)]) (by first | (simp [go_sem, hP, hgl, hn, h4]; done) | (simp [go_sem, hP, hgl, hn, h4]; rfl)) (by simp [go_sem, hP, hgl, hn, h4]) (by simp) ?_ hR.2
      rw [hR.1]
      refine ⟨?_, by simp [h4]⟩
      try simp [h4]
      try all_goals (simp [Ty.dv, Ty.cells_eq, Ty.kind_mk, Ty.args_mk, Tm.dv, Tm.cells_eq, Tm.kind_mk, Tm.index_mk, Tm.type_mk, Tm.args_mk, Val.dv, Val.cells_eq, Val.kind_mk, Val.num_mk, Val.list_mk, Val.args_mk, ints])
    by_cases h0 : k = 0
    · refine t_g @h0 ?_
      refine t_c1 trivial ref01_nat_ok ?_
      repeat (first | refine W_seq ?_ | refine W_skip ?_ | refine W_block ?_ | refine W_inBlock ?_ | refine W_label ?_ | refine W_exit rfl ?_)
      first | refine W_retR hP hf hfn _ ([(b, deck l q)]) (by first | (simp [go_sem, hP, hgl, hn, h0]; done) | (simp [go_sem, hP, hgl, hn, h0]; rfl)) (by simp [go_sem, hP, hgl, hn, h0]) (by simp) ?_ hR.2 | refine W_endR hP hf hfn _ ([(b, deck l q)]) (by first | (simp [go_sem, hP, hgl, hn, h0]; done) | (simp [go_sem, hP, hgl, hn, h0]; rfl)) (by simp [go_sem, hP, hgl, hn, h0]) (by simp) ?_ hR.2
      rw [hR.1]
      refine ⟨?_, by simp [h0]⟩
      try simp [h0]
      try all_goals (simp [Ty.dv, Ty.cells_eq, Ty.kind_mk, Ty.args_mk, Tm.dv, Tm.cells_eq, Tm.kind_mk, Tm.index_mk, Tm.type_mk, Tm.args_mk, Val.dv, Val.cells_eq, Val.kind_mk, Val.num_mk, Val.list_mk, Val.args_mk, ints])
    by_cases h1 : k = 1
    · refine t_g @h1 ?_
      refine t_c1 trivial ref01_nat_ok ?_
      repeat (first | refine W_seq ?_ | refine W_skip ?_ | refine W_block ?_ | refine W_inBlock ?_ | refine W_label ?_ | refine W_exit rfl ?_)
      first | refine W_retR hP hf hfn _ ([(b, deck l q)]) (by first | (simp [go_sem, hP, hgl, hn, h1]; done) | (simp [go_sem, hP, hgl, hn, h1]; rfl)) (by simp [go_sem, hP, hgl, hn, h1]) (by simp) ?_ hR.2 | refine W_endR hP hf hfn _ ([(b, deck l q)]) (by first | (simp [go_sem, hP, hgl, hn, h1]; done) | (simp [go_sem, hP, hgl, hn, h1]; rfl)) (by simp [go_sem, hP, hgl, hn, h1]) (by simp) ?_ hR.2
      rw [hR.1]
      refine ⟨?_, by simp [h1]⟩
      try simp [h1]
      try all_goals (simp [Ty.dv, Ty.cells_eq, Ty.kind_mk, Ty.args_mk, Tm.dv, Tm.cells_eq, Tm.kind_mk, Tm.index_mk, Tm.type_mk, Tm.args_mk, Val.dv, Val.cells_eq, Val.kind_mk, Val.num_mk, Val.list_mk, Val.args_mk, ints])
    by_cases h2 : k = 2
    · refine t_g @h2 ?_
      refine t_c1 trivial ref01_nat_ok ?_
      repeat (first | refine W_seq ?_ | refine W_skip ?_ | refine W_block ?_ | refine W_inBlock ?_ | refine W_label ?_ | refine W_exit rfl ?_)
      first | refine W_retR hP hf hfn _ ([(b, deck l q)]) (by first | (simp [go_sem, hP, hgl, hn, h2]; done) | (simp [go_sem, hP, hgl, hn, h2]; rfl)) (by simp [go_sem, hP, hgl, hn, h2]) (by simp) ?_ hR.2 | refine W_endR hP hf hfn _ ([(b, deck l q)]) (by first | (simp [go_sem, hP, hgl, hn, h2]; done) | (simp [go_sem, hP, hgl, hn, h2]; rfl)) (by simp [go_sem, hP, hgl, hn, h2]) (by simp) ?_ hR.2
      rw [hR.1]
      refine ⟨?_, by simp [h2]⟩
      try simp [h2]
      try all_goals (simp [Ty.dv, Ty.cells_eq, Ty.kind_mk, Ty.args_mk, Tm.dv, Tm.cells_eq, Tm.kind_mk, Tm.index_mk, Tm.type_mk, Tm.args_mk, Val.dv, Val.cells_eq, Val.kind_mk, Val.num_mk, Val.list_mk, Val.args_mk, ints])
    by_cases h5 : k = 5
    · refine t_g @h5 ?_
      refine t_c1 trivial ref01_nat_ok ?_
      repeat (first | refine W_seq ?_ | refine W_skip ?_ | refine W_block ?_ | refine W_inBlock ?_ | refine W_label ?_ | refine W_exit rfl ?_)
      first | refine W_retR hP hf hfn _ ([(b, deck l q)]) (by first | (simp [go_sem, hP, hgl, hn, h5]; done) | (simp [go_sem, hP, hgl, hn, h5]; rfl)) (by simp [go_sem, hP, hgl, hn, h5]) (by simp) ?_ hR.2 | refine W_endR hP hf hfn _ ([(b, deck l q)]) (by first | (simp [go_sem, hP, hgl, hn, h5]; done) | (simp [go_sem, hP, hgl, hn, h5]; rfl)) (by simp [go_sem, hP, hgl, hn, h5]) (by simp) ?_ hR.2
      rw [hR.1]
      refine ⟨?_, by simp [h5]⟩
      try simp [h5]
      try all_goals (simp [Ty.dv, Ty.cells_eq, Ty.kind_mk, Ty.args_mk, Tm.dv, Tm.cells_eq, Tm.kind_mk, Tm.index_mk, Tm.type_mk, Tm.args_mk, Val.dv, Val.cells_eq, Val.kind_mk, Val.num_mk, Val.list_mk, Val.args_mk, ints])
    have h6 : k = 6 := by omega
    refine t_g @h6 ?_
    refine t_c1 trivial ref01_nat_ok ?_
    repeat (first | refine W_seq ?_ | refine W_skip ?_ | refine W_block ?_ | refine W_inBlock ?_ | refine W_label ?_ | refine W_exit rfl ?_)
    first | refine W_retR hP hf hfn _ ([(b, deck l q)]) (by first | (simp [go_sem, hP, hgl, hn, h6]; done) | (simp [go_sem, hP, hgl, hn, h6]; rfl)) (by simp [go_sem, hP, hgl, hn, h6]) (by simp) ?_ hR.2 | refine W_endR hP hf hfn _ ([(b, deck l q)]) (by first | (simp [go_sem, hP, hgl, hn, h6]; done) | (simp [go_sem, hP, hgl, hn, h6]; rfl)) (by simp [go_sem, hP, hgl, hn, h6]) (by simp) ?_ hR.2
    rw [hR.1]
    refine ⟨?_, by simp [h6]⟩
    try simp [h6]
    try all_goals (simp [Ty.dv, Ty.cells_eq, Ty.kind_mk, Ty.args_mk, Tm.dv, Tm.cells_eq, Tm.kind_mk, Tm.index_mk, Tm.type_mk, Tm.args_mk, Val.dv, Val.cells_eq, Val.kind_mk, Val.num_mk, Val.list_mk, Val.args_mk, ints])
  | succ n ih =>
    refine t_in Tryz.func65 ?_
    intro X hP hgl hf hfn hn hR hids hfit
    rw [typeD] at hR
    have hkb := nextD_bd (l := l) (p := p) (n := 7) (by decide)
    have hq := nextD_le (n := 7) hp
    refine t_g0 ?_
    refine t_c1 trivial (next_ok b l p 7 (by decide) (by omega)) ?_
    generalize hd : nextD l p 7 = d at *
    obtain ⟨k, q⟩ := d
    simp only at hkb hR hq
    have hpos : (0 : Int) < ((n + 1 : Nat) : Int) := by omega
    have hsub : ((n + 1 : Nat) : Int) - 1 = (n : Int) := by omega
    obtain ⟨a1, -⟩ := typeD_facts l n q hq
    by_cases h3 : k = 3
    · refine t_g @h3 ?_
      refine t_c1 trivial ref01_list_ok ?_
      repeat (first | refine W_seq ?_ | refine W_skip ?_ | refine W_block ?_ | refine W_inBlock ?_ | refine W_label ?_ | refine W_exit rfl ?_)
      first | refine W_retR hP hf hfn _ ([(b, deck l q)]) (by first | (simp [go_sem, hP, hgl, hn, h3]; done) | (simp [go_sem, hP, hgl, hn, h3]; rfl)) (by simp [go_sem, hP, hgl, hn, h3]) (by simp) ?_ hR.2 | refine W_endR hP hf hfn _ ([(b, deck l q)]) (by first | (simp [go_sem, hP, hgl, hn, h3]; done) | (simp [go_sem, hP, hgl, hn, h3]; rfl)) (by simp [go_sem, hP, hgl, hn, h3]) (by simp) ?_ hR.2
      rw [hR.1]
      refine ⟨?_, by simp [h3]⟩
      try simp [h3]
      try all_goals (simp [Ty.dv, Ty.cells_eq, Ty.kind_mk, Ty.args_mk, Tm.dv, Tm.cells_eq, Tm.kind_mk, Tm.index_mk, Tm.type_mk, Tm.args_mk, Val.dv, Val.cells_eq, Val.kind_mk, Val.num_mk, Val.list_mk, Val.args_mk, ints])
    by_cases h4 : k = 4
    · refine t_g @h4 ?_
      refine t_c1 trivial ref01_unit_ok ?_
      repeat (first | refine W_seq ?_ | refine W_skip ?_ | refine W_block ?_ | refine W_inBlock ?_ | refine W_label ?_ | refine W_exit rfl ?_)
      first | refine W_retR hP hf hfn _ ([(b, deck l q)]) (by first | (simp [go_sem, hP, hgl, hn, h4]; done) | (simp [go_sem, hP, hgl, hn, h4]; rfl)) (by simp [go_sem, hP, hgl, hn, h4]) (by simp) ?_ hR.2 | refine W_endR hP hf hfn _ ([(b, deck l q)]) (by first | (simp [go_sem, hP, hgl, hn, h4]; done) | (simp [go_sem, hP, hgl, hn, h4]; rfl)) (by simp [go_sem, hP, hgl, hn, h4]) (by simp) ?_ hR.2
      rw [hR.1]
      refine ⟨?_, by simp [h4]⟩
      try simp [h4]
      try all_goals (simp [Ty.dv, Ty.cells_eq, Ty.kind_mk, Ty.args_mk, Tm.dv, Tm.cells_eq, Tm.kind_mk, Tm.index_mk, Tm.type_mk, Tm.args_mk, Val.dv, Val.cells_eq, Val.kind_mk, Val.num_mk, Val.list_mk, Val.args_mk, ints])
    by_cases h0 : k = 0
    · refine t_g @h0 ?_
      refine t_c1 trivial ref01_nat_ok ?_
      repeat (first | refine W_seq ?_ | refine W_skip ?_ | refine W_block ?_ | refine W_inBlock ?_ | refine W_label ?_ | refine W_exit rfl ?_)
      first | refine W_retR hP hf hfn _ ([(b, deck l q)]) (by first | (simp [go_sem, hP, hgl, hn, h0]; done) | (simp [go_sem, hP, hgl, hn, h0]; rfl)) (by simp [go_sem, hP, hgl, hn, h0]) (by simp) ?_ hR.2 | refine W_endR hP hf hfn _ ([(b, deck l q)]) (by first | (simp [go_sem, hP, hgl, hn, h0]; done) | (simp [go_sem, hP, hgl, hn, h0]; rfl)) (by simp [go_sem, hP, hgl, hn, h0]) (by simp) ?_ hR.2
      rw [hR.1]
      refine ⟨?_, by simp [h0]⟩
      try simp [h0]
      try all_goals (simp [Ty.dv, Ty.cells_eq, Ty.kind_mk, Ty.args_mk, Tm.dv, Tm.cells_eq, Tm.kind_mk, Tm.index_mk, Tm.type_mk, Tm.args_mk, Val.dv, Val.cells_eq, Val.kind_mk, Val.num_mk, Val.list_mk, Val.args_mk, ints])
    by_cases h1 : k = 1
    · refine t_g @h1 ?_
      refine t_c1 trivial ref01_nat_ok ?_
      repeat (first | refine W_seq ?_ | refine W_skip ?_ | refine W_block ?_ | refine W_inBlock ?_ | refine W_label ?_ | refine W_exit rfl ?_)
      first | refine W_retR hP hf hfn _ ([(b, deck l q)]) (by first | (simp [go_sem, hP, hgl, hn, h1]; done) | (simp [go_sem, hP, hgl, hn, h1]; rfl)) (by simp [go_sem, hP, hgl, hn, h1]) (by simp) ?_ hR.2 | refine W_endR hP hf hfn _ ([(b, deck l q)]) (by first | (simp [go_sem, hP, hgl, hn, h1]; done) | (simp [go_sem, hP, hgl, hn, h1]; rfl)) (by simp [go_sem, hP, hgl, hn, h1]) (by simp) ?_ hR.2
      rw [hR.1]
      refine ⟨?_, by simp [h1]⟩
      try simp [h1]
      try all_goals (simp [Ty.dv, Ty.cells_eq, Ty.kind_mk, Ty.args_mk, Tm.dv, Tm.cells_eq, Tm.kind_mk, Tm.index_mk, Tm.type_mk, Tm.args_mk, Val.dv, Val.cells_eq, Val.kind_mk, Val.num_mk, Val.list_mk, Val.args_mk, ints])
    by_cases h2 : k = 2
    · refine t_g @h2 ?_
      refine t_c1 trivial ref01_nat_ok ?_
      repeat (first | refine W_seq ?_ | refine W_skip ?_ | refine W_block ?_ | refine W_inBlock ?_ | refine W_label ?_ | refine W_exit rfl ?_)
      first | refine W_retR hP hf hfn _ ([(b, deck l q)]) (by first | (simp [go_sem, hP, hgl, hn, h2]; done) | (simp [go_sem, hP, hgl, hn, h2]; rfl)) (by simp [go_sem, hP, hgl, hn, h2]) (by simp) ?_ hR.2 | refine W_endR hP hf hfn _ ([(b, deck l q)]) (by first | (simp [go_sem, hP, hgl, hn, h2]; done) | (simp [go_sem, hP, hgl, hn, h2]; rfl)) (by simp [go_sem, hP, hgl, hn, h2]) (by simp) ?_ hR.2
      rw [hR.1]
      refine ⟨?_, by simp [h2]⟩
      try simp [h2]
      try all_goals (simp [Ty.dv, Ty.cells_eq, Ty.kind_mk, Ty.args_mk, Tm.dv, Tm.cells_eq, Tm.kind_mk, Tm.index_mk, Tm.type_mk, Tm.args_mk, Val.dv, Val.cells_eq, Val.kind_mk, Val.num_mk, Val.list_mk, Val.args_mk, ints])
    by_cases h5 : k = 5
    · refine t_g (j2 @h5 @hpos) ?_
      refine t_c3 @hsub (ih q hq (by omega)) (ih _ a1 (by omega)) (ref01_two_ok (typeD l n q).1 (typeD l n (typeD l n q).2).1) ?_
      repeat (first | refine W_seq ?_ | refine W_skip ?_ | refine W_block ?_ | refine W_inBlock ?_ | refine W_label ?_ | refine W_exit rfl ?_)
      first | refine W_retR hP hf hfn _ ([(b, deck l (typeD l n (typeD l n q).2).2)]) (by first | (simp [go_sem, hP, hgl, hn, h5]; done) | (simp [go_sem, hP, hgl, hn, h5]; rfl)) (by simp [go_sem, hP, hgl, hn, h5]) (by simp) ?_ hR.2 | refine W_endR hP hf hfn _ ([(b, deck l (typeD l n (typeD l n q).2).2)]) (by first | (simp [go_sem, hP, hgl, hn, h5]; done) | (simp [go_sem, hP, hgl, hn, h5]; rfl)) (by simp [go_sem, hP, hgl, hn, h5]) (by simp) ?_ hR.2
      rw [hR.1]
      refine ⟨?_, by simp [h5]⟩
      try simp [h5]
      try all_goals (simp [Ty.dv, Ty.cells_eq, Ty.kind_mk, Ty.args_mk, Tm.dv, Tm.cells_eq, Tm.kind_mk, Tm.index_mk, Tm.type_mk, Tm.args_mk, Val.dv, Val.cells_eq, Val.kind_mk, Val.num_mk, Val.list_mk, Val.args_mk, ints])
    have h6 : k = 6 := by omega
    refine t_g (j2 @h6 @hpos) ?_
    refine t_c3 @hsub (ih q hq (by omega)) (ih _ a1 (by omega)) (ref01_fun_ok (typeD l n q).1 (typeD l n (typeD l n q).2).1) ?_
    repeat (first | refine W_seq ?_ | refine W_skip ?_ | refine W_block ?_ | refine W_inBlock ?_ | refine W_label ?_ | refine W_exit rfl ?_)
    first | refine W_retR hP hf hfn _ ([(b, deck l (typeD l n (typeD l n q).2).2)]) (by first | (simp [go_sem, hP, hgl, hn, h6]; done) | (simp [go_sem, hP, hgl, hn, h6]; rfl)) (by simp [go_sem, hP, hgl, hn, h6]) (by simp) ?_ hR.2 | refine W_endR hP hf hfn _ ([(b, deck l (typeD l n (typeD l n q).2).2)]) (by first | (simp [go_sem, hP, hgl, hn, h6]; done) | (simp [go_sem, hP, hgl, hn, h6]; rfl)) (by simp [go_sem, hP, hgl, hn, h6]) (by simp) ?_ hR.2
    rw [hR.1]
    refine ⟨?_, by simp [h6]⟩
    try simp [h6]
    try all_goals (simp [Ty.dv, Ty.cells_eq, Ty.kind_mk, Ty.args_mk, Tm.dv, Tm.cells_eq, Tm.kind_mk, Tm.index_mk, Tm.type_mk, Tm.args_mk, Val.dv, Val.cells_eq, Val.kind_mk, Val.num_mk, Val.list_mk, Val.args_mk, ints])

def varsP (g : List Ty) (t : Ty) (n : Nat) : List Nat := (List.range n).filter fun i => (varTy g i).same t
theorem varsP_succ (g : List Ty) (t : Ty) (n : Nat) : varsP g t (n + 1) = if (varTy g n).same t = true then varsP g t n ++ [n] else varsP g t n := by
  unfold varsP
  rw [List.range_succ, List.filter_append]
  split <;> simp_all
theorem varsP_le (g : List Ty) (t : Ty) (n : Nat) : (varsP g t n).length ≤ n := by
  have := List.length_filter_le (fun i => (varTy g i).same t) (List.range n)
  simpa [varsP] using this
def natI (l : List Nat) : List Int := l.map Int.ofNat
theorem natI_len (l : List Nat) : (natI l).length = l.length := by simp [natI]
theorem natI_snoc (l : List Nat) (n : Nat) : natI (l ++ [n]) = natI l ++ [(n : Int)] := by simp [natI]

theorem mk_vars_ok (g : List Ty) (t : Ty) (hlg : g.length ≤ 1000000) :
    Con1 Tryz.prog gl 64 [.sl (g.map Ty.cells), t.dv] [] (.sl (ints (natI (varsN g t)))) [] := by
  refine t_in Tryz.func64 ?_
  intro X hP hgl hf hfn hn hR hids hfit
  refine t_g0 ?_
  refine t_a ?_
  refine W_sub [(1005, 0)] (by simp [go_sem]) (by simp [go_sem, natI, varsP, ints_nil] <;> omega) (by simp [go_sem]) (W_upto (g.length) (fun i => True) (fun i => [(.slot 9, .one (.v (dint i))), (.slot 8, .one (.v (dint g.length))), (.slot 5, .one (.own 1005 (ints (natI (varsP g t i))))), (.tok 1005, .tk 1 (varsP g t i).length), (.slot 0, .one (.v (.sl (g.map Ty.cells)))), (.loc 3, .row ([.v (dint t.kind), .v (.sl (t.args.map Ty.cells))])), (.slot 3, .one (.loc 3 0)), (.slot 4, .one (.own 0 []))]) (trivial) ?_ ?_)
  · intro i hi _ hnext
    have hli := varsP_le g t i
    have hvt := (varTy_mem hi).2
    have hix : (g.length : Int) - 1 - i = ((g.length - 1 - i : Nat) : Int) := by omega
    refine t_rg0 ?_
    refine t_yes ?_
    refine t_g0 ?_
    refine t_c1 (j2 @hix @hvt) (ref01_same_ok (varTy g i) t) ?_
    have hsu := varsP_succ g t i
    by_cases hs : (varTy g i).same t = true
    · rw [if_pos hs] at hsu
      rw [hsu] at hnext
      refine t_gt (wr [(1005, 25)]) (j2 @natI_len (j2 @natI_snoc (j2 @ints_cons @ints_nil))) (j2 @hs @natI_len) (hnext trivial)
    · rw [if_neg hs] at hsu
      rw [hsu] at hnext
      refine t_gt (wr []) trivial @hs (hnext trivial)
  · intro _
    refine t_rg0 ?_
    refine t_no ?_
    refine t_g0 ?_
    refine t_r ?_
    simp [go_sem, hP, hgl, hn, varsN, varsP] <;> (try omega)

theorem mk_longer_ok (g h : List Ty) (hlg : g.length + h.length ≤ 1000000) :
    Con1 Tryz.prog gl 67 [.sl (g.map Ty.cells), .sl (h.map Ty.cells)] [] (.sl ((g ++ h).map Ty.cells)) [] := by
  refine t_in Tryz.func67 ?_
  intro X hP hgl hf hfn hn hR hids hfit
  have hl1 : g.length ≤ 1000000 := by omega
  refine t_g0 ?_
  refine t_r ?_
  simp [go_sem, hP, hgl, hn] <;> (try omega)
end Go.Proofs.YtcldnfbcbkaanaaGreatDoor.Lift

namespace Go.Proofs.YtcldnfbcbkaanaaGreatDoor.Lift
set_option linter.unusedSimpArgs false
set_option linter.unusedVariables false
set_option linter.unnecessarySimpa false
open Go
variable {gl : Globs}

theorem pickD_none {l : List Int} {t : Ty} {g : List Ty} {p q : Nat} (h : pickD l t g p = (none, q)) : ((varsN g t).length = 0 ∧ q = p) ∨ ((varsN g t).length ≠ 0 ∧ (nextD l p 3).1 = 0 ∧ q = (nextD l p 3).2) := by
  unfold pickD at h
  split at h
  · rename_i h0; cases h; exact .inl ⟨h0, rfl⟩
  · rename_i h0
    split at h
    · rename_i h1; cases h; exact .inr ⟨h0, h1, rfl⟩
    · cases h
theorem pickD_some' {l : List Int} {t : Ty} {g : List Ty} {p q : Nat} {x : Tm} (h : pickD l t g p = (some x, q)) : (varsN g t).length ≠ 0 ∧ (nextD l p 3).1 ≠ 0 ∧ ∃ k i : Nat, (nextD l (nextD l p 3).2 (varsN g t).length).1 = k ∧ (varsN g t)[k]? = some i ∧ x = vT i ∧ q = (nextD l (nextD l p 3).2 (varsN g t).length).2 := by
  unfold pickD at h
  split at h
  · cases h
  · rename_i h0
    split at h
    · cases h
    · rename_i h1
      have hb := nextD_bd (l := l) (p := (nextD l p 3).2) (n := (varsN g t).length) (by omega)
      cases h
      obtain ⟨k, hk⟩ : ∃ k : Nat, (nextD l (nextD l p 3).2 (varsN g t).length).1 = k := ⟨_, (Int.toNat_of_nonneg hb.1).symm⟩
      rw [hk] at hb
      have hlt : k < (varsN g t).length := by omega
      refine ⟨h0, h1, k, (varsN g t)[k], hk, List.getElem?_eq_getElem hlt, ?_, rfl⟩
      rw [hk, Int.toNat_natCast, List.getD_eq_getElem?_getD, List.getElem?_eq_getElem hlt, Option.getD_some]

set_option maxHeartbeats 1000000 in
theorem mk_term_leaf (b : Nat) (l : List Int) (hl : l.length ≤ 500) (t : Ty) : ∀ (z : Int) (g : List Ty) (p : Nat), z ≤ 0 → t.count ≤ z + 1000 → t.small → (∀ x ∈ g, x.small) → g.length + t.count ≤ 1000000 → p ≤ l.length →
    Con1 Tryz.prog gl 22 [ptr b, .sl (g.map Ty.cells), t.dv, dint z] [(b, deck l p)] (leafD l t g p).1.dv [(b, deck l (leafD l t g p).2)] := by
  induction t using Ty.ind with
  | h t ih =>
  intro z g p hz hz1 ht hg hgl1 hp
  refine t_in Tryz.func22 ?_
  intro X hP hgl hf hfn hn hR hids hfit
  rw [leafD_eq l t g p ht.ok] at hR
  have hvl : (varsN g t).length ≤ g.length := varsP_le g t g.length
  have hq3 := nextD_le (n := 3) hp
  have hb3 := nextD_bd (l := l) (p := p) (n := 3) (by decide)
  rcases hpk : pickD l t g p with ⟨_ | x, q⟩
  · rw [hpk] at hR
    simp only at hR
    have hq : q ≤ l.length := by have := pickD_le (t := t) (g := g) hp; rw [hpk] at this; exact this
    apply W_cutX [(.slot 215, .one (.v (dbool (decide (t.kind = 1))))), (.slot 214, .one (.v (dint t.kind))), (.slot 0, .one (.v (ptr b))), (.slot 1, .one (.v (.sl (g.map Ty.cells)))), (.slot 3, .one (.v (dint z))), (.slot 6, .one (.loc 6 0)), (.loc 6, .row ([.v (dint t.kind), .v (.sl (t.args.map Ty.cells))])), (.slot 8, .one (.loc 8 0)), (.loc 8, .row ([.v (dint 0), .v (dint 0), .v (dint 0), .own 0 [], .own 0 []])), (.heap  b, .row ([.v (.sl (ints l)), .v (dint q)]))]
    · intro hrest
      refine t_g0 ?_
      refine t_c1 trivial (mk_vars_ok g t (by omega)) ?_
      rcases pickD_none hpk with ⟨h0, rfl⟩ | ⟨h0, h1, rfl⟩
      · refine t_g (j2 @natI_len @h0) ?_
        refine t_b ?_
        refine t_sub [] trivial hrest
      · have hpos : 0 < (varsN g t).length := by omega
        refine t_g0 ?_
        refine t_c1 (j2 @natI_len (j2 @hpos @h1)) (next_ok b l p 3 (by decide) (by omega)) ?_
        refine t_g @h1 ?_
        refine t_b ?_
        refine t_sub [] trivial hrest
    · have hz2 : ¬ 0 < z := by omega
      rcases small_kinds ht with ⟨h, e⟩ | ⟨h, e⟩ | ⟨h, e⟩ | ⟨h, e⟩ | ⟨h, e⟩
      · rw [if_pos h] at hR
        have hb := nextD_bd (l := l) (p := q) (n := 3) (by decide)
        obtain ⟨k, hk⟩ : ∃ k : Nat, (nextD l q 3).1 = k := ⟨_, (Int.toNat_of_nonneg hb.1).symm⟩
        rw [hk] at hb
        refine t_g (j2 @hz2 @h) ?_
        refine t_c2 @hk (next_ok b l q 3 (by decide) (by omega)) (mk_num_ok k (by omega)) ?_
        repeat (first | refine W_seq ?_ | refine W_skip ?_ | refine W_block ?_ | refine W_inBlock ?_ | refine W_label ?_ | refine W_exit rfl ?_)
        first | refine W_retR hP hf hfn _ ([(b, deck l (nextD l q 3).2)]) (by first | (simp [go_sem, hP, hgl, hn, numD, hk]; done) | (simp [go_sem, hP, hgl, hn, numD, hk]; rfl)) (by simp [go_sem, hP, hgl, hn, numD, hk]) (by simp) ?_ hR.2 | refine W_endR hP hf hfn _ ([(b, deck l (nextD l q 3).2)]) (by first | (simp [go_sem, hP, hgl, hn, numD, hk]; done) | (simp [go_sem, hP, hgl, hn, numD, hk]; rfl)) (by simp [go_sem, hP, hgl, hn, numD, hk]) (by simp) ?_ hR.2
        rw [hR.1]
        refine ⟨?_, by simp [numD, hk]⟩
        try simp [numD, hk]
        try all_goals (simp [Ty.dv, Ty.cells_eq, Ty.kind_mk, Ty.args_mk, Tm.dv, Tm.cells_eq, Tm.kind_mk, Tm.index_mk, Tm.type_mk, Tm.args_mk, Val.dv, Val.cells_eq, Val.kind_mk, Val.num_mk, Val.list_mk, Val.args_mk, ints])
      · rw [if_neg (by omega), if_pos h] at hR
        refine t_g (j2 @hz2 @h) ?_
        refine t_c1 trivial (ref02_n_ok 7 []) ?_
        repeat (first | refine W_seq ?_ | refine W_skip ?_ | refine W_block ?_ | refine W_inBlock ?_ | refine W_label ?_ | refine W_exit rfl ?_)
        first | refine W_retR hP hf hfn _ ([(b, deck l q)]) (by first | (simp [go_sem, hP, hgl, hn, nT]; done) | (simp [go_sem, hP, hgl, hn, nT]; rfl)) (by simp [go_sem, hP, hgl, hn, nT]) (by simp) ?_ hR.2 | refine W_endR hP hf hfn _ ([(b, deck l q)]) (by first | (simp [go_sem, hP, hgl, hn, nT]; done) | (simp [go_sem, hP, hgl, hn, nT]; rfl)) (by simp [go_sem, hP, hgl, hn, nT]) (by simp) ?_ hR.2
        rw [hR.1]
        refine ⟨?_, by simp [nT]⟩
        try simp [nT]
        try all_goals (simp [Ty.dv, Ty.cells_eq, Ty.kind_mk, Ty.args_mk, Tm.dv, Tm.cells_eq, Tm.kind_mk, Tm.index_mk, Tm.type_mk, Tm.args_mk, Val.dv, Val.cells_eq, Val.kind_mk, Val.num_mk, Val.list_mk, Val.args_mk, ints])
      · rw [if_neg (by omega), if_neg (by omega), if_neg (by omega), if_neg (by omega)] at hR
        refine t_g (j2 @hz2 @h) ?_
        refine t_c1 trivial (ref02_n_ok 13 []) ?_
        repeat (first | refine W_seq ?_ | refine W_skip ?_ | refine W_block ?_ | refine W_inBlock ?_ | refine W_label ?_ | refine W_exit rfl ?_)
        first | refine W_retR hP hf hfn _ ([(b, deck l q)]) (by first | (simp [go_sem, hP, hgl, hn, nT]; done) | (simp [go_sem, hP, hgl, hn, nT]; rfl)) (by simp [go_sem, hP, hgl, hn, nT]) (by simp) ?_ hR.2 | refine W_endR hP hf hfn _ ([(b, deck l q)]) (by first | (simp [go_sem, hP, hgl, hn, nT]; done) | (simp [go_sem, hP, hgl, hn, nT]; rfl)) (by simp [go_sem, hP, hgl, hn, nT]) (by simp) ?_ hR.2
        rw [hR.1]
        refine ⟨?_, by simp [nT]⟩
        try simp [nT]
        try all_goals (simp [Ty.dv, Ty.cells_eq, Ty.kind_mk, Ty.args_mk, Tm.dv, Tm.cells_eq, Tm.kind_mk, Tm.index_mk, Tm.type_mk, Tm.args_mk, Val.dv, Val.cells_eq, Val.kind_mk, Val.num_mk, Val.list_mk, Val.args_mk, ints])
      · rw [if_neg (by omega), if_neg (by omega), if_pos h] at hR
        obtain ⟨s0, s1, hc⟩ := ht.arg (.inl h)
        have p0 := Ty.count_eq (t.arg 0)
        have p1 := Ty.count_eq (t.arg 1)
        have ha : t.args = [t.arg 0, t.arg 1] := by rw [e]; rfl
        obtain ⟨a1, -⟩ := leafD_facts closed_shape (t.arg 0) g q s0 hg hq
        refine t_g (j2 @hz2 @h) ?_
        refine t_c3 @ha (ih (t.arg 0) (by rw [ha]; simp) (z - 1) g q (by omega) (by omega) s0 hg (by omega) hq) (ih (t.arg 1) (by rw [ha]; simp) (z - 1) g (leafD l (t.arg 0) g q).2 (by omega) (by omega) s1 hg (by omega) a1) (ref02_n_ok 10 [(leafD l (t.arg 0) g q).1, (leafD l (t.arg 1) g (leafD l (t.arg 0) g q).2).1]) ?_
        repeat (first | refine W_seq ?_ | refine W_skip ?_ | refine W_block ?_ | refine W_inBlock ?_ | refine W_label ?_ | refine W_exit rfl ?_)
        first | refine W_retR hP hf hfn _ ([(b, deck l (leafD l (t.arg 1) g (leafD l (t.arg 0) g q).2).2)]) (by first | (simp [go_sem, hP, hgl, hn, nT]; done) | (simp [go_sem, hP, hgl, hn, nT]; rfl)) (by simp [go_sem, hP, hgl, hn, nT]) (by simp) ?_ hR.2 | refine W_endR hP hf hfn _ ([(b, deck l (leafD l (t.arg 1) g (leafD l (t.arg 0) g q).2).2)]) (by first | (simp [go_sem, hP, hgl, hn, nT]; done) | (simp [go_sem, hP, hgl, hn, nT]; rfl)) (by simp [go_sem, hP, hgl, hn, nT]) (by simp) ?_ hR.2
        rw [hR.1]
        refine ⟨?_, by simp [nT]⟩
        try simp [nT]
        try all_goals (simp [Ty.dv, Ty.cells_eq, Ty.kind_mk, Ty.args_mk, Tm.dv, Tm.cells_eq, Tm.kind_mk, Tm.index_mk, Tm.type_mk, Tm.args_mk, Val.dv, Val.cells_eq, Val.kind_mk, Val.num_mk, Val.list_mk, Val.args_mk, ints])
      · rw [if_neg (by omega), if_neg (by omega), if_neg (by omega), if_pos h] at hR
        obtain ⟨s0, s1, hc⟩ := ht.arg (.inr h)
        have p0 := Ty.count_eq (t.arg 0)
        have p1 := Ty.count_eq (t.arg 1)
        have ha : t.args = [t.arg 0, t.arg 1] := by rw [e]; rfl
        have hgs : ∀ x ∈ g ++ [t.arg 0], x.small := by intro x hx; rcases List.mem_append.1 hx with hx | hx; exact hg x hx; rw [List.mem_singleton.1 hx]; exact s0
        refine t_g (j2 @hz2 @h) ?_
        refine t_c3 @ha (mk_longer_ok g [t.arg 0] (by simp; omega)) (ih (t.arg 1) (by rw [ha]; simp) (z - 1) (g ++ [t.arg 0]) q (by omega) (by omega) s1 hgs (by simp; omega) hq) (ref02_t_ok 2 (t.arg 0) [(leafD l (t.arg 1) (g ++ [t.arg 0]) q).1]) ?_
        repeat (first | refine W_seq ?_ | refine W_skip ?_ | refine W_block ?_ | refine W_inBlock ?_ | refine W_label ?_ | refine W_exit rfl ?_)
        first | refine W_retR hP hf hfn _ ([(b, deck l (leafD l (t.arg 1) (g ++ [t.arg 0]) q).2)]) (by first | (simp [go_sem, hP, hgl, hn]; done) | (simp [go_sem, hP, hgl, hn]; rfl)) (by simp [go_sem, hP, hgl, hn]) (by simp) ?_ hR.2 | refine W_endR hP hf hfn _ ([(b, deck l (leafD l (t.arg 1) (g ++ [t.arg 0]) q).2)]) (by first | (simp [go_sem, hP, hgl, hn]; done) | (simp [go_sem, hP, hgl, hn]; rfl)) (by simp [go_sem, hP, hgl, hn]) (by simp) ?_ hR.2
        rw [hR.1]
        refine ⟨?_, by simp⟩
        try simp
        try all_goals (simp [Ty.dv, Ty.cells_eq, Ty.kind_mk, Ty.args_mk, Tm.dv, Tm.cells_eq, Tm.kind_mk, Tm.index_mk, Tm.type_mk, Tm.args_mk, Val.dv, Val.cells_eq, Val.kind_mk, Val.num_mk, Val.list_mk, Val.args_mk, ints])
  · rw [hpk] at hR
    simp only at hR
    obtain ⟨h0, h1, k, i, hk, hi, rfl, rfl⟩ := pickD_some' hpk
    have hpos : 0 < (varsN g t).length := by omega
    have hpos3 : 0 < (nextD l p 3).1 := by omega
    have hgi := ints_get (l := natI (varsN g t)) (i := k) (n := i) (by simp [natI, hi])
    have hkl := (List.getElem?_eq_some_iff.1 hi).1
    refine t_g0 ?_
    refine t_c1 trivial (mk_vars_ok g t (by omega)) ?_
    refine t_g0 ?_
    refine t_c1 (j2 @natI_len (j2 @hpos @hpos3)) (next_ok b l p 3 (by decide) (by omega)) ?_
    refine t_g @hpos3 ?_
    refine t_c2 (j2 @natI_len (j2 @hk @hgi)) (next_ok b l (nextD l p 3).2 (varsN g t).length (by omega) (by omega)) (ref02_var_ok i) ?_
    repeat (first | refine W_seq ?_ | refine W_skip ?_ | refine W_block ?_ | refine W_inBlock ?_ | refine W_label ?_ | refine W_exit rfl ?_)
    first | refine W_retR hP hf hfn _ ([(b, deck l (nextD l (nextD l p 3).2 (varsN g t).length).2)]) (by first | (simp [go_sem, hP, hgl, hn, vT]; done) | (simp [go_sem, hP, hgl, hn, vT]; rfl)) (by simp [go_sem, hP, hgl, hn, vT]) (by simp) ?_ hR.2 | refine W_endR hP hf hfn _ ([(b, deck l (nextD l (nextD l p 3).2 (varsN g t).length).2)]) (by first | (simp [go_sem, hP, hgl, hn, vT]; done) | (simp [go_sem, hP, hgl, hn, vT]; rfl)) (by simp [go_sem, hP, hgl, hn, vT]) (by simp) ?_ hR.2
    rw [hR.1]
    refine ⟨?_, by simp [vT]⟩
    try simp [vT]
    try all_goals (simp [Ty.dv, Ty.cells_eq, Ty.kind_mk, Ty.args_mk, Tm.dv, Tm.cells_eq, Tm.kind_mk, Tm.index_mk, Tm.type_mk, Tm.args_mk, Val.dv, Val.cells_eq, Val.kind_mk, Val.num_mk, Val.list_mk, Val.args_mk, ints])
end Go.Proofs.YtcldnfbcbkaanaaGreatDoor.Lift

