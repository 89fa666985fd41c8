import Derived.Test.YteoalfdaanlbjaaGreatDoorQb4
/-
  Plain facts: majorants as the program makes them: with an error where a node is too large.
-/
namespace Go.Proofs.YteoalfdaanlbjaaGreatDoor.Lift
set_option linter.unusedSimpArgs false
set_option linter.unusedVariables false
set_option linter.unnecessarySimpa false
open Go

abbrev natY : Ty := Ty.mk 1 []
abbrev zY : Ty := Ty.mk 0 []
/-- a node, or none if it is too large -/
def buildN (k : Int) (s : Ty) (l : List Tm) : Tm × Int := if 4096 < (Tm.mk k 0 s l).count then (zeroTm, 4) else (Tm.mk k 0 s l, 0)
def nodeE (e k : Int) (s : Ty) (l : List Tm) : Tm × Int := if e = 0 then buildN k s l else (zeroTm, e)
def callE (e : Int) (f : Tm) : List Tm → Tm × Int
  | [] => (f, e)
  | a :: r => callE (nodeE e 3 zY [f, a]).2 (nodeE e 3 zY [f, a]).1 r
def maxE (y : Ty) (a b : Tm) (e : Int) : Tm × Int :=
  match y with
  | .mk k ts =>
    if e = 0 then
      if k = 1 then callE 0 greatT [a, b]
      else match ts with
        | [s, t] =>
          if k = 3 then
            let p := nodeE 0 11 zY [a]
            let q := nodeE p.2 11 zY [b]
            let l := maxE s p.1 q.1 q.2
            let p' := nodeE l.2 12 zY [a]
            let q' := nodeE p'.2 12 zY [b]
            let r := maxE t p'.1 q'.1 q'.2
            nodeE r.2 10 zY [l.1, r.1]
          else if k = 4 then
            let p := callE 0 (a.upN 0 1) [vT 0]
            let q := callE p.2 (b.upN 0 1) [vT 0]
            let r := maxE t p.1 q.1 q.2
            nodeE r.2 2 s [r.1]
          else (nT 13 [], 0)
        | _ => (nT 13 [], 0)
    else (zeroTm, e)
termination_by SizeOf.sizeOf y
theorem maxE_eq (y : Ty) (hy : y.ok) (a b : Tm) (e : Int) : maxE y a b e =
    if e = 0 then
      if y.kind = 1 then callE 0 greatT [a, b]
      else if y.kind = 3 then
        let p := nodeE 0 11 zY [a]
        let q := nodeE p.2 11 zY [b]
        let l := maxE (y.arg 0) p.1 q.1 q.2
        let p' := nodeE l.2 12 zY [a]
        let q' := nodeE p'.2 12 zY [b]
        let r := maxE (y.arg 1) p'.1 q'.1 q'.2
        nodeE r.2 10 zY [l.1, r.1]
      else if y.kind = 4 then
        let p := callE 0 (a.upN 0 1) [vT 0]
        let q := callE p.2 (b.upN 0 1) [vT 0]
        let r := maxE (y.arg 1) p.1 q.1 q.2
        nodeE r.2 2 (y.arg 0) [r.1]
      else (nT 13 [], 0)
    else (zeroTm, e) := by
  rw [maxE.eq_def]
  cases y with
  | mk k ts =>
    simp only [Ty.kind]
    by_cases he : e = 0
    · simp only [he, if_true]
      by_cases h1 : k = 1
      · simp [h1]
      simp only [h1, if_false]
      by_cases h34 : k = 3 ∨ k = 4
      · obtain ⟨s, t, hq, -, -, e0, e1⟩ := Ty.ok_args hy h34
        simp only [Ty.args] at hq
        subst hq
        rw [e0, e1]
        rfl
      · have h3 : k ≠ 3 := fun e => h34 (.inl e)
        have h4 : k ≠ 4 := fun e => h34 (.inr e)
        simp only [h3, h4, if_false]
        match ts with
        | [s, t] => rfl
        | [] => rfl
        | [_] => rfl
        | _ :: _ :: _ :: _ => rfl
    · simp only [he, if_false]

def stepE (s : Ty) (next : Tm) (e : Int) : Tm × Int :=
  let b := maxE s (vT 0) next e
  let i := nodeE b.2 2 s [b.1]
  nodeE i.2 2 natY [i.1]
def majNodeE (k i : Int) (y : Ty) (a l : List Tm) : Tm × Int :=
  if k = 7 then (nT 4 [], 0)
  else if k = 8 then
    let p := nodeE 0 5 zY [l.getD 1 zeroTm]
    maxE natY (l.getD 0 zeroTm) p.1 p.2
  else if k = 2 then nodeE 0 2 (bareN y) l
  else if k = 6 then
    let c := callE 0 ((l.getD 1 zeroTm).upN 0 2) [vT 1, vT 0]
    let st := stepE (bareN y) c.1 c.2
    nodeE st.2 6 (bareN y) [l.getD 0 zeroTm, st.1, l.getD 2 zeroTm]
  else if k = 9 then
    let c := callE 0 ((l.getD 1 zeroTm).upN 0 3) [vT 2, vT 2, vT 0]
    let st := stepE (bareN y) c.1 c.2
    let r := nodeE st.2 6 (bareN y) [(l.getD 0 zeroTm).upN 0 1, st.1, vT 0]
    let la := nodeE r.2 2 natY [r.1]
    callE la.2 la.1 [l.getD 2 zeroTm]
  else if k = 1 then (Tm.mk k i y a, 0)
  else nodeE 0 k zY l
def majE : Tm → Tm × Int
  | .mk k i y a => if (majsE a).2 = 0 then majNodeE k i y a (majsE a).1 else (zeroTm, (majsE a).2)
where
  majsE : List Tm → List Tm × Int
    | [] => ([], 0)
    | x :: r => if (majE x).2 = 0 then if (majsE r).2 = 0 then ((majE x).1 :: (majsE r).1, 0) else ([], (majsE r).2) else ([], (majE x).2)
theorem majE_eq (t : Tm) : majE t = if (majE.majsE t.args).2 = 0 then majNodeE t.kind t.index t.type t.args (majE.majsE t.args).1 else (zeroTm, (majE.majsE t.args).2) := by
  cases t; rw [majE]; rfl

theorem build_ok {k : Int} {s : Ty} {l : List Tm} (h : (buildN k s l).2 = 0) : (buildN k s l).1 = Tm.mk k 0 s l ∧ (Tm.mk k 0 s l).count ≤ 4096 := by
  unfold buildN at h ⊢
  split at h
  · cases h
  · rename_i hc; rw [if_neg hc]; exact ⟨rfl, by omega⟩
theorem node_ok {e k : Int} {s : Ty} {l : List Tm} (h : (nodeE e k s l).2 = 0) : e = 0 ∧ (nodeE e k s l).1 = Tm.mk k 0 s l ∧ (Tm.mk k 0 s l).count ≤ 4096 := by
  unfold nodeE at h ⊢
  by_cases he : e = 0
  · rw [if_pos he] at h ⊢; exact ⟨he, build_ok h⟩
  · rw [if_neg he] at h; exact absurd h he
theorem call_ok : ∀ {l : List Tm} {e : Int} {f : Tm}, (callE e f l).2 = 0 → e = 0 ∧ (callE e f l).1 = appsT f l
  | [], e, f, h => ⟨h, rfl⟩
  | a :: r, e, f, h => by
    rw [callE] at h ⊢
    obtain ⟨h1, h2⟩ := call_ok h
    obtain ⟨k1, k2, -⟩ := node_ok h1
    refine ⟨k1, ?_⟩
    rw [h2, k2]
    rfl
theorem node_err (e k : Int) (s : Ty) (l : List Tm) (he : e = 0 ∨ e = 4) : (nodeE e k s l).2 = 0 ∨ (nodeE e k s l).2 = 4 := by
  unfold nodeE buildN
  split
  · split
    · exact .inr rfl
    · exact .inl rfl
  · exact he
theorem call_err : ∀ (l : List Tm) (e : Int) (f : Tm), e = 0 ∨ e = 4 → (callE e f l).2 = 0 ∨ (callE e f l).2 = 4
  | [], e, f, h => h
  | a :: r, e, f, h => by rw [callE]; exact call_err r _ _ (node_err _ _ _ _ h)
theorem no31 : ¬ (3 : Int) = 1 := by decide
theorem no41 : ¬ (4 : Int) = 1 := by decide
theorem no43 : ¬ (4 : Int) = 3 := by decide
theorem maxE_nat (x y : Tm) : maxE (T.ty .nat) x y 0 = callE 0 greatT [x, y] := by rw [maxE_eq _ (T.ok_ty nat_ok0)]; rfl
theorem maxE_list (x y : Tm) : maxE (T.ty .list) x y 0 = (nT 13 [], 0) := by rw [maxE_eq _ (T.ok_ty (a := .list) (by unfold T.ok; decide))]; rfl
theorem maxE_unit (x y : Tm) : maxE (T.ty .unit) x y 0 = (nT 13 [], 0) := by rw [maxE_eq _ (T.ok_ty (a := .unit) (by unfold T.ok; decide))]; rfl
theorem maxE_pair {s t : T} (ho : (T.pair s t).ok) (x y : Tm) : maxE (T.pair s t).ty x y 0 =
    (let p := nodeE 0 11 zY [x]
     let q := nodeE p.2 11 zY [y]
     let l := maxE s.ty p.1 q.1 q.2
     let p' := nodeE l.2 12 zY [x]
     let q' := nodeE p'.2 12 zY [y]
     let r := maxE t.ty p'.1 q'.1 q'.2
     nodeE r.2 10 zY [l.1, r.1]) := by
  rw [maxE_eq _ (T.ok_ty ho), if_pos rfl, if_neg (show ¬ (T.pair s t).ty.kind = 1 from no31), if_pos (show (T.pair s t).ty.kind = 3 from rfl)]
  rfl
theorem maxE_fn {s t : T} (ho : (T.fn s t).ok) (x y : Tm) : maxE (T.fn s t).ty x y 0 =
    (let p := callE 0 (x.upN 0 1) [vT 0]
     let q := callE p.2 (y.upN 0 1) [vT 0]
     let r := maxE t.ty p.1 q.1 q.2
     nodeE r.2 2 s.ty [r.1]) := by
  rw [maxE_eq _ (T.ok_ty ho), if_pos rfl, if_neg (show ¬ (T.fn s t).ty.kind = 1 from no41), if_neg (show ¬ (T.fn s t).ty.kind = 3 from no43), if_pos (show (T.fn s t).ty.kind = 4 from rfl)]
  rfl
theorem maxE_no {a : T} (ho : a.ok) {e : Int} (he : e ≠ 0) (x y : Tm) : maxE a.ty x y e = (zeroTm, e) := by rw [maxE_eq _ (T.ok_ty ho), if_neg he]

theorem max_err : ∀ (a : T) (x y : Tm) (e : Int), a.ok → e = 0 ∨ e = 4 → (maxE a.ty x y e).2 = 0 ∨ (maxE a.ty x y e).2 = 4
  | a, x, y, e, ho, he => by
    by_cases h0 : e = 0
    · subst h0
      cases a with
      | nat => rw [maxE_nat]; exact call_err _ _ _ (.inl rfl)
      | list => rw [maxE_list]; exact .inl rfl
      | unit => rw [maxE_unit]; exact .inl rfl
      | pair s t =>
        rw [maxE_pair ho]
        simp only [T.ok, T.size] at ho
        exact node_err _ _ _ _ (max_err t _ _ _ (by unfold T.ok; omega) (node_err _ _ _ _ (node_err _ _ _ _ (max_err s _ _ _ (by unfold T.ok; omega) (node_err _ _ _ _ (node_err _ _ _ _ (.inl rfl)))))))
      | fn s t =>
        rw [maxE_fn ho]
        simp only [T.ok, T.size] at ho
        exact node_err _ _ _ _ (max_err t _ _ _ (by unfold T.ok; omega) (call_err _ _ _ (call_err _ _ _ (.inl rfl))))
    · rw [maxE_no ho h0]; exact he
theorem maxE_ok : ∀ (a : T) {x y : Tm} {e : Int}, a.ok → (maxE a.ty x y e).2 = 0 → e = 0 ∧ (maxE a.ty x y e).1 = maxT a x y
  | a, x, y, e, ho, h => by
    by_cases h0 : e = 0
    · subst h0
      refine ⟨rfl, ?_⟩
      cases a with
      | nat => rw [maxE_nat] at h ⊢; exact (call_ok h).2
      | list => rw [maxE_list]; rfl
      | unit => rw [maxE_unit]; rfl
      | pair s t =>
        rw [maxE_pair ho] at h ⊢
        simp only [T.ok, T.size] at ho
        obtain ⟨e1, r1, -⟩ := node_ok h
        obtain ⟨e2, r2⟩ := maxE_ok t (by unfold T.ok; omega) e1
        obtain ⟨e3, r3, -⟩ := node_ok e2
        obtain ⟨e4, r4, -⟩ := node_ok e3
        obtain ⟨e5, r5⟩ := maxE_ok s (by unfold T.ok; omega) e4
        obtain ⟨e6, r6, -⟩ := node_ok e5
        obtain ⟨-, r7, -⟩ := node_ok e6
        refine r1.trans ?_
        rw [r5, r2, r3, r4, r6, r7]
        rfl
      | fn s t =>
        rw [maxE_fn ho] at h ⊢
        simp only [T.ok, T.size] at ho
        obtain ⟨e1, r1, -⟩ := node_ok h
        obtain ⟨e2, r2⟩ := maxE_ok t (by unfold T.ok; omega) e1
        obtain ⟨e3, r3⟩ := call_ok e2
        obtain ⟨-, r4⟩ := call_ok e3
        refine r1.trans ?_
        rw [r2, r3, r4]
        rfl
    · rw [maxE_no ho h0] at h; exact absurd h h0

theorem stepE_ok {s : T} {next : Tm} {e : Int} (ho : s.ok) (h : (stepE s.ty next e).2 = 0) : e = 0 ∧ (stepE s.ty next e).1 = stepY s.ty next := by
  unfold stepE at h ⊢
  obtain ⟨e1, r1, -⟩ := node_ok h
  obtain ⟨e2, r2, -⟩ := node_ok e1
  obtain ⟨e3, r3⟩ := maxE_ok s ho e2
  refine ⟨e3, r1.trans ?_⟩
  rw [r2, r3]
  unfold stepY
  rw [maxY_ty]
  try rfl
theorem step_err {s : T} {next : Tm} {e : Int} (ho : s.ok) (he : e = 0 ∨ e = 4) : (stepE s.ty next e).2 = 0 ∨ (stepE s.ty next e).2 = 4 := by
  unfold stepE
  exact node_err _ _ _ _ (node_err _ _ _ _ (max_err s _ _ _ ho he))

/-- without an error it is the majorant; there is no other error than that of size -/
theorem majE_dn {Γ : List T} {t : Tm} {a : T} {F : Env Γ → a.V} (h : Dn Γ t a F) : ((majE t).2 = 0 → (majE t).1 = majT t) ∧ ((majE t).2 = 0 ∨ (majE t).2 = 4) := by
  have one : ∀ {x : Tm}, (((majE x).2 = 0 → (majE x).1 = majT x) ∧ ((majE x).2 = 0 ∨ (majE x).2 = 4)) → ((majE.majsE [x]).2 = 0 → (majE.majsE [x]).1 = [majT x]) ∧ ((majE.majsE [x]).2 = 0 ∨ (majE.majsE [x]).2 = 4) := by
    intro x ⟨h1, h2⟩
    simp only [majE.majsE]
    rcases h2 with h2 | h2 <;> simp [h2, h1]
  have two : ∀ {x : Tm} {l : List Tm} {m : List Tm}, (((majE x).2 = 0 → (majE x).1 = majT x) ∧ ((majE x).2 = 0 ∨ (majE x).2 = 4)) → (((majE.majsE l).2 = 0 → (majE.majsE l).1 = m) ∧ ((majE.majsE l).2 = 0 ∨ (majE.majsE l).2 = 4)) → ((majE.majsE (x :: l)).2 = 0 → (majE.majsE (x :: l)).1 = majT x :: m) ∧ ((majE.majsE (x :: l)).2 = 0 ∨ (majE.majsE (x :: l)).2 = 4) := by
    intro x l m ⟨h1, h2⟩ ⟨k1, k2⟩
    simp only [majE.majsE]
    rcases h2 with h2 | h2
    · rcases k2 with k2 | k2 <;> simp [h2, k2, h1, k1]
    · simp [h2]
  have fin : ∀ {t : Tm} {m : List Tm}, (((majE.majsE t.args).2 = 0 → (majE.majsE t.args).1 = m) ∧ ((majE.majsE t.args).2 = 0 ∨ (majE.majsE t.args).2 = 4)) → ((majNodeE t.kind t.index t.type t.args m).2 = 0 → (majNodeE t.kind t.index t.type t.args m).1 = majT t) ∧ ((majNodeE t.kind t.index t.type t.args m).2 = 0 ∨ (majNodeE t.kind t.index t.type t.args m).2 = 4) → ((majE t).2 = 0 → (majE t).1 = majT t) ∧ ((majE t).2 = 0 ∨ (majE t).2 = 4) := by
    intro t m ⟨h1, h2⟩ h3
    rw [majE_eq]
    rcases h2 with h2 | h2
    · rw [if_pos h2, h1 h2]; exact h3
    · rw [if_neg (by rw [h2]; decide)]
      exact ⟨fun h => absurd (h2.symm.trans h) (by decide), .inr h2⟩
  induction h with
  | var h => exact fin (t := vT _) (m := []) ⟨fun _ => rfl, .inl rfl⟩ ⟨fun _ => by rw [majT_eq]; rfl, .inl rfl⟩
  | lam ha hb ih =>
    rename_i Γ a r b f
    refine fin (t := lamT a b) (one ih) ?_
    have e : majNodeE (lamT a b).kind (lamT a b).index (lamT a b).type (lamT a b).args [majT b] = nodeE 0 2 (bareN a.ty) [majT b] := rfl
    rw [e]
    exact ⟨fun h => by rw [(node_ok h).2.1, majT_eq (lamT a b)]; rfl, node_err _ _ _ _ (.inl rfl)⟩
  | app hf hx ihf ihx =>
    rename_i Γ a b f x F X
    refine fin (t := nT 3 [f, x]) (two ihf (one ihx)) ?_
    have e : majNodeE (nT 3 [f, x]).kind (nT 3 [f, x]).index (nT 3 [f, x]).type (nT 3 [f, x]).args [majT f, majT x] = nodeE 0 3 zY [majT f, majT x] := rfl
    rw [e]
    exact ⟨fun h => by rw [(node_ok h).2.1, majT_eq (nT 3 [f, x])]; rfl, node_err _ _ _ _ (.inl rfl)⟩
  | zero =>
    refine fin (t := nT 4 []) (m := []) ⟨fun _ => rfl, .inl rfl⟩ ?_
    have e : majNodeE (nT 4 []).kind (nT 4 []).index (nT 4 []).type (nT 4 []).args [] = nodeE 0 4 zY [] := rfl
    rw [e]
    exact ⟨fun h => by rw [(node_ok h).2.1, majT_eq (nT 4 [])]; rfl, node_err _ _ _ _ (.inl rfl)⟩
  | succ hx ih =>
    rename_i Γ x X
    refine fin (t := nT 5 [x]) (one ih) ?_
    have e : majNodeE (nT 5 [x]).kind (nT 5 [x]).index (nT 5 [x]).type (nT 5 [x]).args [majT x] = nodeE 0 5 zY [majT x] := rfl
    rw [e]
    exact ⟨fun h => by rw [(node_ok h).2.1, majT_eq (nT 5 [x])]; rfl, node_err _ _ _ _ (.inl rfl)⟩
  | rc ha hb hf hn ihb ihf ihn =>
    rename_i Γ a b f n B F N
    refine fin (t := Tm.mk 6 0 a.ty [b, f, n]) (two ihb (two ihf (one ihn))) ?_
    have e : majNodeE 6 0 a.ty [b, f, n] [majT b, majT f, majT n] = nodeE (stepE (bareN a.ty) (callE 0 ((majT f).upN 0 2) [vT 1, vT 0]).1 (callE 0 ((majT f).upN 0 2) [vT 1, vT 0]).2).2 6 (bareN a.ty) [majT b, (stepE (bareN a.ty) (callE 0 ((majT f).upN 0 2) [vT 1, vT 0]).1 (callE 0 ((majT f).upN 0 2) [vT 1, vT 0]).2).1, majT n] := rfl
    show ((majNodeE 6 0 a.ty [b, f, n] [majT b, majT f, majT n]).2 = 0 → (majNodeE 6 0 a.ty [b, f, n] [majT b, majT f, majT n]).1 = majT (Tm.mk 6 0 a.ty [b, f, n])) ∧ ((majNodeE 6 0 a.ty [b, f, n] [majT b, majT f, majT n]).2 = 0 ∨ (majNodeE 6 0 a.ty [b, f, n] [majT b, majT f, majT n]).2 = 4)
    rw [e, ← maj_ty]
    refine ⟨fun h => ?_, node_err _ _ _ _ (step_err (maj_ok ha) (call_err _ _ _ (.inl rfl)))⟩
    obtain ⟨e1, r1, -⟩ := node_ok h
    obtain ⟨e2, r2⟩ := stepE_ok (maj_ok ha) e1
    obtain ⟨-, r3⟩ := call_ok e2
    rw [r1, r2, r3, majT_eq (Tm.mk 6 0 a.ty [b, f, n]), maj_ty]
    rfl
  | nil => exact fin (t := nT 7 []) (m := []) ⟨fun _ => rfl, .inl rfl⟩ ⟨fun _ => by rw [majT_eq]; rfl, .inl rfl⟩
  | cons hx hl ihx ihl =>
    rename_i Γ x l X L
    refine fin (t := nT 8 [x, l]) (two ihx (one ihl)) ?_
    have e : majNodeE (nT 8 [x, l]).kind (nT 8 [x, l]).index (nT 8 [x, l]).type (nT 8 [x, l]).args [majT x, majT l] = maxE (T.ty .nat) (majT x) (nodeE 0 5 zY [majT l]).1 (nodeE 0 5 zY [majT l]).2 := rfl
    rw [e]
    refine ⟨fun h => ?_, max_err .nat _ _ _ nat_ok0 (node_err _ _ _ _ (.inl rfl))⟩
    obtain ⟨e1, r1⟩ := maxE_ok .nat nat_ok0 h
    obtain ⟨-, r2, -⟩ := node_ok e1
    rw [r1, r2, majT_eq (nT 8 [x, l])]
    show _ = maxY (T.ty .nat) (majT x) (nT 5 [majT l])
    rw [maxY_ty]
    rfl
  | fold ha hb hf hn ihb ihf ihn =>
    rename_i Γ a b f n B F N
    refine fin (t := Tm.mk 9 0 a.ty [b, f, n]) (two ihb (two ihf (one ihn))) ?_
    have e : majNodeE 9 0 a.ty [b, f, n] [majT b, majT f, majT n] =
      (let c := callE 0 ((majT f).upN 0 3) [vT 2, vT 2, vT 0]
       let st := stepE (bareN a.ty) c.1 c.2
       let r := nodeE st.2 6 (bareN a.ty) [(majT b).upN 0 1, st.1, vT 0]
       let la := nodeE r.2 2 natY [r.1]
       callE la.2 la.1 [majT n]) := rfl
    show ((majNodeE 9 0 a.ty [b, f, n] [majT b, majT f, majT n]).2 = 0 → (majNodeE 9 0 a.ty [b, f, n] [majT b, majT f, majT n]).1 = majT (Tm.mk 9 0 a.ty [b, f, n])) ∧ ((majNodeE 9 0 a.ty [b, f, n] [majT b, majT f, majT n]).2 = 0 ∨ (majNodeE 9 0 a.ty [b, f, n] [majT b, majT f, majT n]).2 = 4)
    rw [e, ← maj_ty]
    refine ⟨fun h => ?_, call_err _ _ _ (node_err _ _ _ _ (node_err _ _ _ _ (step_err (maj_ok ha) (call_err _ _ _ (.inl rfl)))))⟩
    obtain ⟨e1, r1⟩ := call_ok h
    obtain ⟨e2, r2, -⟩ := node_ok e1
    obtain ⟨e3, r3, -⟩ := node_ok e2
    obtain ⟨e4, r4⟩ := stepE_ok (maj_ok ha) e3
    obtain ⟨-, r5⟩ := call_ok e4
    refine r1.trans ?_
    rw [r2, r3, r4, r5, majT_eq (Tm.mk 9 0 a.ty [b, f, n]), maj_ty]
    rfl
  | pair hx hy ihx ihy =>
    rename_i Γ a b x y X Y
    refine fin (t := nT 10 [x, y]) (two ihx (one ihy)) ?_
    have e : majNodeE (nT 10 [x, y]).kind (nT 10 [x, y]).index (nT 10 [x, y]).type (nT 10 [x, y]).args [majT x, majT y] = nodeE 0 10 zY [majT x, majT y] := rfl
    rw [e]
    exact ⟨fun h => by rw [(node_ok h).2.1, majT_eq (nT 10 [x, y])]; rfl, node_err _ _ _ _ (.inl rfl)⟩
  | fst hx ih =>
    rename_i Γ a b x X
    refine fin (t := nT 11 [x]) (one ih) ?_
    have e : majNodeE (nT 11 [x]).kind (nT 11 [x]).index (nT 11 [x]).type (nT 11 [x]).args [majT x] = nodeE 0 11 zY [majT x] := rfl
    rw [e]
    exact ⟨fun h => by rw [(node_ok h).2.1, majT_eq (nT 11 [x])]; rfl, node_err _ _ _ _ (.inl rfl)⟩
  | snd hx ih =>
    rename_i Γ a b x X
    refine fin (t := nT 12 [x]) (one ih) ?_
    have e : majNodeE (nT 12 [x]).kind (nT 12 [x]).index (nT 12 [x]).type (nT 12 [x]).args [majT x] = nodeE 0 12 zY [majT x] := rfl
    rw [e]
    exact ⟨fun h => by rw [(node_ok h).2.1, majT_eq (nT 12 [x])]; rfl, node_err _ _ _ _ (.inl rfl)⟩
  | unit =>
    refine fin (t := nT 13 []) (m := []) ⟨fun _ => rfl, .inl rfl⟩ ?_
    have e : majNodeE (nT 13 []).kind (nT 13 []).index (nT 13 []).type (nT 13 []).args [] = nodeE 0 13 zY [] := rfl
    rw [e]
    exact ⟨fun h => by rw [(node_ok h).2.1, majT_eq (nT 13 [])]; rfl, node_err _ _ _ _ (.inl rfl)⟩
end Go.Proofs.YteoalfdaanlbjaaGreatDoor.Lift

namespace Go.Proofs.YteoalfdaanlbjaaGreatDoor.Lift
set_option linter.unusedSimpArgs false
set_option linter.unusedVariables false
set_option linter.unnecessarySimpa false
open Go
variable {gl : Globs}

theorem numeral_ok (n : Nat) : Con1 Tryz.prog gl 146 [dint n] [] (numTm n).dv [] := by
  refine t_in Tryz.func146 ?_
  intro X hP hgl hf hfn hn hR hids hfit
  have hn1 : intOK .i64 n := hfit (dint n) (by simp)
  rw [intOK_i64] at hn1
  refine t_g0 ?_
  refine t_c1 trivial (ref02_n_ok 4 []) ?_
  refine t_a ?_
  refine W_sub [] (by simp [go_sem]) (by simp [go_sem, numTm] <;> omega) (by simp [go_sem]) (W_rounds (fun x : Nat => x ≤ n) (fun x : Nat => [(.slot 0, .one (.v (dint x))), (.loc 3, .row ((numTm (n - x)).cells.map .v)), (.slot 3, .one (.loc 3 0)), (.loc 2, .row ([.v (dint 0), .v (dint 0), .v (dint 0), .own 0 [], .own 0 []])), (.slot 2, .one (.loc 2 0))]) (fun x : Nat => x) n (Nat.le_refl n) ?_)
  intro x hx ih
  cases x with
  | zero =>
    refine t_rg0 ?_
    refine t_no ?_
    refine t_g0 ?_
    refine t_r ?_
    simp [go_sem, hP, hgl, hn] <;> (try omega)
  | succ x =>
    have hs : n - x = (n - (x + 1)) + 1 := by omega
    refine t_rg0 ?_
    refine t_yes ?_
    refine t_rg0 ?_
    refine t_rg0 ?_
    repeat (first | refine W_inBlock ?_ | refine W_skip ?_ | refine W_label ?_ | refine W_exit rfl ?_)
    refine W_sub [] (by simp [go_sem]) (by simp [go_sem, hs, numTm] <;> omega) (by simp [go_sem]) (ih x (by omega) (by omega))

theorem ref05_number_ok (n : Nat) (hn4 : n < 4096) : Con1 Tryz.prog gl 112 [dint n] [] (.tup [(numTm n).dv, dint 0]) [] := by
  refine t_in Tryz.func112 ?_
  intro X hP hgl hf hfn hn hR hids hfit
  have h1 : ¬ (n : Int) < 0 := by omega
  have h2 : ¬ (4096 : Int) ≤ n := by omega
  refine t_g (j2 @h1 @h2) ?_
  refine t_c1 trivial (numeral_ok n) ?_
  refine t_r ?_
  simp [go_sem, hP, hgl, hn] <;> (try omega)

theorem mk_num_ok (n : Nat) (hn4 : n < 4096) : Con1 Tryz.prog gl 44 [dint n] [] (numTm n).dv [] := by
  refine t_in Tryz.func44 ?_
  intro X hP hgl hf hfn hn hR hids hfit
  refine t_g0 ?_
  refine t_c1 trivial (ref05_number_ok n hn4) ?_
  refine t_g0 ?_
  refine t_r ?_
  simp [go_sem, hP, hgl, hn] <;> (try omega)
  all_goals exact t_f

theorem lam5_ok (t : Tm) : Con1 Tryz.prog gl 126 [t.dv] [] (Tm.mk 2 0 (Ty.mk 1 []) [t]).dv [] := by
  refine t_in Tryz.func126 ?_
  intro X hP hgl hf hfn hn hR hids hfit
  refine t_g0 ?_
  refine t_c2 @nat_v ref01_nat_ok (ref02_t_ok 2 (Ty.mk 1 []) [t]) ?_
  refine t_r ?_
  simp [go_sem, hP, hgl, hn] <;> (try omega)
  all_goals exact t_f
theorem rec5_ok (a b c : Tm) : Con1 Tryz.prog gl 127 [a.dv, b.dv, c.dv] [] (Tm.mk 6 0 (Ty.mk 1 []) [a, b, c]).dv [] := by
  refine t_in Tryz.func127 ?_
  intro X hP hgl hf hfn hn hR hids hfit
  refine t_g0 ?_
  refine t_c2 @nat_v ref01_nat_ok (ref02_t_ok 6 (Ty.mk 1 []) [a, b, c]) ?_
  refine t_r ?_
  simp [go_sem, hP, hgl, hn] <;> (try omega)
  all_goals exact t_f
def lamN (t : Tm) : Tm := Tm.mk 2 0 (Ty.mk 1 []) [t]
def recN (a b c : Tm) : Tm := Tm.mk 6 0 (Ty.mk 1 []) [a, b, c]
theorem lam5' (t : Tm) : Con1 Tryz.prog gl 126 [t.dv] [] (lamN t).dv [] := lam5_ok t
theorem rec5' (a b c : Tm) : Con1 Tryz.prog gl 127 [a.dv, b.dv, c.dv] [] (recN a b c).dv [] := rec5_ok a b c
theorem var5 (i : Int) : Con1 Tryz.prog gl 68 [dint i] [] (vT i).dv [] := ref02_var_ok i
theorem n5 (k : Int) (l : List Tm) : Con1 Tryz.prog gl 69 [dint k, .sl (l.map Tm.cells)] [] (nT k l).dv [] := ref02_n_ok k l

theorem pred_eq : lamN (recN (nT 4 []) (lamN (lamN (vT 1))) (vT 0)) = predT := rfl
theorem plus_eq : lamN (lamN (recN (vT 1) (lamN (lamN (nT 5 [vT 0]))) (vT 0))) = plusT := rfl
theorem sub_eq : lamN (lamN (recN (vT 1) (lamN (lamN (nT 3 [predT, vT 0]))) (vT 0))) = subT := rfl
theorem ref05_pred_ok : Con1 Tryz.prog gl 128 [] [] predT.dv [] := by
  refine t_in Tryz.func128 ?_
  intro X hP hgl hf hfn hn hR hids hfit
  refine t_g0 ?_
  refine t_c7 trivial (n5 4 []) (var5 1) (lam5' (vT 1)) (lam5' (lamN (vT 1))) (var5 0) (rec5' (nT 4 []) (lamN (lamN (vT 1))) (vT 0)) (lam5' (recN (nT 4 []) (lamN (lamN (vT 1))) (vT 0))) ?_
  refine t_r ?_
  simp [go_sem, hP, hgl, hn, pred_eq] <;> (try omega)
theorem ref05_plus_ok : Con1 Tryz.prog gl 73 [] [] plusT.dv [] := by
  refine t_in Tryz.func73 ?_
  intro X hP hgl hf hfn hn hR hids hfit
  refine t_g0 ?_
  refine t_c9 trivial (var5 1) (var5 0) (n5 5 [vT 0]) (lam5' (nT 5 [vT 0])) (lam5' (lamN (nT 5 [vT 0]))) (var5 0) (rec5' (vT 1) (lamN (lamN (nT 5 [vT 0]))) (vT 0)) (lam5' (recN (vT 1) (lamN (lamN (nT 5 [vT 0]))) (vT 0))) (lam5' (lamN (recN (vT 1) (lamN (lamN (nT 5 [vT 0]))) (vT 0)))) ?_
  refine t_r ?_
  simp [go_sem, hP, hgl, hn, plus_eq] <;> (try omega)
theorem ref05_sub_ok : Con1 Tryz.prog gl 74 [] [] subT.dv [] := by
  refine t_in Tryz.func74 ?_
  intro X hP hgl hf hfn hn hR hids hfit
  refine t_g0 ?_
  refine t_c10 trivial (var5 1) ref05_pred_ok (var5 0) (n5 3 [predT, vT 0]) (lam5' (nT 3 [predT, vT 0])) (lam5' (lamN (nT 3 [predT, vT 0]))) (var5 0) (rec5' (vT 1) (lamN (lamN (nT 3 [predT, vT 0]))) (vT 0)) (lam5' (recN (vT 1) (lamN (lamN (nT 3 [predT, vT 0]))) (vT 0))) (lam5' (lamN (recN (vT 1) (lamN (lamN (nT 3 [predT, vT 0]))) (vT 0)))) ?_
  refine t_r ?_
  simp [go_sem, hP, hgl, hn, sub_eq] <;> (try omega)
end Go.Proofs.YteoalfdaanlbjaaGreatDoor.Lift

namespace Go.Proofs.YteoalfdaanlbjaaGreatDoor.Lift
set_option linter.unusedSimpArgs false
set_option linter.unusedVariables false
set_option linter.unnecessarySimpa false
open Go
variable {gl : Globs}

theorem mk_type_ok (n : Nat) (b : Nat) (l : List Int) (p : Nat) (hl : l.length ≤ 500) (hp : p ≤ l.length) (hn3 : n ≤ 3) :
    Con1 Tryz.prog gl 14 [ptr b, dint n] [(b, deck l p)] (typeD l n p).1.dv [(b, deck l (typeD l n p).2)] := by
  induction n generalizing p with
  | zero =>
    refine t_in Tryz.func14 ?_
    intro X hP hgl hf hfn hn hR hids hfit
    rw [typeD] at hR
    have hkb := nextD_bd (l := l) (p := p) (n := 7) (by decide)
    refine t_g0 ?_
    refine t_c1 trivial (next_ok b l p 7 (by decide) (by omega)) ?_
    generalize hd : nextD l p 7 = d at *
    obtain ⟨k, q⟩ := d
    simp only at hkb hR
    by_cases h3 : k = 3
    · refine t_g @h3 ?_
      refine t_c1 trivial ref01_list_ok ?_
      repeat (first | refine W_seq ?_ | refine W_skip ?_ | refine W_block ?_ | refine W_inBlock ?_ | refine W_label ?_ | refine W_exit rfl ?_)
      first | refine W_retR hP hf hfn _ ([(b, deck l q)]) (by first | (simp [go_sem, hP, hgl, hn, h3]; done) | (simp [go_sem, hP, hgl, hn, h3]; rfl)) (by simp [go_sem, hP, hgl, hn, h3]) (by simp) ?_ hR.2 | refine W_endR hP hf hfn _ ([(b, deck l q)]) (by first | (simp [go_sem, hP, hgl, hn, h3]; done) | (simp [go_sem, hP, hgl, hn, h3]; rfl)) (by simp [go_sem, hP, hgl, hn, h3]) (by simp) ?_ hR.2
      rw [hR.1]
      refine ⟨?_, by simp [h3]⟩
      try simp [h3]
      try all_goals (simp [Ty.dv, Ty.cells_eq, Ty.kind_mk, Ty.args_mk, Tm.dv, Tm.cells_eq, Tm.kind_mk, Tm.index_mk, Tm.type_mk, Tm.args_mk, Val.dv, Val.cells_eq, Val.kind_mk, Val.num_mk, Val.list_mk, Val.args_mk, ints])
    by_cases h4 : k = 4
    · refine t_g @h4 ?_
      refine t_c1 trivial ref01_unit_ok ?_
      repeat (first | refine W_seq ?_ | refine W_skip ?_ | refine W_block ?_ | refine W_inBlock ?_ | refine W_label ?_ | refine W_exit rfl ?_)
      first | refine W_retR hP hf hfn _ ([(b, deck l q)]) (by first | (simp [go_sem, hP, hgl, hn, h4]; done) | (simp [go_sem, hP, hgl, hn, h4]; rfl)) (by simp [go_sem, hP, hgl, hn, h4]) (by simp) ?_ hR.2 | refine W_endR hP hf hfn _ ([(b, deck l q)]) (by first | (simp [go_sem, hP, hgl, hn, h4]; done) | (simp [go_sem, hP, hgl, hn, h4]; rfl)) (by simp [go_sem, hP, hgl, hn, h4]) (by simp) ?_ hR.2
      rw [hR.1]
      refine ⟨?_, by simp [h4]⟩
      try simp [h4]
      try all_goals (simp [Ty.dv, Ty.cells_eq, Ty.kind_mk, Ty.args_mk, Tm.dv, Tm.cells_eq, Tm.kind_mk, Tm.index_mk, Tm.type_mk, Tm.args_mk, Val.dv, Val.cells_eq, Val.kind_mk, Val.num_mk, Val.list_mk, Val.args_mk, ints])
    by_cases h0 : k = 0
    · refine t_g @h0 ?_
      refine t_c1 trivial ref01_nat_ok ?_
      repeat (first | refine W_seq ?_ | refine W_skip ?_ | refine W_block ?_ | refine W_inBlock ?_ | refine W_label ?_ | refine W_exit rfl ?_)
      first | refine W_retR hP hf hfn _ ([(b, deck l q)]) (by first | (simp [go_sem, hP, hgl, hn, h0]; done) | (simp [go_sem, hP, hgl, hn, h0]; rfl)) (by simp [go_sem, hP, hgl, hn, h0]) (by simp) ?_ hR.2 | refine W_endR hP hf hfn _ ([(b, deck l q)]) (by first | (simp [go_sem, hP, hgl, hn, h0]; done) | (simp [go_sem, hP, hgl, hn, h0]; rfl)) (by simp [go_sem, hP, hgl, hn, h0]) (by simp) ?_ hR.2
      rw [hR.1]
      refine ⟨?_, by simp [h0]⟩
      try simp [h0]
      try all_goals (simp [Ty.dv, Ty.cells_eq, Ty.kind_mk, Ty.args_mk, Tm.dv, Tm.cells_eq, Tm.kind_mk, Tm.index_mk, Tm.type_mk, Tm.args_mk, Val.dv, Val.cells_eq, Val.kind_mk, Val.num_mk, Val.list_mk, Val.args_mk, ints])
    by_cases h1 : k = 1
    · refine t_g @h1 ?_
      refine t_c1 trivial ref01_nat_ok ?_
      repeat (first | refine W_seq ?_ | refine W_skip ?_ | refine W_block ?_ | refine W_inBlock ?_ | refine W_label ?_ | refine W_exit rfl ?_)
      first | refine W_retR hP hf hfn _ ([(b, deck l q)]) (by first | (simp [go_sem, hP, hgl, hn, h1]; done) | (simp [go_sem, hP, hgl, hn, h1]; rfl)) (by simp [go_sem, hP, hgl, hn, h1]) (by simp) ?_ hR.2 | refine W_endR hP hf hfn _ ([(b, deck l q)]) (by first | (simp [go_sem, hP, hgl, hn, h1]; done) | (simp [go_sem, hP, hgl, hn, h1]; rfl)) (by simp [go_sem, hP, hgl, hn, h1]) (by simp) ?_ hR.2
      rw [hR.1]
      refine ⟨?_, by simp [h1]⟩
      try simp [h1]
      try all_goals (simp [Ty.dv, Ty.cells_eq, Ty.kind_mk, Ty.args_mk, Tm.dv, Tm.cells_eq, Tm.kind_mk, Tm.index_mk, Tm.type_mk, Tm.args_mk, Val.dv, Val.cells_eq, Val.kind_mk, Val.num_mk, Val.list_mk, Val.args_mk, ints])
    by_cases h2 : k = 2
    · refine t_g @h2 ?_
      refine t_c1 trivial ref01_nat_ok ?_
      repeat (first | refine W_seq ?_ | refine W_skip ?_ | refine W_block ?_ | refine W_inBlock ?_ | refine W_label ?_ | refine W_exit rfl ?_)
      first | refine W_retR hP hf hfn _ ([(b, deck l q)]) (by first | (simp [go_sem, hP, hgl, hn, h2]; done) | (simp [go_sem, hP, hgl, hn, h2]; rfl)) (by simp [go_sem, hP, hgl, hn, h2]) (by simp) ?_ hR.2 | refine W_endR hP hf hfn _ ([(b, deck l q)]) (by first | (simp [go_sem, hP, hgl, hn, h2]; done) | (simp [go_sem, hP, hgl, hn, h2]; rfl)) (by simp [go_sem, hP, hgl, hn, h2]) (by simp) ?_ hR.2
      rw [hR.1]
      refine ⟨?_, by simp [h2]⟩
      try simp [h2]
      try all_goals (simp [Ty.dv, Ty.cells_eq, Ty.kind_mk, Ty.args_mk, Tm.dv, Tm.cells_eq, Tm.kind_mk, Tm.index_mk, Tm.type_mk, Tm.args_mk, Val.dv, Val.cells_eq, Val.kind_mk, Val.num_mk, Val.list_mk, Val.args_mk, ints])
    by_cases h5 : k = 5
    · refine t_g @h5 ?_
      refine t_c1 trivial ref01_nat_ok ?_
      repeat (first | refine W_seq ?_ | refine W_skip ?_ | refine W_block ?_ | refine W_inBlock ?_ | refine W_label ?_ | refine W_exit rfl ?_)
      first | refine W_retR hP hf hfn _ ([(b, deck l q)]) (by first | (simp [go_sem, hP, hgl, hn, h5]; done) | (simp [go_sem, hP, hgl, hn, h5]; rfl)) (by simp [go_sem, hP, hgl, hn, h5]) (by simp) ?_ hR.2 | refine W_endR hP hf hfn _ ([(b, deck l q)]) (by first | (simp [go_sem, hP, hgl, hn, h5]; done) | (simp [go_sem, hP, hgl, hn, h5]; rfl)) (by simp [go_sem, hP, hgl, hn, h5]) (by simp) ?_ hR.2
      rw [hR.1]
      refine ⟨?_, by simp [h5]⟩
      try simp [h5]
      try all_goals (simp [Ty.dv, Ty.cells_eq, Ty.kind_mk, Ty.args_mk, Tm.dv, Tm.cells_eq, Tm.kind_mk, Tm.index_mk, Tm.type_mk, Tm.args_mk, Val.dv, Val.cells_eq, Val.kind_mk, Val.num_mk, Val.list_mk, Val.args_mk, ints])
    have h6 : k = 6 := by omega
    refine t_g @h6 ?_
    refine t_c1 trivial ref01_nat_ok ?_
    repeat (first | refine W_seq ?_ | refine W_skip ?_ | refine W_block ?_ | refine W_inBlock ?_ | refine W_label ?_ | refine W_exit rfl ?_)
    first | refine W_retR hP hf hfn _ ([(b, deck l q)]) (by first | (simp [go_sem, hP, hgl, hn, h6]; done) | (simp [go_sem, hP, hgl, hn, h6]; rfl)) (by simp [go_sem, hP, hgl, hn, h6]) (by simp) ?_ hR.2 | refine W_endR hP hf hfn _ ([(b, deck l q)]) (by first | (simp [go_sem, hP, hgl, hn, h6]; done) | (simp [go_sem, hP, hgl, hn, h6]; rfl)) (by simp [go_sem, hP, hgl, hn, h6]) (by simp) ?_ hR.2
    rw [hR.1]
    refine ⟨?_, by simp [h6]⟩
    try simp [h6]
    try all_goals (simp [Ty.dv, Ty.cells_eq, Ty.kind_mk, Ty.args_mk, Tm.dv, Tm.cells_eq, Tm.kind_mk, Tm.index_mk, Tm.type_mk, Tm.args_mk, Val.dv, Val.cells_eq, Val.kind_mk, Val.num_mk, Val.list_mk, Val.args_mk, ints])
  | succ n ih =>
    refine t_in Tryz.func14 ?_
    intro X hP hgl hf hfn hn hR hids hfit
    rw [typeD] at hR
    have hkb := nextD_bd (l := l) (p := p) (n := 7) (by decide)
    have hq := nextD_le (n := 7) hp
    refine t_g0 ?_
    refine t_c1 trivial (next_ok b l p 7 (by decide) (by omega)) ?_
    generalize hd : nextD l p 7 = d at *
    obtain ⟨k, q⟩ := d
    simp only at hkb hR hq
    have hpos : (0 : Int) < ((n + 1 : Nat) : Int) := by omega
    have hsub : ((n + 1 : Nat) : Int) - 1 = (n : Int) := by omega
    obtain ⟨a1, -⟩ := typeD_facts l n q hq
    by_cases h3 : k = 3
    · refine t_g @h3 ?_
      refine t_c1 trivial ref01_list_ok ?_
      repeat (first | refine W_seq ?_ | refine W_skip ?_ | refine W_block ?_ | refine W_inBlock ?_ | refine W_label ?_ | refine W_exit rfl ?_)
      first | refine W_retR hP hf hfn _ ([(b, deck l q)]) (by first | (simp [go_sem, hP, hgl, hn, h3]; done) | (simp [go_sem, hP, hgl, hn, h3]; rfl)) (by simp [go_sem, hP, hgl, hn, h3]) (by simp) ?_ hR.2 | refine W_endR hP hf hfn _ ([(b, deck l q)]) (by first | (simp [go_sem, hP, hgl, hn, h3]; done) | (simp [go_sem, hP, hgl, hn, h3]; rfl)) (by simp [go_sem, hP, hgl, hn, h3]) (by simp) ?_ hR.2
      rw [hR.1]
      refine ⟨?_, by simp [h3]⟩
      try simp [h3]
      try all_goals (simp [Ty.dv, Ty.cells_eq, Ty.kind_mk, Ty.args_mk, Tm.dv, Tm.cells_eq, Tm.kind_mk, Tm.index_mk, Tm.type_mk, Tm.args_mk, Val.dv, Val.cells_eq, Val.kind_mk, Val.num_mk, Val.list_mk, Val.args_mk, ints])
    by_cases h4 : k = 4
    · refine t_g @h4 ?_
      refine t_c1 trivial ref01_unit_ok ?_
      repeat (first | refine W_seq ?_ | refine W_skip ?_ | refine W_block ?_ | refine W_inBlock ?_ | refine W_label ?_ | refine W_exit rfl ?_)
      first | refine W_retR hP hf hfn _ ([(b, deck l q)]) (by first | (simp [go_sem, hP, hgl, hn, h4]; done) | (simp [go_sem, hP, hgl, hn, h4]; rfl)) (by simp [go_sem, hP, hgl, hn, h4]) (by simp) ?_ hR.2 | refine W_endR hP hf hfn _ ([(b, deck l q)]) (by first | (simp [go_sem, hP, hgl, hn, h4]; done) | (simp [go_sem, hP, hgl, hn, h4]; rfl)) (by simp [go_sem, hP, hgl, hn, h4]) (by simp) ?_ hR.2
      rw [hR.1]
      refine ⟨?_, by simp [h4]⟩
      try simp [h4]
      try all_goals (simp [Ty.dv, Ty.cells_eq, Ty.kind_mk, Ty.args_mk, Tm.dv, Tm.cells_eq, Tm.kind_mk, Tm.index_mk, Tm.type_mk, Tm.args_mk, Val.dv, Val.cells_eq, Val.kind_mk, Val.num_mk, Val.list_mk, Val.args_mk, ints])
    by_cases h0 : k = 0
    · refine t_g @h0 ?_
      refine t_c1 trivial ref01_nat_ok ?_
      repeat (first | refine W_seq ?_ | refine W_skip ?_ | refine W_block ?_ | refine W_inBlock ?_ | refine W_label ?_ | refine W_exit rfl ?_)
      first | refine W_retR hP hf hfn _ ([(b, deck l q)]) (by first | (simp [go_sem, hP, hgl, hn, h0]; done) | (simp [go_sem, hP, hgl, hn, h0]; rfl)) (by simp [go_sem, hP, hgl, hn, h0]) (by simp) ?_ hR.2 | refine W_endR hP hf hfn _ ([(b, deck l q)]) (by first | (simp [go_sem, hP, hgl, hn, h0]; done) | (simp [go_sem, hP, hgl, hn, h0]; rfl)) (by simp [go_sem, hP, hgl, hn, h0]) (by simp) ?_ hR.2
      rw [hR.1]
      refine ⟨?_, by simp [h0]⟩
      try simp [h0]
      try all_goals (simp [Ty.dv, Ty.cells_eq, Ty.kind_mk, Ty.args_mk, Tm.dv, Tm.cells_eq, Tm.kind_mk, Tm.index_mk, Tm.type_mk, Tm.args_mk, Val.dv, Val.cells_eq, Val.kind_mk, Val.num_mk, Val.list_mk, Val.args_mk, ints])
    by_cases h1 : k = 1
    · refine t_g @h1 ?_
      refine t_c1 trivial ref01_nat_ok ?_
      repeat (first | refine W_seq ?_ | refine W_skip ?_ | refine W_block ?_ | refine W_inBlock ?_ | refine W_label ?_ | refine W_exit rfl ?_)
      first | refine W_retR hP hf hfn _ ([(b, deck l q)]) (by first | (simp [go_sem, hP, hgl, hn, h1]; done) | (simp [go_sem, hP, hgl, hn, h1]; rfl)) (by simp [go_sem, hP, hgl, hn, h1]) (by simp) ?_ hR.2 | refine W_endR hP hf hfn _ ([(b, deck l q)]) (by first | (simp [go_sem, hP, hgl, hn, h1]; done) | (simp [go_sem, hP, hgl, hn, h1]; rfl)) (by simp [go_sem, hP, hgl, hn, h1]) (by simp) ?_ hR.2
      rw [hR.1]
      refine ⟨?_, by simp [h1]⟩
      try simp [h1]
      try all_goals (simp [Ty.dv, Ty.cells_eq, Ty.kind_mk, Ty.args_mk, Tm.dv, Tm.cells_eq, Tm.kind_mk, Tm.index_mk, Tm.type_mk, Tm.args_mk, Val.dv, Val.cells_eq, Val.kind_mk, Val.num_mk, Val.list_mk, Val.args_mk, ints])
    by_cases h2 : k = 2
    · refine t_g @h2 ?_
      refine t_c1 trivial ref01_nat_ok ?_
      repeat (first | refine W_seq ?_ | refine W_skip ?_ | refine W_block ?_ | refine W_inBlock ?_ | refine W_label ?_ | refine W_exit rfl ?_)
      first | refine W_retR hP hf hfn _ ([(b, deck l q)]) (by first | (simp [go_sem, hP, hgl, hn, h2]; done) | (simp [go_sem, hP, hgl, hn, h2]; rfl)) (by simp [go_sem, hP, hgl, hn, h2]) (by simp) ?_ hR.2 | refine W_endR hP hf hfn _ ([(b, deck l q)]) (by first | (simp [go_sem, hP, hgl, hn, h2]; done) | (simp [go_sem, hP, hgl, hn, h2]; rfl)) (by simp [go_sem, hP, hgl, hn, h2]) (by simp) ?_ hR.2
      rw [hR.1]
      refine ⟨?_, by simp [h2]⟩
      try simp [h2]
      try all_goals (simp [Ty.dv, Ty.cells_eq, Ty.kind_mk, Ty.args_mk, Tm.dv, Tm.cells_eq, Tm.kind_mk, Tm.index_mk, Tm.type_mk, Tm.args_mk, Val.dv, Val.cells_eq, Val.kind_mk, Val.num_mk, Val.list_mk, Val.args_mk, ints])
    by_cases h5 : k = 5
    · refine t_g (j2 @h5 @hpos) ?_
      refine t_c3 @hsub (ih q hq (by omega)) (ih _ a1 (by omega)) (ref01_two_ok (typeD l n q).1 (typeD l n (typeD l n q).2).1) ?_
      repeat (first | refine W_seq ?_ | refine W_skip ?_ | refine W_block ?_ | refine W_inBlock ?_ | refine W_label ?_ | refine W_exit rfl ?_)
      first | refine W_retR hP hf hfn _ ([(b, deck l (typeD l n (typeD l n q).2).2)]) (by first | (simp [go_sem, hP, hgl, hn, h5]; done) | (simp [go_sem, hP, hgl, hn, h5]; rfl)) (by simp [go_sem, hP, hgl, hn, h5]) (by simp) ?_ hR.2 | refine W_endR hP hf hfn _ ([(b, deck l (typeD l n (typeD l n q).2).2)]) (by first | (simp [go_sem, hP, hgl, hn, h5]; done) | (simp [go_sem, hP, hgl, hn, h5]; rfl)) (by simp [go_sem, hP, hgl, hn, h5]) (by simp) ?_ hR.2
      rw [hR.1]
      refine ⟨?_, by simp [h5]⟩
      try simp [h5]
      try all_goals (simp [Ty.dv, Ty.cells_eq, Ty.kind_mk, Ty.args_mk, Tm.dv, Tm.cells_eq, Tm.kind_mk, Tm.index_mk, Tm.type_mk, Tm.args_mk, Val.dv, Val.cells_eq, Val.kind_mk, Val.num_mk, Val.list_mk, Val.args_mk, ints])
    have h6 : k = 6 := by omega
    refine t_g (j2 @h6 @hpos) ?_
    refine t_c3 @hsub (ih q hq (by omega)) (ih _ a1 (by omega)) (ref01_fun_ok (typeD l n q).1 (typeD l n (typeD l n q).2).1) ?_
    repeat (first | refine W_seq ?_ | refine W_skip ?_ | refine W_block ?_ | refine W_inBlock ?_ | refine W_label ?_ | refine W_exit rfl ?_)
    first | refine W_retR hP hf hfn _ ([(b, deck l (typeD l n (typeD l n q).2).2)]) (by first | (simp [go_sem, hP, hgl, hn, h6]; done) | (simp [go_sem, hP, hgl, hn, h6]; rfl)) (by simp [go_sem, hP, hgl, hn, h6]) (by simp) ?_ hR.2 | refine W_endR hP hf hfn _ ([(b, deck l (typeD l n (typeD l n q).2).2)]) (by first | (simp [go_sem, hP, hgl, hn, h6]; done) | (simp [go_sem, hP, hgl, hn, h6]; rfl)) (by simp [go_sem, hP, hgl, hn, h6]) (by simp) ?_ hR.2
    rw [hR.1]
    refine ⟨?_, by simp [h6]⟩
    try simp [h6]
    try all_goals (simp [Ty.dv, Ty.cells_eq, Ty.kind_mk, Ty.args_mk, Tm.dv, Tm.cells_eq, Tm.kind_mk, Tm.index_mk, Tm.type_mk, Tm.args_mk, Val.dv, Val.cells_eq, Val.kind_mk, Val.num_mk, Val.list_mk, Val.args_mk, ints])

def varsP (g : List Ty) (t : Ty) (n : Nat) : List Nat := (List.range n).filter fun i => (varTy g i).same t
theorem varsP_succ (g : List Ty) (t : Ty) (n : Nat) : varsP g t (n + 1) = if (varTy g n).same t = true then varsP g t n ++ [n] else varsP g t n := by
  unfold varsP
  rw [List.range_succ, List.filter_append]
  split <;> simp_all
theorem varsP_le (g : List Ty) (t : Ty) (n : Nat) : (varsP g t n).length ≤ n := by
  have := List.length_filter_le (fun i => (varTy g i).same t) (List.range n)
  simpa [varsP] using this
def natI (l : List Nat) : List Int := l.map Int.ofNat
theorem natI_len (l : List Nat) : (natI l).length = l.length := by simp [natI]
theorem natI_snoc (l : List Nat) (n : Nat) : natI (l ++ [n]) = natI l ++ [(n : Int)] := by simp [natI]

theorem mk_vars_ok (g : List Ty) (t : Ty) (hlg : g.length ≤ 1000000) :
    Con1 Tryz.prog gl 67 [.sl (g.map Ty.cells), t.dv] [] (.sl (ints (natI (varsN g t)))) [] := by
  refine t_in Tryz.func67 ?_
  intro X hP hgl hf hfn hn hR hids hfit
  refine t_g0 ?_
  refine t_a ?_
  refine W_sub [(1005, 0)] (by simp [go_sem]) (by simp [go_sem, natI, varsP, ints_nil] <;> omega) (by simp [go_sem]) (W_upto (g.length) (fun i => True) (fun i => [(.slot 9, .one (.v (dint i))), (.slot 8, .one (.v (dint g.length))), (.slot 5, .one (.own 1005 (ints (natI (varsP g t i))))), (.tok 1005, .tk 1 (varsP g t i).length), (.slot 0, .one (.v (.sl (g.map Ty.cells)))), (.loc 3, .row ([.v (dint t.kind), .v (.sl (t.args.map Ty.cells))])), (.slot 3, .one (.loc 3 0)), (.slot 4, .one (.own 0 []))]) (trivial) ?_ ?_)
  · intro i hi _ hnext
    have hli := varsP_le g t i
    have hvt := (varTy_mem hi).2
    have hix : (g.length : Int) - 1 - i = ((g.length - 1 - i : Nat) : Int) := by omega
    refine t_rg0 ?_
    refine t_yes ?_
    refine t_g0 ?_
    refine t_c1 (j2 @hix @hvt) (ref01_same_ok (varTy g i) t) ?_
    have hsu := varsP_succ g t i
    by_cases hs : (varTy g i).same t = true
    · rw [if_pos hs] at hsu
      rw [hsu] at hnext
      refine t_gt (wr [(1005, 25)]) (j2 @natI_len (j2 @natI_snoc (j2 @ints_cons @ints_nil))) (j2 @hs @natI_len) (hnext trivial)
    · rw [if_neg hs] at hsu
      rw [hsu] at hnext
      refine t_gt (wr []) trivial @hs (hnext trivial)
  · intro _
    refine t_rg0 ?_
    refine t_no ?_
    refine t_g0 ?_
    refine t_r ?_
    simp [go_sem, hP, hgl, hn, varsN, varsP] <;> (try omega)

theorem mk_longer_ok (g h : List Ty) (hlg : g.length + h.length ≤ 1000000) :
    Con1 Tryz.prog gl 71 [.sl (g.map Ty.cells), .sl (h.map Ty.cells)] [] (.sl ((g ++ h).map Ty.cells)) [] := by
  refine t_in Tryz.func71 ?_
  intro X hP hgl hf hfn hn hR hids hfit
  have hl1 : g.length ≤ 1000000 := by omega
  refine t_g0 ?_
  refine t_r ?_
  simp [go_sem, hP, hgl, hn] <;> (try omega)
end Go.Proofs.YteoalfdaanlbjaaGreatDoor.Lift

namespace Go.Proofs.YteoalfdaanlbjaaGreatDoor.Lift
set_option linter.unusedSimpArgs false
set_option linter.unusedVariables false
set_option linter.unnecessarySimpa false
open Go
variable {gl : Globs}

theorem pickD_none {l : List Int} {t : Ty} {g : List Ty} {p q : Nat} (h : pickD l t g p = (none, q)) : ((varsN g t).length = 0 ∧ q = p) ∨ ((varsN g t).length ≠ 0 ∧ (nextD l p 3).1 = 0 ∧ q = (nextD l p 3).2) := by
  unfold pickD at h
  split at h
  · rename_i h0; cases h; exact .inl ⟨h0, rfl⟩
  · rename_i h0
    split at h
    · rename_i h1; cases h; exact .inr ⟨h0, h1, rfl⟩
    · cases h
theorem pickD_some' {l : List Int} {t : Ty} {g : List Ty} {p q : Nat} {x : Tm} (h : pickD l t g p = (some x, q)) : (varsN g t).length ≠ 0 ∧ (nextD l p 3).1 ≠ 0 ∧ ∃ k i : Nat, (nextD l (nextD l p 3).2 (varsN g t).length).1 = k ∧ (varsN g t)[k]? = some i ∧ x = vT i ∧ q = (nextD l (nextD l p 3).2 (varsN g t).length).2 := by
  unfold pickD at h
  split at h
  · cases h
  · rename_i h0
    split at h
    · cases h
    · rename_i h1
      have hb := nextD_bd (l := l) (p := (nextD l p 3).2) (n := (varsN g t).length) (by omega)
      cases h
      obtain ⟨k, hk⟩ : ∃ k : Nat, (nextD l (nextD l p 3).2 (varsN g t).length).1 = k := ⟨_, (Int.toNat_of_nonneg hb.1).symm⟩
      rw [hk] at hb
      have hlt : k < (varsN g t).length := by omega
      refine ⟨h0, h1, k, (varsN g t)[k], hk, List.getElem?_eq_getElem hlt, ?_, rfl⟩
      rw [hk, Int.toNat_natCast, List.getD_eq_getElem?_getD, List.getElem?_eq_getElem hlt, Option.getD_some]

set_option maxHeartbeats 1000000 in
theorem mk_term_leaf (b : Nat) (l : List Int) (hl : l.length ≤ 500) (t : Ty) : ∀ (z : Int) (g : List Ty) (p : Nat), z ≤ 0 → t.count ≤ z + 1000 → t.small → (∀ x ∈ g, x.small) → g.length + t.count ≤ 1000000 → p ≤ l.length →
    Con1 Tryz.prog gl 16 [ptr b, .sl (g.map Ty.cells), t.dv, dint z] [(b, deck l p)] (leafD l t g p).1.dv [(b, deck l (leafD l t g p).2)] := by
  induction t using Ty.ind with
  | h t ih =>
  intro z g p hz hz1 ht hg hgl1 hp
  refine t_in Tryz.func16 ?_
  intro X hP hgl hf hfn hn hR hids hfit
  rw [leafD_eq l t g p ht.ok] at hR
  have hvl : (varsN g t).length ≤ g.length := varsP_le g t g.length
  have hq3 := nextD_le (n := 3) hp
  have hb3 := nextD_bd (l := l) (p := p) (n := 3) (by decide)
  rcases hpk : pickD l t g p with ⟨_ | x, q⟩
  · rw [hpk] at hR
    simp only at hR
    have hq : q ≤ l.length := by have := pickD_le (t := t) (g := g) hp; rw [hpk] at this; exact this
    apply W_cutX [(.slot 215, .one (.v (dbool (decide (t.kind = 1))))), (.slot 214, .one (.v (dint t.kind))), (.slot 0, .one (.v (ptr b))), (.slot 1, .one (.v (.sl (g.map Ty.cells)))), (.slot 3, .one (.v (dint z))), (.slot 6, .one (.loc 6 0)), (.loc 6, .row ([.v (dint t.kind), .v (.sl (t.args.map Ty.cells))])), (.slot 8, .one (.loc 8 0)), (.loc 8, .row ([.v (dint 0), .v (dint 0), .v (dint 0), .own 0 [], .own 0 []])), (.heap  b, .row ([.v (.sl (ints l)), .v (dint q)]))]
    · intro hrest
      refine t_g0 ?_
      refine t_c1 trivial (mk_vars_ok g t (by omega)) ?_
      rcases pickD_none hpk with ⟨h0, rfl⟩ | ⟨h0, h1, rfl⟩
      · refine t_g (j2 @natI_len @h0) ?_
        refine t_b ?_
        refine t_sub [] trivial hrest
      · have hpos : 0 < (varsN g t).length := by omega
        refine t_g0 ?_
        refine t_c1 (j2 @natI_len (j2 @hpos @h1)) (next_ok b l p 3 (by decide) (by omega)) ?_
        refine t_g @h1 ?_
        refine t_b ?_
        refine t_sub [] trivial hrest
    · have hz2 : ¬ 0 < z := by omega
      rcases small_kinds ht with ⟨h, e⟩ | ⟨h, e⟩ | ⟨h, e⟩ | ⟨h, e⟩ | ⟨h, e⟩
      · rw [if_pos h] at hR
        have hb := nextD_bd (l := l) (p := q) (n := 3) (by decide)
        obtain ⟨k, hk⟩ : ∃ k : Nat, (nextD l q 3).1 = k := ⟨_, (Int.toNat_of_nonneg hb.1).symm⟩
        rw [hk] at hb
        refine t_g (j2 @hz2 @h) ?_
        refine t_c2 @hk (next_ok b l q 3 (by decide) (by omega)) (mk_num_ok k (by omega)) ?_
        repeat (first | refine W_seq ?_ | refine W_skip ?_ | refine W_block ?_ | refine W_inBlock ?_ | refine W_label ?_ | refine W_exit rfl ?_)
        first | refine W_retR hP hf hfn _ ([(b, deck l (nextD l q 3).2)]) (by first | (simp [go_sem, hP, hgl, hn, numD, hk]; done) | (simp [go_sem, hP, hgl, hn, numD, hk]; rfl)) (by simp [go_sem, hP, hgl, hn, numD, hk]) (by simp) ?_ hR.2 | refine W_endR hP hf hfn _ ([(b, deck l (nextD l q 3).2)]) (by first | (simp [go_sem, hP, hgl, hn, numD, hk]; done) | (simp [go_sem, hP, hgl, hn, numD, hk]; rfl)) (by simp [go_sem, hP, hgl, hn, numD, hk]) (by simp) ?_ hR.2
        rw [hR.1]
        refine ⟨?_, by simp [numD, hk]⟩
        try simp [numD, hk]
        try all_goals (simp [Ty.dv, Ty.cells_eq, Ty.kind_mk, Ty.args_mk, Tm.dv, Tm.cells_eq, Tm.kind_mk, Tm.index_mk, Tm.type_mk, Tm.args_mk, Val.dv, Val.cells_eq, Val.kind_mk, Val.num_mk, Val.list_mk, Val.args_mk, ints])
      · rw [if_neg (by omega), if_pos h] at hR
        refine t_g (j2 @hz2 @h) ?_
        refine t_c1 trivial (ref02_n_ok 7 []) ?_
        repeat (first | refine W_seq ?_ | refine W_skip ?_ | refine W_block ?_ | refine W_inBlock ?_ | refine W_label ?_ | refine W_exit rfl ?_)
        first | refine W_retR hP hf hfn _ ([(b, deck l q)]) (by first | (simp [go_sem, hP, hgl, hn, nT]; done) | (simp [go_sem, hP, hgl, hn, nT]; rfl)) (by simp [go_sem, hP, hgl, hn, nT]) (by simp) ?_ hR.2 | refine W_endR hP hf hfn _ ([(b, deck l q)]) (by first | (simp [go_sem, hP, hgl, hn, nT]; done) | (simp [go_sem, hP, hgl, hn, nT]; rfl)) (by simp [go_sem, hP, hgl, hn, nT]) (by simp) ?_ hR.2
        rw [hR.1]
        refine ⟨?_, by simp [nT]⟩
        try simp [nT]
        try all_goals (simp [Ty.dv, Ty.cells_eq, Ty.kind_mk, Ty.args_mk, Tm.dv, Tm.cells_eq, Tm.kind_mk, Tm.index_mk, Tm.type_mk, Tm.args_mk, Val.dv, Val.cells_eq, Val.kind_mk, Val.num_mk, Val.list_mk, Val.args_mk, ints])
      · rw [if_neg (by omega), if_neg (by omega), if_neg (by omega), if_neg (by omega)] at hR
        refine t_g (j2 @hz2 @h) ?_
        refine t_c1 trivial (ref02_n_ok 13 []) ?_
        repeat (first | refine W_seq ?_ | refine W_skip ?_ | refine W_block ?_ | refine W_inBlock ?_ | refine W_label ?_ | refine W_exit rfl ?_)
        first | refine W_retR hP hf hfn _ ([(b, deck l q)]) (by first | (simp [go_sem, hP, hgl, hn, nT]; done) | (simp [go_sem, hP, hgl, hn, nT]; rfl)) (by simp [go_sem, hP, hgl, hn, nT]) (by simp) ?_ hR.2 | refine W_endR hP hf hfn _ ([(b, deck l q)]) (by first | (simp [go_sem, hP, hgl, hn, nT]; done) | (simp [go_sem, hP, hgl, hn, nT]; rfl)) (by simp [go_sem, hP, hgl, hn, nT]) (by simp) ?_ hR.2
        rw [hR.1]
        refine ⟨?_, by simp [nT]⟩
        try simp [nT]
        try all_goals (simp [Ty.dv, Ty.cells_eq, Ty.kind_mk, Ty.args_mk, Tm.dv, Tm.cells_eq, Tm.kind_mk, Tm.index_mk, Tm.type_mk, Tm.args_mk, Val.dv, Val.cells_eq, Val.kind_mk, Val.num_mk, Val.list_mk, Val.args_mk, ints])
      · rw [if_neg (by omega), if_neg (by omega), if_pos h] at hR
        obtain ⟨s0, s1, hc⟩ := ht.arg (.inl h)
        have p0 := Ty.count_eq (t.arg 0)
        have p1 := Ty.count_eq (t.arg 1)
        have ha : t.args = [t.arg 0, t.arg 1] := by rw [e]; rfl
        obtain ⟨a1, -⟩ := leafD_facts closed_shape (t.arg 0) g q s0 hg hq
        refine t_g (j2 @hz2 @h) ?_
        refine t_c3 @ha (ih (t.arg 0) (by rw [ha]; simp) (z - 1) g q (by omega) (by omega) s0 hg (by omega) hq) (ih (t.arg 1) (by rw [ha]; simp) (z - 1) g (leafD l (t.arg 0) g q).2 (by omega) (by omega) s1 hg (by omega) a1) (ref02_n_ok 10 [(leafD l (t.arg 0) g q).1, (leafD l (t.arg 1) g (leafD l (t.arg 0) g q).2).1]) ?_
        repeat (first | refine W_seq ?_ | refine W_skip ?_ | refine W_block ?_ | refine W_inBlock ?_ | refine W_label ?_ | refine W_exit rfl ?_)
        first | refine W_retR hP hf hfn _ ([(b, deck l (leafD l (t.arg 1) g (leafD l (t.arg 0) g q).2).2)]) (by first | (simp [go_sem, hP, hgl, hn, nT]; done) | (simp [go_sem, hP, hgl, hn, nT]; rfl)) (by simp [go_sem, hP, hgl, hn, nT]) (by simp) ?_ hR.2 | refine W_endR hP hf hfn _ ([(b, deck l (leafD l (t.arg 1) g (leafD l (t.arg 0) g q).2).2)]) (by first | (simp [go_sem, hP, hgl, hn, nT]; done) | (simp [go_sem, hP, hgl, hn, nT]; rfl)) (by simp [go_sem, hP, hgl, hn, nT]) (by simp) ?_ hR.2
        rw [hR.1]
        refine ⟨?_, by simp [nT]⟩
        try simp [nT]
        try all_goals (simp [Ty.dv, Ty.cells_eq, Ty.kind_mk, Ty.args_mk, Tm.dv, Tm.cells_eq, Tm.kind_mk, Tm.index_mk, Tm.type_mk, Tm.args_mk, Val.dv, Val.cells_eq, Val.kind_mk, Val.num_mk, Val.list_mk, Val.args_mk, ints])
      · rw [if_neg (by omega), if_neg (by omega), if_neg (by omega), if_pos h] at hR
        obtain ⟨s0, s1, hc⟩ := ht.arg (.inr h)
        have p0 := Ty.count_eq (t.arg 0)
        have p1 := Ty.count_eq (t.arg 1)
        have ha : t.args = [t.arg 0, t.arg 1] := by rw [e]; rfl
        have hgs : ∀ x ∈ g ++ [t.arg 0], x.small := by intro x hx; rcases List.mem_append.1 hx with hx | hx; exact hg x hx; rw [List.mem_singleton.1 hx]; exact s0
        refine t_g (j2 @hz2 @h) ?_
        refine t_c3 @ha (mk_longer_ok g [t.arg 0] (by simp; omega)) (ih (t.arg 1) (by rw [ha]; simp) (z - 1) (g ++ [t.arg 0]) q (by omega) (by omega) s1 hgs (by simp; omega) hq) (ref02_t_ok 2 (t.arg 0) [(leafD l (t.arg 1) (g ++ [t.arg 0]) q).1]) ?_
        repeat (first | refine W_seq ?_ | refine W_skip ?_ | refine W_block ?_ | refine W_inBlock ?_ | refine W_label ?_ | refine W_exit rfl ?_)
        first | refine W_retR hP hf hfn _ ([(b, deck l (leafD l (t.arg 1) (g ++ [t.arg 0]) q).2)]) (by first | (simp [go_sem, hP, hgl, hn]; done) | (simp [go_sem, hP, hgl, hn]; rfl)) (by simp [go_sem, hP, hgl, hn]) (by simp) ?_ hR.2 | refine W_endR hP hf hfn _ ([(b, deck l (leafD l (t.arg 1) (g ++ [t.arg 0]) q).2)]) (by first | (simp [go_sem, hP, hgl, hn]; done) | (simp [go_sem, hP, hgl, hn]; rfl)) (by simp [go_sem, hP, hgl, hn]) (by simp) ?_ hR.2
        rw [hR.1]
        refine ⟨?_, by simp⟩
        try simp
        try all_goals (simp [Ty.dv, Ty.cells_eq, Ty.kind_mk, Ty.args_mk, Tm.dv, Tm.cells_eq, Tm.kind_mk, Tm.index_mk, Tm.type_mk, Tm.args_mk, Val.dv, Val.cells_eq, Val.kind_mk, Val.num_mk, Val.list_mk, Val.args_mk, ints])
  · rw [hpk] at hR
    simp only at hR
    obtain ⟨h0, h1, k, i, hk, hi, rfl, rfl⟩ := pickD_some' hpk
    have hpos : 0 < (varsN g t).length := by omega
    have hpos3 : 0 < (nextD l p 3).1 := by omega
    have hgi := ints_get (l := natI (varsN g t)) (i := k) (n := i) (by simp [natI, hi])
    have hkl := (List.getElem?_eq_some_iff.1 hi).1
    refine t_g0 ?_
    refine t_c1 trivial (mk_vars_ok g t (by omega)) ?_
    refine t_g0 ?_
    refine t_c1 (j2 @natI_len (j2 @hpos @hpos3)) (next_ok b l p 3 (by decide) (by omega)) ?_
    refine t_g @hpos3 ?_
    refine t_c2 (j2 @natI_len (j2 @hk @hgi)) (next_ok b l (nextD l p 3).2 (varsN g t).length (by omega) (by omega)) (ref02_var_ok i) ?_
    repeat (first | refine W_seq ?_ | refine W_skip ?_ | refine W_block ?_ | refine W_inBlock ?_ | refine W_label ?_ | refine W_exit rfl ?_)
    first | refine W_retR hP hf hfn _ ([(b, deck l (nextD l (nextD l p 3).2 (varsN g t).length).2)]) (by first | (simp [go_sem, hP, hgl, hn, vT]; done) | (simp [go_sem, hP, hgl, hn, vT]; rfl)) (by simp [go_sem, hP, hgl, hn, vT]) (by simp) ?_ hR.2 | refine W_endR hP hf hfn _ ([(b, deck l (nextD l (nextD l p 3).2 (varsN g t).length).2)]) (by first | (simp [go_sem, hP, hgl, hn, vT]; done) | (simp [go_sem, hP, hgl, hn, vT]; rfl)) (by simp [go_sem, hP, hgl, hn, vT]) (by simp) ?_ hR.2
    rw [hR.1]
    refine ⟨?_, by simp [vT]⟩
    try simp [vT]
    try all_goals (simp [Ty.dv, Ty.cells_eq, Ty.kind_mk, Ty.args_mk, Tm.dv, Tm.cells_eq, Tm.kind_mk, Tm.index_mk, Tm.type_mk, Tm.args_mk, Val.dv, Val.cells_eq, Val.kind_mk, Val.num_mk, Val.list_mk, Val.args_mk, ints])
end Go.Proofs.YteoalfdaanlbjaaGreatDoor.Lift

namespace Go.Proofs.YteoalfdaanlbjaaGreatDoor.Lift
set_option linter.unusedSimpArgs false
set_option linter.unusedVariables false
set_option linter.unnecessarySimpa false
open Go
variable {gl : Globs}

def funP (g : List Ty) (t : Ty) (i : Nat) : Bool := decide ((varTy g i).kind = 4) && ((varTy g i).arg 1).same t
theorem upto_snoc {Q : Nat → Prop} {i : Nat} (h : ∀ j, j < i → Q j) (hi : Q i) : ∀ j, j < i + 1 → Q j := by
  intro j hj
  by_cases e : j = i
  · rw [e]; exact hi
  · exact h j (by omega)
theorem funN_found {g : List Ty} {t : Ty} {i : Nat} (hi : i < g.length) (h : ∀ j, j < i → funP g t j = false) (hp : funP g t i = true) : funN g t = some i := by
  unfold funN
  rw [List.find?_range_eq_some]
  exact ⟨hp, List.mem_range.2 hi, fun j hj => by show (!funP g t j) = true; rw [h j hj]; rfl⟩
theorem funN_none {g : List Ty} {t : Ty} (h : ∀ j, j < g.length → funP g t j = false) : funN g t = none := by
  unfold funN
  rw [List.find?_eq_none]
  intro j hj
  show ¬ funP g t j = true
  rw [h j (List.mem_range.1 hj)]
  decide

theorem W_cutXP {X : Ctx} {k kk : List Item} {s : St} (E : Prop) (S : St) (h1 : (E → W X kk S) → W X k s) (h2 : E → W X kk S) : W X k s := h1 h2

set_option maxHeartbeats 4000000 in
theorem mk_term_ok (b : Nat) (l : List Int) (hl : l.length ≤ 500) (n : Nat) (hn9 : n ≤ 9) : ∀ (t : Ty) (g : List Ty) (p : Nat), t.small → (∀ x ∈ g, x.small) → g.length + 3 * n + 15 ≤ 1000000 → p ≤ l.length →
    Con1 Tryz.prog gl 16 [ptr b, .sl (g.map Ty.cells), t.dv, dint n] [(b, deck l p)] (termD l n t g p).1.dv [(b, deck l (termD l n t g p).2)] := by
  induction n with
  | zero =>
    intro t g p ht hg hgl1 hp
    exact mk_term_leaf b l hl t 0 g p (by omega) (by have := ht.2; omega) ht hg (by have := ht.2; omega) hp
  | succ n ihn0 =>
  intro t g p ht hg hgl1 hp
  have ihn := ihn0 (by omega)
  have hD := termD_facts (l := l) closed_shape n
  have hg1 : ∀ a : List Ty, (∀ x ∈ a, x.small) → ∀ x ∈ g ++ a, x.small := by
    intro a ha x hx
    rcases List.mem_append.1 hx with hx | hx
    · exact hg x hx
    · exact ha x hx
  have hz2 : (0 : Int) < ((n + 1 : Nat) : Int) := by omega
  have hsub : ((n + 1 : Nat) : Int) - 1 = (n : Int) := by omega
  refine t_in Tryz.func16 ?_
  intro X hP hgl hf hfn hn hR hids hfit
  rw [termD] at hR
  have hvl : (varsN g t).length ≤ g.length := varsP_le g t g.length
  have hq3 := nextD_le (n := 3) hp
  have hb3 := nextD_bd (l := l) (p := p) (n := 3) (by decide)
  rcases hpk : pickD l t g p with ⟨_ | x, q⟩
  · rw [hpk] at hR
    simp only at hR
    have hq : q ≤ l.length := by have := pickD_le (t := t) (g := g) hp; rw [hpk] at this; exact this
    apply W_cutX [(.slot 0, .one (.v (ptr b))), (.slot 1, .one (.v (.sl (g.map Ty.cells)))), (.slot 3, .one (.v (dint ((n + 1 : Nat) : Int)))), (.slot 6, .one (.loc 6 0)), (.loc 6, .row ([.v (dint t.kind), .v (.sl (t.args.map Ty.cells))])), (.slot 8, .one (.loc 8 0)), (.loc 8, .row ([.v (dint 0), .v (dint 0), .v (dint 0), .own 0 [], .own 0 []])), (.heap  b, .row ([.v (.sl (ints l)), .v (dint q)]))]
    · intro hrest
      refine t_g0 ?_
      refine t_c1 trivial (mk_vars_ok g t (by omega)) ?_
      rcases pickD_none hpk with ⟨h0, rfl⟩ | ⟨h0, h1, rfl⟩
      · refine t_g (j2 @natI_len @h0) ?_
        refine t_b ?_
        refine t_sub [] trivial hrest
      · have hpos : 0 < (varsN g t).length := by omega
        refine t_g0 ?_
        refine t_c1 (j2 @natI_len (j2 @hpos @h1)) (next_ok b l p 3 (by decide) (by omega)) ?_
        refine t_g @h1 ?_
        refine t_b ?_
        refine t_sub [] trivial hrest
    · have hq8 := nextD_le (n := 8) hq
      have hb8 := nextD_bd (l := l) (p := q) (n := 8) (by decide)
      refine t_g @hz2 ?_
      refine t_c1 trivial (next_ok b l q 8 (by decide) (by omega)) ?_
      generalize hd : nextD l q 8 = d at *
      obtain ⟨k, r⟩ := d
      simp only at hR hb8 hq8
      have hr : r ≤ l.length := hq8
      by_cases h0 : k = 0
      · rw [stepD, if_pos h0] at hR
        have cs := mk_type_ok (gl := gl) 0 b l r hl hr (by decide)
        obtain ⟨fs, ss⟩ := typeD_small l (n := 0) hr (by decide)
        generalize hes : typeD l 0 r = rs at cs fs ss hR
        obtain ⟨s, qs⟩ := rs
        simp only at cs fs ss hR
        have cx := ihn (t) (g ++ [s]) qs ht (hg1 [s] (by simpa using ss)) (by simp; omega) fs
        have fx := (hD (t) (g ++ [s]) qs ht (hg1 [s] (by simpa using ss)) fs).1
        generalize hex : termD l n (t) (g ++ [s]) qs = rx at cx fx hR
        obtain ⟨x, qx⟩ := rx
        simp only at cx fx hR
        have cy := ihn (s) (g) qx ss hg (by omega) fx
        have fy := (hD (s) (g) qx ss hg fx).1
        generalize hey : termD l n (s) (g) qx = ry at cy fy hR
        obtain ⟨y, qy⟩ := ry
        simp only at cy fy hR
        refine t_g @h0 ?_
        refine t_c1 trivial cs ?_
        refine t_c5 @hsub (mk_longer_ok g [s] (by simp; omega)) cx (ref02_t_ok 2 s [x]) cy (ref02_n_ok 3 [Tm.mk 2 0 s [x], y]) ?_
        repeat (first | refine W_seq ?_ | refine W_skip ?_ | refine W_block ?_ | refine W_inBlock ?_ | refine W_label ?_ | refine W_exit rfl ?_)
        first | refine W_retR hP hf hfn _ ([(b, deck l qy)]) (by first | (simp [go_sem, hP, hgl, hn, nT]; done) | (simp [go_sem, hP, hgl, hn, nT]; rfl)) (by simp [go_sem, hP, hgl, hn, nT]) (by simp) ?_ hR.2 | refine W_endR hP hf hfn _ ([(b, deck l qy)]) (by first | (simp [go_sem, hP, hgl, hn, nT]; done) | (simp [go_sem, hP, hgl, hn, nT]; rfl)) (by simp [go_sem, hP, hgl, hn, nT]) (by simp) ?_ hR.2
        rw [hR.1]
        refine ⟨?_, by simp [nT]⟩
        try simp [nT]
        try all_goals (simp [Ty.dv, Ty.cells_eq, Ty.kind_mk, Ty.args_mk, Tm.dv, Tm.cells_eq, Tm.kind_mk, Tm.index_mk, Tm.type_mk, Tm.args_mk, Val.dv, Val.cells_eq, Val.kind_mk, Val.num_mk, Val.list_mk, Val.args_mk, ints])
      by_cases h1 : k = 1
      · rw [stepD, if_neg h0, if_pos h1] at hR
        have cs := mk_type_ok (gl := gl) 0 b l r hl hr (by decide)
        obtain ⟨fs, ss⟩ := typeD_small l (n := 0) hr (by decide)
        generalize hes : typeD l 0 r = rs at cs fs ss hR
        obtain ⟨s, qs⟩ := rs
        simp only at cs fs ss hR
        have cx := ihn (t) (g) qs ht hg (by omega) fs
        have fx := (hD (t) (g) qs ht hg fs).1
        generalize hex : termD l n (t) (g) qs = rx at cx fx hR
        obtain ⟨x, qx⟩ := rx
        simp only at cx fx hR
        have cy := ihn (s) (g) qx ss hg (by omega) fx
        have fy := (hD (s) (g) qx ss hg fx).1
        generalize hey : termD l n (s) (g) qx = ry at cy fy hR
        obtain ⟨y, qy⟩ := ry
        simp only at cy fy hR
        refine t_g @h1 ?_
        refine t_c1 trivial cs ?_
        refine t_c4 @hsub cx cy (ref02_n_ok 10 [x, y]) (ref02_n_ok 11 [Tm.mk 10 0 (Ty.mk 0 []) [x, y]]) ?_
        repeat (first | refine W_seq ?_ | refine W_skip ?_ | refine W_block ?_ | refine W_inBlock ?_ | refine W_label ?_ | refine W_exit rfl ?_)
        first | refine W_retR hP hf hfn _ ([(b, deck l qy)]) (by first | (simp [go_sem, hP, hgl, hn, nT]; done) | (simp [go_sem, hP, hgl, hn, nT]; rfl)) (by simp [go_sem, hP, hgl, hn, nT]) (by simp) ?_ hR.2 | refine W_endR hP hf hfn _ ([(b, deck l qy)]) (by first | (simp [go_sem, hP, hgl, hn, nT]; done) | (simp [go_sem, hP, hgl, hn, nT]; rfl)) (by simp [go_sem, hP, hgl, hn, nT]) (by simp) ?_ hR.2
        rw [hR.1]
        refine ⟨?_, by simp [nT]⟩
        try simp [nT]
        try all_goals (simp [Ty.dv, Ty.cells_eq, Ty.kind_mk, Ty.args_mk, Tm.dv, Tm.cells_eq, Tm.kind_mk, Tm.index_mk, Tm.type_mk, Tm.args_mk, Val.dv, Val.cells_eq, Val.kind_mk, Val.num_mk, Val.list_mk, Val.args_mk, ints])
      by_cases h2 : k = 2
      · rw [stepD, if_neg h0, if_neg h1, if_pos h2] at hR
        have cx := ihn (t) (g ++ [Ty.mk 1 [], t]) r ht (hg1 [Ty.mk 1 [], t] (by intro x hx; simp at hx; rcases hx with rfl | rfl; exact small_nat; exact ht)) (by simp; omega) hr
        have fx := (hD (t) (g ++ [Ty.mk 1 [], t]) r ht (hg1 [Ty.mk 1 [], t] (by intro x hx; simp at hx; rcases hx with rfl | rfl; exact small_nat; exact ht)) hr).1
        generalize hex : termD l n (t) (g ++ [Ty.mk 1 [], t]) r = rx at cx fx hR
        obtain ⟨x, qx⟩ := rx
        simp only at cx fx hR
        have cy := ihn (t) (g) qx ht hg (by omega) fx
        have fy := (hD (t) (g) qx ht hg fx).1
        generalize hey : termD l n (t) (g) qx = ry at cy fy hR
        obtain ⟨y, qy⟩ := ry
        simp only at cy fy hR
        have hqy := nextD_le (n := 3) fy
        have hby := nextD_bd (l := l) (p := qy) (n := 3) (by decide)
        obtain ⟨m, hm⟩ : ∃ m : Nat, (nextD l qy 3).1 = m := ⟨_, (Int.toNat_of_nonneg hby.1).symm⟩
        rw [hm] at hby
        refine t_g @h2 ?_
        refine t_c6 (j2 @hsub @nat_v) ref01_nat_ok ref01_nat_ok (mk_longer_ok g [Ty.mk 1 [], t] (by simp; omega)) cx (ref02_t_ok 2 t [x]) (ref02_t_ok 2 (Ty.mk 1 []) [Tm.mk 2 0 t [x]]) ?_
        refine t_c4 (j2 @hsub @hm) cy (next_ok b l qy 3 (by decide) (by omega)) (mk_num_ok m (by omega)) (ref02_t_ok 6 t [y, Tm.mk 2 0 (Ty.mk 1 []) [Tm.mk 2 0 t [x]], numTm m]) ?_
        repeat (first | refine W_seq ?_ | refine W_skip ?_ | refine W_block ?_ | refine W_inBlock ?_ | refine W_label ?_ | refine W_exit rfl ?_)
        first | refine W_retR hP hf hfn _ ([(b, deck l (nextD l qy 3).2)]) (by first | (simp [go_sem, hP, hgl, hn, numD, hm]; done) | (simp [go_sem, hP, hgl, hn, numD, hm]; rfl)) (by simp [go_sem, hP, hgl, hn, numD, hm]) (by simp) ?_ hR.2 | refine W_endR hP hf hfn _ ([(b, deck l (nextD l qy 3).2)]) (by first | (simp [go_sem, hP, hgl, hn, numD, hm]; done) | (simp [go_sem, hP, hgl, hn, numD, hm]; rfl)) (by simp [go_sem, hP, hgl, hn, numD, hm]) (by simp) ?_ hR.2
        rw [hR.1]
        refine ⟨?_, by simp [numD, hm]⟩
        try simp [numD, hm]
        try all_goals (simp [Ty.dv, Ty.cells_eq, Ty.kind_mk, Ty.args_mk, Tm.dv, Tm.cells_eq, Tm.kind_mk, Tm.index_mk, Tm.type_mk, Tm.args_mk, Val.dv, Val.cells_eq, Val.kind_mk, Val.num_mk, Val.list_mk, Val.args_mk, ints])
      by_cases h3 : k = 3
      · rw [stepD, if_neg h0, if_neg h1, if_neg h2, if_pos h3] at hR
        have cx := ihn (t) (g ++ [Ty.mk 1 [], Ty.mk 2 [], t]) r ht (hg1 [Ty.mk 1 [], Ty.mk 2 [], t] (by intro x hx; simp at hx; rcases hx with rfl | rfl | rfl; exact small_nat; exact small_list; exact ht)) (by simp; omega) hr
        have fx := (hD (t) (g ++ [Ty.mk 1 [], Ty.mk 2 [], t]) r ht (hg1 [Ty.mk 1 [], Ty.mk 2 [], t] (by intro x hx; simp at hx; rcases hx with rfl | rfl | rfl; exact small_nat; exact small_list; exact ht)) hr).1
        generalize hex : termD l n (t) (g ++ [Ty.mk 1 [], Ty.mk 2 [], t]) r = rx at cx fx hR
        obtain ⟨x, qx⟩ := rx
        simp only at cx fx hR
        have cy := ihn (t) (g) qx ht hg (by omega) fx
        have fy := (hD (t) (g) qx ht hg fx).1
        generalize hey : termD l n (t) (g) qx = ry at cy fy hR
        obtain ⟨y, qy⟩ := ry
        simp only at cy fy hR
        have cz := ihn (Ty.mk 2 []) (g) qy small_list hg (by omega) fy
        have fz := (hD (Ty.mk 2 []) (g) qy small_list hg fy).1
        generalize hez : termD l n (Ty.mk 2 []) (g) qy = rz at cz fz hR
        obtain ⟨z, qz⟩ := rz
        simp only at cz fz hR
        refine t_g @h3 ?_
        refine t_c9 (j2 @hsub (j2 @nat_v @list_v)) ref01_nat_ok ref01_list_ok ref01_nat_ok ref01_list_ok (mk_longer_ok g [Ty.mk 1 [], Ty.mk 2 [], t] (by simp; omega)) cx (ref02_t_ok 2 t [x]) (ref02_t_ok 2 (Ty.mk 2 []) [Tm.mk 2 0 t [x]]) (ref02_t_ok 2 (Ty.mk 1 []) [Tm.mk 2 0 (Ty.mk 2 []) [Tm.mk 2 0 t [x]]]) ?_
        refine t_c4 (j2 @hsub @list_v) cy ref01_list_ok cz (ref02_t_ok 9 t [y, Tm.mk 2 0 (Ty.mk 1 []) [Tm.mk 2 0 (Ty.mk 2 []) [Tm.mk 2 0 t [x]]], z]) ?_
        repeat (first | refine W_seq ?_ | refine W_skip ?_ | refine W_block ?_ | refine W_inBlock ?_ | refine W_label ?_ | refine W_exit rfl ?_)
        first | refine W_retR hP hf hfn _ ([(b, deck l qz)]) (by first | (simp [go_sem, hP, hgl, hn]; done) | (simp [go_sem, hP, hgl, hn]; rfl)) (by simp [go_sem, hP, hgl, hn]) (by simp) ?_ hR.2 | refine W_endR hP hf hfn _ ([(b, deck l qz)]) (by first | (simp [go_sem, hP, hgl, hn]; done) | (simp [go_sem, hP, hgl, hn]; rfl)) (by simp [go_sem, hP, hgl, hn]) (by simp) ?_ hR.2
        rw [hR.1]
        refine ⟨?_, by simp⟩
        try simp
        try all_goals (simp [Ty.dv, Ty.cells_eq, Ty.kind_mk, Ty.args_mk, Tm.dv, Tm.cells_eq, Tm.kind_mk, Tm.index_mk, Tm.type_mk, Tm.args_mk, Val.dv, Val.cells_eq, Val.kind_mk, Val.num_mk, Val.list_mk, Val.args_mk, ints])
      by_cases h4 : k = 4
      · rw [stepD, if_neg h0, if_neg h1, if_neg h2, if_neg h3, if_pos h4] at hR
        have cs := mk_type_ok (gl := gl) 0 b l r hl hr (by decide)
        obtain ⟨fs, ss⟩ := typeD_small l (n := 0) hr (by decide)
        generalize hes : typeD l 0 r = rs at cs fs ss hR
        obtain ⟨s, qs⟩ := rs
        simp only at cs fs ss hR
        have cx := ihn (s) (g) qs ss hg (by omega) fs
        have fx := (hD (s) (g) qs ss hg fs).1
        generalize hex : termD l n (s) (g) qs = rx at cx fx hR
        obtain ⟨x, qx⟩ := rx
        simp only at cx fx hR
        have cy := ihn (t) (g) qx ht hg (by omega) fx
        have fy := (hD (t) (g) qx ht hg fx).1
        generalize hey : termD l n (t) (g) qx = ry at cy fy hR
        obtain ⟨y, qy⟩ := ry
        simp only at cy fy hR
        refine t_g @h4 ?_
        refine t_c1 trivial cs ?_
        refine t_c4 @hsub cx cy (ref02_n_ok 10 [x, y]) (ref02_n_ok 12 [Tm.mk 10 0 (Ty.mk 0 []) [x, y]]) ?_
        repeat (first | refine W_seq ?_ | refine W_skip ?_ | refine W_block ?_ | refine W_inBlock ?_ | refine W_label ?_ | refine W_exit rfl ?_)
        first | refine W_retR hP hf hfn _ ([(b, deck l qy)]) (by first | (simp [go_sem, hP, hgl, hn, nT]; done) | (simp [go_sem, hP, hgl, hn, nT]; rfl)) (by simp [go_sem, hP, hgl, hn, nT]) (by simp) ?_ hR.2 | refine W_endR hP hf hfn _ ([(b, deck l qy)]) (by first | (simp [go_sem, hP, hgl, hn, nT]; done) | (simp [go_sem, hP, hgl, hn, nT]; rfl)) (by simp [go_sem, hP, hgl, hn, nT]) (by simp) ?_ hR.2
        rw [hR.1]
        refine ⟨?_, by simp [nT]⟩
        try simp [nT]
        try all_goals (simp [Ty.dv, Ty.cells_eq, Ty.kind_mk, Ty.args_mk, Tm.dv, Tm.cells_eq, Tm.kind_mk, Tm.index_mk, Tm.type_mk, Tm.args_mk, Val.dv, Val.cells_eq, Val.kind_mk, Val.num_mk, Val.list_mk, Val.args_mk, ints])
      apply W_cutXP (stepD l (termD l n) t g k r = endD l (termD l n) t g r) [(.slot 215, .one (.v (dbool (decide (t.kind = 1))))), (.slot 214, .one (.v (dint t.kind))), (.slot 0, .one (.v (ptr b))), (.slot 1, .one (.v (.sl (g.map Ty.cells)))), (.slot 3, .one (.v (dint ((n + 1 : Nat) : Int)))), (.slot 6, .one (.loc 6 0)), (.loc 6, .row ([.v (dint t.kind), .v (.sl (t.args.map Ty.cells))])), (.slot 8, .one (.loc 8 0)), (.loc 8, .row ([.v (dint 0), .v (dint 0), .v (dint 0), .own 0 [], .own 0 []])), (.heap  b, .row ([.v (.sl (ints l)), .v (dint r)]))]
      · intro hrest
        by_cases h5 : k = 5
        · refine t_g @h5 ?_
          refine t_a ?_
          refine t_sub [] trivial (W_upto (g.length) (fun i => ∀ j, j < i → funP g t j = false) (fun i => [(.slot 177, .one (.v (dint i))), (.slot 176, .one (.v (dint g.length))), (.slot 0, .one (.v (ptr b))), (.slot 1, .one (.v (.sl (g.map Ty.cells)))), (.slot 3, .one (.v (dint ((n + 1 : Nat) : Int)))), (.slot 6, .one (.loc 6 0)), (.loc 6, .row ([.v (dint t.kind), .v (.sl (t.args.map Ty.cells))])), (.slot 8, .one (.loc 8 0)), (.loc 8, .row ([.v (dint 0), .v (dint 0), .v (dint 0), .own 0 [], .own 0 []])), (.heap  b, .row ([.v (.sl (ints l)), .v (dint r)]))]) (by intro j hj; omega) ?_ ?_)
          · intro i hi hI hnext
            have hvt := (varTy_mem hi).2
            have hix : (g.length : Int) - 1 - i = ((g.length - 1 - i : Nat) : Int) := by omega
            refine t_rg0 ?_
            refine t_yes ?_
            refine t_g (j2 @hix @hvt) ?_
            by_cases hk4 : (varTy g i).kind = 4
            · have hfs := hg _ (varTy_mem hi).1
              obtain ⟨c0, c1, -⟩ := hfs.arg (.inr hk4)
              obtain ⟨a0, a1, ha, -, -, e0, e1⟩ := Ty.ok_args hfs.ok (.inr hk4)
              rw [e0] at c0
              refine t_c1 (j2 @hix (j2 @hvt (j2 @hk4 @ha))) (ref01_same_ok a1 t) ?_
              by_cases hs : a1.same t = true
              · have hfi : funN g t = some i := funN_found hi hI (by simp [funP, hk4, e1, hs])
                rw [stepD, if_neg h0, if_neg h1, if_neg h2, if_neg h3, if_neg h4, if_pos h5, hfi] at hR
                simp only at hR
                rw [e0] at hR
                have cx := ihn (a0) (g) r c0 hg (by omega) hr
                have fx := (hD (a0) (g) r c0 hg hr).1
                generalize hex : termD l n (a0) (g) r = rx at cx fx hR
                obtain ⟨x, qx⟩ := rx
                simp only at cx fx hR
                refine t_g @hs ?_
                refine t_a ?_
                first | refine W_reg [] fun K hK => ?_ | refine W_regd (by rw [hP]; exact mixed) [] fun K hK => ?_
                simp [go_sem, hP, hgl, hn, hsub, ha, vT]
                repeat (refine ⟨by omega, ?_⟩)
                first | refine vcK_call hP hgl (ref02_var_ok i) (by simp [go_sem, hP, hgl, hn, hsub, ha, vT]) rfl (by simp [go_sem]) (by simp) (by rw [hn]; exact Nat.le_of_ble_eq_true rfl) ?_ | refine vcdC_call (fun _ _ => vcd_sound) hP hgl (ref02_var_ok i) (by simp [go_sem, hP, hgl, hn, hsub, ha, vT]) rfl (by simp [go_sem]) (by simp) (by rw [hn]; exact Nat.le_of_ble_eq_true rfl) ?_ | refine vcK_callG hP hgl (ref02_var_ok i) (by simp [go_sem, hP, hgl, hn, hsub, ha, vT]) rfl (by simp [go_sem]) (by simp) (by rw [hn]; exact Nat.le_of_ble_eq_true rfl) (by simp [go_sem]; rfl) (by rw [hn]; exact Nat.le_of_ble_eq_true rfl) (by simp [go_sem]) ?_ | refine vcdC_callG (fun _ _ => vcd_sound) hP hgl (ref02_var_ok i) (by simp [go_sem, hP, hgl, hn, hsub, ha, vT]) rfl (by simp [go_sem]) (by simp) (by rw [hn]; exact Nat.le_of_ble_eq_true rfl) (by simp [go_sem]; rfl) (by rw [hn]; exact Nat.le_of_ble_eq_true rfl) (by simp [go_sem]) ?_
                simp [go_sem, hP, hgl, hn, hsub, ha, vT]
                repeat (refine ⟨by omega, ?_⟩)
                first | refine vcK_call hP hgl (cx) (by simp [go_sem, hP, hgl, hn, hsub, ha, vT]) rfl (by simp [go_sem]) (by simp) (by rw [hn]; exact Nat.le_of_ble_eq_true rfl) ?_ | refine vcdC_call (fun _ _ => vcd_sound) hP hgl (cx) (by simp [go_sem, hP, hgl, hn, hsub, ha, vT]) rfl (by simp [go_sem]) (by simp) (by rw [hn]; exact Nat.le_of_ble_eq_true rfl) ?_ | refine vcK_callG hP hgl (cx) (by simp [go_sem, hP, hgl, hn, hsub, ha, vT]) rfl (by simp [go_sem]) (by simp) (by rw [hn]; exact Nat.le_of_ble_eq_true rfl) (by simp [go_sem]; rfl) (by rw [hn]; exact Nat.le_of_ble_eq_true rfl) (by simp [go_sem]) ?_ | refine vcdC_callG (fun _ _ => vcd_sound) hP hgl (cx) (by simp [go_sem, hP, hgl, hn, hsub, ha, vT]) rfl (by simp [go_sem]) (by simp) (by rw [hn]; exact Nat.le_of_ble_eq_true rfl) (by simp [go_sem]; rfl) (by rw [hn]; exact Nat.le_of_ble_eq_true rfl) (by simp [go_sem]) ?_
                simp [go_sem, hP, hgl, hn, hsub, ha, vT]
                repeat (refine ⟨by omega, ?_⟩)
                first | refine vcK_call hP hgl (ref02_n_ok 3 [vT i, x]) (by simp [go_sem, hP, hgl, hn, hsub, ha, vT]) rfl (by simp [go_sem]) (by simp) (by rw [hn]; exact Nat.le_of_ble_eq_true rfl) ?_ | refine vcdC_call (fun _ _ => vcd_sound) hP hgl (ref02_n_ok 3 [vT i, x]) (by simp [go_sem, hP, hgl, hn, hsub, ha, vT]) rfl (by simp [go_sem]) (by simp) (by rw [hn]; exact Nat.le_of_ble_eq_true rfl) ?_ | refine vcK_callG hP hgl (ref02_n_ok 3 [vT i, x]) (by simp [go_sem, hP, hgl, hn, hsub, ha, vT]) rfl (by simp [go_sem]) (by simp) (by rw [hn]; exact Nat.le_of_ble_eq_true rfl) (by simp [go_sem]; rfl) (by rw [hn]; exact Nat.le_of_ble_eq_true rfl) (by simp [go_sem]) ?_ | refine vcdC_callG (fun _ _ => vcd_sound) hP hgl (ref02_n_ok 3 [vT i, x]) (by simp [go_sem, hP, hgl, hn, hsub, ha, vT]) rfl (by simp [go_sem]) (by simp) (by rw [hn]; exact Nat.le_of_ble_eq_true rfl) (by simp [go_sem]; rfl) (by rw [hn]; exact Nat.le_of_ble_eq_true rfl) (by simp [go_sem]) ?_
                simp [go_sem, hP, hgl, hn, hsub, ha, vT]
                refine t_e ?_
                clear hK K
                repeat (first | refine W_seq ?_ | refine W_skip ?_ | refine W_block ?_ | refine W_inBlock ?_ | refine W_label ?_ | refine W_exit rfl ?_)
                first | refine W_retR hP hf hfn _ ([(b, deck l qx)]) (by first | (simp [go_sem, hP, hgl, hn, nT, vT]; done) | (simp [go_sem, hP, hgl, hn, nT, vT]; rfl)) (by simp [go_sem, hP, hgl, hn, nT, vT]) (by simp) ?_ hR.2 | refine W_endR hP hf hfn _ ([(b, deck l qx)]) (by first | (simp [go_sem, hP, hgl, hn, nT, vT]; done) | (simp [go_sem, hP, hgl, hn, nT, vT]; rfl)) (by simp [go_sem, hP, hgl, hn, nT, vT]) (by simp) ?_ hR.2
                rw [hR.1]
                refine ⟨?_, by simp [nT, vT]⟩
                try simp [nT, vT]
                try all_goals (simp [Ty.dv, Ty.cells_eq, Ty.kind_mk, Ty.args_mk, Tm.dv, Tm.cells_eq, Tm.kind_mk, Tm.index_mk, Tm.type_mk, Tm.args_mk, Val.dv, Val.cells_eq, Val.kind_mk, Val.num_mk, Val.list_mk, Val.args_mk, ints])
              · refine t_gt (wr []) trivial @hs (hnext (upto_snoc hI (by simp [funP, hk4, e1, hs])))
            · refine t_gt (wr []) trivial @hk4 (hnext (upto_snoc hI (by simp [funP, hk4])))
          · intro hI
            refine t_rg0 ?_
            refine t_no ?_
            refine t_g0 ?_
            refine t_b ?_
            refine t_sub [] trivial (hrest (by rw [stepD, if_neg h0, if_neg h1, if_neg h2, if_neg h3, if_neg h4, if_pos h5, funN_none hI]))
        · have hE : stepD l (termD l n) t g k r = endD l (termD l n) t g r := by rw [stepD, if_neg h0, if_neg h1, if_neg h2, if_neg h3, if_neg h4, if_neg h5]
          by_cases h6 : k = 6
          · refine t_g @h6 ?_
            refine t_b ?_
            refine t_sub [] trivial (hrest hE)
          · have h7 : k = 7 := by omega
            refine t_g @h7 ?_
            refine t_b ?_
            refine t_sub [] trivial (hrest hE)
      · intro hE
        rw [hE, endD] at hR
        have h5q := nextD_le (n := 5) hr
        have h2q := nextD_le (n := 2) hr
        have hfd := Ty.fold t
        rcases small_kinds ht with ⟨h, e⟩ | ⟨h, e⟩ | ⟨h, e⟩ | ⟨h, e⟩ | ⟨h, e⟩
        · rw [if_pos h] at hR
          rw [h] at hfd
          have hb5 := nextD_bd (l := l) (p := r) (n := 5) (by decide)
          refine t_g (j2 @h @hz2) ?_
          refine t_c1 trivial (next_ok b l r 5 (by decide) (by omega)) ?_
          generalize hd5 : nextD l r 5 = d at *
          obtain ⟨c, q5⟩ := d
          simp only at hR hb5 h5q
          by_cases c0 : c = 0
          · rw [if_pos c0] at hR
            have cx := ihn (t) (g) q5 ht hg (by omega) h5q
            have fx := (hD (t) (g) q5 ht hg h5q).1
            generalize hex : termD l n (t) (g) q5 = rx at cx fx hR
            obtain ⟨x, qx⟩ := rx
            simp only at cx fx hR
            refine t_g @c0 ?_
            refine t_c2 (j2 @hsub @hfd) cx (ref02_n_ok 5 [x]) ?_
            repeat (first | refine W_seq ?_ | refine W_skip ?_ | refine W_block ?_ | refine W_inBlock ?_ | refine W_label ?_ | refine W_exit rfl ?_)
            first | refine W_retR hP hf hfn _ ([(b, deck l qx)]) (by first | (simp [go_sem, hP, hgl, hn, nT]; done) | (simp [go_sem, hP, hgl, hn, nT]; rfl)) (by simp [go_sem, hP, hgl, hn, nT]) (by simp) ?_ hR.2 | refine W_endR hP hf hfn _ ([(b, deck l qx)]) (by first | (simp [go_sem, hP, hgl, hn, nT]; done) | (simp [go_sem, hP, hgl, hn, nT]; rfl)) (by simp [go_sem, hP, hgl, hn, nT]) (by simp) ?_ hR.2
            rw [hR.1]
            refine ⟨?_, by simp [nT]⟩
            try simp [nT]
            try all_goals (simp [Ty.dv, Ty.cells_eq, Ty.kind_mk, Ty.args_mk, Tm.dv, Tm.cells_eq, Tm.kind_mk, Tm.index_mk, Tm.type_mk, Tm.args_mk, Val.dv, Val.cells_eq, Val.kind_mk, Val.num_mk, Val.list_mk, Val.args_mk, ints])
          rw [if_neg c0] at hR
          by_cases c1 : c = 1
          · rw [if_pos c1] at hR
            have cx := ihn (t) (g) q5 ht hg (by omega) h5q
            have fx := (hD (t) (g) q5 ht hg h5q).1
            generalize hex : termD l n (t) (g) q5 = rx at cx fx hR
            obtain ⟨x, qx⟩ := rx
            simp only at cx fx hR
            have cy := ihn (t) (g) qx ht hg (by omega) fx
            have fy := (hD (t) (g) qx ht hg fx).1
            generalize hey : termD l n (t) (g) qx = ry at cy fy hR
            obtain ⟨y, qy⟩ := ry
            simp only at cy fy hR
            refine t_g @c1 ?_
            refine t_c4 (j2 @hsub @hfd) ref05_plus_ok cx cy (mk_app_ok plusT [x, y]) ?_
            repeat (first | refine W_seq ?_ | refine W_skip ?_ | refine W_block ?_ | refine W_inBlock ?_ | refine W_label ?_ | refine W_exit rfl ?_)
            first | refine W_retR hP hf hfn _ ([(b, deck l qy)]) (by first | (simp [go_sem, hP, hgl, hn]; done) | (simp [go_sem, hP, hgl, hn]; rfl)) (by simp [go_sem, hP, hgl, hn]) (by simp) ?_ hR.2 | refine W_endR hP hf hfn _ ([(b, deck l qy)]) (by first | (simp [go_sem, hP, hgl, hn]; done) | (simp [go_sem, hP, hgl, hn]; rfl)) (by simp [go_sem, hP, hgl, hn]) (by simp) ?_ hR.2
            rw [hR.1]
            refine ⟨?_, by simp⟩
            try simp
            try all_goals (simp [Ty.dv, Ty.cells_eq, Ty.kind_mk, Ty.args_mk, Tm.dv, Tm.cells_eq, Tm.kind_mk, Tm.index_mk, Tm.type_mk, Tm.args_mk, Val.dv, Val.cells_eq, Val.kind_mk, Val.num_mk, Val.list_mk, Val.args_mk, ints])
          rw [if_neg c1] at hR
          by_cases c2 : c = 2
          · rw [if_pos c2] at hR
            have cx := ihn (t) (g) q5 ht hg (by omega) h5q
            have fx := (hD (t) (g) q5 ht hg h5q).1
            generalize hex : termD l n (t) (g) q5 = rx at cx fx hR
            obtain ⟨x, qx⟩ := rx
            simp only at cx fx hR
            have cy := ihn (t) (g) qx ht hg (by omega) fx
            have fy := (hD (t) (g) qx ht hg fx).1
            generalize hey : termD l n (t) (g) qx = ry at cy fy hR
            obtain ⟨y, qy⟩ := ry
            simp only at cy fy hR
            refine t_g @c2 ?_
            refine t_c4 (j2 @hsub @hfd) ref05_sub_ok cx cy (mk_app_ok subT [x, y]) ?_
            repeat (first | refine W_seq ?_ | refine W_skip ?_ | refine W_block ?_ | refine W_inBlock ?_ | refine W_label ?_ | refine W_exit rfl ?_)
            first | refine W_retR hP hf hfn _ ([(b, deck l qy)]) (by first | (simp [go_sem, hP, hgl, hn]; done) | (simp [go_sem, hP, hgl, hn]; rfl)) (by simp [go_sem, hP, hgl, hn]) (by simp) ?_ hR.2 | refine W_endR hP hf hfn _ ([(b, deck l qy)]) (by first | (simp [go_sem, hP, hgl, hn]; done) | (simp [go_sem, hP, hgl, hn]; rfl)) (by simp [go_sem, hP, hgl, hn]) (by simp) ?_ hR.2
            rw [hR.1]
            refine ⟨?_, by simp⟩
            try simp
            try all_goals (simp [Ty.dv, Ty.cells_eq, Ty.kind_mk, Ty.args_mk, Tm.dv, Tm.cells_eq, Tm.kind_mk, Tm.index_mk, Tm.type_mk, Tm.args_mk, Val.dv, Val.cells_eq, Val.kind_mk, Val.num_mk, Val.list_mk, Val.args_mk, ints])
          rw [if_neg c2] at hR
          have hb3 := nextD_bd (l := l) (p := q5) (n := 3) (by decide)
          obtain ⟨m, hm⟩ : ∃ m : Nat, (nextD l q5 3).1 = m := ⟨_, (Int.toNat_of_nonneg hb3.1).symm⟩
          rw [hm] at hb3
          by_cases c3 : c = 3
          · refine t_g @c3 ?_
            refine t_c2 @hm (next_ok b l q5 3 (by decide) (by omega)) (mk_num_ok m (by omega)) ?_
            repeat (first | refine W_seq ?_ | refine W_skip ?_ | refine W_block ?_ | refine W_inBlock ?_ | refine W_label ?_ | refine W_exit rfl ?_)
            first | refine W_retR hP hf hfn _ ([(b, deck l (nextD l q5 3).2)]) (by first | (simp [go_sem, hP, hgl, hn, numD, hm]; done) | (simp [go_sem, hP, hgl, hn, numD, hm]; rfl)) (by simp [go_sem, hP, hgl, hn, numD, hm]) (by simp) ?_ hR.2 | refine W_endR hP hf hfn _ ([(b, deck l (nextD l q5 3).2)]) (by first | (simp [go_sem, hP, hgl, hn, numD, hm]; done) | (simp [go_sem, hP, hgl, hn, numD, hm]; rfl)) (by simp [go_sem, hP, hgl, hn, numD, hm]) (by simp) ?_ hR.2
            rw [hR.1]
            refine ⟨?_, by simp [numD, hm]⟩
            try simp [numD, hm]
            try all_goals (simp [Ty.dv, Ty.cells_eq, Ty.kind_mk, Ty.args_mk, Tm.dv, Tm.cells_eq, Tm.kind_mk, Tm.index_mk, Tm.type_mk, Tm.args_mk, Val.dv, Val.cells_eq, Val.kind_mk, Val.num_mk, Val.list_mk, Val.args_mk, ints])
          · have c4 : c = 4 := by omega
            refine t_g @c4 ?_
            refine t_c2 @hm (next_ok b l q5 3 (by decide) (by omega)) (mk_num_ok m (by omega)) ?_
            repeat (first | refine W_seq ?_ | refine W_skip ?_ | refine W_block ?_ | refine W_inBlock ?_ | refine W_label ?_ | refine W_exit rfl ?_)
            first | refine W_retR hP hf hfn _ ([(b, deck l (nextD l q5 3).2)]) (by first | (simp [go_sem, hP, hgl, hn, numD, hm]; done) | (simp [go_sem, hP, hgl, hn, numD, hm]; rfl)) (by simp [go_sem, hP, hgl, hn, numD, hm]) (by simp) ?_ hR.2 | refine W_endR hP hf hfn _ ([(b, deck l (nextD l q5 3).2)]) (by first | (simp [go_sem, hP, hgl, hn, numD, hm]; done) | (simp [go_sem, hP, hgl, hn, numD, hm]; rfl)) (by simp [go_sem, hP, hgl, hn, numD, hm]) (by simp) ?_ hR.2
            rw [hR.1]
            refine ⟨?_, by simp [numD, hm]⟩
            try simp [numD, hm]
            try all_goals (simp [Ty.dv, Ty.cells_eq, Ty.kind_mk, Ty.args_mk, Tm.dv, Tm.cells_eq, Tm.kind_mk, Tm.index_mk, Tm.type_mk, Tm.args_mk, Val.dv, Val.cells_eq, Val.kind_mk, Val.num_mk, Val.list_mk, Val.args_mk, ints])
        · rw [if_neg (by omega), if_pos h] at hR
          rw [h] at hfd
          have hb2 := nextD_bd (l := l) (p := r) (n := 2) (by decide)
          refine t_g @h ?_
          generalize hd2 : nextD l r 2 = d at *
          obtain ⟨c, q2⟩ := d
          have cn := next_ok (gl := gl) b l r 2 (by decide) (by omega)
          rw [hd2] at cn
          simp only at hR hb2 h2q cn
          by_cases c0 : c = 0
          · rw [if_pos c0] at hR
            have cx := ihn (Ty.mk 1 []) (g) q2 small_nat hg (by omega) h2q
            have fx := (hD (Ty.mk 1 []) (g) q2 small_nat hg h2q).1
            generalize hex : termD l n (Ty.mk 1 []) (g) q2 = rx at cx fx hR
            obtain ⟨x, qx⟩ := rx
            simp only at cx fx hR
            have cy := ihn (t) (g) qx ht hg (by omega) fx
            have fy := (hD (t) (g) qx ht hg fx).1
            generalize hey : termD l n (t) (g) qx = ry at cy fy hR
            obtain ⟨y, qy⟩ := ry
            simp only at cy fy hR
            refine t_c1 (j2 @hz2 @c0) cn ?_
            refine t_g @c0 ?_
            refine t_c4 (j2 @hsub (j2 @nat_v @hfd)) ref01_nat_ok cx cy (ref02_n_ok 8 [x, y]) ?_
            repeat (first | refine W_seq ?_ | refine W_skip ?_ | refine W_block ?_ | refine W_inBlock ?_ | refine W_label ?_ | refine W_exit rfl ?_)
            first | refine W_retR hP hf hfn _ ([(b, deck l qy)]) (by first | (simp [go_sem, hP, hgl, hn, nT]; done) | (simp [go_sem, hP, hgl, hn, nT]; rfl)) (by simp [go_sem, hP, hgl, hn, nT]) (by simp) ?_ hR.2 | refine W_endR hP hf hfn _ ([(b, deck l qy)]) (by first | (simp [go_sem, hP, hgl, hn, nT]; done) | (simp [go_sem, hP, hgl, hn, nT]; rfl)) (by simp [go_sem, hP, hgl, hn, nT]) (by simp) ?_ hR.2
            rw [hR.1]
            refine ⟨?_, by simp [nT]⟩
            try simp [nT]
            try all_goals (simp [Ty.dv, Ty.cells_eq, Ty.kind_mk, Ty.args_mk, Tm.dv, Tm.cells_eq, Tm.kind_mk, Tm.index_mk, Tm.type_mk, Tm.args_mk, Val.dv, Val.cells_eq, Val.kind_mk, Val.num_mk, Val.list_mk, Val.args_mk, ints])
          · rw [if_neg c0] at hR
            refine t_c1 (j2 @hz2 @c0) cn ?_
            refine t_g @c0 ?_
            refine t_c1 trivial (ref02_n_ok 7 []) ?_
            repeat (first | refine W_seq ?_ | refine W_skip ?_ | refine W_block ?_ | refine W_inBlock ?_ | refine W_label ?_ | refine W_exit rfl ?_)
            first | refine W_retR hP hf hfn _ ([(b, deck l q2)]) (by first | (simp [go_sem, hP, hgl, hn, nT]; done) | (simp [go_sem, hP, hgl, hn, nT]; rfl)) (by simp [go_sem, hP, hgl, hn, nT]) (by simp) ?_ hR.2 | refine W_endR hP hf hfn _ ([(b, deck l q2)]) (by first | (simp [go_sem, hP, hgl, hn, nT]; done) | (simp [go_sem, hP, hgl, hn, nT]; rfl)) (by simp [go_sem, hP, hgl, hn, nT]) (by simp) ?_ hR.2
            rw [hR.1]
            refine ⟨?_, by simp [nT]⟩
            try simp [nT]
            try all_goals (simp [Ty.dv, Ty.cells_eq, Ty.kind_mk, Ty.args_mk, Tm.dv, Tm.cells_eq, Tm.kind_mk, Tm.index_mk, Tm.type_mk, Tm.args_mk, Val.dv, Val.cells_eq, Val.kind_mk, Val.num_mk, Val.list_mk, Val.args_mk, ints])
        · rw [if_neg (by omega), if_neg (by omega), if_neg (by omega), if_neg (by omega)] at hR
          refine t_g @h ?_
          refine t_c1 trivial (ref02_n_ok 13 []) ?_
          repeat (first | refine W_seq ?_ | refine W_skip ?_ | refine W_block ?_ | refine W_inBlock ?_ | refine W_label ?_ | refine W_exit rfl ?_)
          first | refine W_retR hP hf hfn _ ([(b, deck l r)]) (by first | (simp [go_sem, hP, hgl, hn, nT]; done) | (simp [go_sem, hP, hgl, hn, nT]; rfl)) (by simp [go_sem, hP, hgl, hn, nT]) (by simp) ?_ hR.2 | refine W_endR hP hf hfn _ ([(b, deck l r)]) (by first | (simp [go_sem, hP, hgl, hn, nT]; done) | (simp [go_sem, hP, hgl, hn, nT]; rfl)) (by simp [go_sem, hP, hgl, hn, nT]) (by simp) ?_ hR.2
          rw [hR.1]
          refine ⟨?_, by simp [nT]⟩
          try simp [nT]
          try all_goals (simp [Ty.dv, Ty.cells_eq, Ty.kind_mk, Ty.args_mk, Tm.dv, Tm.cells_eq, Tm.kind_mk, Tm.index_mk, Tm.type_mk, Tm.args_mk, Val.dv, Val.cells_eq, Val.kind_mk, Val.num_mk, Val.list_mk, Val.args_mk, ints])
        · rw [if_neg (by omega), if_neg (by omega), if_pos h] at hR
          obtain ⟨s0, s1, hc⟩ := ht.arg (.inl h)
          have ha : t.args = [t.arg 0, t.arg 1] := by rw [e]; rfl
          have cx := ihn (t.arg 0) (g) r s0 hg (by omega) hr
          have fx := (hD (t.arg 0) (g) r s0 hg hr).1
          generalize hex : termD l n (t.arg 0) (g) r = rx at cx fx hR
          obtain ⟨x, qx⟩ := rx
          simp only at cx fx hR
          have cy := ihn (t.arg 1) (g) qx s1 hg (by omega) fx
          have fy := (hD (t.arg 1) (g) qx s1 hg fx).1
          generalize hey : termD l n (t.arg 1) (g) qx = ry at cy fy hR
          obtain ⟨y, qy⟩ := ry
          simp only at cy fy hR
          refine t_g @h ?_
          refine t_c3 (j2 @hsub @ha) cx cy (ref02_n_ok 10 [x, y]) ?_
          repeat (first | refine W_seq ?_ | refine W_skip ?_ | refine W_block ?_ | refine W_inBlock ?_ | refine W_label ?_ | refine W_exit rfl ?_)
          first | refine W_retR hP hf hfn _ ([(b, deck l qy)]) (by first | (simp [go_sem, hP, hgl, hn, nT]; done) | (simp [go_sem, hP, hgl, hn, nT]; rfl)) (by simp [go_sem, hP, hgl, hn, nT]) (by simp) ?_ hR.2 | refine W_endR hP hf hfn _ ([(b, deck l qy)]) (by first | (simp [go_sem, hP, hgl, hn, nT]; done) | (simp [go_sem, hP, hgl, hn, nT]; rfl)) (by simp [go_sem, hP, hgl, hn, nT]) (by simp) ?_ hR.2
          rw [hR.1]
          refine ⟨?_, by simp [nT]⟩
          try simp [nT]
          try all_goals (simp [Ty.dv, Ty.cells_eq, Ty.kind_mk, Ty.args_mk, Tm.dv, Tm.cells_eq, Tm.kind_mk, Tm.index_mk, Tm.type_mk, Tm.args_mk, Val.dv, Val.cells_eq, Val.kind_mk, Val.num_mk, Val.list_mk, Val.args_mk, ints])
        · rw [if_neg (by omega), if_neg (by omega), if_neg (by omega), if_pos h] at hR
          obtain ⟨s0, s1, hc⟩ := ht.arg (.inr h)
          have ha : t.args = [t.arg 0, t.arg 1] := by rw [e]; rfl
          have cx := ihn (t.arg 1) (g ++ [t.arg 0]) r s1 (hg1 [t.arg 0] (by simpa using s0)) (by simp; omega) hr
          have fx := (hD (t.arg 1) (g ++ [t.arg 0]) r s1 (hg1 [t.arg 0] (by simpa using s0)) hr).1
          generalize hex : termD l n (t.arg 1) (g ++ [t.arg 0]) r = rx at cx fx hR
          obtain ⟨x, qx⟩ := rx
          simp only at cx fx hR
          refine t_g @h ?_
          refine t_c3 (j2 @hsub @ha) (mk_longer_ok g [t.arg 0] (by simp; omega)) cx (ref02_t_ok 2 (t.arg 0) [x]) ?_
          repeat (first | refine W_seq ?_ | refine W_skip ?_ | refine W_block ?_ | refine W_inBlock ?_ | refine W_label ?_ | refine W_exit rfl ?_)
          first | refine W_retR hP hf hfn _ ([(b, deck l qx)]) (by first | (simp [go_sem, hP, hgl, hn]; done) | (simp [go_sem, hP, hgl, hn]; rfl)) (by simp [go_sem, hP, hgl, hn]) (by simp) ?_ hR.2 | refine W_endR hP hf hfn _ ([(b, deck l qx)]) (by first | (simp [go_sem, hP, hgl, hn]; done) | (simp [go_sem, hP, hgl, hn]; rfl)) (by simp [go_sem, hP, hgl, hn]) (by simp) ?_ hR.2
          rw [hR.1]
          refine ⟨?_, by simp⟩
          try simp
          try all_goals (simp [Ty.dv, Ty.cells_eq, Ty.kind_mk, Ty.args_mk, Tm.dv, Tm.cells_eq, Tm.kind_mk, Tm.index_mk, Tm.type_mk, Tm.args_mk, Val.dv, Val.cells_eq, Val.kind_mk, Val.num_mk, Val.list_mk, Val.args_mk, ints])
  · rw [hpk] at hR
    simp only at hR
    obtain ⟨h0, h1, k, i, hk, hi, rfl, rfl⟩ := pickD_some' hpk
    have hpos : 0 < (varsN g t).length := by omega
    have hpos3 : 0 < (nextD l p 3).1 := by omega
    have hgi := ints_get (l := natI (varsN g t)) (i := k) (n := i) (by simp [natI, hi])
    have hkl := (List.getElem?_eq_some_iff.1 hi).1
    refine t_g0 ?_
    refine t_c1 trivial (mk_vars_ok g t (by omega)) ?_
    refine t_g0 ?_
    refine t_c1 (j2 @natI_len (j2 @hpos @hpos3)) (next_ok b l p 3 (by decide) (by omega)) ?_
    refine t_g @hpos3 ?_
    refine t_c2 (j2 @natI_len (j2 @hk @hgi)) (next_ok b l (nextD l p 3).2 (varsN g t).length (by omega) (by omega)) (ref02_var_ok i) ?_
    repeat (first | refine W_seq ?_ | refine W_skip ?_ | refine W_block ?_ | refine W_inBlock ?_ | refine W_label ?_ | refine W_exit rfl ?_)
    first | refine W_retR hP hf hfn _ ([(b, deck l (nextD l (nextD l p 3).2 (varsN g t).length).2)]) (by first | (simp [go_sem, hP, hgl, hn, vT]; done) | (simp [go_sem, hP, hgl, hn, vT]; rfl)) (by simp [go_sem, hP, hgl, hn, vT]) (by simp) ?_ hR.2 | refine W_endR hP hf hfn _ ([(b, deck l (nextD l (nextD l p 3).2 (varsN g t).length).2)]) (by first | (simp [go_sem, hP, hgl, hn, vT]; done) | (simp [go_sem, hP, hgl, hn, vT]; rfl)) (by simp [go_sem, hP, hgl, hn, vT]) (by simp) ?_ hR.2
    rw [hR.1]
    refine ⟨?_, by simp [vT]⟩
    try simp [vT]
    try all_goals (simp [Ty.dv, Ty.cells_eq, Ty.kind_mk, Ty.args_mk, Tm.dv, Tm.cells_eq, Tm.kind_mk, Tm.index_mk, Tm.type_mk, Tm.args_mk, Val.dv, Val.cells_eq, Val.kind_mk, Val.num_mk, Val.list_mk, Val.args_mk, ints])
end Go.Proofs.YteoalfdaanlbjaaGreatDoor.Lift

namespace Go.Proofs.YteoalfdaanlbjaaGreatDoor.Lift
set_option linter.unusedSimpArgs false
set_option linter.unusedVariables false
set_option linter.unnecessarySimpa false
open Go
variable {gl : Globs}

theorem sc_var_ok (i : Int) : Con1 Tryz.prog gl 125 [dint i] [] (vT i).dv [] := by
  refine t_in Tryz.func125 ?_
  intro X hP hgl hf hfn hn hR hids hfit
  refine t_g0 ?_
  refine t_r ?_
  simp [go_sem, hP, hgl, hn, vT] <;> (try omega)
  all_goals exact t_f
theorem sc_nat_ok : Con1 Tryz.prog gl 119 [] [] natY.dv [] := by
  refine t_in Tryz.func119 ?_
  intro X hP hgl hf hfn hn hR hids hfit
  refine t_g0 ?_
  refine t_r ?_
  simp [go_sem, hP, hgl, hn, natY] <;> (try omega)
  all_goals exact t_f
theorem sc_unit_ok : Con1 Tryz.prog gl 141 [] [] (nT 13 []).dv [] := by
  refine t_in Tryz.func141 ?_
  intro X hP hgl hf hfn hn hR hids hfit
  refine t_g0 ?_
  refine t_r ?_
  simp [go_sem, hP, hgl, hn, nT] <;> (try omega)
  all_goals exact t_f
theorem types_check_ok (t : Ty) (hc : t.count ≤ 2147483648) : Con1 Tryz.prog gl 75 [t.dv] [] (dint t.checkN) [] := by
  refine t_in Tryz.func75 ?_
  intro X hP hgl hf hfn hn hR hids hfit
  refine t_g0 ?_
  refine t_c1 trivial (checktype_ok t hc) ?_
  refine t_g0 ?_
  refine t_r ?_
  simp [go_sem, hP, hgl, hn] <;> (try omega)

theorem sc_nodes_ok (t : Tm) (hc : t.count ≤ 1073741824) : Con1 Tryz.prog gl 185 [t.dv] [] (dint t.count) [] := by
  induction t using Tm.ind with
  | h t ih =>
  refine t_in Tryz.func185 ?_
  intro X hP hgl hf hfn hn hR hids hfit
  have hl1 := Tm.fit_len (hfit t.dv (by simp))
  have hcv := Tm.count_eq t
  refine t_g0 ?_
  refine t_a ?_
  refine W_sub [] (by simp [go_sem]) (by simp [go_sem, Tm.count.counts] <;> omega) (by simp [go_sem]) (W_list (t.args) (fun done rest => [(.slot 9, .one (.v (dint done.length))), (.slot 8, .one (.v (dint t.args.length))), (.slot 7, .one (.v (.sl (t.args.map Tm.cells)))), (.slot 3, .one (.v (dint (1 + Tm.count.counts done : Nat)))), (.slot 2, .one (.v (dint 0)))]) ?_ ?_)
  · intro done x rest hL hg0 hnext
    have hlt : done.length < t.args.length := by rw [hL]; simp
    have hxm := List.mem_of_getElem? hg0
    have hca := Tm.counts_append done (x :: rest)
    have hcs := Tm.counts_append done [x]
    rw [← hL] at hca
    simp only [Tm.count.counts] at hca hcs
    refine t_rg0 ?_
    refine t_yes ?_
    refine t_g @hg0 ?_
    refine t_c1 @hg0 (ih x hxm (by omega)) ?_
    refine t_gt (wr []) @hcs trivial hnext
  · refine t_rg0 ?_
    refine t_no ?_
    refine t_g0 ?_
    refine t_r ?_
    simp [go_sem, hP, hgl, hn, hcv] <;> (try omega)

/-- no index is greater than 2^28 -/
theorem sc_far_ok (t : Tm) : Con1 Tryz.prog gl 63 [t.dv] [] (dbool (!t.leastN 268435456)) [] := by
  induction t using Tm.ind with
  | h t ih =>
  refine t_in Tryz.func63 ?_
  intro X hP hgl hf hfn hn hR hids hfit
  have hl1 := Tm.fit_len (hfit t.dv (by simp))
  rw [Tm.leastN_eq] at hR
  by_cases h : 268435456 < t.index
  · refine t_g @h ?_
    refine t_r ?_
    simp [go_sem, hP, hgl, hn, h] <;> (try omega)
  · refine t_g @h ?_
    refine t_a ?_
    refine t_sub [] trivial (W_listI (t.args) (fun done => Tm.leastN.leasts done 268435456 = true) (fun done rest => [(.slot 11, .one (.v (dint done.length))), (.slot 10, .one (.v (dint t.args.length))), (.slot 9, .one (.v (.sl (t.args.map Tm.cells))))]) (rfl) ?_ ?_)
    · intro done x rest hL hg0 hI hnext
      have hlt : done.length < t.args.length := by rw [hL]; simp
      have hxm := List.mem_of_getElem? hg0
      refine t_rg0 ?_
      refine t_yes ?_
      refine t_g @hg0 ?_
      refine t_c1 @hg0 (ih x hxm) ?_
      by_cases hx : x.leastN 268435456 = true
      · refine t_gt (wr []) trivial @hx (hnext (by rw [Tm.leasts_append, hI]; simp [Tm.leastN.leasts, hx]))
      · have hx' : x.leastN 268435456 = false := by simpa using hx
        have hall : Tm.leastN.leasts t.args 268435456 = false := by rw [hL, Tm.leasts_append]; simp [Tm.leastN.leasts, hx']
        refine t_g @hx' ?_
        refine t_r ?_
        simp [go_sem, hP, hgl, hn, hall] <;> (try omega)
    · intro hI
      refine t_rg0 ?_
      refine t_no ?_
      refine t_g0 ?_
      refine t_r ?_
      simp [go_sem, hP, hgl, hn, hI, h] <;> (try omega)

theorem sc_build_ok (k : Int) (s : Ty) (l : List Tm) (hc : (Tm.mk k 0 s l).count ≤ 1073741824) : Con1 Tryz.prog gl 160 [dint k, s.dv, .sl (l.map Tm.cells)] [] (.tup [(buildN k s l).1.dv, dint (buildN k s l).2]) [] := by
  refine t_in Tryz.func160 ?_
  intro X hP hgl hf hfn hn hR hids hfit
  have hfm := Tm.fold_mk k 0 s l
  refine t_g0 ?_
  refine t_c1 @hfm (sc_nodes_ok (Tm.mk k 0 s l) hc) ?_
  by_cases h : 4096 < (Tm.mk k 0 s l).count
  · refine t_g @h ?_
    refine t_r ?_
    simp [go_sem, hP, hgl, hn, buildN, h, zeroTm] <;> (try omega)
    all_goals exact t_f
  · refine t_g @h ?_
    refine t_r ?_
    simp [go_sem, hP, hgl, hn, buildN, h] <;> (try omega)
    all_goals exact t_f

theorem sc_lift_ok (t : Tm) (f b : Int) (hs : t.shape = true) (hi : t.idx 549755813888) (hb1 : 0 ≤ b) (hb2 : b ≤ 1048576) (hf0 : 0 ≤ f) (hfc : f + t.count ≤ 549755813888) : Con1 Tryz.prog gl 122 [t.dv, dint f, dint b] [] (t.upN f b).dv [] := by
  induction t using Tm.ind generalizing f with
  | h t ih =>
  have hct := Tm.count_eq t
  have hbd := bindI_le t.kind
  have hix := (Tm.idx_eq t _).1 hi
  obtain ⟨hlen0, -, -, -, hsa⟩ := Tm.shape_node hs
  refine t_in Tryz.func122 ?_
  intro X hP hgl hf hfn hn hR hids hfit
  have hlen := Tm.fit_len (hfit t.dv (by simp))
  have hfd := Tm.fold t
  by_cases h0 : b = 0
  · rw [h0, up_zero] at hR
    refine t_g @h0 ?_
    refine t_r ?_
    simp [go_sem, hP, hgl, hn] <;> (try omega)
    all_goals exact t_f
  by_cases h1 : t.kind = 1
  · have ha : t.args = [] := by rw [h1] at hlen0; simp [arityI] at hlen0; exact hlen0
    rw [Tm.upN_eq, ha] at hR
    by_cases h2 : f ≤ t.index
    · refine t_g (j2 @h0 (j2 @h1 @h2)) ?_
      refine t_r ?_
      simp [go_sem, hP, hgl, hn, h1, h2, ha] <;> (try omega)
      all_goals (simp [Ty.dv, Ty.cells_eq, Ty.kind_mk, Ty.args_mk, Tm.dv, Tm.cells_eq, Tm.kind_mk, Tm.index_mk, Tm.type_mk, Tm.args_mk, Val.dv, Val.cells_eq, Val.kind_mk, Val.num_mk, Val.list_mk, Val.args_mk, ints])
    · refine t_g (j2 @h0 (j2 @h1 @h2)) ?_
      refine t_r ?_
      simp [go_sem, hP, hgl, hn, h1, h2, ha] <;> (try omega)
      all_goals (simp [Ty.dv, Ty.cells_eq, Ty.kind_mk, Ty.args_mk, Tm.dv, Tm.cells_eq, Tm.kind_mk, Tm.index_mk, Tm.type_mk, Tm.args_mk, Val.dv, Val.cells_eq, Val.kind_mk, Val.num_mk, Val.list_mk, Val.args_mk, ints])
  rw [Tm.upN_eq, if_neg (fun h => h1 h.1)] at hR
  apply W_cutX [(.slot 36, .one (.v (dint 0))), (.slot 35, .one (.v (dint t.args.length))), (.slot 34, .one (.v (.sl (t.args.map Tm.cells)))), (.loc 7, .row ([.v (dint t.kind), .v (dint t.index), .v (dint t.type.kind), .v (.sl (t.type.args.map Ty.cells)), .own 0 []])), (.slot 7, .one (.loc 7 0)), (.slot 1, .one (.v (dint (f + bindI t.kind)))), (.slot 2, .one (.v (dint b))), (.loc 6, .row ([.v (dint 0), .v (dint 0), .v (dint 0), .own 0 [], .own 0 []])), (.slot 6, .one (.loc 6 0))]
  · intro hrest
    by_cases h2 : t.kind = 2
    · have hbi : bindI 2 = 1 := rfl
      refine t_g (j2 @h0 (j2 @h1 @h2)) ?_
      refine t_b ?_
      refine t_sub [] (j2 @hbi @h2) hrest
    · have hbi : bindI t.kind = 0 := by simp [bindI, h2]
      refine t_g (j2 @h0 (j2 @h1 @h2)) ?_
      refine t_b ?_
      refine t_sub [] (j2 @hbi @h2) hrest
  · refine t_a ?_
    refine t_sub [(1007, 0)] trivial (W_list (t.args) (fun done rest => [(.slot 36, .one (.v (dint done.length))), (.slot 35, .one (.v (dint t.args.length))), (.slot 34, .one (.v (.sl (t.args.map Tm.cells)))), (.loc 7, .row ([.v (dint t.kind), .v (dint t.index), .v (dint t.type.kind), .v (.sl (t.type.args.map Ty.cells)), .own 1007 (done.map fun x => (x.upN (f + bindI t.kind) b).cells)])), (.slot 7, .one (.loc 7 0)), (.tok 1007, .tk 5 done.length), (.slot 1, .one (.v (dint (f + bindI t.kind)))), (.slot 2, .one (.v (dint b))), (.loc 6, .row ([.v (dint 0), .v (dint 0), .v (dint 0), .own 0 [], .own 0 []])), (.slot 6, .one (.loc 6 0))]) ?_ ?_)
    · intro done x rest hL hg0 hnext
      have hlt : done.length < t.args.length := by rw [hL]; simp
      have hxm := List.mem_of_getElem? hg0
      have hcs := Tm.count_mem hxm
      refine t_rg0 ?_
      refine t_yes ?_
      refine t_g @hg0 ?_
      refine t_c1 @hg0 (ih x hxm (f + bindI t.kind) (hsa x hxm) (hix.2 x hxm) (by omega) (by omega)) ?_
      refine t_gt (wr [(1007, 47)]) (Tm.cells_eq (x.upN (f + bindI t.kind) b)) trivial hnext
    · refine t_rg0 ?_
      refine t_no ?_
      refine t_g0 ?_
      refine t_r ?_
      simp [go_sem, hP, hgl, hn] <;> (try omega)
      simp [Tm.dv, Tm.cells_eq, Tm.kind_mk, Tm.index_mk, Tm.type_mk, Tm.args_mk]

/-! the maker: an object that holds its error -/
abbrev mk1 (e : Int) : List DV := [dint e]

theorem node_walk (b : Nat) (e k : Int) (s : Ty) (l : List Tm) (hc : (Tm.mk k 0 s l).count ≤ 1073741824) :
    Con1 Tryz.prog gl 121 [ptr b, dint k, s.dv, .sl (l.map Tm.cells)] [(b, mk1 e)] (nodeE e k s l).1.dv [(b, mk1 (nodeE e k s l).2)] := by
  refine t_in Tryz.func121 ?_
  intro X hP hgl hf hfn hn hR hids hfit
  by_cases h : e = 0
  · have hne : nodeE e k s l = buildN k s l := by unfold nodeE; rw [if_pos h]
    rw [hne] at hR
    refine t_g @h ?_
    refine t_c1 @h (sc_build_ok k s l hc) ?_
    by_cases h2 : (buildN k s l).2 = 0
    · refine t_g @h2 ?_
      repeat (first | refine W_seq ?_ | refine W_skip ?_ | refine W_block ?_ | refine W_inBlock ?_ | refine W_label ?_ | refine W_exit rfl ?_)
      first | refine W_retR hP hf hfn _ ([(b, mk1 0)]) (by first | (simp [go_sem, hP, hgl, hn, h2]; done) | (simp [go_sem, hP, hgl, hn, h2]; rfl)) (by simp [go_sem, hP, hgl, hn, h2]) (by simp) ?_ hR.2 | refine W_endR hP hf hfn _ ([(b, mk1 0)]) (by first | (simp [go_sem, hP, hgl, hn, h2]; done) | (simp [go_sem, hP, hgl, hn, h2]; rfl)) (by simp [go_sem, hP, hgl, hn, h2]) (by simp) ?_ hR.2
      rw [hR.1]
      refine ⟨?_, by simp [h2]⟩
      try simp [h2]
      try all_goals (simp [Ty.dv, Ty.cells_eq, Ty.kind_mk, Ty.args_mk, Tm.dv, Tm.cells_eq, Tm.kind_mk, Tm.index_mk, Tm.type_mk, Tm.args_mk, Val.dv, Val.cells_eq, Val.kind_mk, Val.num_mk, Val.list_mk, Val.args_mk, ints])
    · refine t_g @h2 ?_
      repeat (first | refine W_seq ?_ | refine W_skip ?_ | refine W_block ?_ | refine W_inBlock ?_ | refine W_label ?_ | refine W_exit rfl ?_)
      first | refine W_retR hP hf hfn _ ([(b, mk1 (buildN k s l).2)]) (by first | (simp [go_sem, hP, hgl, hn]; done) | (simp [go_sem, hP, hgl, hn]; rfl)) (by simp [go_sem, hP, hgl, hn]) (by simp) ?_ hR.2 | refine W_endR hP hf hfn _ ([(b, mk1 (buildN k s l).2)]) (by first | (simp [go_sem, hP, hgl, hn]; done) | (simp [go_sem, hP, hgl, hn]; rfl)) (by simp [go_sem, hP, hgl, hn]) (by simp) ?_ hR.2
      rw [hR.1]
      refine ⟨?_, by simp⟩
      try simp
      try all_goals (simp [Ty.dv, Ty.cells_eq, Ty.kind_mk, Ty.args_mk, Tm.dv, Tm.cells_eq, Tm.kind_mk, Tm.index_mk, Tm.type_mk, Tm.args_mk, Val.dv, Val.cells_eq, Val.kind_mk, Val.num_mk, Val.list_mk, Val.args_mk, ints])
  · have hne : nodeE e k s l = (zeroTm, e) := by unfold nodeE; rw [if_neg h]
    rw [hne] at hR
    refine t_g @h ?_
    repeat (first | refine W_seq ?_ | refine W_skip ?_ | refine W_block ?_ | refine W_inBlock ?_ | refine W_label ?_ | refine W_exit rfl ?_)
    first | refine W_retR hP hf hfn _ ([(b, mk1 e)]) (by first | (simp [go_sem, hP, hgl, hn, zeroTm]; done) | (simp [go_sem, hP, hgl, hn, zeroTm]; rfl)) (by simp [go_sem, hP, hgl, hn, zeroTm]) (by simp) ?_ hR.2 | refine W_endR hP hf hfn _ ([(b, mk1 e)]) (by first | (simp [go_sem, hP, hgl, hn, zeroTm]; done) | (simp [go_sem, hP, hgl, hn, zeroTm]; rfl)) (by simp [go_sem, hP, hgl, hn, zeroTm]) (by simp) ?_ hR.2
    rw [hR.1]
    refine ⟨?_, by simp [zeroTm]⟩
    try simp [zeroTm]
    try all_goals (simp [Ty.dv, Ty.cells_eq, Ty.kind_mk, Ty.args_mk, Tm.dv, Tm.cells_eq, Tm.kind_mk, Tm.index_mk, Tm.type_mk, Tm.args_mk, Val.dv, Val.cells_eq, Val.kind_mk, Val.num_mk, Val.list_mk, Val.args_mk, ints])

theorem plain_walk (b : Nat) (e k : Int) (l : List Tm) (hc : (Tm.mk k 0 zY l).count ≤ 1073741824) :
    Con1 Tryz.prog gl 120 [ptr b, dint k, .sl (l.map Tm.cells)] [(b, mk1 e)] (nodeE e k zY l).1.dv [(b, mk1 (nodeE e k zY l).2)] := by
  refine t_in Tryz.func120 ?_
  intro X hP hgl hf hfn hn hR hids hfit
  have hz0 : DV.agg [dint 0, DV.sl []] = zY.dv := rfl
  refine t_g0 ?_
  refine t_c1 @hz0 (node_walk b e k zY l hc) ?_
  repeat (first | refine W_seq ?_ | refine W_skip ?_ | refine W_block ?_ | refine W_inBlock ?_ | refine W_label ?_ | refine W_exit rfl ?_)
  first | refine W_retR hP hf hfn _ ([(b, mk1 (nodeE e k zY l).2)]) (by first | (simp [go_sem, hP, hgl, hn]; done) | (simp [go_sem, hP, hgl, hn]; rfl)) (by simp [go_sem, hP, hgl, hn]) (by simp) ?_ hR.2 | refine W_endR hP hf hfn _ ([(b, mk1 (nodeE e k zY l).2)]) (by first | (simp [go_sem, hP, hgl, hn]; done) | (simp [go_sem, hP, hgl, hn]; rfl)) (by simp [go_sem, hP, hgl, hn]) (by simp) ?_ hR.2
  rw [hR.1]
  refine ⟨?_, by simp⟩
  try simp
  try all_goals (simp [Ty.dv, Ty.cells_eq, Ty.kind_mk, Ty.args_mk, Tm.dv, Tm.cells_eq, Tm.kind_mk, Tm.index_mk, Tm.type_mk, Tm.args_mk, Val.dv, Val.cells_eq, Val.kind_mk, Val.num_mk, Val.list_mk, Val.args_mk, ints])

theorem node_count (e k : Int) (s : Ty) (l : List Tm) : (nodeE e k s l).1.count ≤ 4096 := by
  unfold nodeE buildN
  split
  · split
    · show 1 + 0 ≤ 4096; omega
    · simp only; omega
  · show 1 + 0 ≤ 4096; omega

theorem callE_snoc (e : Int) (f : Tm) (l : List Tm) (x : Tm) : callE e f (l ++ [x]) = nodeE (callE e f l).2 3 zY [(callE e f l).1, x] := by
  induction l generalizing e f with
  | nil => rfl
  | cons a r ih => simp only [List.cons_append, callE, ih]
theorem callE_count (e : Int) (f : Tm) (l : List Tm) (hf : f.count ≤ 268435456) : (callE e f l).1.count ≤ 268435456 := by
  induction l generalizing e f with
  | nil => exact hf
  | cons a r ih =>
    have := node_count e 3 zY [f, a]
    exact ih _ _ (by omega)

theorem call_walk (b : Nat) (e : Int) (f : Tm) (l : List Tm) (hfc0 : f.count ≤ 268435456) (hl : ∀ x ∈ l, x.count ≤ 268435456) :
    Con1 Tryz.prog gl 124 [ptr b, f.dv, .sl (l.map Tm.cells)] [(b, mk1 e)] (callE e f l).1.dv [(b, mk1 (callE e f l).2)] := by
  refine t_in Tryz.func124 ?_
  intro X hP hgl hf hfn hn hR hids hfit
  have hlen := sl_len (hfit (.sl (l.map Tm.cells)) (by simp))
  simp only [List.length_map] at hlen
  refine t_g0 ?_
  refine t_a ?_
  refine W_sub [] (by simp [go_sem]) (by simp [go_sem, callE] <;> omega) (by simp [go_sem]) (W_list (l) (fun done rest => [(.slot 11, .one (.v (dint done.length))), (.slot 10, .one (.v (dint l.length))), (.slot 9, .one (.v (.sl (l.map Tm.cells)))), (.slot 0, .one (.v (ptr b))), (.slot 4, .one (.loc 4 0)), (.loc 4, .row ([.v (dint (callE e f done).1.kind), .v (dint (callE e f done).1.index), .v (dint (callE e f done).1.type.kind), .v (.sl ((callE e f done).1.type.args.map Ty.cells)), .v (.sl ((callE e f done).1.args.map Tm.cells))])), (.slot 6, .one (.loc 6 0)), (.loc 6, .row ([.v (dint 0), .v (dint 0), .v (dint 0), .own 0 [], .own 0 []])), (.heap  b, .row ([.v (dint (callE e f done).2)]))]) ?_ ?_)
  · intro done x rest hL hg0 hnext
    have hlt : done.length < l.length := by rw [hL]; simp
    have hxc := hl x (List.mem_of_getElem? hg0)
    have hfc := callE_count e f done hfc0
    have hsn := callE_snoc e f done x
    have hcc : (Tm.mk 3 0 zY [(callE e f done).1, x]).count = 1 + ((callE e f done).1.count + (x.count + 0)) := rfl
    generalize hg : callE e f done = g at *
    have hfx := Tm.fold x
    refine t_rg0 ?_
    refine t_yes ?_
    refine t_g @hg0 ?_
    refine t_c1 (j2 @hg0 @hfx) (plain_walk b g.2 3 [g.1, x] (by omega)) ?_
    refine t_gt (wr []) @hsn trivial hnext
  · refine t_rg0 ?_
    refine t_no ?_
    refine t_g0 ?_
    repeat (first | refine W_seq ?_ | refine W_skip ?_ | refine W_block ?_ | refine W_inBlock ?_ | refine W_label ?_ | refine W_exit rfl ?_)
    first | refine W_retR hP hf hfn _ ([(b, mk1 (callE e f l).2)]) (by first | (simp [go_sem, hP, hgl, hn]; done) | (simp [go_sem, hP, hgl, hn]; rfl)) (by simp [go_sem, hP, hgl, hn]) (by simp) ?_ hR.2 | refine W_endR hP hf hfn _ ([(b, mk1 (callE e f l).2)]) (by first | (simp [go_sem, hP, hgl, hn]; done) | (simp [go_sem, hP, hgl, hn]; rfl)) (by simp [go_sem, hP, hgl, hn]) (by simp) ?_ hR.2
    rw [hR.1]
    refine ⟨?_, by simp⟩
    try simp
    try all_goals (simp [Ty.dv, Ty.cells_eq, Ty.kind_mk, Ty.args_mk, Tm.dv, Tm.cells_eq, Tm.kind_mk, Tm.index_mk, Tm.type_mk, Tm.args_mk, Val.dv, Val.cells_eq, Val.kind_mk, Val.num_mk, Val.list_mk, Val.args_mk, ints])

theorem great1_ok (f x y : Tm) : Con1 Tryz.prog gl 167 [f.dv, x.dv, y.dv] [] (appsT f [x, y]).dv [] := by
  refine t_in Tryz.func167 ?_
  intro X hP hgl hf hfn hn hR hids hfit
  refine t_g0 ?_
  refine t_r ?_
  simp [go_sem, hP, hgl, hn, appsT, appT] <;> (try omega)
  all_goals exact t_f
def wrapT : Nat → Tm → Tm
  | 0, t => t
  | n + 1, t => Tm.mk 2 0 natY [wrapT n t]
theorem great_walk : Con1 Tryz.prog gl 140 [] [] greatT.dv [] := by
  refine t_in Tryz.func140 ?_
  intro X hP hgl hf hfn hn hR hids hfit
  refine t_g0 ?_
  refine t_a ?_
  first | refine W_reg [] fun K hK => ?_ | refine W_regd (by rw [hP]; exact mixed) [] fun K hK => ?_
  refine t_s0 ?_
  refine t_c trivial (plus_ok) ?_
  refine t_c trivial (sc_var_ok 1) ?_
  refine t_c trivial (sub_ok) ?_
  refine t_c trivial (sc_var_ok 0) ?_
  refine t_c trivial (sc_var_ok 1) ?_
  repeat (refine ⟨by omega, ?_⟩)
  refine vcK_callF hP hgl (great1_ok subT (vT 0) (vT 1)) (by simp [go_sem]) (by simp [go_sem, hP, hgl, hn]) rfl (by simp [go_sem]) (by simp) (by rw [hn]; exact Nat.le_of_ble_eq_true rfl) ?_
  simp [go_sem, hP, hgl, hn]
  repeat (refine ⟨by omega, ?_⟩)
  refine vcK_callF hP hgl (great1_ok plusT (vT 1) (appsT subT [vT 0, vT 1])) (by simp [go_sem]) (by simp [go_sem, hP, hgl, hn]) rfl (by simp [go_sem]) (by simp) (by rw [hn]; exact Nat.le_of_ble_eq_true rfl) ?_
  simp [go_sem, hP, hgl, hn]
  refine t_e ?_
  clear hK K
  obtain ⟨bd, hbd⟩ : ∃ bd, bd = appsT plusT [vT 1, appsT subT [vT 0, vT 1]] := ⟨_, rfl⟩
  rw [← hbd]
  refine t_g0 ?_
  refine t_a ?_
  refine W_sub [] (by simp [go_sem]) (by simp [go_sem, wrapT] <;> omega) (by simp [go_sem]) (W_upto (2) (fun i => True) (fun i => [(.slot 12, .one (.v (dint i))), (.loc 2, .row ((wrapT i bd).cells.map .v)), (.slot 2, .one (.loc 2 0)), (.loc 0, .row ([.v (dint 0), .v (dint 0), .v (dint 0), .own 0 [], .own 0 []])), (.slot 0, .one (.loc 0 0))]) (trivial) ?_ ?_)
  · intro i hi _ hnext
    have hfw := Tm.fold (wrapT i bd)
    refine t_rg0 ?_
    refine t_yes ?_
    refine t_g0 ?_
    refine t_c1 @hfw sc_nat_ok ?_
    repeat (first | (refine W_sub [] (by simp [go_sem]) (by simp [go_sem, wrapT, natY] <;> omega) (by simp [go_sem]) (hnext trivial)) | refine W_seq ?_ | refine W_skip ?_ | refine W_block ?_ | refine W_inBlock ?_ | refine W_label ?_ | refine W_exit rfl ?_ | ((first | refine W_reg [] fun K hK => ?_ | refine W_regd (by rw [hP]; exact mixed) [] fun K hK => ?_); simp [go_sem, hP, hgl, hn]; (repeat (refine ⟨by omega, ?_⟩)); (first | refine hK _ ?_ | refine ⟨by rfl, hK _ ?_⟩); clear hK K) | refine W_cond rfl (fun _ => ?_) (fun hq => False.elim (by first | (simp; done) | (simp; omega) | (simp at hq; done) | (simp at hq; omega))) | refine W_cond rfl (fun hq => False.elim (by first | (simp; done) | (simp; omega) | (simp at hq; done) | (simp at hq; omega))) (fun _ => ?_))
  · intro _
    have he : wrapT 2 bd = greatT := by rw [hbd]; rfl
    refine t_rg0 ?_
    refine t_no ?_
    refine t_g0 ?_
    refine t_r ?_
    simp [go_sem, hP, hgl, hn, he] <;> (try omega)
    all_goals exact t_f
end Go.Proofs.YteoalfdaanlbjaaGreatDoor.Lift

namespace Go.Proofs.YteoalfdaanlbjaaGreatDoor.Lift
set_option linter.unusedSimpArgs false
set_option linter.unusedVariables false
set_option linter.unnecessarySimpa false
open Go
variable {gl : Globs}

theorem maxE_count (y : Ty) (hy : y.ok) (a b : Tm) (e : Int) : (maxE y a b e).1.count ≤ 4096 := by
  rw [maxE_eq y hy]
  have hz : zeroTm.count ≤ 4096 := by decide
  have hu : (nT 13 []).count ≤ 4096 := by decide
  split
  · split
    · exact node_count _ _ _ _
    · split
      · exact node_count _ _ _ _
      · split
        · exact node_count _ _ _ _
        · exact hu
  · exact hz
theorem idx_up {t : Tm} {f b m : Int} (hb : 0 ≤ b) (h : t.idx m) : (t.upN f b).idx (m + b) := by
  induction t using Tm.ind generalizing f with
  | h t ih =>
  rw [Tm.idx_eq] at h
  rw [Tm.upN_eq, Tm.idx_eq, Tm.index_mk, Tm.args_mk]
  refine ⟨?_, ?_⟩
  · split <;> omega
  · intro x hx
    obtain ⟨y, hy, rfl⟩ := List.mem_map.1 hx
    exact ih y hy (h.2 y hy)
theorem shape_up {t : Tm} {f b : Int} (hb : 0 ≤ b) (h : t.shape = true) : (t.upN f b).shape = true := by
  induction t using Tm.ind generalizing f with
  | h t ih =>
  have h0 := h
  rw [Tm.shape_eq, Bool.and_eq_true, Tm.shapes_iff] at h
  rw [Tm.upN_eq, Tm.shape_eq, Bool.and_eq_true, Tm.shapes_iff, Tm.kind_mk, Tm.index_mk, Tm.type_mk, Tm.args_mk, List.length_map]
  refine ⟨?_, ?_⟩
  · have h1 := h.1
    simp only [tmKind, Bool.and_eq_true, Bool.or_eq_true] at h1 ⊢
    obtain ⟨⟨⟨a1, a2⟩, a3⟩, a4⟩ := h1
    have a2 := of_decide_eq_true a2
    refine ⟨⟨⟨a1, ?_⟩, ?_⟩, a4⟩
    · apply decide_eq_true; split <;> omega
    · rcases a3 with a3 | a3
      · exact .inl a3
      · have a3 := of_decide_eq_true a3
        by_cases hk : t.kind = 1
        · exact .inl (decide_eq_true hk)
        · exact .inr (decide_eq_true (by rw [if_neg (fun h => hk h.1)]; exact a3))
  · intro x hx
    obtain ⟨y, hy, rfl⟩ := List.mem_map.1 hx
    exact ih y hy (h.2 y hy)
theorem idx_node {k : Int} {s : Ty} {l : List Tm} {m : Int} (hm : 0 ≤ m) (h : ∀ x ∈ l, x.idx m) : (Tm.mk k 0 s l).idx m := by
  rw [Tm.idx_eq]; exact ⟨⟨Int.le_refl _, hm⟩, h⟩
theorem idx_v {i m : Int} (h0 : 0 ≤ i) (h : i ≤ m) : (vT i).idx m := by
  unfold vT; rw [Tm.idx_eq]; exact ⟨⟨h0, h⟩, fun x hx => by cases hx⟩

/-- a term is as good as it needs be where there is no error -/
def Fine (e : Int) (M : Int) (t : Tm) : Prop := t.count ≤ 268435456 ∧ (e = 0 → t.shape = true ∧ t.idx M)
theorem Fine.mono {e M M' : Int} {t : Tm} (h : Fine e M t) (hM : M ≤ M') : Fine e M' t := ⟨h.1, fun he => ⟨(h.2 he).1, Tm.idx_mono hM (h.2 he).2⟩⟩
theorem fine_node {e k M : Int} {s : Ty} {l : List Tm} (hM : 0 ≤ M) (hs : e = 0 → (Tm.mk k 0 s l).shape = true) (hl : e = 0 → ∀ x ∈ l, x.idx M) : Fine (nodeE e k s l).2 M (nodeE e k s l).1 := by
  refine ⟨by have := node_count e k s l; omega, fun h => ?_⟩
  obtain ⟨h1, h2, -⟩ := node_ok h
  rw [h2]
  exact ⟨hs h1, idx_node hM (hl h1)⟩

theorem Fine.later {e e' M : Int} {t : Tm} (h : Fine e M t) (he : e' = 0 → e = 0) : Fine e' M t := ⟨h.1, fun h' => h.2 (he h')⟩
theorem Fine.beside {e e' M M' : Int} {t u : Tm} (_ : Fine e' M' u) (h : Fine e M t) (he : e' = 0 → e = 0) : Fine e' M t := h.later he
theorem fine_call {M : Int} (hM : 0 ≤ M) : ∀ (l : List Tm) {e : Int} {f : Tm}, Fine e M f → (e = 0 → ∀ x ∈ l, x.shape = true ∧ x.idx M) → Fine (callE e f l).2 M (callE e f l).1
  | [], e, f, hf, _ => hf
  | a :: r, e, f, hf, hl => by
    rw [callE]
    refine fine_call hM r (fine_node hM (fun he => shape_n rfl (by decide) ?_) (fun he => ?_)) fun he x hx => hl (node_ok he).1 x (by simp [hx])
    · intro z hz; simp at hz; rcases hz with rfl | rfl; exact (hf.2 he).1; exact (hl he _ (by simp)).1
    · intro z hz; simp at hz; rcases hz with rfl | rfl; exact (hf.2 he).2; exact (hl he _ (by simp)).2
theorem fine_great {M : Int} (hM : 10 ≤ M) : Fine 0 M greatT := by
  refine ⟨by decide, fun _ => ⟨by decide, Tm.idx_mono hM ?_⟩⟩
  have : ∀ t : Tm, t = greatT → t.idx 10 := by
    rintro t rfl
    simp [greatT, lamT, appsT, appT, plusT, subT, predT, twoT, recT, lamsT, nT, vT, Tm.idx, Tm.idx.idxs]
  exact this _ rfl
theorem fine_v {M : Int} {e i : Int} (h0 : 0 ≤ i) (hM : i ≤ M) : Fine e M (vT i) := by
  refine ⟨by show 1 + 0 ≤ 268435456; omega, fun _ => ⟨?_, idx_v h0 hM⟩⟩
  obtain ⟨n, rfl⟩ : ∃ n : Nat, i = n := ⟨i.toNat, by omega⟩
  exact shape_v
theorem fine_up {e M f b : Int} {t : Tm} (hb : 0 ≤ b) (h : Fine e M t) : Fine e (M + b) (t.upN f b) :=
  ⟨by rw [up_count]; exact h.1, fun he => ⟨shape_up hb (h.2 he).1, idx_up hb (h.2 he).2⟩⟩

theorem fine_n1 {e k M : Int} {x : Tm} (hM : 0 ≤ M) (hk : k = 5 ∨ k = 11 ∨ k = 12) (hx : Fine e M x) : Fine (nodeE e k zY [x]).2 M (nodeE e k zY [x]).1 :=
  fine_node hM (fun he => shape_n (by rcases hk with rfl | rfl | rfl <;> rfl) (by rcases hk with rfl | rfl | rfl <;> decide) (by intro z hz; simp at hz; rw [hz]; exact (hx.2 he).1)) fun he z hz => by simp at hz; rw [hz]; exact (hx.2 he).2
theorem fine_lam {e M : Int} {s : T} {x : Tm} (hs : s.ok) (hM : 0 ≤ M) (hx : Fine e M x) : Fine (nodeE e 2 s.ty [x]).2 M (nodeE e 2 s.ty [x]).1 :=
  fine_node hM (fun he => shape_t rfl (.inl rfl) (T.ok_ty hs) (by intro z hz; simp at hz; rw [hz]; exact (hx.2 he).1)) fun he z hz => by simp at hz; rw [hz]; exact (hx.2 he).2

theorem fine_max : ∀ (a : T) {x y : Tm} {e M : Int}, a.ok → 10 ≤ M → Fine e M x → Fine e M y → Fine (maxE a.ty x y e).2 (M + a.size) (maxE a.ty x y e).1
  | a, x, y, e, M, ho, hM, hx, hy => by
    by_cases h0 : e = 0
    · subst h0
      cases a with
      | nat =>
        rw [maxE_nat]
        exact (fine_call (by omega) _ (fine_great hM) fun _ z hz => by simp at hz; rcases hz with rfl | rfl; exact hx.2 rfl; exact hy.2 rfl).mono (by simp only [T.size]; omega)
      | list => rw [maxE_list]; exact ⟨by show 1 + 0 ≤ 268435456; omega, fun _ => ⟨rfl, idx_node (by simp only [T.size]; omega) (fun z hz => by cases hz)⟩⟩
      | unit => rw [maxE_unit]; exact ⟨by show 1 + 0 ≤ 268435456; omega, fun _ => ⟨rfl, idx_node (by simp only [T.size]; omega) (fun z hz => by cases hz)⟩⟩
      | pair s t =>
        rw [maxE_pair ho]
        simp only [T.ok, T.size] at ho
        have p := fine_n1 (k := 11) (by omega) (.inr (.inl rfl)) hx
        have q := fine_n1 (k := 11) (e := (nodeE 0 11 zY [x]).2) (by omega) (.inr (.inl rfl)) (hy.later fun h => rfl)
        have l := fine_max s (by unfold T.ok; omega) hM (p.later fun h => (node_ok h).1) q
        have p' := fine_n1 (k := 12) (e := (maxE s.ty (nodeE 0 11 zY [x]).1 (nodeE (nodeE 0 11 zY [x]).2 11 zY [y]).1 (nodeE (nodeE 0 11 zY [x]).2 11 zY [y]).2).2) (by omega) (.inr (.inr rfl)) (hx.later fun h => rfl)
        have q' := fine_n1 (k := 12) (e := (nodeE (maxE s.ty (nodeE 0 11 zY [x]).1 (nodeE (nodeE 0 11 zY [x]).2 11 zY [y]).1 (nodeE (nodeE 0 11 zY [x]).2 11 zY [y]).2).2 12 zY [x]).2) (by omega) (.inr (.inr rfl)) (hy.later fun h => rfl)
        have r := fine_max t (by unfold T.ok; omega) hM (p'.later fun h => (node_ok h).1) q'
        have l' := Fine.beside r l fun h => (node_ok (node_ok (maxE_ok t (by unfold T.ok; omega) h).1).1).1
        refine fine_node (by simp only [T.size]; omega) (fun he => shape_n rfl (by decide) ?_) (fun he => ?_)
        · intro z hz; simp at hz; rcases hz with rfl | rfl; exact (l'.2 he).1; exact (r.2 he).1
        · intro z hz; simp at hz; rcases hz with rfl | rfl; exact Tm.idx_mono (by simp only [T.size]; omega) (l'.2 he).2; exact Tm.idx_mono (by simp only [T.size]; omega) (r.2 he).2
      | fn s t =>
        rw [maxE_fn ho]
        simp only [T.ok, T.size] at ho
        have p := fine_call (M := M + 1) (by omega) [vT 0] (fine_up (f := 0) (b := 1) (by decide) hx) fun he z hz => by simp at hz; rw [hz]; exact ⟨shape_v (i := 0), idx_v (by decide) (by omega)⟩
        have q := fine_call (M := M + 1) (by omega) [vT 0] (fine_up (f := 0) (b := 1) (by decide) (hy.later (e' := (callE 0 (x.upN 0 1) [vT 0]).2) fun h => rfl)) fun he z hz => by simp at hz; rw [hz]; exact ⟨shape_v (i := 0), idx_v (by decide) (by omega)⟩
        have r := fine_max t (M := M + 1) (by unfold T.ok; omega) (by omega) (p.later fun h => (call_ok h).1) q
        exact (fine_lam (by unfold T.ok; omega) (by omega) r).mono (by simp only [T.size]; omega)
    · rw [maxE_no ho h0]
      exact ⟨by show 1 + 0 ≤ 268435456; omega, fun h => absurd h h0⟩

theorem max_nat (b : Nat) : ∀ (x y : Tm) (e M : Int), T.nat.ok → 10 ≤ M → M + T.nat.size ≤ 274877906944 → Fine e M x → Fine e M y →
    Con1 Tryz.prog gl 103 [ptr b, T.nat.ty.dv, x.dv, y.dv] [(b, mk1 e)] (maxE T.nat.ty x y e).1.dv [(b, mk1 (maxE T.nat.ty x y e).2)] := by
  intro x y e M ho hM hM2 hx hy
  refine t_in Tryz.func103 ?_
  intro X hP hgl hf hfn hn hR hids hfit
  by_cases h : e = 0
  · subst h
    rw [maxE_nat] at hR
    have wc := call_walk (gl := gl) b 0 greatT [x, y] (by decide) (by intro z hz; simp at hz; rcases hz with rfl | rfl; exact hx.1; exact hy.1)
    have hty : T.nat.ty = Ty.mk 1 [] := rfl
    refine t_g @hty ?_
    refine t_c2 @hty great_walk wc ?_
    repeat (first | refine W_seq ?_ | refine W_skip ?_ | refine W_block ?_ | refine W_inBlock ?_ | refine W_label ?_ | refine W_exit rfl ?_)
    first | refine W_retR hP hf hfn _ ([(b, mk1 (callE 0 greatT [x, y]).2)]) (by first | (simp [go_sem, hP, hgl, hn]; done) | (simp [go_sem, hP, hgl, hn]; rfl)) (by simp [go_sem, hP, hgl, hn]) (by simp) ?_ hR.2 | refine W_endR hP hf hfn _ ([(b, mk1 (callE 0 greatT [x, y]).2)]) (by first | (simp [go_sem, hP, hgl, hn]; done) | (simp [go_sem, hP, hgl, hn]; rfl)) (by simp [go_sem, hP, hgl, hn]) (by simp) ?_ hR.2
    rw [hR.1]
    refine ⟨?_, by simp⟩
    try simp
    try all_goals (simp [Ty.dv, Ty.cells_eq, Ty.kind_mk, Ty.args_mk, Tm.dv, Tm.cells_eq, Tm.kind_mk, Tm.index_mk, Tm.type_mk, Tm.args_mk, Val.dv, Val.cells_eq, Val.kind_mk, Val.num_mk, Val.list_mk, Val.args_mk, ints])
  · rw [maxE_no ho h] at hR
    refine t_g @h ?_
    repeat (first | refine W_seq ?_ | refine W_skip ?_ | refine W_block ?_ | refine W_inBlock ?_ | refine W_label ?_ | refine W_exit rfl ?_)
    first | refine W_retR hP hf hfn _ ([(b, mk1 e)]) (by first | (simp [go_sem, hP, hgl, hn, zeroTm]; done) | (simp [go_sem, hP, hgl, hn, zeroTm]; rfl)) (by simp [go_sem, hP, hgl, hn, zeroTm]) (by simp) ?_ hR.2 | refine W_endR hP hf hfn _ ([(b, mk1 e)]) (by first | (simp [go_sem, hP, hgl, hn, zeroTm]; done) | (simp [go_sem, hP, hgl, hn, zeroTm]; rfl)) (by simp [go_sem, hP, hgl, hn, zeroTm]) (by simp) ?_ hR.2
    rw [hR.1]
    refine ⟨?_, by simp [zeroTm]⟩
    try simp [zeroTm]
    try all_goals (simp [Ty.dv, Ty.cells_eq, Ty.kind_mk, Ty.args_mk, Tm.dv, Tm.cells_eq, Tm.kind_mk, Tm.index_mk, Tm.type_mk, Tm.args_mk, Val.dv, Val.cells_eq, Val.kind_mk, Val.num_mk, Val.list_mk, Val.args_mk, ints])
theorem max_list (b : Nat) : ∀ (x y : Tm) (e M : Int), T.list.ok → 10 ≤ M → M + T.list.size ≤ 274877906944 → Fine e M x → Fine e M y →
    Con1 Tryz.prog gl 103 [ptr b, T.list.ty.dv, x.dv, y.dv] [(b, mk1 e)] (maxE T.list.ty x y e).1.dv [(b, mk1 (maxE T.list.ty x y e).2)] := by
  intro x y e M ho hM hM2 hx hy
  refine t_in Tryz.func103 ?_
  intro X hP hgl hf hfn hn hR hids hfit
  by_cases h : e = 0
  · subst h
    rw [maxE_list] at hR
    have hty : T.list.ty = Ty.mk 2 [] := rfl
    refine t_g @hty ?_
    refine t_c1 @hty sc_unit_ok ?_
    repeat (first | refine W_seq ?_ | refine W_skip ?_ | refine W_block ?_ | refine W_inBlock ?_ | refine W_label ?_ | refine W_exit rfl ?_)
    first | refine W_retR hP hf hfn _ ([(b, mk1 0)]) (by first | (simp [go_sem, hP, hgl, hn]; done) | (simp [go_sem, hP, hgl, hn]; rfl)) (by simp [go_sem, hP, hgl, hn]) (by simp) ?_ hR.2 | refine W_endR hP hf hfn _ ([(b, mk1 0)]) (by first | (simp [go_sem, hP, hgl, hn]; done) | (simp [go_sem, hP, hgl, hn]; rfl)) (by simp [go_sem, hP, hgl, hn]) (by simp) ?_ hR.2
    rw [hR.1]
    refine ⟨?_, by simp⟩
    try simp
    try all_goals (simp [Ty.dv, Ty.cells_eq, Ty.kind_mk, Ty.args_mk, Tm.dv, Tm.cells_eq, Tm.kind_mk, Tm.index_mk, Tm.type_mk, Tm.args_mk, Val.dv, Val.cells_eq, Val.kind_mk, Val.num_mk, Val.list_mk, Val.args_mk, ints])
  · rw [maxE_no ho h] at hR
    refine t_g @h ?_
    repeat (first | refine W_seq ?_ | refine W_skip ?_ | refine W_block ?_ | refine W_inBlock ?_ | refine W_label ?_ | refine W_exit rfl ?_)
    first | refine W_retR hP hf hfn _ ([(b, mk1 e)]) (by first | (simp [go_sem, hP, hgl, hn, zeroTm]; done) | (simp [go_sem, hP, hgl, hn, zeroTm]; rfl)) (by simp [go_sem, hP, hgl, hn, zeroTm]) (by simp) ?_ hR.2 | refine W_endR hP hf hfn _ ([(b, mk1 e)]) (by first | (simp [go_sem, hP, hgl, hn, zeroTm]; done) | (simp [go_sem, hP, hgl, hn, zeroTm]; rfl)) (by simp [go_sem, hP, hgl, hn, zeroTm]) (by simp) ?_ hR.2
    rw [hR.1]
    refine ⟨?_, by simp [zeroTm]⟩
    try simp [zeroTm]
    try all_goals (simp [Ty.dv, Ty.cells_eq, Ty.kind_mk, Ty.args_mk, Tm.dv, Tm.cells_eq, Tm.kind_mk, Tm.index_mk, Tm.type_mk, Tm.args_mk, Val.dv, Val.cells_eq, Val.kind_mk, Val.num_mk, Val.list_mk, Val.args_mk, ints])
theorem max_unit (b : Nat) : ∀ (x y : Tm) (e M : Int), T.unit.ok → 10 ≤ M → M + T.unit.size ≤ 274877906944 → Fine e M x → Fine e M y →
    Con1 Tryz.prog gl 103 [ptr b, T.unit.ty.dv, x.dv, y.dv] [(b, mk1 e)] (maxE T.unit.ty x y e).1.dv [(b, mk1 (maxE T.unit.ty x y e).2)] := by
  intro x y e M ho hM hM2 hx hy
  refine t_in Tryz.func103 ?_
  intro X hP hgl hf hfn hn hR hids hfit
  by_cases h : e = 0
  · subst h
    rw [maxE_unit] at hR
    have hty : T.unit.ty = Ty.mk 5 [] := rfl
    refine t_g @hty ?_
    refine t_c1 @hty sc_unit_ok ?_
    repeat (first | refine W_seq ?_ | refine W_skip ?_ | refine W_block ?_ | refine W_inBlock ?_ | refine W_label ?_ | refine W_exit rfl ?_)
    first | refine W_retR hP hf hfn _ ([(b, mk1 0)]) (by first | (simp [go_sem, hP, hgl, hn]; done) | (simp [go_sem, hP, hgl, hn]; rfl)) (by simp [go_sem, hP, hgl, hn]) (by simp) ?_ hR.2 | refine W_endR hP hf hfn _ ([(b, mk1 0)]) (by first | (simp [go_sem, hP, hgl, hn]; done) | (simp [go_sem, hP, hgl, hn]; rfl)) (by simp [go_sem, hP, hgl, hn]) (by simp) ?_ hR.2
    rw [hR.1]
    refine ⟨?_, by simp⟩
    try simp
    try all_goals (simp [Ty.dv, Ty.cells_eq, Ty.kind_mk, Ty.args_mk, Tm.dv, Tm.cells_eq, Tm.kind_mk, Tm.index_mk, Tm.type_mk, Tm.args_mk, Val.dv, Val.cells_eq, Val.kind_mk, Val.num_mk, Val.list_mk, Val.args_mk, ints])
  · rw [maxE_no ho h] at hR
    refine t_g @h ?_
    repeat (first | refine W_seq ?_ | refine W_skip ?_ | refine W_block ?_ | refine W_inBlock ?_ | refine W_label ?_ | refine W_exit rfl ?_)
    first | refine W_retR hP hf hfn _ ([(b, mk1 e)]) (by first | (simp [go_sem, hP, hgl, hn, zeroTm]; done) | (simp [go_sem, hP, hgl, hn, zeroTm]; rfl)) (by simp [go_sem, hP, hgl, hn, zeroTm]) (by simp) ?_ hR.2 | refine W_endR hP hf hfn _ ([(b, mk1 e)]) (by first | (simp [go_sem, hP, hgl, hn, zeroTm]; done) | (simp [go_sem, hP, hgl, hn, zeroTm]; rfl)) (by simp [go_sem, hP, hgl, hn, zeroTm]) (by simp) ?_ hR.2
    rw [hR.1]
    refine ⟨?_, by simp [zeroTm]⟩
    try simp [zeroTm]
    try all_goals (simp [Ty.dv, Ty.cells_eq, Ty.kind_mk, Ty.args_mk, Tm.dv, Tm.cells_eq, Tm.kind_mk, Tm.index_mk, Tm.type_mk, Tm.args_mk, Val.dv, Val.cells_eq, Val.kind_mk, Val.num_mk, Val.list_mk, Val.args_mk, ints])
theorem max_pair (b : Nat) (s t : T) (ihs : ∀ (x y : Tm) (e M : Int), (s).ok → 10 ≤ M → M + (s).size ≤ 274877906944 → Fine e M x → Fine e M y →
    Con1 Tryz.prog gl 103 [ptr b, (s).ty.dv, x.dv, y.dv] [(b, mk1 e)] (maxE (s).ty x y e).1.dv [(b, mk1 (maxE (s).ty x y e).2)]) (iht : ∀ (x y : Tm) (e M : Int), (t).ok → 10 ≤ M → M + (t).size ≤ 274877906944 → Fine e M x → Fine e M y →
    Con1 Tryz.prog gl 103 [ptr b, (t).ty.dv, x.dv, y.dv] [(b, mk1 e)] (maxE (t).ty x y e).1.dv [(b, mk1 (maxE (t).ty x y e).2)]) : ∀ (x y : Tm) (e M : Int), (T.pair s t).ok → 10 ≤ M → M + (T.pair s t).size ≤ 274877906944 → Fine e M x → Fine e M y →
    Con1 Tryz.prog gl 103 [ptr b, (T.pair s t).ty.dv, x.dv, y.dv] [(b, mk1 e)] (maxE (T.pair s t).ty x y e).1.dv [(b, mk1 (maxE (T.pair s t).ty x y e).2)] := by
  intro x y e M ho hM hM2 hx hy
  refine t_in Tryz.func103 ?_
  intro X hP hgl hf hfn hn hR hids hfit
  by_cases h : e = 0
  · subst h
    rw [maxE_pair ho] at hR
    simp only [T.ok, T.size] at ho hM2
    have cx := hx.1
    have cy := hy.1
    have w1 := plain_walk (gl := gl) b 0 11 [x] (by show 1 + (x.count + 0) ≤ 1073741824; omega)
    have p := fine_n1 (k := 11) (by omega) (.inr (.inl rfl)) hx
    have o1 : (nodeE 0 11 zY [x]).2 = 0 → (0 : Int) = 0 := fun _ => rfl
    generalize he1 : nodeE 0 11 zY [x] = r1 at *
    obtain ⟨x1, e1⟩ := r1
    simp only at hR w1 p
    have w2 := plain_walk (gl := gl) b e1 11 [y] (by show 1 + (y.count + 0) ≤ 1073741824; omega)
    have q := fine_n1 (k := 11) (e := e1) (by omega) (.inr (.inl rfl)) (hy.later fun h => rfl)
    have o2 : (nodeE e1 11 zY [y]).2 = 0 → e1 = 0 := fun h => (node_ok h).1
    generalize he2 : nodeE e1 11 zY [y] = r2 at *
    obtain ⟨y1, e2⟩ := r2
    simp only at hR w2 q o2
    have w3 := ihs x1 y1 e2 M (by unfold T.ok; omega) hM (by omega) (p.later o2) q
    generalize he3 : maxE s.ty x1 y1 e2 = r3 at *
    obtain ⟨l, e3⟩ := r3
    simp only at hR w3
    have cl : l.count ≤ 4096 := by have := maxE_count s.ty (T.ok_ty (by unfold T.ok; omega)) x1 y1 e2; rw [he3] at this; exact this
    have w4 := plain_walk (gl := gl) b e3 12 [x] (by show 1 + (x.count + 0) ≤ 1073741824; omega)
    have p' := fine_n1 (k := 12) (e := e3) (by omega) (.inr (.inr rfl)) (hx.later fun h => rfl)
    have o4 : (nodeE e3 12 zY [x]).2 = 0 → e3 = 0 := fun h => (node_ok h).1
    generalize he4 : nodeE e3 12 zY [x] = r4 at *
    obtain ⟨x2, e4⟩ := r4
    simp only at hR w4 p' o4
    have w5 := plain_walk (gl := gl) b e4 12 [y] (by show 1 + (y.count + 0) ≤ 1073741824; omega)
    have q' := fine_n1 (k := 12) (e := e4) (by omega) (.inr (.inr rfl)) (hy.later fun h => rfl)
    have o5 : (nodeE e4 12 zY [y]).2 = 0 → e4 = 0 := fun h => (node_ok h).1
    generalize he5 : nodeE e4 12 zY [y] = r5 at *
    obtain ⟨y2, e5⟩ := r5
    simp only at hR w5 q' o5
    have w6 := iht x2 y2 e5 M (by unfold T.ok; omega) hM (by omega) (p'.later o5) q'
    generalize he6 : maxE t.ty x2 y2 e5 = r6 at *
    obtain ⟨r, e6⟩ := r6
    simp only at hR w6
    have cr : r.count ≤ 4096 := by have := maxE_count t.ty (T.ok_ty (by unfold T.ok; omega)) x2 y2 e5; rw [he6] at this; exact this
    have w7 := plain_walk (gl := gl) b e6 10 [l, r] (by show 1 + (l.count + (r.count + 0)) ≤ 1073741824; omega)
    have hty : (T.pair s t).ty = Ty.mk 3 [s.ty, t.ty] := rfl
    refine t_g @hty ?_
    refine t_c3 @hty w1 w2 w3 ?_
    refine t_c3 @hty w4 w5 w6 ?_
    refine t_c1 @hty w7 ?_
    repeat (first | refine W_seq ?_ | refine W_skip ?_ | refine W_block ?_ | refine W_inBlock ?_ | refine W_label ?_ | refine W_exit rfl ?_)
    first | refine W_retR hP hf hfn _ ([(b, mk1 (nodeE e6 10 zY [l, r]).2)]) (by first | (simp [go_sem, hP, hgl, hn]; done) | (simp [go_sem, hP, hgl, hn]; rfl)) (by simp [go_sem, hP, hgl, hn]) (by simp) ?_ hR.2 | refine W_endR hP hf hfn _ ([(b, mk1 (nodeE e6 10 zY [l, r]).2)]) (by first | (simp [go_sem, hP, hgl, hn]; done) | (simp [go_sem, hP, hgl, hn]; rfl)) (by simp [go_sem, hP, hgl, hn]) (by simp) ?_ hR.2
    rw [hR.1]
    refine ⟨?_, by simp⟩
    try simp
    try all_goals (simp [Ty.dv, Ty.cells_eq, Ty.kind_mk, Ty.args_mk, Tm.dv, Tm.cells_eq, Tm.kind_mk, Tm.index_mk, Tm.type_mk, Tm.args_mk, Val.dv, Val.cells_eq, Val.kind_mk, Val.num_mk, Val.list_mk, Val.args_mk, ints])
  · rw [maxE_no ho h] at hR
    refine t_g @h ?_
    repeat (first | refine W_seq ?_ | refine W_skip ?_ | refine W_block ?_ | refine W_inBlock ?_ | refine W_label ?_ | refine W_exit rfl ?_)
    first | refine W_retR hP hf hfn _ ([(b, mk1 e)]) (by first | (simp [go_sem, hP, hgl, hn, zeroTm]; done) | (simp [go_sem, hP, hgl, hn, zeroTm]; rfl)) (by simp [go_sem, hP, hgl, hn, zeroTm]) (by simp) ?_ hR.2 | refine W_endR hP hf hfn _ ([(b, mk1 e)]) (by first | (simp [go_sem, hP, hgl, hn, zeroTm]; done) | (simp [go_sem, hP, hgl, hn, zeroTm]; rfl)) (by simp [go_sem, hP, hgl, hn, zeroTm]) (by simp) ?_ hR.2
    rw [hR.1]
    refine ⟨?_, by simp [zeroTm]⟩
    try simp [zeroTm]
    try all_goals (simp [Ty.dv, Ty.cells_eq, Ty.kind_mk, Ty.args_mk, Tm.dv, Tm.cells_eq, Tm.kind_mk, Tm.index_mk, Tm.type_mk, Tm.args_mk, Val.dv, Val.cells_eq, Val.kind_mk, Val.num_mk, Val.list_mk, Val.args_mk, ints])
theorem max_fn (b : Nat) (s t : T) (ihs : ∀ (x y : Tm) (e M : Int), (s).ok → 10 ≤ M → M + (s).size ≤ 274877906944 → Fine e M x → Fine e M y →
    Con1 Tryz.prog gl 103 [ptr b, (s).ty.dv, x.dv, y.dv] [(b, mk1 e)] (maxE (s).ty x y e).1.dv [(b, mk1 (maxE (s).ty x y e).2)]) (iht : ∀ (x y : Tm) (e M : Int), (t).ok → 10 ≤ M → M + (t).size ≤ 274877906944 → Fine e M x → Fine e M y →
    Con1 Tryz.prog gl 103 [ptr b, (t).ty.dv, x.dv, y.dv] [(b, mk1 e)] (maxE (t).ty x y e).1.dv [(b, mk1 (maxE (t).ty x y e).2)]) : ∀ (x y : Tm) (e M : Int), (T.fn s t).ok → 10 ≤ M → M + (T.fn s t).size ≤ 274877906944 → Fine e M x → Fine e M y →
    Con1 Tryz.prog gl 103 [ptr b, (T.fn s t).ty.dv, x.dv, y.dv] [(b, mk1 e)] (maxE (T.fn s t).ty x y e).1.dv [(b, mk1 (maxE (T.fn s t).ty x y e).2)] := by
  intro x y e M ho hM hM2 hx hy
  refine t_in Tryz.func103 ?_
  intro X hP hgl hf hfn hn hR hids hfit
  by_cases h : e = 0
  · subst h
    rw [maxE_fn ho] at hR
    simp only [T.ok, T.size] at ho hM2
    have cx := hx.1
    have cy := hy.1
    have l1 := sc_lift_ok (gl := gl) x 0 1 (hx.2 rfl).1 (Tm.idx_mono (by omega) (hx.2 rfl).2) (by decide) (by decide) (by decide) (by omega)
    have l2 := sc_lift_ok (gl := gl) y 0 1 (hy.2 rfl).1 (Tm.idx_mono (by omega) (hy.2 rfl).2) (by decide) (by decide) (by decide) (by omega)
    have u1 := up_count x 0 1
    have u2 := up_count y 0 1
    have v1 : (vT 0).count ≤ 268435456 := by decide
    have w1 := call_walk (gl := gl) b 0 (x.upN 0 1) [vT 0] (by omega) (by intro z hz; simp at hz; rw [hz]; exact v1)
    have p := fine_call (M := M + 1) (by omega) [vT 0] (fine_up (f := 0) (b := 1) (by decide) hx) fun he z hz => by simp at hz; rw [hz]; exact ⟨shape_v (i := 0), idx_v (by decide) (by omega)⟩
    generalize he1 : callE 0 (x.upN 0 1) [vT 0] = r1 at *
    obtain ⟨x1, e1⟩ := r1
    simp only at hR w1 p
    have w2 := call_walk (gl := gl) b e1 (y.upN 0 1) [vT 0] (by omega) (by intro z hz; simp at hz; rw [hz]; exact v1)
    have q := fine_call (M := M + 1) (by omega) [vT 0] (fine_up (f := 0) (b := 1) (by decide) (hy.later (e' := e1) fun h => rfl)) fun he z hz => by simp at hz; rw [hz]; exact ⟨shape_v (i := 0), idx_v (by decide) (by omega)⟩
    have o2 : (callE e1 (y.upN 0 1) [vT 0]).2 = 0 → e1 = 0 := fun h => (call_ok h).1
    generalize he2 : callE e1 (y.upN 0 1) [vT 0] = r2 at *
    obtain ⟨y1, e2⟩ := r2
    simp only at hR w2 q o2
    have w3 := iht x1 y1 e2 (M + 1) (by unfold T.ok; omega) (by omega) (by omega) (p.later o2) q
    generalize he3 : maxE t.ty x1 y1 e2 = r3 at *
    obtain ⟨r, e3⟩ := r3
    simp only at hR w3
    have cr : r.count ≤ 4096 := by have := maxE_count t.ty (T.ok_ty (by unfold T.ok; omega)) x1 y1 e2; rw [he3] at this; exact this
    have w4 := node_walk (gl := gl) b e3 2 s.ty [r] (by show 1 + (r.count + 0) ≤ 1073741824; omega)
    have hty : (T.fn s t).ty = Ty.mk 4 [s.ty, t.ty] := rfl
    refine t_g @hty ?_
    refine t_c1 @hty (sc_var_ok 0) ?_
    refine t_c5 @hty l1 w1 l2 w2 w3 ?_
    refine t_c1 @hty w4 ?_
    repeat (first | refine W_seq ?_ | refine W_skip ?_ | refine W_block ?_ | refine W_inBlock ?_ | refine W_label ?_ | refine W_exit rfl ?_)
    first | refine W_retR hP hf hfn _ ([(b, mk1 (nodeE e3 2 s.ty [r]).2)]) (by first | (simp [go_sem, hP, hgl, hn]; done) | (simp [go_sem, hP, hgl, hn]; rfl)) (by simp [go_sem, hP, hgl, hn]) (by simp) ?_ hR.2 | refine W_endR hP hf hfn _ ([(b, mk1 (nodeE e3 2 s.ty [r]).2)]) (by first | (simp [go_sem, hP, hgl, hn]; done) | (simp [go_sem, hP, hgl, hn]; rfl)) (by simp [go_sem, hP, hgl, hn]) (by simp) ?_ hR.2
    rw [hR.1]
    refine ⟨?_, by simp⟩
    try simp
    try all_goals (simp [Ty.dv, Ty.cells_eq, Ty.kind_mk, Ty.args_mk, Tm.dv, Tm.cells_eq, Tm.kind_mk, Tm.index_mk, Tm.type_mk, Tm.args_mk, Val.dv, Val.cells_eq, Val.kind_mk, Val.num_mk, Val.list_mk, Val.args_mk, ints])
  · rw [maxE_no ho h] at hR
    refine t_g @h ?_
    repeat (first | refine W_seq ?_ | refine W_skip ?_ | refine W_block ?_ | refine W_inBlock ?_ | refine W_label ?_ | refine W_exit rfl ?_)
    first | refine W_retR hP hf hfn _ ([(b, mk1 e)]) (by first | (simp [go_sem, hP, hgl, hn, zeroTm]; done) | (simp [go_sem, hP, hgl, hn, zeroTm]; rfl)) (by simp [go_sem, hP, hgl, hn, zeroTm]) (by simp) ?_ hR.2 | refine W_endR hP hf hfn _ ([(b, mk1 e)]) (by first | (simp [go_sem, hP, hgl, hn, zeroTm]; done) | (simp [go_sem, hP, hgl, hn, zeroTm]; rfl)) (by simp [go_sem, hP, hgl, hn, zeroTm]) (by simp) ?_ hR.2
    rw [hR.1]
    refine ⟨?_, by simp [zeroTm]⟩
    try simp [zeroTm]
    try all_goals (simp [Ty.dv, Ty.cells_eq, Ty.kind_mk, Ty.args_mk, Tm.dv, Tm.cells_eq, Tm.kind_mk, Tm.index_mk, Tm.type_mk, Tm.args_mk, Val.dv, Val.cells_eq, Val.kind_mk, Val.num_mk, Val.list_mk, Val.args_mk, ints])
theorem max_walk (b : Nat) (a : T) : ∀ (x y : Tm) (e M : Int), (a).ok → 10 ≤ M → M + (a).size ≤ 274877906944 → Fine e M x → Fine e M y →
    Con1 Tryz.prog gl 103 [ptr b, (a).ty.dv, x.dv, y.dv] [(b, mk1 e)] (maxE (a).ty x y e).1.dv [(b, mk1 (maxE (a).ty x y e).2)] := by
  induction a with
  | nat => exact max_nat b
  | list => exact max_list b
  | unit => exact max_unit b
  | pair s t ihs iht => exact max_pair b s t ihs iht
  | fn s t ihs iht => exact max_fn b s t ihs iht
end Go.Proofs.YteoalfdaanlbjaaGreatDoor.Lift

namespace Go.Proofs.YteoalfdaanlbjaaGreatDoor.Lift
set_option linter.unusedSimpArgs false
set_option linter.unusedVariables false
set_option linter.unnecessarySimpa false
open Go
variable {gl : Globs}

theorem bares_map (l : List Ty) : bareN.bares l = l.map bareN := by
  induction l with
  | nil => rfl
  | cons a r ih => simp [bareN.bares, ih]
theorem bareN_eq (t : Ty) : bareN t = if t.kind = 2 then Ty.mk 1 [] else Ty.mk t.kind (t.args.map bareN) := by
  cases t; rw [bareN, bares_map]; rfl

theorem bare_walk (t : Ty) : Con1 Tryz.prog gl 76 [t.dv] [] (bareN t).dv [] := by
  induction t using Ty.ind with
  | h t ih =>
  refine t_in Tryz.func76 ?_
  intro X hP hgl hf hfn hn hR hids hfit
  have hlen := Ty.fit_len (hfit t.dv (by simp))
  rw [bareN_eq] at hR
  by_cases h : t.kind = 2
  · refine t_g @h ?_
    refine t_c1 trivial sc_nat_ok ?_
    refine t_r ?_
    simp [go_sem, hP, hgl, hn, h, natY] <;> (try omega)
    all_goals exact t_f
  · refine t_g @h ?_
    refine t_a ?_
    refine t_sub [(1003, 0)] trivial (W_list (t.args) (fun done rest => [(.slot 16, .one (.v (dint done.length))), (.slot 15, .one (.v (dint t.args.length))), (.slot 14, .one (.v (.sl (t.args.map Ty.cells)))), (.loc 3, .row ([.v (dint t.kind), .own 1003 (done.map fun x => (bareN x).cells)])), (.slot 3, .one (.loc 3 0)), (.tok 1003, .tk 2 done.length), (.loc 2, .row ([.v (dint 0), .own 0 []])), (.slot 2, .one (.loc 2 0))]) ?_ ?_)
    · intro done x rest hL hg0 hnext
      have hlt : done.length < t.args.length := by rw [hL]; simp
      have hxm := List.mem_of_getElem? hg0
      refine t_rg0 ?_
      refine t_yes ?_
      refine t_g @hg0 ?_
      refine t_c1 @hg0 (ih x hxm) ?_
      refine t_gt (wr [(1003, 25)]) (Ty.cells_eq (bareN x)) trivial hnext
    · refine t_rg0 ?_
      refine t_no ?_
      refine t_g0 ?_
      refine t_r ?_
      simp [go_sem, hP, hgl, hn, h] <;> (try omega)
      simp [Ty.dv, Ty.cells_eq, Ty.kind_mk, Ty.args_mk]

theorem step_walk (b : Nat) (s : T) (next : Tm) (e M : Int) (ho : s.ok) (hM : 10 ≤ M) (hM2 : M + s.size ≤ 274877906944) (hx : Fine e M next) :
    Con1 Tryz.prog gl 123 [ptr b, s.ty.dv, next.dv] [(b, mk1 e)] (stepE s.ty next e).1.dv [(b, mk1 (stepE s.ty next e).2)] := by
  refine t_in Tryz.func123 ?_
  intro X hP hgl hf hfn hn hR hids hfit
  unfold stepE at hR
  have w1 := max_walk (gl := gl) b s (vT 0) next e M ho hM hM2 (fine_v (by decide) (by omega)) hx
  have c1 := maxE_count s.ty (T.ok_ty ho) (vT 0) next e
  generalize maxE s.ty (vT 0) next e = r1 at *
  obtain ⟨y, e1⟩ := r1
  simp only at hR w1 c1
  have w2 := node_walk (gl := gl) b e1 2 s.ty [y] (by show 1 + (y.count + 0) ≤ 1073741824; omega)
  have c2 := node_count e1 2 s.ty [y]
  generalize nodeE e1 2 s.ty [y] = r2 at *
  obtain ⟨z, e2⟩ := r2
  simp only at hR w2 c2
  have w3 := node_walk (gl := gl) b e2 2 natY [z] (by show 1 + (z.count + 0) ≤ 1073741824; omega)
  refine t_g0 ?_
  refine t_c2 trivial (sc_var_ok 0) w1 ?_
  refine t_c3 trivial sc_nat_ok w2 w3 ?_
  repeat (first | refine W_seq ?_ | refine W_skip ?_ | refine W_block ?_ | refine W_inBlock ?_ | refine W_label ?_ | refine W_exit rfl ?_)
  first | refine W_retR hP hf hfn _ ([(b, mk1 (nodeE e2 2 natY [z]).2)]) (by first | (simp [go_sem, hP, hgl, hn]; done) | (simp [go_sem, hP, hgl, hn]; rfl)) (by simp [go_sem, hP, hgl, hn]) (by simp) ?_ hR.2 | refine W_endR hP hf hfn _ ([(b, mk1 (nodeE e2 2 natY [z]).2)]) (by first | (simp [go_sem, hP, hgl, hn]; done) | (simp [go_sem, hP, hgl, hn]; rfl)) (by simp [go_sem, hP, hgl, hn]) (by simp) ?_ hR.2
  rw [hR.1]
  refine ⟨?_, by simp⟩
  try simp
  try all_goals (simp [Ty.dv, Ty.cells_eq, Ty.kind_mk, Ty.args_mk, Tm.dv, Tm.cells_eq, Tm.kind_mk, Tm.index_mk, Tm.type_mk, Tm.args_mk, Val.dv, Val.cells_eq, Val.kind_mk, Val.num_mk, Val.list_mk, Val.args_mk, ints])

theorem majs_all (l : List Tm) (h : (majE.majsE l).2 = 0) : (majE.majsE l).1.length = l.length ∧ ∀ (i : Nat) (x : Tm), l[i]? = some x → (majE x).2 = 0 ∧ (majE.majsE l).1[i]? = some (majE x).1 := by
  induction l with
  | nil => simp [majE.majsE]
  | cons a r ih =>
    simp only [majE.majsE] at h ⊢
    by_cases ha : (majE a).2 = 0
    · by_cases hr : (majE.majsE r).2 = 0
      · simp only [ha, hr, if_true]
        obtain ⟨h1, h2⟩ := ih hr
        refine ⟨by simp [h1], ?_⟩
        intro i x hx
        cases i with
        | zero => simp at hx; subst hx; exact ⟨ha, by simp⟩
        | succ i => simp at hx; simpa using h2 i x hx
      · simp [ha, hr] at h
    · simp [ha] at h
theorem majs_snoc (l : List Tm) (x : Tm) (h : (majE.majsE l).2 = 0) (hx : (majE x).2 = 0) : majE.majsE (l ++ [x]) = ((majE.majsE l).1 ++ [(majE x).1], 0) := by
  induction l with
  | nil => simp [majE.majsE, hx]
  | cons a r ih =>
    simp only [majE.majsE] at h
    by_cases ha : (majE a).2 = 0
    · by_cases hr : (majE.majsE r).2 = 0
      · simp [majE.majsE, ha, hr, ih hr]
      · simp [ha, hr] at h
    · simp [ha] at h
theorem majs_stop (l : List Tm) (x : Tm) (m : List Tm) (h : (majE.majsE l).2 = 0) (hx : ¬ (majE x).2 = 0) : majE.majsE (l ++ x :: m) = ([], (majE x).2) := by
  induction l with
  | nil => simp [majE.majsE, hx]
  | cons a r ih =>
    simp only [majE.majsE] at h
    by_cases ha : (majE a).2 = 0
    · by_cases hr : (majE.majsE r).2 = 0
      · simp [majE.majsE, ha, ih hr, hx]
      · simp [ha, hr] at h
    · simp [ha] at h

theorem fine_step {s : T} {next : Tm} {e M : Int} (ho : s.ok) (hM : 10 ≤ M) (hx : Fine e M next) : Fine (stepE s.ty next e).2 (M + s.size) (stepE s.ty next e).1 := by
  unfold stepE
  have h1 := fine_max s ho hM (fine_v (e := e) (i := 0) (by decide) (by omega)) hx
  exact fine_lam (s := .nat) nat_ok0 (by omega) (fine_lam ho (by omega) h1)

theorem arg_ty {t : Tm} (hs : t.shape = true) (hk : t.kind = 2 ∨ t.kind = 6 ∨ t.kind = 9) : ∃ a : T, a.ty = t.type ∧ a.ok ∧ bareN t.type = a.maj.ty ∧ a.maj.ok ∧ a.maj.size ≤ 64 := by
  have h := (Tm.shape_node hs).2.2.2.1
  rw [if_pos hk] at h
  obtain ⟨a, ha⟩ := T.of_shape t.type h.1
  have hok : a.ok := T.ty_ok (by rw [ha]; exact h)
  exact ⟨a, ha, hok, by rw [← ha, maj_ty], maj_ok hok, maj_ok hok⟩

theorem fine_maj (t : Tm) : ∀ {M : Int}, t.shape = true → t.idx M → 10 ≤ M → Fine (majE t).2 (M + 100 * t.count) (majE t).1 := by
  induction t using Tm.ind with
  | h t ih =>
  intro M hs hi hM
  obtain ⟨hlen, hi0, hv, hty, hsa⟩ := Tm.shape_node hs
  have hix := (Tm.idx_eq t _).1 hi
  have hct := Tm.count_eq t
  rw [majE_eq]
  by_cases h0 : (majE.majsE t.args).2 = 0
  rotate_left
  · rw [if_neg h0]; exact ⟨by show 1 + 0 ≤ 268435456; omega, fun h => absurd h h0⟩
  rw [if_pos h0]
  obtain ⟨hl, hx⟩ := majs_all t.args h0
  have get : ∀ (i : Nat) (x : Tm), t.args[i]? = some x → ∃ y, (majE.majsE t.args).1[i]? = some y ∧ Fine 0 (M + 100 * (t.count - 1)) y := by
    intro i x hix2
    obtain ⟨x1, x2⟩ := hx i x hix2
    have hm := List.mem_of_getElem? hix2
    have hc := Tm.count_mem hm
    have := ih x hm (hsa x hm) (hix.2 x hm) hM
    exact ⟨_, x2, (this.later fun _ => x1).mono (by omega)⟩
  generalize (majE.majsE t.args).1 = l at get hl ⊢
  have hc1 : 1 ≤ t.count := Tm.count_pos t
  generalize hM1 : M + 100 * ((t.count : Int) - 1) = M1 at get
  have hMt : M + 100 * t.count = M1 + 100 := by omega
  rw [hMt]
  have hM2 : 10 ≤ M1 := by omega
  have all : ∀ z ∈ l, Fine 0 M1 z := by
    intro z hz
    obtain ⟨i, hi⟩ := List.getElem?_of_mem hz
    have hil := (List.getElem?_eq_some_iff.1 hi).1
    obtain ⟨y, hy, fy⟩ := get i t.args[i] (List.getElem?_eq_getElem (by omega))
    rw [hi] at hy; cases hy
    exact fy
  clear get
  unfold majNodeE
  by_cases h7 : t.kind = 7
  · rw [if_pos h7]; exact ⟨by show 1 + 0 ≤ 268435456; omega, fun _ => ⟨rfl, idx_node (by omega) (fun z hz => by cases hz)⟩⟩
  rw [if_neg h7]
  by_cases h8 : t.kind = 8
  · rw [if_pos h8]
    have h2 : l.length = 2 := by rw [h8] at hlen; simp [arityI] at hlen; omega
    match l, h2, all with
    | [y, z], _, all =>
      have fz := fine_n1 (k := 5) (by omega) (.inl rfl) (all z (by simp))
      exact (fine_max .nat nat_ok0 hM2 ((all y (by simp)).later fun h => rfl) fz).mono (by simp only [T.size]; omega)
  rw [if_neg h8]
  by_cases h2 : t.kind = 2
  · rw [if_pos h2]
    obtain ⟨a, -, -, hb, ho, -⟩ := arg_ty hs (.inl h2)
    have h1 : l.length = 1 := by rw [h2] at hlen; simp [arityI] at hlen; omega
    match l, h1, all with
    | [y], _, all =>
      rw [hb]
      exact (fine_lam ho (by omega) (all y (by simp))).mono (by omega)
  rw [if_neg h2]
  by_cases h6 : t.kind = 6
  · rw [if_pos h6]
    obtain ⟨a, -, -, hb, ho, hsz⟩ := arg_ty hs (.inr (.inl h6))
    have h1 : l.length = 3 := by rw [h6] at hlen; simp [arityI] at hlen; omega
    match l, h1, all with
    | [x, f, n], _, all =>
      rw [hb]
      have c := fine_call (M := M1 + 2) (by omega) [vT 1, vT 0] (fine_up (f := 0) (b := 2) (by decide) (all f (by simp))) fun _ z hz => by simp at hz; rcases hz with rfl | rfl; exact ⟨shape_v (i := 1), idx_v (by decide) (by omega)⟩; exact ⟨shape_v (i := 0), idx_v (by decide) (by omega)⟩
      have st := fine_step ho (by omega) c
      refine (fine_node (M := M1 + 2 + a.maj.size) (by omega) (fun he => shape_t rfl (.inr (.inl rfl)) (T.ok_ty ho) ?_) (fun he => ?_)).mono (by omega)
      · intro z hz; simp at hz; rcases hz with rfl | rfl | rfl; exact ((all _ (by simp)).2 rfl).1; exact (st.2 he).1; exact ((all _ (by simp)).2 rfl).1
      · intro z hz; simp at hz; rcases hz with rfl | rfl | rfl; exact Tm.idx_mono (by omega) ((all _ (by simp)).2 rfl).2; exact (st.2 he).2; exact Tm.idx_mono (by omega) ((all _ (by simp)).2 rfl).2
  rw [if_neg h6]
  by_cases h9 : t.kind = 9
  · rw [if_pos h9]
    obtain ⟨a, -, -, hb, ho, hsz⟩ := arg_ty hs (.inr (.inr h9))
    have h1 : l.length = 3 := by rw [h9] at hlen; simp [arityI] at hlen; omega
    match l, h1, all with
    | [x, f, n], _, all =>
      rw [hb]
      have c := fine_call (M := M1 + 3) (by omega) [vT 2, vT 2, vT 0] (fine_up (f := 0) (b := 3) (by decide) (all f (by simp))) fun _ z hz => by simp at hz; rcases hz with rfl | rfl; exact ⟨shape_v (i := 2), idx_v (by decide) (by omega)⟩; exact ⟨shape_v (i := 0), idx_v (by decide) (by omega)⟩
      have st := fine_step ho (by omega) c
      have x1 := fine_up (f := 0) (b := 1) (by decide) (all x (by simp))
      have r := fine_node (e := (stepE a.maj.ty (callE 0 (f.upN 0 3) [vT 2, vT 2, vT 0]).1 (callE 0 (f.upN 0 3) [vT 2, vT 2, vT 0]).2).2) (k := 6) (s := a.maj.ty) (l := [x.upN 0 1, (stepE a.maj.ty (callE 0 (f.upN 0 3) [vT 2, vT 2, vT 0]).1 (callE 0 (f.upN 0 3) [vT 2, vT 2, vT 0]).2).1, vT 0]) (M := M1 + 3 + a.maj.size) (by omega) (fun he => shape_t rfl (.inr (.inl rfl)) (T.ok_ty ho) (by
          intro z hz; simp at hz; rcases hz with rfl | rfl | rfl; exact (x1.2 rfl).1; exact (st.2 he).1; exact shape_v (i := 0))) (fun he => by
          intro z hz; simp at hz; rcases hz with rfl | rfl | rfl; exact Tm.idx_mono (by omega) (x1.2 rfl).2; exact (st.2 he).2; exact idx_v (by decide) (by omega))
      have la := fine_lam (s := .nat) nat_ok0 (by omega) r
      exact (fine_call (by omega) [n] la fun he z hz => by simp at hz; rw [hz]; exact ⟨((all n (by simp)).2 rfl).1, Tm.idx_mono (by omega) ((all n (by simp)).2 rfl).2⟩).mono (by omega)
  rw [if_neg h9]
  by_cases h1 : t.kind = 1
  · rw [if_pos h1]
    have ha : t.args = [] := by rw [h1] at hlen; simp [arityI] at hlen; exact hlen
    have hc : t.count = 1 := by rw [Tm.count_eq, ha]; rfl
    rw [Tm.eta]
    exact ⟨by rw [hc]; decide, fun _ => ⟨hs, Tm.idx_mono (by omega) hi⟩⟩
  rw [if_neg h1]
  refine (fine_node (M := M1) (by omega) (fun he => shape_n (by rw [hl]; exact hlen) (by omega) fun z hz => ((all z hz).2 rfl).1) fun he z hz => ((all z hz).2 rfl).2).mono (by omega)
end Go.Proofs.YteoalfdaanlbjaaGreatDoor.Lift

namespace Go.Proofs.YteoalfdaanlbjaaGreatDoor.Lift
set_option linter.unusedSimpArgs false
set_option linter.unusedVariables false
set_option linter.unnecessarySimpa false
open Go
variable {gl : Globs}

theorem arityI_le (k : Int) : arityI k ≤ 3 := by
  unfold arityI
  repeat' split
  all_goals decide

set_option maxHeartbeats 4000000 in
theorem of_walk (b : Nat) (t : Tm) : ∀ {M : Int}, t.shape = true → t.idx M → 10 ≤ M → M + 100 * t.count ≤ 137438953472 →
    Con1 Tryz.prog gl 66 [ptr b, t.dv] [(b, mk1 0)] (majE t).1.dv [(b, mk1 (majE t).2)] := by
  induction t using Tm.ind with
  | h t ih =>
  intro M hs hi hM hMc
  obtain ⟨hlen, hi0, hv, hty, hsa⟩ := Tm.shape_node hs
  have hix := (Tm.idx_eq t _).1 hi
  have hct := Tm.count_eq t
  have hc1 : 1 ≤ t.count := Tm.count_pos t
  refine t_in Tryz.func66 ?_
  intro X hP hgl hf hfn hn hR hids hfit
  have hlen2 := Tm.fit_len (hfit t.dv (by simp))
  rw [majE_eq] at hR
  refine t_g0 ?_
  refine t_a ?_
  refine W_sub [(1005, 0)] (by simp [go_sem]) (by simp [go_sem, majE.majsE] <;> omega) (by simp [go_sem]) (W_listI (t.args) (fun done => (majE.majsE done).2 = 0) (fun done rest => [(.slot 18, .one (.v (dint done.length))), (.slot 17, .one (.v (dint t.args.length))), (.slot 16, .one (.v (.sl (t.args.map Tm.cells)))), (.slot 0, .one (.v (ptr b))), (.slot 3, .one (.loc 3 0)), (.loc 3, .row ([.v (dint t.kind), .v (dint t.index), .v (dint t.type.kind), .v (.sl (t.type.args.map Ty.cells)), .v (.sl (t.args.map Tm.cells))])), (.slot 4, .one (.loc 4 0)), (.loc 4, .row ([.v (dint 0), .v (dint 0), .v (dint 0), .own 0 [], .own 0 []])), (.slot 5, .one (.own 1005 ((majE.majsE done).1.map Tm.cells))), (.tok 1005, .tk 5 (majE.majsE done).1.length), (.heap  b, .row ([.v (dint 0)]))]) (rfl) ?_ ?_)
  · intro done x rest hL hg0 hI hnext
    have hlt : done.length < t.args.length := by rw [hL]; simp
    have hxm := List.mem_of_getElem? hg0
    have hcx := Tm.count_mem hxm
    have w := ih x hxm (hsa x hxm) (hix.2 x hxm) hM (by omega)
    have hdl := (majs_all done hI).1
    have hfx := Tm.fold x
    refine t_rg0 ?_
    refine t_yes ?_
    refine t_g @hg0 ?_
    refine t_c1 (j2 @hg0 @hfx) w ?_
    by_cases he : (majE x).2 = 0
    · have hsn := majs_snoc done x hI he
      refine t_gt (wr [(1005, 34)]) (j2 @hsn (j2 @hdl (Tm.cells_eq (majE x).1))) (j2 @he @hdl) (hnext (by rw [hsn]))
    · have hst := majs_stop done x rest hI he
      rw [← hL] at hst
      rw [hst, if_neg he] at hR
      refine t_g @he ?_
      repeat (first | refine W_seq ?_ | refine W_skip ?_ | refine W_block ?_ | refine W_inBlock ?_ | refine W_label ?_ | refine W_exit rfl ?_)
      first | refine W_retR hP hf hfn _ ([(b, mk1 (majE x).2)]) (by first | (simp [go_sem, hP, hgl, hn, zeroTm]; done) | (simp [go_sem, hP, hgl, hn, zeroTm]; rfl)) (by simp [go_sem, hP, hgl, hn, zeroTm]) (by simp) ?_ hR.2 | refine W_endR hP hf hfn _ ([(b, mk1 (majE x).2)]) (by first | (simp [go_sem, hP, hgl, hn, zeroTm]; done) | (simp [go_sem, hP, hgl, hn, zeroTm]; rfl)) (by simp [go_sem, hP, hgl, hn, zeroTm]) (by simp) ?_ hR.2
      rw [hR.1]
      refine ⟨?_, by simp [zeroTm]⟩
      try simp [zeroTm]
      try all_goals (simp [Ty.dv, Ty.cells_eq, Ty.kind_mk, Ty.args_mk, Tm.dv, Tm.cells_eq, Tm.kind_mk, Tm.index_mk, Tm.type_mk, Tm.args_mk, Val.dv, Val.cells_eq, Val.kind_mk, Val.num_mk, Val.list_mk, Val.args_mk, ints])
  · intro h0
    obtain ⟨hl, hx⟩ := majs_all t.args h0
    rw [if_pos h0] at hR
    have all : ∀ z ∈ (majE.majsE t.args).1, Fine 0 (M + 100 * ((t.count : Int) - 1)) z := by
      intro z hz
      obtain ⟨i, hi⟩ := List.getElem?_of_mem hz
      have hil := (List.getElem?_eq_some_iff.1 hi).1
      have hxi : t.args[i]? = some t.args[i] := List.getElem?_eq_getElem (by omega)
      obtain ⟨x1, x2⟩ := hx i _ hxi
      have hm := List.getElem_mem (l := t.args) (n := i) (by omega)
      have hc := Tm.count_mem hm
      have := fine_maj _ (hsa _ hm) (hix.2 _ hm) hM
      rw [hi] at x2; cases x2
      exact (this.later fun _ => x1).mono (by omega)
    clear hx
    obtain ⟨l, hle⟩ : ∃ l, l = (majE.majsE t.args).1 := ⟨_, rfl⟩
    rw [← hle] at hR hl all ⊢
    generalize hM1 : M + 100 * ((t.count : Int) - 1) = M1 at all
    have hM2 : 10 ≤ M1 := by omega
    have hM3 : M1 + 200 ≤ 274877906944 := by omega
    have hlb : l.length ≤ 3 := by
      have := arityI_le t.kind
      omega
    refine t_rg0 ?_
    refine t_no ?_
    unfold majNodeE at hR
    by_cases h7 : t.kind = 7
    · rw [if_pos h7] at hR
      refine t_g @h7 ?_
      repeat (first | refine W_seq ?_ | refine W_skip ?_ | refine W_block ?_ | refine W_inBlock ?_ | refine W_label ?_ | refine W_exit rfl ?_)
      first | refine W_retR hP hf hfn _ ([(b, mk1 0)]) (by first | (simp [go_sem, hP, hgl, hn, nT]; done) | (simp [go_sem, hP, hgl, hn, nT]; rfl)) (by simp [go_sem, hP, hgl, hn, nT]) (by simp) ?_ hR.2 | refine W_endR hP hf hfn _ ([(b, mk1 0)]) (by first | (simp [go_sem, hP, hgl, hn, nT]; done) | (simp [go_sem, hP, hgl, hn, nT]; rfl)) (by simp [go_sem, hP, hgl, hn, nT]) (by simp) ?_ hR.2
      rw [hR.1]
      refine ⟨?_, by simp [nT]⟩
      try simp [nT]
      try all_goals (simp [Ty.dv, Ty.cells_eq, Ty.kind_mk, Ty.args_mk, Tm.dv, Tm.cells_eq, Tm.kind_mk, Tm.index_mk, Tm.type_mk, Tm.args_mk, Val.dv, Val.cells_eq, Val.kind_mk, Val.num_mk, Val.list_mk, Val.args_mk, ints])
    rw [if_neg h7] at hR
    by_cases h8 : t.kind = 8
    · rw [if_pos h8] at hR
      have h2 : l.length = 2 := by rw [h8] at hlen; simp [arityI] at hlen; omega
      match l, h2, all, hR with
      | [y, z], _, all, hR =>
        have fy := all y (by simp)
        have fz := all z (by simp)
        have cz := fz.1
        have w1 := plain_walk (gl := gl) b 0 5 [z] (by show 1 + (z.count + 0) ≤ 1073741824; omega)
        have f1 := fine_n1 (k := 5) (by omega) (.inl rfl) fz
        have hR : X.R = (fun r ψ => r = (maxE natY y (nodeE 0 5 zY [z]).1 (nodeE 0 5 zY [z]).2).1.dv ∧ ψ = [(b, mk1 (maxE natY y (nodeE 0 5 zY [z]).1 (nodeE 0 5 zY [z]).2).2)]) ∧ X.md = .fn := hR
        generalize nodeE 0 5 zY [z] = r1 at *
        obtain ⟨z1, e1⟩ := r1
        simp only at hR w1 f1
        have w2 := max_walk (gl := gl) b .nat y z1 e1 M1 nat_ok0 hM2 (by simp only [T.size]; omega) (fy.later fun h => rfl) f1
        have hnt : (T.ty .nat) = natY := rfl
        rw [hnt] at w2
        refine t_g @h8 ?_
        refine t_c3 @h8 sc_nat_ok w1 w2 ?_
        repeat (first | refine W_seq ?_ | refine W_skip ?_ | refine W_block ?_ | refine W_inBlock ?_ | refine W_label ?_ | refine W_exit rfl ?_)
        first | refine W_retR hP hf hfn _ ([(b, mk1 (maxE natY y z1 e1).2)]) (by first | (simp [go_sem, hP, hgl, hn]; done) | (simp [go_sem, hP, hgl, hn]; rfl)) (by simp [go_sem, hP, hgl, hn]) (by simp) ?_ hR.2 | refine W_endR hP hf hfn _ ([(b, mk1 (maxE natY y z1 e1).2)]) (by first | (simp [go_sem, hP, hgl, hn]; done) | (simp [go_sem, hP, hgl, hn]; rfl)) (by simp [go_sem, hP, hgl, hn]) (by simp) ?_ hR.2
        rw [hR.1]
        refine ⟨?_, by simp⟩
        try simp
        try all_goals (simp [Ty.dv, Ty.cells_eq, Ty.kind_mk, Ty.args_mk, Tm.dv, Tm.cells_eq, Tm.kind_mk, Tm.index_mk, Tm.type_mk, Tm.args_mk, Val.dv, Val.cells_eq, Val.kind_mk, Val.num_mk, Val.list_mk, Val.args_mk, ints])
    rw [if_neg h8] at hR
    by_cases h2 : t.kind = 2
    · rw [if_pos h2] at hR
      have h1 : l.length = 1 := by rw [h2] at hlen; simp [arityI] at hlen; omega
      match l, h1, all, hR with
      | [y], _, all, hR =>
        have cy := (all y (by simp)).1
        refine t_g @h2 ?_
        refine t_c2 @h2 (bare_walk t.type) (node_walk b 0 2 (bareN t.type) [y] (by show 1 + (y.count + 0) ≤ 1073741824; omega)) ?_
        repeat (first | refine W_seq ?_ | refine W_skip ?_ | refine W_block ?_ | refine W_inBlock ?_ | refine W_label ?_ | refine W_exit rfl ?_)
        first | refine W_retR hP hf hfn _ ([(b, mk1 (nodeE 0 2 (bareN t.type) [y]).2)]) (by first | (simp [go_sem, hP, hgl, hn]; done) | (simp [go_sem, hP, hgl, hn]; rfl)) (by simp [go_sem, hP, hgl, hn]) (by simp) ?_ hR.2 | refine W_endR hP hf hfn _ ([(b, mk1 (nodeE 0 2 (bareN t.type) [y]).2)]) (by first | (simp [go_sem, hP, hgl, hn]; done) | (simp [go_sem, hP, hgl, hn]; rfl)) (by simp [go_sem, hP, hgl, hn]) (by simp) ?_ hR.2
        rw [hR.1]
        refine ⟨?_, by simp⟩
        try simp
        try all_goals (simp [Ty.dv, Ty.cells_eq, Ty.kind_mk, Ty.args_mk, Tm.dv, Tm.cells_eq, Tm.kind_mk, Tm.index_mk, Tm.type_mk, Tm.args_mk, Val.dv, Val.cells_eq, Val.kind_mk, Val.num_mk, Val.list_mk, Val.args_mk, ints])
    rw [if_neg h2] at hR
    by_cases h6 : t.kind = 6
    · rw [if_pos h6] at hR
      obtain ⟨a, -, -, hb, ho, hsz⟩ := arg_ty hs (.inr (.inl h6))
      have h1 : l.length = 3 := by rw [h6] at hlen; simp [arityI] at hlen; omega
      match l, h1, all, hR with
      | [x, f, n], _, all, hR =>
        have fx := all x (by simp)
        have ff := all f (by simp)
        have fn' := all n (by simp)
        have cx := fx.1
        have cf := ff.1
        have cn := fn'.1
        have l1 := sc_lift_ok (gl := gl) f 0 2 (ff.2 rfl).1 (Tm.idx_mono (by omega) (ff.2 rfl).2) (by decide) (by decide) (by decide) (by omega)
        have u1 := up_count f 0 2
        have v1 : (vT 1).count ≤ 268435456 := by decide
        have v0 : (vT 0).count ≤ 268435456 := by decide
        have w1 := call_walk (gl := gl) b 0 (f.upN 0 2) [vT 1, vT 0] (by omega) (by intro z hz; simp at hz; rcases hz with rfl | rfl; exact v1; exact v0)
        have c := fine_call (M := M1 + 2) (by omega) [vT 1, vT 0] (fine_up (f := 0) (b := 2) (by decide) ff) fun _ z hz => by simp at hz; rcases hz with rfl | rfl; exact ⟨shape_v (i := 1), idx_v (by decide) (by omega)⟩; exact ⟨shape_v (i := 0), idx_v (by decide) (by omega)⟩
        have hR : X.R = (fun r ψ => r = (nodeE (stepE (bareN t.type) (callE 0 (f.upN 0 2) [vT 1, vT 0]).1 (callE 0 (f.upN 0 2) [vT 1, vT 0]).2).2 6 (bareN t.type) [x, (stepE (bareN t.type) (callE 0 (f.upN 0 2) [vT 1, vT 0]).1 (callE 0 (f.upN 0 2) [vT 1, vT 0]).2).1, n]).1.dv ∧ ψ = [(b, mk1 (nodeE (stepE (bareN t.type) (callE 0 (f.upN 0 2) [vT 1, vT 0]).1 (callE 0 (f.upN 0 2) [vT 1, vT 0]).2).2 6 (bareN t.type) [x, (stepE (bareN t.type) (callE 0 (f.upN 0 2) [vT 1, vT 0]).1 (callE 0 (f.upN 0 2) [vT 1, vT 0]).2).1, n]).2)]) ∧ X.md = .fn := hR
        generalize callE 0 (f.upN 0 2) [vT 1, vT 0] = r1 at *
        obtain ⟨g1, e1⟩ := r1
        simp only at hR w1 c
        have wb := bare_walk (gl := gl) t.type
        rw [hb] at wb hR
        have w2 := step_walk (gl := gl) b a.maj g1 e1 (M1 + 2) ho (by omega) (by omega) c
        have c2 : (stepE a.maj.ty g1 e1).1.count ≤ 4096 := node_count _ _ _ _
        generalize stepE a.maj.ty g1 e1 = r2 at *
        obtain ⟨g2, e2⟩ := r2
        simp only at hR w2 c2
        have w3 := node_walk (gl := gl) b e2 6 a.maj.ty [x, g2, n] (by show 1 + (x.count + (g2.count + (n.count + 0))) ≤ 1073741824; omega)
        refine t_g @h6 ?_
        refine t_c1 @h6 wb ?_
        refine t_c1 @h6 l1 ?_
        refine t_c5 @h6 (sc_var_ok 1) (sc_var_ok 0) w1 w2 w3 ?_
        repeat (first | refine W_seq ?_ | refine W_skip ?_ | refine W_block ?_ | refine W_inBlock ?_ | refine W_label ?_ | refine W_exit rfl ?_)
        first | refine W_retR hP hf hfn _ ([(b, mk1 (nodeE e2 6 a.maj.ty [x, g2, n]).2)]) (by first | (simp [go_sem, hP, hgl, hn]; done) | (simp [go_sem, hP, hgl, hn]; rfl)) (by simp [go_sem, hP, hgl, hn]) (by simp) ?_ hR.2 | refine W_endR hP hf hfn _ ([(b, mk1 (nodeE e2 6 a.maj.ty [x, g2, n]).2)]) (by first | (simp [go_sem, hP, hgl, hn]; done) | (simp [go_sem, hP, hgl, hn]; rfl)) (by simp [go_sem, hP, hgl, hn]) (by simp) ?_ hR.2
        rw [hR.1]
        refine ⟨?_, by simp⟩
        try simp
        try all_goals (simp [Ty.dv, Ty.cells_eq, Ty.kind_mk, Ty.args_mk, Tm.dv, Tm.cells_eq, Tm.kind_mk, Tm.index_mk, Tm.type_mk, Tm.args_mk, Val.dv, Val.cells_eq, Val.kind_mk, Val.num_mk, Val.list_mk, Val.args_mk, ints])
    rw [if_neg h6] at hR
    by_cases h9 : t.kind = 9
    · rw [if_pos h9] at hR
      obtain ⟨a, -, -, hb, ho, hsz⟩ := arg_ty hs (.inr (.inr h9))
      have h1 : l.length = 3 := by rw [h9] at hlen; simp [arityI] at hlen; omega
      match l, h1, all, hR with
      | [x, f, n], _, all, hR =>
        have fx := all x (by simp)
        have ff := all f (by simp)
        have fn' := all n (by simp)
        have cx := fx.1
        have cf := ff.1
        have cn := fn'.1
        have l1 := sc_lift_ok (gl := gl) f 0 3 (ff.2 rfl).1 (Tm.idx_mono (by omega) (ff.2 rfl).2) (by decide) (by decide) (by decide) (by omega)
        have l2 := sc_lift_ok (gl := gl) x 0 1 (fx.2 rfl).1 (Tm.idx_mono (by omega) (fx.2 rfl).2) (by decide) (by decide) (by decide) (by omega)
        have u1 := up_count f 0 3
        have u2 := up_count x 0 1
        have v2 : (vT 2).count ≤ 268435456 := by decide
        have v0 : (vT 0).count ≤ 268435456 := by decide
        have v00 : (vT 0).count = 1 := by decide
        have w1 := call_walk (gl := gl) b 0 (f.upN 0 3) [vT 2, vT 2, vT 0] (by omega) (by intro z hz; simp at hz; rcases hz with rfl | rfl; exact v2; exact v0)
        have c := fine_call (M := M1 + 3) (by omega) [vT 2, vT 2, vT 0] (fine_up (f := 0) (b := 3) (by decide) ff) fun _ z hz => by simp at hz; rcases hz with rfl | rfl; exact ⟨shape_v (i := 2), idx_v (by decide) (by omega)⟩; exact ⟨shape_v (i := 0), idx_v (by decide) (by omega)⟩
        have hR : ∃ c1 : Tm × Int, c1 = callE 0 (f.upN 0 3) [vT 2, vT 2, vT 0] ∧ ∃ st, st = stepE (bareN t.type) c1.1 c1.2 ∧ ∃ r, r = nodeE st.2 6 (bareN t.type) [x.upN 0 1, st.1, vT 0] ∧ ∃ la, la = nodeE r.2 2 natY [r.1] ∧ X.R = (fun q ψ => q = (callE la.2 la.1 [n]).1.dv ∧ ψ = [(b, mk1 (callE la.2 la.1 [n]).2)]) ∧ X.md = .fn := ⟨_, rfl, _, rfl, _, rfl, _, rfl, hR⟩
        obtain ⟨r1, q1, r2, q2, r3, q3, r4, q4, hR⟩ := hR
        rw [← q1] at w1 c
        obtain ⟨g1, e1⟩ := r1
        simp only at q2 w1 c
        have wb := bare_walk (gl := gl) t.type
        rw [hb] at wb q2 q3
        have w2 := step_walk (gl := gl) b a.maj g1 e1 (M1 + 3) ho (by omega) (by omega) c
        have c2 : (stepE a.maj.ty g1 e1).1.count ≤ 4096 := node_count _ _ _ _
        rw [← q2] at w2 c2
        obtain ⟨g2, e2⟩ := r2
        simp only at q3 w2 c2
        have w3 := node_walk (gl := gl) b e2 6 a.maj.ty [x.upN 0 1, g2, vT 0] (by show 1 + ((x.upN 0 1).count + (g2.count + ((vT 0).count + 0))) ≤ 1073741824; omega)
        have c3 := node_count e2 6 a.maj.ty [x.upN 0 1, g2, vT 0]
        rw [← q3] at w3 c3
        obtain ⟨g3, e3⟩ := r3
        simp only at q4 w3 c3
        have w4 := node_walk (gl := gl) b e3 2 natY [g3] (by show 1 + (g3.count + 0) ≤ 1073741824; omega)
        have c4 := node_count e3 2 natY [g3]
        rw [← q4] at w4 c4
        obtain ⟨g4, e4⟩ := r4
        simp only at hR w4 c4
        have w5 := call_walk (gl := gl) b e4 g4 [n] (by omega) (by intro z hz; simp at hz; rw [hz]; exact cn)
        refine t_g @h9 ?_
        refine t_c1 @h9 wb ?_
        refine t_c2 @h9 l1 (sc_var_ok 2) ?_
        refine t_c6 @h9 l2 (sc_var_ok 0) w1 w2 (sc_var_ok 0) w3 ?_
        refine t_c3 @h9 sc_nat_ok w4 w5 ?_
        repeat (first | refine W_seq ?_ | refine W_skip ?_ | refine W_block ?_ | refine W_inBlock ?_ | refine W_label ?_ | refine W_exit rfl ?_)
        first | refine W_retR hP hf hfn _ ([(b, mk1 (callE e4 g4 [n]).2)]) (by first | (simp [go_sem, hP, hgl, hn]; done) | (simp [go_sem, hP, hgl, hn]; rfl)) (by simp [go_sem, hP, hgl, hn]) (by simp) ?_ hR.2 | refine W_endR hP hf hfn _ ([(b, mk1 (callE e4 g4 [n]).2)]) (by first | (simp [go_sem, hP, hgl, hn]; done) | (simp [go_sem, hP, hgl, hn]; rfl)) (by simp [go_sem, hP, hgl, hn]) (by simp) ?_ hR.2
        rw [hR.1]
        refine ⟨?_, by simp⟩
        try simp
        try all_goals (simp [Ty.dv, Ty.cells_eq, Ty.kind_mk, Ty.args_mk, Tm.dv, Tm.cells_eq, Tm.kind_mk, Tm.index_mk, Tm.type_mk, Tm.args_mk, Val.dv, Val.cells_eq, Val.kind_mk, Val.num_mk, Val.list_mk, Val.args_mk, ints])
    rw [if_neg h9] at hR
    by_cases h1 : t.kind = 1
    · rw [if_pos h1] at hR
      have he : Tm.mk t.kind t.index t.type t.args = t := Tm.eta t
      rw [he] at hR
      have hfd := Tm.fold t
      rw [h1] at hfd
      refine t_g @h1 ?_
      repeat (first | refine W_seq ?_ | refine W_skip ?_ | refine W_block ?_ | refine W_inBlock ?_ | refine W_label ?_ | refine W_exit rfl ?_)
      first | refine W_retR hP hf hfn _ ([(b, mk1 0)]) (by first | (simp [go_sem, hP, hgl, hn, h1, hfd]; done) | (simp [go_sem, hP, hgl, hn, h1, hfd]; rfl)) (by simp [go_sem, hP, hgl, hn, h1, hfd]) (by simp) ?_ hR.2 | refine W_endR hP hf hfn _ ([(b, mk1 0)]) (by first | (simp [go_sem, hP, hgl, hn, h1, hfd]; done) | (simp [go_sem, hP, hgl, hn, h1, hfd]; rfl)) (by simp [go_sem, hP, hgl, hn, h1, hfd]) (by simp) ?_ hR.2
      rw [hR.1]
      refine ⟨?_, by simp [h1, hfd]⟩
      try simp [h1, hfd]
      try all_goals (simp [Ty.dv, Ty.cells_eq, Ty.kind_mk, Ty.args_mk, Tm.dv, Tm.cells_eq, Tm.kind_mk, Tm.index_mk, Tm.type_mk, Tm.args_mk, Val.dv, Val.cells_eq, Val.kind_mk, Val.num_mk, Val.list_mk, Val.args_mk, ints])
    rw [if_neg h1] at hR
    have hcl : (Tm.mk t.kind 0 zY l).count ≤ 1073741824 := by
      rw [Tm.count_eq, Tm.args_mk]
      match l, hlb, all with
      | [], _, _ => decide
      | [x], _, all => have := (all x (by simp)).1; show 1 + (x.count + 0) ≤ _; omega
      | [x, y], _, all => have := (all x (by simp)).1; have := (all y (by simp)).1; show 1 + (x.count + (y.count + 0)) ≤ _; omega
      | [x, y, z], _, all => have := (all x (by simp)).1; have := (all y (by simp)).1; have := (all z (by simp)).1; show 1 + (x.count + (y.count + (z.count + 0))) ≤ _; omega
    refine t_g (j2 @h1 (j2 @h2 (j2 @h6 (j2 @h7 (j2 @h8 @h9))))) ?_
    refine t_c1 trivial (plain_walk b 0 t.kind l hcl) ?_
    repeat (first | refine W_seq ?_ | refine W_skip ?_ | refine W_block ?_ | refine W_inBlock ?_ | refine W_label ?_ | refine W_exit rfl ?_)
    first | refine W_retR hP hf hfn _ ([(b, mk1 (nodeE 0 t.kind zY l).2)]) (by first | (simp [go_sem, hP, hgl, hn]; done) | (simp [go_sem, hP, hgl, hn]; rfl)) (by simp [go_sem, hP, hgl, hn]) (by simp) ?_ hR.2 | refine W_endR hP hf hfn _ ([(b, mk1 (nodeE 0 t.kind zY l).2)]) (by first | (simp [go_sem, hP, hgl, hn]; done) | (simp [go_sem, hP, hgl, hn]; rfl)) (by simp [go_sem, hP, hgl, hn]) (by simp) ?_ hR.2
    rw [hR.1]
    refine ⟨?_, by simp⟩
    try simp
    try all_goals (simp [Ty.dv, Ty.cells_eq, Ty.kind_mk, Ty.args_mk, Tm.dv, Tm.cells_eq, Tm.kind_mk, Tm.index_mk, Tm.type_mk, Tm.args_mk, Val.dv, Val.cells_eq, Val.kind_mk, Val.num_mk, Val.list_mk, Val.args_mk, ints])
end Go.Proofs.YteoalfdaanlbjaaGreatDoor.Lift

namespace Go.Proofs.YteoalfdaanlbjaaGreatDoor.Lift
set_option linter.unusedSimpArgs false
set_option linter.unusedVariables false
set_option linter.unnecessarySimpa false
open Go
variable {gl : Globs}

theorem anyLoc_mapv (d : Nat) (l : List DV) : anyLoc d (l.map SV.v) = false := by
  induction l with
  | nil => rfl
  | cons x r ih => simp [anyLoc, hasLoc, ih]
theorem anyTok_mapv (d : Nat) (l : List DV) : anyTok d (l.map SV.v) = false := by
  induction l with
  | nil => rfl
  | cons x r ih => simp [anyTok, hasTok, ih]
theorem exRow_mapv (k b : Nat) (l : List DV) : exRow k b (l.map SV.v) = l.map SV.v := by
  induction l with
  | nil => rfl
  | cons x r ih => simp only [List.map_cons, exRow, ih]; rfl
attribute [go_sem] anyLoc_mapv anyTok_mapv exRow_mapv

theorem mterm1_ok (b bt : Nat) (hb : b ≠ bt) (t : Tm) (hs : t.shape = true) (hc : t.count ≤ 4096) (hl : t.leastN 268435456 = true) :
    Con1 Tryz.prog gl 65 [ptr b, ptr bt] [(b, mk1 0), (bt, t.cells)] (majE t).1.dv [(b, mk1 (majE t).2), (bt, t.cells)] := by
  have w := of_walk (gl := gl) b t (M := 268435456) hs (Tm.idx_of t _ hs hl) (by decide) (by omega)
  have hf' := Tm.fold t
  refine t_in Tryz.func65 ?_
  intro X hP hgl hf hfn hn hR hids hfit
  have hb' : bt ≠ b := fun h => hb h.symm
  refine t_g (j2 @hb (j2 @hb' (Tm.cells_eq t))) ?_
  refine t_c1 (j2 @hb (j2 @hb' @hf')) w ?_
  repeat (first | refine W_seq ?_ | refine W_skip ?_ | refine W_block ?_ | refine W_inBlock ?_ | refine W_label ?_ | refine W_exit rfl ?_)
  first | refine W_retR hP hf hfn _ ([(b, mk1 (majE t).2), (bt, t.cells)]) (by first | (simp [go_sem, hP, hgl, hn, hb, hb', Tm.cells_eq t]; done) | (simp [go_sem, hP, hgl, hn, hb, hb', Tm.cells_eq t]; rfl)) (by simp [go_sem, hP, hgl, hn, hb, hb', Tm.cells_eq t]) (by simp [hb, hb', Tm.cells_eq t]) ?_ hR.2 | refine W_endR hP hf hfn _ ([(b, mk1 (majE t).2), (bt, t.cells)]) (by first | (simp [go_sem, hP, hgl, hn, hb, hb', Tm.cells_eq t]; done) | (simp [go_sem, hP, hgl, hn, hb, hb', Tm.cells_eq t]; rfl)) (by simp [go_sem, hP, hgl, hn, hb, hb', Tm.cells_eq t]) (by simp [hb, hb', Tm.cells_eq t]) ?_ hR.2
  rw [hR.1]
  refine ⟨?_, by simp [hb, hb', Tm.cells_eq t]⟩
  try simp [hb, hb', Tm.cells_eq t]
  try all_goals (simp [Ty.dv, Ty.cells_eq, Ty.kind_mk, Ty.args_mk, Tm.dv, Tm.cells_eq, Tm.kind_mk, Tm.index_mk, Tm.type_mk, Tm.args_mk, Val.dv, Val.cells_eq, Val.kind_mk, Val.num_mk, Val.list_mk, Val.args_mk, ints])

def runT (r : Tm × Int) : Tm × Int := if r.2 = 0 then r else (zeroTm, r.2)

theorem mrun_ok (bt : Nat) (f : FuncId) (cs : List DV) (r : Tm × Int) (hc : ∀ b, b ≠ bt → Con1 Tryz.prog gl f [ptr b, ptr bt] [(b, mk1 0), (bt, cs)] r.1.dv [(b, mk1 r.2), (bt, cs)]) :
    Con1 Tryz.prog gl 64 [.prim (.func (.func f) #[] #[.pointer (some ⟨bt, 0, none⟩)])] [(bt, cs)] (.tup [(runT r).1.dv, dint (runT r).2]) [(bt, cs)] := by
  refine t_in Tryz.func64 ?_
  intro X hP hgl hf hfn hn hR hids hfit
  refine t_rg0 ?_
  refine t_rg0 ?_
  refine W_expose 7 (by simp [go_sem]; rfl) ?_
  intro b hb
  simp [go_sem] at hb ⊢
  have hbt : b ≠ bt := fun h => hb h.symm
  refine t_a ?_
  first | refine W_reg [] fun K hK => ?_ | refine W_regd (by rw [hP]; exact mixed) [] fun K hK => ?_
  refine t_s0 ?_
  repeat (refine ⟨by omega, ?_⟩)
  refine vcK_callV hP hgl (f := f) (fi := #[]) (ca := #[.pointer (some ⟨bt, 0, none⟩)]) (by simp [go_sem]) (by simp [primOK]) (ds := [ptr b]) (hc b hbt) (by simp [go_sem]) rfl (by simp [go_sem, hb, hbt]) (by simp [hbt]) (by rw [hn]; exact Nat.le_of_ble_eq_true rfl) ?_
  simp [go_sem, hP, hgl, hn, hb, hbt]
  refine t_e ?_
  clear hK K
  by_cases h : r.2 = 0
  · refine t_g (j2 @h (j2 @hb @hbt)) ?_
    repeat (first | refine W_seq ?_ | refine W_skip ?_ | refine W_block ?_ | refine W_inBlock ?_ | refine W_label ?_ | refine W_exit rfl ?_)
    first | refine W_retR hP hf hfn _ ([(bt, cs)]) (by first | (simp [go_sem, hP, hgl, hn, h, runT, hb, hbt]; done) | (simp [go_sem, hP, hgl, hn, h, runT, hb, hbt]; rfl)) (by simp [go_sem, hP, hgl, hn, h, runT, hb, hbt]) (by simp [h, runT, hb, hbt]) ?_ hR.2 | refine W_endR hP hf hfn _ ([(bt, cs)]) (by first | (simp [go_sem, hP, hgl, hn, h, runT, hb, hbt]; done) | (simp [go_sem, hP, hgl, hn, h, runT, hb, hbt]; rfl)) (by simp [go_sem, hP, hgl, hn, h, runT, hb, hbt]) (by simp [h, runT, hb, hbt]) ?_ hR.2
    rw [hR.1]
    refine ⟨?_, by simp [h, runT, hb, hbt]⟩
    try simp [h, runT, hb, hbt]
    try all_goals (simp [Ty.dv, Ty.cells_eq, Ty.kind_mk, Ty.args_mk, Tm.dv, Tm.cells_eq, Tm.kind_mk, Tm.index_mk, Tm.type_mk, Tm.args_mk, Val.dv, Val.cells_eq, Val.kind_mk, Val.num_mk, Val.list_mk, Val.args_mk, ints])
  · refine t_g (j2 @h (j2 @hb @hbt)) ?_
    repeat (first | refine W_seq ?_ | refine W_skip ?_ | refine W_block ?_ | refine W_inBlock ?_ | refine W_label ?_ | refine W_exit rfl ?_)
    first | refine W_retR hP hf hfn _ ([(bt, cs)]) (by first | (simp [go_sem, hP, hgl, hn, h, runT, hb, hbt, zeroTm]; done) | (simp [go_sem, hP, hgl, hn, h, runT, hb, hbt, zeroTm]; rfl)) (by simp [go_sem, hP, hgl, hn, h, runT, hb, hbt, zeroTm]) (by simp [h, runT, hb, hbt, zeroTm]) ?_ hR.2 | refine W_endR hP hf hfn _ ([(bt, cs)]) (by first | (simp [go_sem, hP, hgl, hn, h, runT, hb, hbt, zeroTm]; done) | (simp [go_sem, hP, hgl, hn, h, runT, hb, hbt, zeroTm]; rfl)) (by simp [go_sem, hP, hgl, hn, h, runT, hb, hbt, zeroTm]) (by simp [h, runT, hb, hbt, zeroTm]) ?_ hR.2
    rw [hR.1]
    refine ⟨?_, by simp [h, runT, hb, hbt, zeroTm]⟩
    try simp [h, runT, hb, hbt, zeroTm]
    try all_goals (simp [Ty.dv, Ty.cells_eq, Ty.kind_mk, Ty.args_mk, Tm.dv, Tm.cells_eq, Tm.kind_mk, Tm.index_mk, Tm.type_mk, Tm.args_mk, Val.dv, Val.cells_eq, Val.kind_mk, Val.num_mk, Val.list_mk, Val.args_mk, ints])

/-- the majorant of a term, with its error -/
def Tm.mTermE (t : Tm) : Tm × Int := if t.checkN = 0 then if t.leastN 268435456 = true then runT (majE t) else (zeroTm, 1) else (zeroTm, t.checkN)

theorem mterm_ok (har : globOf gl 0 = some arEls) (t : Tm) (ht : t.tys) (hc : t.count ≤ 1073741824) :
    Con1 Tryz.prog gl 15 [t.dv] [] (.tup [t.mTermE.1.dv, dint t.mTermE.2]) [] := by
  refine t_in Tryz.func15 ?_
  intro X hP hgl hf hfn hn hR hids hfit
  have hfo := Tm.fold t
  refine t_g0 ?_
  refine t_c1 @hfo (termscheck_ok har t ht (by omega)) ?_
  by_cases h : t.checkN = 0
  · have hsh := (Tm.checkN_iff t).1 h
    refine t_g @h ?_
    refine t_c1 @hfo (sc_far_ok t) ?_
    by_cases h2 : t.leastN 268435456 = true
    · refine t_g @h2 ?_
      refine W_expose 1 (by simp [go_sem]; rfl) ?_
      intro bt hb
      simp [go_sem] at hb ⊢
      have w := mrun_ok (gl := gl) bt 65 t.cells (majE t) fun b hb => mterm1_ok b bt hb t hsh.1 hsh.2 h2
      refine t_c1 (Tm.cells_eq t) w ?_
      refine t_r ?_
      simp [go_sem, hP, hgl, hn, Tm.mTermE, h, h2] <;> (try omega)
      all_goals exact t_f
    · have h2' : t.leastN 268435456 = false := by simpa using h2
      refine t_g @h2' ?_
      refine t_r ?_
      simp [go_sem, hP, hgl, hn, Tm.mTermE, h, h2', zeroTm] <;> (try omega)
      all_goals exact t_f
  · refine t_g @h ?_
    refine t_r ?_
    simp [go_sem, hP, hgl, hn, Tm.mTermE, h, zeroTm] <;> (try omega)
    all_goals exact t_f

/-- the majorant type of a type, with its error -/
def Ty.mTypeE (t : Ty) : Ty × Int := if t.checkN = 0 then (bareN t, 0) else (zY, t.checkN)

theorem mtype_ok (t : Ty) (hc : t.count ≤ 1073741824) : Con1 Tryz.prog gl 17 [t.dv] [] (.tup [t.mTypeE.1.dv, dint t.mTypeE.2]) [] := by
  refine t_in Tryz.func17 ?_
  intro X hP hgl hf hfn hn hR hids hfit
  have hfo := Ty.fold t
  refine t_g0 ?_
  refine t_c1 @hfo (types_check_ok t (by omega)) ?_
  by_cases h : t.checkN = 0
  · refine t_g @h ?_
    refine t_c1 @hfo (bare_walk t) ?_
    refine t_r ?_
    simp [go_sem, hP, hgl, hn, Ty.mTypeE, h] <;> (try omega)
    all_goals exact t_f
  · refine t_g @h ?_
    refine t_r ?_
    simp [go_sem, hP, hgl, hn, Ty.mTypeE, h, zY] <;> (try omega)
    all_goals exact t_f

end Go.Proofs.YteoalfdaanlbjaaGreatDoor.Lift

namespace Go.Proofs.YteoalfdaanlbjaaGreatDoor.Lift
set_option linter.unusedSimpArgs false
set_option linter.unusedVariables false
set_option linter.unnecessarySimpa false
open Go
variable {gl : Globs}

def mostOf (n : Int) : List Int → Int
  | [] => n
  | x :: r => mostOf (max n x) r
theorem mostOf_append (n : Int) (l r : List Int) : mostOf n (l ++ r) = mostOf (mostOf n l) r := by
  induction l generalizing n with
  | nil => rfl
  | cons x l ih => exact ih _

/-- the least majorant of a value -/
def Val.boundN : Val → Val
  | .mk k n l a => if k = 2 then .mk 1 (mostOf l.length l) [] [] else if k = 3 then .mk 3 0 [] (bounds a) else .mk k n l a
where
  bounds : List Val → List Val
    | [] => []
    | x :: r => x.boundN :: bounds r
theorem Val.boundN_eq (v : Val) : v.boundN = if v.kind = 2 then .mk 1 (mostOf v.list.length v.list) [] [] else if v.kind = 3 then .mk 3 0 [] (boundN.bounds v.args) else v := by cases v; rw [boundN]; rfl

theorem bound_ok (v : Val) (ht : v.two) : Con1 Tryz.prog gl 86 [v.dv] [] v.boundN.dv [] := by
  induction v using Val.ind with
  | h v ih =>
  obtain ⟨ht1, ht2⟩ := (Val.two_eq v).1 ht
  refine t_in Tryz.func86 ?_
  intro X hP hgl hf hfn hn hR hids hfit
  have hl2 := Val.fit_list (hfit v.dv (by simp))
  have hli := ((Val.fit_eq v).1 ((Val.dv_fit v).1 (hfit v.dv (by simp)))).2.2.1.2
  rw [Val.boundN_eq] at hR
  by_cases h2 : v.kind = 2
  · rw [if_pos h2] at hR
    refine t_g @h2 ?_
    refine t_a ?_
    refine W_sub [] (by simp [go_sem]) (by simp [go_sem, mostOf] <;> omega) (by simp [go_sem]) (W_listI (v.list) (fun done => True) (fun done rest => [(.slot 16, .one (.v (dint done.length))), (.slot 15, .one (.v (dint v.list.length))), (.slot 14, .one (.v (.sl (ints v.list)))), (.slot 3, .one (.v (dint (mostOf v.list.length done)))), (.slot 2, .one (.loc 2 0)), (.loc 2, .row ([.v (dint 0), .v (dint 0), .own 0 [], .own 0 []]))]) (trivial) ?_ ?_)
    · intro done x rest hL hg0 hI hnext
      have hlt : done.length < v.list.length := by rw [hL]; simp
      have hgi := ints_get hg0
      have hm : mostOf v.list.length (done ++ [x]) = max (mostOf v.list.length done) x := mostOf_append _ _ _
      have hxm := List.mem_of_getElem? hg0
      have hi1 := (intOK_i64 x).1 (hli x hxm)
      refine t_rg0 ?_
      refine t_yes ?_
      refine t_g @hgi ?_
      refine t_gt (wr []) @hm @hi1 (hnext trivial)
    · intro _
      refine t_rg0 ?_
      refine t_no ?_
      refine t_g0 ?_
      refine t_r ?_
      simp [go_sem, hP, hgl, hn] <;> (try omega)
      all_goals exact t_f
  rw [if_neg h2] at hR
  by_cases h3 : v.kind = 3
  · rw [if_pos h3] at hR
    have h2l := ht1 h3
    match hargs : v.args, h2l with
    | [x, y], _ =>
    have hx : x ∈ v.args := by rw [hargs]; simp
    have hy : y ∈ v.args := by rw [hargs]; simp
    rw [hargs] at hR
    refine t_g (j2 @h2 @h3) ?_
    refine t_c2 @hargs (ih x hx (ht2 x hx)) (ih y hy (ht2 y hy)) ?_
    refine t_r ?_
    simp [go_sem, hP, hgl, hn, Val.boundN.bounds] <;> (try omega)
    all_goals exact t_f
  · rw [if_neg h3] at hR
    have hfo := Val.fold v
    refine t_g (j2 @h2 @h3) ?_
    refine t_r ?_
    simp [go_sem, hP, hgl, hn, hfo] <;> (try omega)
    all_goals exact t_f

abbrev zV : Val := .mk 0 0 [] []
def Val.mValueE (v : Val) : Val × Int := if v.checkN = 0 then (v.boundN, 0) else (zV, v.checkN)

theorem Val.two_of (v : Val) (h : v.checkN = 0) : v.two := by
  unfold Val.checkN at h
  by_cases hn : v.nodesN.2 = true
  · exact (Val.ok_all v hn).2
  · rw [if_neg hn] at h; exact absurd h (by decide)

theorem mvalue_ok (v : Val) (hc : v.count ≤ 1073741824) : Con1 Tryz.prog gl 22 [v.dv] [] (.tup [v.mValueE.1.dv, dint v.mValueE.2]) [] := by
  have hck : (if v.nodesN.2 = true then if v.nodesN.1 > 64 then 4 else 0 else 2) = v.checkN := rfl
  have hcon := check_ok (gl := gl) v (by omega)
  rw [hck] at hcon
  refine t_in Tryz.func22 ?_
  intro X hP hgl hf hfn hn hR hids hfit
  have hfo := Val.fold v
  refine t_g0 ?_
  refine t_c1 @hfo hcon ?_
  by_cases h : v.checkN = 0
  · refine t_g @h ?_
    refine t_c1 @hfo (bound_ok v (Val.two_of v h)) ?_
    refine t_r ?_
    simp [go_sem, hP, hgl, hn, Val.mValueE, h] <;> (try omega)
    all_goals exact t_f
  · refine t_g @h ?_
    refine t_r ?_
    simp [go_sem, hP, hgl, hn, Val.mValueE, h, zV] <;> (try omega)
    all_goals exact t_f

/-- whether a value bounds another one -/
def Val.overN : Val → Val → Bool
  | .mk k n l a, v =>
    if k = 1 ∧ (v.kind = 1 ∨ v.kind = 2) then decide (v.boundN.num ≤ n)
    else if k = 3 ∧ v.kind = 3 then overs a v.args else decide (k = 4 ∧ v.kind = 4)
where
  overs : List Val → List Val → Bool
    | x :: r, y :: q => x.overN y && overs r q
    | _, _ => true
theorem Val.overN_eq (a v : Val) : a.overN v = if a.kind = 1 ∧ (v.kind = 1 ∨ v.kind = 2) then decide (v.boundN.num ≤ a.num)
    else if a.kind = 3 ∧ v.kind = 3 then overN.overs a.args v.args else decide (a.kind = 4 ∧ v.kind = 4) := by cases a; rw [overN]; rfl

theorem over_ok (a : Val) : ∀ (v : Val), a.two → v.two → Con1 Tryz.prog gl 87 [a.dv, v.dv] [] (dbool (a.overN v)) [] := by
  induction a using Val.ind with
  | h a ih =>
  intro v ha hv
  obtain ⟨ha1, ha2⟩ := (Val.two_eq a).1 ha
  obtain ⟨hv1, hv2⟩ := (Val.two_eq v).1 hv
  refine t_in Tryz.func87 ?_
  intro X hP hgl hf hfn hn hR hids hfit
  rw [Val.overN_eq] at hR
  have hfv := Val.fold v
  have hfa := Val.fold a
  by_cases h1 : a.kind = 1
  · by_cases h2 : v.kind = 1 ∨ v.kind = 2
    · rw [if_pos ⟨h1, h2⟩] at hR
      rcases h2 with h2 | h2
      · rw [h2] at hfv
        refine t_g (j2 @h1 @h2) ?_
        refine t_c1 @hfv (bound_ok v hv) ?_
        refine t_r ?_
        simp [go_sem, hP, hgl, hn] <;> (try omega)
      · rw [h2] at hfv
        refine t_g (j2 @h1 @h2) ?_
        refine t_c1 @hfv (bound_ok v hv) ?_
        refine t_r ?_
        simp [go_sem, hP, hgl, hn] <;> (try omega)
    · rw [if_neg (fun h => h2 h.2), if_neg (fun h => by rw [h1] at h; exact absurd h.1 (by decide))] at hR
      have h3 : ¬ v.kind = 1 := fun h => h2 (.inl h)
      have h4 : ¬ v.kind = 2 := fun h => h2 (.inr h)
      refine t_g (j2 @h1 (j2 @h3 @h4)) ?_
      refine t_r ?_
      simp [go_sem, hP, hgl, hn, h1] <;> (try omega)
  rw [if_neg (fun h => h1 h.1)] at hR
  by_cases h3 : a.kind = 3
  · by_cases h4 : v.kind = 3
    · rw [if_pos ⟨h3, h4⟩] at hR
      have hal := ha1 h3
      have hvl := hv1 h4
      match hargs : a.args, hal, hargs2 : v.args, hvl with
      | [x, y], _, [x', y'], _ =>
      have hx : x ∈ a.args := by rw [hargs]; simp
      have hy : y ∈ a.args := by rw [hargs]; simp
      have hx' : x' ∈ v.args := by rw [hargs2]; simp
      have hy' : y' ∈ v.args := by rw [hargs2]; simp
      rw [hargs, hargs2] at hR
      simp only [Val.overN.overs, Bool.and_true] at hR
      by_cases hq : x.overN x' = true
      · refine t_g (j2 @h1 (j2 @h3 @h4)) ?_
        refine t_c2 (j2 @hargs (j2 @hargs2 @hq)) (ih x hx x' (ha2 x hx) (hv2 x' hx')) (ih y hy y' (ha2 y hy) (hv2 y' hy')) ?_
        refine t_r ?_
        simp [go_sem, hP, hgl, hn, hq] <;> (try omega)
      · have hq' : x.overN x' = false := by simpa using hq
        refine t_g (j2 @h1 (j2 @h3 @h4)) ?_
        refine t_c1 (j2 @hargs (j2 @hargs2 @hq')) (ih x hx x' (ha2 x hx) (hv2 x' hx')) ?_
        refine t_r ?_
        simp [go_sem, hP, hgl, hn, hq'] <;> (try omega)
    · rw [if_neg (fun h => h4 h.2)] at hR
      refine t_g (j2 @h1 (j2 @h3 @h4)) ?_
      refine t_r ?_
      simp [go_sem, hP, hgl, hn, h3] <;> (try omega)
  · rw [if_neg (fun h => h3 h.1)] at hR
    by_cases h5 : a.kind = 4
    · refine t_g (j2 @h1 (j2 @h3 @h5)) ?_
      refine t_r ?_
      simp [go_sem, hP, hgl, hn, h5] <;> (try omega)
    · refine t_g (j2 @h1 (j2 @h3 @h5)) ?_
      refine t_r ?_
      simp [go_sem, hP, hgl, hn, h5] <;> (try omega)

def Val.majorizesN (a v : Val) : Bool := decide (a.checkN = 0) && decide (v.checkN = 0) && a.overN v

theorem majorizes_ok (a v : Val) (hc : a.count ≤ 1073741824) (hc2 : v.count ≤ 1073741824) : Con1 Tryz.prog gl 24 [a.dv, v.dv] [] (dbool (a.majorizesN v)) [] := by
  have hk : ∀ v : Val, (if v.nodesN.2 = true then if v.nodesN.1 > 64 then 4 else 0 else 2) = v.checkN := fun _ => rfl
  have ca := check_ok (gl := gl) a (by omega)
  have cv := check_ok (gl := gl) v (by omega)
  rw [hk] at ca cv
  refine t_in Tryz.func24 ?_
  intro X hP hgl hf hfn hn hR hids hfit
  have hfv := Val.fold v
  have hfa := Val.fold a
  by_cases h1 : a.checkN = 0
  · by_cases h2 : v.checkN = 0
    · refine t_g0 ?_
      refine t_c3 (j2 @hfa (j2 @hfv (j2 @h1 @h2))) ca cv (over_ok a v (Val.two_of a h1) (Val.two_of v h2)) ?_
      refine t_r ?_
      simp [go_sem, hP, hgl, hn, Val.majorizesN, h1, h2] <;> (try omega)
    · refine t_g0 ?_
      refine t_c2 (j2 @hfa (j2 @hfv (j2 @h1 @h2))) ca cv ?_
      refine t_r ?_
      simp [go_sem, hP, hgl, hn, Val.majorizesN, h1, h2] <;> (try omega)
  · refine t_g0 ?_
    refine t_c1 (j2 @hfa (j2 @hfv @h1)) ca ?_
    refine t_r ?_
    simp [go_sem, hP, hgl, hn, Val.majorizesN, h1] <;> (try omega)
end Go.Proofs.YteoalfdaanlbjaaGreatDoor.Lift

namespace Go.Proofs.YteoalfdaanlbjaaGreatDoor.Lift
set_option linter.unusedSimpArgs false
set_option linter.unusedVariables false
set_option linter.unnecessarySimpa false
open Go
variable {gl : Globs}

theorem eval6w (t : Tm) (r : T) (F : Env [] → r.V) (work : Int) (h : Dn [] t r F) (hc : t.count ≤ 536870912) (hr : r.plain) (hro : r.ok) (hw0 : 0 ≤ work) (hw : work ≤ 65536) :
    Con1 Tryz.prog gl 52 [t.dv, dint work] [] (.tup [(callOut t [] (r := r) (F ()) () work).1.dv, dint (callOut t [] (r := r) (F ()) () work).2.1, dint (callOut t [] (r := r) (F ()) () work).2.2]) [] := by
  have w := call6_walk (gl := gl) t [] r F () work 0 h hc trivial (by decide) hr hro hw0 hw (by omega) (by omega) trivial
  have hft := Tm.fold t
  generalize callOut t [] (r := r) (F ()) () work = c at *
  refine t_in Tryz.func52 ?_
  intro X hP hgl hf hfn hn hR hids hfit
  have e0 : DV.sl (List.map Val.cells (valsOf [] ())) = .sl [] := rfl
  rw [e0] at w
  have hfc := Val.fold c.1
  refine t_g0 ?_
  refine t_c1 @hft w ?_
  refine t_g0 ?_
  refine t_r ?_
  simp [go_sem, hP, hgl, hn] <;> (try omega)
  all_goals exact t_f

/-! the sanity check of law 33 -/
def tC : Tm := nT 8 [nT 4 [], nT 7 []]
def mC : Tm := appsT greatT [nT 4 [], nT 5 [nT 4 []]]
theorem mC_maj : tC.mTermE = (mC, 0) := by kernel_rfl
theorem mC_dn : Dn [] mC .nat (fun _ => maxD .nat (0 : Nat) (Nat.succ 0)) := .app (.app (dn_great []) .zero) (.succ .zero)
theorem mC_run : (callOut mC [] (r := .nat) (maxD .nat (0 : Nat) (Nat.succ 0)) () 500).2.2 = 0 := by kernel_rfl

theorem awake33_ok (har : globOf gl 0 = some arEls) : Con1 Tryz.prog gl 10 [] [] (dbool true) [] := by
  have w1 := mterm_ok har tC (sh_tys _ rfl) (by decide)
  rw [mC_maj, show tC.dv = .agg [dint 8, dint 0, dint 0, .sl [], .sl [[dint 4, dint 0, dint 0, .sl [], .sl []], [dint 7, dint 0, dint 0, .sl [], .sl []]]] from rfl] at w1
  have w2 := eval6w (gl := gl) mC .nat _ 500 mC_dn (by decide) trivial (by unfold T.ok; decide) (by decide) (by decide)
  have hc1 := mC_run
  have hc2 : (callOut mC [] (r := .nat) (maxD .nat (0 : Nat) (Nat.succ 0)) () 500).1 = Val.mk 1 1 [] [] := by
    rcases callOut_err (l := []) (r := .nat) mC_dn () 500 with h | h | h
    · rw [hc1] at h; cases h
    · rw [hc1] at h; cases h
    · exact h.2
  generalize callOut mC [] (r := .nat) (maxD .nat (0 : Nat) (Nat.succ 0)) () 500 = c at *
  rw [hc1, hc2, show (Val.mk 1 1 [] []).dv = .agg [dint 1, dint 1, .sl [], .sl []] from rfl] at w2
  have w3 := mtype_ok (gl := gl) (Ty.mk 2 []) (by decide)
  rw [show (Ty.mk 2 []).mTypeE = (Ty.mk 1 [], 0) from rfl, show (Ty.mk 2 []).dv = .agg [dint 2, .sl []] from rfl, show (Ty.mk 1 []).dv = .agg [dint 1, .sl []] from rfl] at w3
  have w4 := mvalue_ok (gl := gl) (Val.mk 2 0 [1, 7] []) (by decide)
  rw [show (Val.mk 2 0 [1, 7] []).mValueE = (Val.mk 1 7 [] [], 0) from rfl, show (Val.mk 2 0 [1, 7] []).dv = .agg [dint 2, dint 0, .sl [[dint 1], [dint 7]], .sl []] from rfl, show (Val.mk 1 7 [] []).dv = .agg [dint 1, dint 7, .sl [], .sl []] from rfl] at w4
  have w5 := majorizes_ok (gl := gl) (Val.mk 1 7 [] []) (Val.mk 2 0 [1, 7] []) (by decide) (by decide)
  rw [show (Val.mk 1 7 [] []).majorizesN (Val.mk 2 0 [1, 7] []) = true from rfl, show (Val.mk 2 0 [1, 7] []).dv = .agg [dint 2, dint 0, .sl [[dint 1], [dint 7]], .sl []] from rfl, show (Val.mk 1 7 [] []).dv = .agg [dint 1, dint 7, .sl [], .sl []] from rfl] at w5
  have hfm := Tm.fold mC
  have hcm := Tm.cells_eq mC
  generalize mC = m at *
  refine t_in Tryz.func10 ?_
  intro X hP hgl hf hfn hn hR hids hfit
  refine t_g0 ?_
  refine t_c1 trivial w1 ?_
  refine t_c1 @hfm w2 ?_
  refine t_c1 trivial w3 ?_
  refine t_c1 trivial w4 ?_
  refine t_c1 trivial w5 ?_
  refine t_r ?_
  simp [go_sem, hP, hgl, hn] <;> (try omega)
end Go.Proofs.YteoalfdaanlbjaaGreatDoor.Lift

namespace Go.Proofs.YteoalfdaanlbjaaGreatDoor.Lift
set_option linter.unusedSimpArgs false
set_option linter.unusedVariables false
set_option linter.unnecessarySimpa false
open Go

/-! what is drawn means something -/
def TyQ (t : Ty) (g : List Ty) (x : Tm) : Prop := ∀ (G : List T) (a : T), g = G.map T.ty → t = a.ty → ∃ F : Env G.reverse → a.V, Dn G.reverse x a F

theorem ty_fn_of {s t : Ty} {a : T} (h : Ty.mk 4 [s, t] = a.ty) : ∃ S b, a = .fn S b ∧ s = S.ty ∧ t = b.ty := by
  cases a with
  | fn S b => simp [T.ty] at h; exact ⟨S, b, rfl, h.1, h.2⟩
  | pair S b => simp [T.ty] at h
  | nat => simp [T.ty] at h
  | list => simp [T.ty] at h
  | unit => simp [T.ty] at h
theorem ty_pair_of {s t : Ty} {a : T} (h : Ty.mk 3 [s, t] = a.ty) : ∃ S b, a = .pair S b ∧ s = S.ty ∧ t = b.ty := by
  cases a with
  | pair S b => simp [T.ty] at h; exact ⟨S, b, rfl, h.1, h.2⟩
  | fn S b => simp [T.ty] at h
  | nat => simp [T.ty] at h
  | list => simp [T.ty] at h
  | unit => simp [T.ty] at h
theorem ty_nat_of {a : T} (h : Ty.mk 1 [] = a.ty) : a = .nat := by cases a <;> simp [T.ty] at h ⊢
theorem ty_list_of {a : T} (h : Ty.mk 2 [] = a.ty) : a = .list := by cases a <;> simp [T.ty] at h ⊢
theorem ty_unit_of {a : T} (h : Ty.mk 5 [] = a.ty) : a = .unit := by cases a <;> simp [T.ty] at h ⊢
theorem small_T {s : Ty} (h : s.small) : ∃ S : T, s = S.ty ∧ S.ok ∧ S.size ≤ 15 := by
  obtain ⟨S, rfl⟩ := T.of_shape s h.1
  have := h.2
  rw [T.ty_count] at this
  exact ⟨S, rfl, by unfold T.ok; omega, this⟩
theorem dn_num (Γ : List T) : ∀ n : Nat, ∃ F : Env Γ → T.nat.V, Dn Γ (numTm n) .nat F
  | 0 => ⟨_, .zero⟩
  | n + 1 => by
    obtain ⟨F, h⟩ := dn_num Γ n
    exact ⟨_, .succ h⟩

theorem draw_typed : DrawOK TyQ where
  var g i hi G a hg ht := by
    subst hg
    have hl : i < G.length := by simpa using hi
    obtain ⟨b, hb⟩ : ∃ b, G[G.length - 1 - i]? = some b := ⟨_, List.getElem?_eq_getElem (by omega)⟩
    have hv : varTy (G.map T.ty) i = b.ty := by
      unfold varTy
      rw [List.getD_eq_getElem?_getD, List.length_map, List.getElem?_map, hb]
      rfl
    have hab : a = b := T.ty_inj (by rw [← ht, hv])
    subst hab
    have hr : G.reverse[i]? = some a := by rw [List.getElem?_reverse hl, hb]
    obtain ⟨p, hp⟩ := At.of hr
    exact ⟨p, .var hp⟩
  num g n _ G a hg ht := by
    obtain rfl := ty_nat_of ht
    exact dn_num _ n
  app g s t f x hs ht hf hx G a hg hta := by
    obtain ⟨S, rfl, -⟩ := small_T hs
    obtain ⟨F, h1⟩ := hf G (.fn S a) hg (by rw [hta]; rfl)
    obtain ⟨X, h2⟩ := hx G S hg rfl
    exact ⟨_, .app h1 h2⟩
  lam g s t x hs ht hx G a hg hta := by
    obtain ⟨S, b, rfl, rfl, rfl⟩ := ty_fn_of hta
    obtain ⟨S', e, ho, -⟩ := small_T hs
    obtain rfl := T.ty_inj e
    have := hx (G ++ [S]) b (by rw [hg, List.map_append]; rfl) rfl
    rw [List.reverse_append] at this
    obtain ⟨F, h1⟩ := this
    exact ⟨_, .lam ho h1⟩
  lam2 g s t r x hs ht hr hx G a hg hta := by
    obtain ⟨S, b1, rfl, rfl, hb1⟩ := ty_fn_of hta
    obtain ⟨S2, b, rfl, rfl, rfl⟩ := ty_fn_of hb1
    obtain ⟨_, e, ho, -⟩ := small_T hs
    obtain rfl := T.ty_inj e
    obtain ⟨_, e, ho2, -⟩ := small_T ht
    obtain rfl := T.ty_inj e
    have := hx (G ++ [S, S2]) b (by rw [hg, List.map_append]; rfl) rfl
    rw [List.reverse_append] at this
    obtain ⟨F, h1⟩ := this
    exact ⟨_, .lam ho (.lam ho2 h1)⟩
  lam3 g s t u r x hs ht hu hr hx G a hg hta := by
    obtain ⟨S, b1, rfl, rfl, hb1⟩ := ty_fn_of hta
    obtain ⟨S2, b2, rfl, rfl, hb2⟩ := ty_fn_of hb1
    obtain ⟨S3, b, rfl, rfl, rfl⟩ := ty_fn_of hb2
    obtain ⟨_, e, ho, -⟩ := small_T hs
    obtain rfl := T.ty_inj e
    obtain ⟨_, e, ho2, -⟩ := small_T ht
    obtain rfl := T.ty_inj e
    obtain ⟨_, e, ho3, -⟩ := small_T hu
    obtain rfl := T.ty_inj e
    have := hx (G ++ [S, S2, S3]) b (by rw [hg, List.map_append]; rfl) rfl
    rw [List.reverse_append] at this
    obtain ⟨F, h1⟩ := this
    exact ⟨_, .lam ho (.lam ho2 (.lam ho3 h1))⟩
  pair g s t x y hs ht hx hy G a hg hta := by
    obtain ⟨S, b, rfl, rfl, rfl⟩ := ty_pair_of hta
    obtain ⟨F, h1⟩ := hx G S hg rfl
    obtain ⟨X, h2⟩ := hy G b hg rfl
    exact ⟨_, .pair h1 h2⟩
  fst g s t x hs ht hx G a hg hta := by
    obtain ⟨S, rfl, -⟩ := small_T ht
    obtain ⟨F, h1⟩ := hx G (.pair a S) hg (by rw [hta]; rfl)
    exact ⟨_, .fst h1⟩
  snd g s t x hs ht hx G a hg hta := by
    obtain ⟨S, rfl, -⟩ := small_T hs
    obtain ⟨F, h1⟩ := hx G (.pair S a) hg (by rw [hta]; rfl)
    exact ⟨_, .snd h1⟩
  rc g t x f n ht hx hf hn G a hg hta := by
    subst hta
    obtain ⟨_, e, ho, -⟩ := small_T ht
    obtain rfl := T.ty_inj e
    obtain ⟨B, h1⟩ := hx G a hg rfl
    obtain ⟨F, h2⟩ := hf G (.fn .nat (.fn a a)) hg rfl
    obtain ⟨N, h3⟩ := hn G .nat hg rfl
    exact ⟨_, .rc ho h1 h2 h3⟩
  fold g t x f n ht hx hf hn G a hg hta := by
    subst hta
    obtain ⟨_, e, ho, -⟩ := small_T ht
    obtain rfl := T.ty_inj e
    obtain ⟨B, h1⟩ := hx G a hg rfl
    obtain ⟨F, h2⟩ := hf G (.fn .nat (.fn .list (.fn a a))) hg rfl
    obtain ⟨N, h3⟩ := hn G .list hg rfl
    exact ⟨_, .fold ho h1 h2 h3⟩
  succ g x hx G a hg hta := by
    obtain rfl := ty_nat_of hta
    obtain ⟨F, h1⟩ := hx G .nat hg rfl
    exact ⟨_, .succ h1⟩
  plus g x y hx hy G a hg hta := by
    obtain rfl := ty_nat_of hta
    obtain ⟨F, h1⟩ := hx G .nat hg rfl
    obtain ⟨X, h2⟩ := hy G .nat hg rfl
    exact ⟨_, .app (.app (dn_plus _) h1) h2⟩
  sub g x y hx hy G a hg hta := by
    obtain rfl := ty_nat_of hta
    obtain ⟨F, h1⟩ := hx G .nat hg rfl
    obtain ⟨X, h2⟩ := hy G .nat hg rfl
    exact ⟨_, .app (.app (dn_sub _) h1) h2⟩
  nil g G a hg hta := by
    obtain rfl := ty_list_of hta
    exact ⟨_, .nil⟩
  cons g x y hx hy G a hg hta := by
    obtain rfl := ty_list_of hta
    obtain ⟨F, h1⟩ := hx G .nat hg rfl
    obtain ⟨X, h2⟩ := hy G .list hg rfl
    exact ⟨_, .cons h1 h2⟩
  unit g G a hg hta := by
    obtain rfl := ty_unit_of hta
    exact ⟨_, .unit⟩

theorem termD_dn (l : List Int) (n : Nat) {t : Ty} {g : List Ty} {p : Nat} (ht : t.small) (hg : ∀ x ∈ g, x.small) (hp : p ≤ l.length) {G : List T} {a : T} (eg : g = G.map T.ty) (et : t = a.ty) :
    ∃ F : Env G.reverse → a.V, Dn G.reverse (termD l n t g p).1 a F := (termD_facts draw_typed n t g p ht hg hp).2 G a eg et

/-- the majorant of a term that means something -/
theorem mterm_dn {Γ : List T} {t : Tm} {a : T} {F : Env Γ → a.V} (h : Dn Γ t a F) (hl : Γ.length ≤ 1000) : (t.mTermE = (majT t, 0) ∧ (majT t).count ≤ 268435456 ∧ t.count ≤ 4096) ∨ t.mTermE.2 = 4 := by
  unfold Tm.mTermE
  by_cases h0 : t.checkN = 0
  · have hk := (Tm.checkN_iff t).1 h0
    rw [if_pos h0, if_pos (dn_least h 268435456 (by omega))]
    obtain ⟨h1, h2⟩ := majE_dn h
    rcases h2 with h2 | h2
    · left
      have hf := (fine_maj t hk.1 (Tm.idx_of t 268435456 hk.1 (dn_least h 268435456 (by omega))) (by decide)).1
      rw [h1 h2] at hf
      refine ⟨?_, hf, hk.2⟩
      unfold runT
      rw [if_pos h2]
      exact Prod.ext (h1 h2) h2
    · right
      unfold runT
      rw [if_neg (by rw [h2]; decide)]
      exact h2
  · rw [if_neg h0]
    right
    have hs := dn_shape h
    unfold Tm.checkN at h0 ⊢
    rw [if_pos hs] at h0 ⊢
    split at h0
    · rename_i hq; rw [if_pos hq]
    · exact absurd rfl h0

end Go.Proofs.YteoalfdaanlbjaaGreatDoor.Lift

namespace Go.Proofs.YteoalfdaanlbjaaGreatDoor.Lift
set_option linter.unusedSimpArgs false
set_option linter.unusedVariables false
set_option linter.unnecessarySimpa false
open Go
variable {gl : Globs}

/-! sizes of what is drawn, and of the terms of values -/
theorem pickD_count {l : List Int} {t : Ty} {g : List Ty} {p q : Nat} {x : Tm} (h : pickD l t g p = (some x, q)) : x.count = 1 := by
  obtain ⟨i, rfl, -⟩ := pickD_some h
  rfl
theorem numD_count (l : List Int) (p : Nat) : (numD l p).1.count ≤ 3 := by
  have := nextD_bd (l := l) (p := p) (n := 3) (by decide)
  show (numTm _).count ≤ 3
  rw [numTm_count]
  omega
theorem leafD_count (l : List Int) (t : Ty) : t.small → ∀ (g : List Ty) (p : Nat), (leafD l t g p).1.count ≤ 3 * t.count := by
  generalize hn : t.count = n
  induction n using Nat.strongRecOn generalizing t with
  | _ n ih =>
  intro ht g p
  have h1 : 1 ≤ t.count := by rw [Ty.count_eq]; omega
  rw [leafD_eq l t g p ht.ok]
  split
  · rename_i x q hx
    have := pickD_count hx
    simp only; omega
  · rename_i q hx
    have hN := numD_count l q
    rcases small_kinds ht with ⟨h, e⟩ | ⟨h, e⟩ | ⟨h, e⟩ | ⟨h, e⟩ | ⟨h, e⟩
    · rw [if_pos h]; omega
    · rw [if_neg (by omega), if_pos h]; show 1 + 0 ≤ _; omega
    · rw [if_neg (by omega), if_neg (by omega), if_neg (by omega), if_neg (by omega)]; show 1 + 0 ≤ _; omega
    · rw [if_neg (by omega), if_neg (by omega), if_pos h]
      obtain ⟨s0, s1, hc⟩ := ht.arg (.inl h)
      have a := ih _ (by omega) (t.arg 0) rfl s0 g q
      have b := ih _ (by omega) (t.arg 1) rfl s1 g (leafD l (t.arg 0) g q).2
      show 1 + (_ + (_ + 0)) ≤ _
      omega
    · rw [if_neg (by omega), if_neg (by omega), if_neg (by omega), if_pos h]
      obtain ⟨s0, s1, hc⟩ := ht.arg (.inr h)
      have b := ih _ (by omega) (t.arg 1) rfl s1 (g ++ [t.arg 0]) q
      show 1 + (_ + 0) ≤ _
      omega

def Small (l : List Int) (F : Ty → List Ty → Nat → Tm × Nat) (B : Nat) : Prop := ∀ t g p, t.small → (∀ x ∈ g, x.small) → p ≤ l.length → (F t g p).1.count ≤ B
theorem plusT_count : plusT.count = 9 := by decide
theorem subT_count : subT.count ≤ 16 := by decide
theorem app2_count (f x y : Tm) : (appsT f [x, y]).count = 2 + f.count + x.count + y.count := by
  show 1 + ((1 + (f.count + (x.count + 0))) + (y.count + 0)) = _
  omega
theorem endD_count {l : List Int} {F : Ty → List Ty → Nat → Tm × Nat} {B : Nat} (hD : Draws l F (fun _ _ x => x.shape = true)) (hF : Small l F B) : Small l (endD l F) (2 * B + 20) := by
  intro t g q ht hg hq
  have h5 := nextD_le (n := 5) hq
  have h2 := nextD_le (n := 2) hq
  have c1 := hF t g (nextD l q 5).2 ht hg h5
  have d1 := (hD t g (nextD l q 5).2 ht hg h5).1
  have c2 := hF t g _ ht hg d1
  have e1 := hF (Ty.mk 1 []) g (nextD l q 2).2 small_nat hg h2
  have f1 := (hD (Ty.mk 1 []) g (nextD l q 2).2 small_nat hg h2).1
  have e2 := hF t g _ ht hg f1
  have hN := numD_count l (nextD l q 5).2
  have hp := plusT_count
  have hs := subT_count
  unfold endD
  split
  · split
    · show 1 + (_ + 0) ≤ _; omega
    split
    · simp only [app2_count]; omega
    split
    · simp only [app2_count]; omega
    · omega
  split
  · split
    · show 1 + (_ + (_ + 0)) ≤ _; omega
    · show 1 + 0 ≤ _; omega
  split
  · rename_i h
    obtain ⟨s0, s1, -⟩ := ht.arg (.inl h)
    have a1 := hF (t.arg 0) g q s0 hg hq
    have a2 := hF (t.arg 1) g _ s1 hg (hD (t.arg 0) g q s0 hg hq).1
    show 1 + (_ + (_ + 0)) ≤ _; omega
  split
  · rename_i h
    obtain ⟨s0, s1, -⟩ := ht.arg (.inr h)
    have a2 := hF (t.arg 1) (g ++ [t.arg 0]) q s1 (by intro x hx; rcases List.mem_append.1 hx with hx | hx; exact hg x hx; rw [List.mem_singleton.1 hx]; exact s0) hq
    show 1 + (_ + 0) ≤ _; omega
  · show 1 + 0 ≤ _; omega
theorem stepD_count {l : List Int} {F : Ty → List Ty → Nat → Tm × Nat} {B : Nat} (hD : Draws l F (fun _ _ x => x.shape = true)) (hF : Small l F B) (k : Int) : Small l (fun t g p => stepD l F t g k p) (3 * B + 20) := by
  intro t g p ht hg hp
  have hg1 : ∀ a : List Ty, (∀ x ∈ a, x.small) → ∀ x ∈ g ++ a, x.small := by
    intro a ha x hx
    rcases List.mem_append.1 hx with hx | hx
    · exact hg x hx
    · exact ha x hx
  have hE := endD_count hD hF t g p ht hg hp
  obtain ⟨s1, s2⟩ := typeD_small l (n := 0) hp (by decide)
  show (stepD l F t g k p).1.count ≤ _
  unfold stepD
  split
  · have gs := hg1 [(typeD l 0 p).1] (by simpa using s2)
    have a := hF t _ _ ht gs s1
    have b := hF _ g _ s2 hg (hD t _ _ ht gs s1).1
    show 1 + ((1 + (_ + 0)) + (_ + 0)) ≤ _; omega
  split
  · have a := hF t g _ ht hg s1
    have b := hF _ g _ s2 hg (hD t g _ ht hg s1).1
    show 1 + ((1 + (_ + (_ + 0))) + 0) ≤ _; omega
  split
  · have gs := hg1 [Ty.mk 1 [], t] (by intro x hx; simp at hx; rcases hx with rfl | rfl; exact small_nat; exact ht)
    have d := (hD t _ _ ht gs hp).1
    have a := hF t _ _ ht gs hp
    have b := hF t g _ ht hg d
    have c := numD_count l (F t g (F t (g ++ [Ty.mk 1 [], t]) p).2).2
    show 1 + (_ + ((1 + ((1 + (_ + 0)) + 0)) + (_ + 0))) ≤ _; omega
  split
  · have gs := hg1 [Ty.mk 1 [], Ty.mk 2 [], t] (by intro x hx; simp at hx; rcases hx with rfl | rfl | rfl; exact small_nat; exact small_list; exact ht)
    have d := (hD t _ _ ht gs hp).1
    have a := hF t _ _ ht gs hp
    have b := hF t g _ ht hg d
    have c := hF (Ty.mk 2 []) g _ small_list hg (hD t g _ ht hg d).1
    show 1 + (_ + ((1 + ((1 + ((1 + (_ + 0)) + 0)) + 0)) + (_ + 0))) ≤ _; omega
  split
  · have a := hF _ g _ s2 hg s1
    have b := hF t g _ ht hg (hD _ g _ s2 hg s1).1
    show 1 + ((1 + (_ + (_ + 0))) + 0) ≤ _; omega
  split
  · split
    · rename_i i hi
      obtain ⟨f1, f2, f3⟩ := funN_some hi
      obtain ⟨c0, c1, -⟩ := (hg _ (varTy_mem f1).1).arg (.inr f2)
      have a := hF _ g _ c0 hg hp
      show 1 + ((1 + 0) + (_ + 0)) ≤ _; omega
    · omega
  · omega
def drawB : Nat → Nat
  | 0 => 45
  | n + 1 => 3 * drawB n + 20
theorem termD_count (l : List Int) : ∀ n, Small l (termD l n) (drawB n)
  | 0 => by intro t g p ht hg hp; have := leafD_count l t ht g p; have := ht.2; show _ ≤ 45; simp only [termD]; omega
  | n + 1 => by
    intro t g p ht hg hp
    have hq := pickD_le (t := t) (g := g) hp
    have ih := stepD_count (termD_facts closed_shape n) (termD_count l n)
    unfold termD
    split
    · rename_i x q hx
      have := pickD_count hx
      simp only [drawB]; omega
    · rename_i q hx
      rw [hx] at hq
      exact ih _ t g _ ht hg (nextD_le hq)

end Go.Proofs.YteoalfdaanlbjaaGreatDoor.Lift

namespace Go.Proofs.YteoalfdaanlbjaaGreatDoor.Lift
set_option linter.unusedSimpArgs false
set_option linter.unusedVariables false
set_option linter.unnecessarySimpa false
open Go

/-! functions of plain types with values for them, as they are drawn -/
def plainsD (l : List Int) : Nat → Nat → (List Ty × List Val) × Nat
  | 0, p => (([], []), p)
  | k + 1, p =>
    let t := plainD l p
    let v := mkVal l t.1 t.2
    let r := plainsD l k v.2
    ((t.1 :: r.1.1, v.1 :: r.1.2), r.2)
def funD (l : List Int) (p : Nat) : (Tm × List Val) × Nat :=
  let k := nextD l p 2
  let ps := plainsD l (k.1.toNat + 1) k.2
  let r := plainD l ps.2
  let b := termD l 3 r.1 ps.1.1 r.2
  ((lamsT b.1 ps.1.1, ps.1.2), b.2)

theorem numsD_T {l : List Int} : ∀ (n p : Nat), ∃ xs : List Nat, (numsD l p n).1 = xs.map Int.ofNat ∧ xs.length = n ∧ ∀ x ∈ xs, x ≤ 3
  | 0, p => ⟨[], rfl, rfl, fun x h => by cases h⟩
  | n + 1, p => by
    obtain ⟨xs, h1, h2, h3⟩ := numsD_T (l := l) n (nextD l p 4).2
    have hb := nextD_bd (l := l) (p := p) (n := 4) (by decide)
    refine ⟨(nextD l p 4).1.toNat :: xs, ?_, by simp [h2], fun x hx => ?_⟩
    · simp only [numsD, List.map_cons, h1]
      congr 1
      show _ = ((nextD l p 4).1.toNat : Int)
      omega
    · rcases List.mem_cons.1 hx with rfl | hx
      · omega
      · exact h3 x hx

theorem mkVal_T (l : List Int) : ∀ (a : T) (p : Nat), a.plain → ∃ x : a.V, (mkVal l a.ty p).1 = valOf a x ∧ (ofM a x).le 5
  | .nat, p, _ => by
    have hb := nextD_bd (l := l) (p := p) (n := 5) (by decide)
    refine ⟨((nextD l p 5).1.toNat : Nat), ?_, ?_⟩
    · rw [mkVal_eq, if_pos (show T.nat.ty.kind = 1 from rfl)]
      show Val.mk 1 _ [] [] = Val.mk 1 ((nextD l p 5).1.toNat : Int) [] []
      rw [show ((nextD l p 5).1.toNat : Int) = (nextD l p 5).1 by omega]
    · show (((nextD l p 5).1.toNat : Nat) : Int) ≤ 5
      omega
  | .list, p, _ => by
    have hb := nextD_bd (l := l) (p := p) (n := 4) (by decide)
    obtain ⟨xs, h1, h2, h3⟩ := numsD_T (l := l) (nextD l p 4).1.toNat (nextD l p 4).2
    refine ⟨xs, ?_, ?_⟩
    · rw [mkVal_eq, if_neg (show ¬ T.list.ty.kind = 1 by decide), if_pos (show T.list.ty.kind = 2 from rfl), h1]
      rfl
    · show (xs.length : Int) ≤ 5 ∧ ∀ x ∈ xs, (x : Int) ≤ 5
      exact ⟨by omega, fun x hx => by have := h3 x hx; omega⟩
  | .unit, p, _ => ⟨(), by rw [mkVal_eq]; rfl, trivial⟩
  | .pair a b, p, h => by
    obtain ⟨x, h1, h2⟩ := mkVal_T l a p h.1
    obtain ⟨y, h3, h4⟩ := mkVal_T l b (mkVal l a.ty p).2 h.2
    refine ⟨(x, y), ?_, ⟨h2, h4⟩⟩
    rw [mkVal_eq, if_neg (show ¬ (T.pair a b).ty.kind = 1 by simp [T.ty, Ty.kind]), if_neg (show ¬ (T.pair a b).ty.kind = 2 by simp [T.ty, Ty.kind]), if_pos (show (T.pair a b).ty.kind = 3 from rfl)]
    show Val.mk 3 0 [] [_, _] = Val.mk 3 0 [] [valOf a x, valOf b y]
    rw [← h1, ← h3]
  | .fn _ _, _, h => h.elim

theorem plainD_T (l : List Int) (p : Nat) : ∃ a : T, (plainD l p).1 = a.ty ∧ a.plain ∧ a.size ≤ 3 := by
  rcases plainD_cases l p with h | h | h | h | h
  · exact ⟨.nat, h, trivial, by decide⟩
  · exact ⟨.list, h, trivial, by decide⟩
  · exact ⟨.unit, h, trivial, by decide⟩
  · exact ⟨.pair .nat .list, h, ⟨trivial, trivial⟩, by decide⟩
  · exact ⟨.pair .nat .nat, h, ⟨trivial, trivial⟩, by decide⟩
theorem small_ty {a : T} (h : a.size ≤ 15) : a.ty.small := ⟨T.ty_shape a, by rw [T.ty_count]; exact h⟩
theorem plainD_le {l : List Int} {p : Nat} (h : p ≤ l.length) : (plainD l p).2 ≤ l.length := nextD_le (n := 6) h

theorem plainsD_facts (l : List Int) : ∀ (k p : Nat), p ≤ l.length → ∃ (ls : List T) (X : Env ls), (plainsD l k p).1.1 = ls.map T.ty ∧ (plainsD l k p).1.2 = valsOf ls X ∧ Plains ls ∧ MV.les 5 (mvsOf ls X) ∧ ls.length = k ∧ (plainsD l k p).2 ≤ l.length ∧ ∀ x ∈ (plainsD l k p).1.1, x.small
  | 0, p, hp => ⟨[], (), rfl, rfl, trivial, trivial, rfl, hp, fun x h => by cases h⟩
  | k + 1, p, hp => by
    obtain ⟨a, ha, hap, has⟩ := plainD_T l p
    obtain ⟨x, hx, hxl⟩ := mkVal_T l a (plainD l p).2 hap
    rw [← ha] at hx
    obtain ⟨ls, X, h1, h2, h3, h4, h5, h6, h7⟩ := plainsD_facts l k (mkVal l (plainD l p).1 (plainD l p).2).2 (mkVal_le _ (plainD_le hp))
    refine ⟨a :: ls, (x, X), ?_, ?_, ⟨hap, by unfold T.ok; omega, h3⟩, ⟨hxl, h4⟩, by simp [h5], h6, ?_⟩
    · simp only [plainsD, List.map_cons]; rw [h1, ha]
    · simp only [plainsD, valsOf, h2, hx]
    · intro y hy
      simp only [plainsD] at hy
      rcases List.mem_cons.1 hy with rfl | hy
      · rw [ha]; exact small_ty (by omega)
      · exact h7 y hy

theorem dn_lams : ∀ (ls : List T) {Γ : List T} {b : Tm} {r : T} {F : Env (ls.reverse ++ Γ) → r.V}, Plains ls → Dn (ls.reverse ++ Γ) b r F → ∃ F' : Env Γ → (FnT ls r).V, Dn Γ (lamsT b (ls.map T.ty)) (FnT ls r) F'
  | [], Γ, b, r, F, _, h => ⟨F, h⟩
  | a :: ls, Γ, b, r, F, hp, h => by
    have key : ∀ Θ : List T, Θ = ls.reverse ++ (a :: Γ) → ∀ F : Env Θ → r.V, Dn Θ b r F → ∃ F' : Env (a :: Γ) → (FnT ls r).V, Dn (a :: Γ) (lamsT b (ls.map T.ty)) (FnT ls r) F' := by
      intro Θ e F h
      subst e
      exact dn_lams ls hp.2.2 h
    obtain ⟨F', h'⟩ := key _ (by simp) F h
    exact ⟨_, .lam hp.2.1 h'⟩

theorem lamsT_count (b : Tm) : ∀ l : List Ty, (lamsT b l).count = b.count + l.length
  | [] => rfl
  | s :: l => by
    show 1 + ((lamsT b l).count + 0) = _
    rw [lamsT_count b l, List.length_cons]
    omega

theorem funD_facts (l : List Int) {p : Nat} (hp : p ≤ l.length) : ∃ (ls : List T) (X : Env ls) (r : T) (F : Env [] → (FnT ls r).V), (funD l p).1.2 = valsOf ls X ∧ Plains ls ∧ MV.les 5 (mvsOf ls X) ∧ ls.length ≤ 2 ∧ r.plain ∧ r.ok ∧ Dn [] (funD l p).1.1 (FnT ls r) F ∧ (funD l p).1.1.count ≤ 1500 ∧ (funD l p).2 ≤ l.length := by
  have hb := nextD_bd (l := l) (p := p) (n := 2) (by decide)
  have hq := nextD_le (n := 2) hp
  unfold funD
  simp only
  generalize nextD l p 2 = kk at *
  obtain ⟨k, q⟩ := kk
  simp only at hb hq ⊢
  obtain ⟨ls, X, h1, h2, h3, h4, h5, h6, h7⟩ := plainsD_facts l (k.toNat + 1) q hq
  generalize plainsD l (k.toNat + 1) q = ps at *
  obtain ⟨⟨ts, vs⟩, q2⟩ := ps
  simp only at h1 h2 h6 h7 ⊢
  obtain ⟨r, hr, hrp, hrs⟩ := plainD_T l q2
  have hq3 := plainD_le h6
  generalize plainD l q2 = pr at *
  obtain ⟨tr, q3⟩ := pr
  simp only at hr hq3 ⊢
  have hsm : tr.small := by rw [hr]; exact small_ty (by omega)
  have hc := termD_count l 3 tr ts q3 hsm h7 hq3
  rw [show drawB 3 = 1475 from rfl] at hc
  obtain ⟨F, hd⟩ := termD_dn l 3 hsm h7 hq3 h1 hr
  have hle := (termD_facts draw_typed 3 tr ts q3 hsm h7 hq3).1
  have hd' : ∃ F, Dn (ls.reverse ++ []) (termD l 3 tr ts q3).1 r F := by rw [List.append_nil]; exact ⟨F, hd⟩
  obtain ⟨F, hd'⟩ := hd'
  obtain ⟨F', hd''⟩ := dn_lams ls h3 hd'
  rw [← h1] at hd''
  refine ⟨ls, X, r, F', h2, h3, h4, by omega, hrp, by unfold T.ok; omega, hd'', ?_, hle⟩
  rw [lamsT_count]
  have : ts.length = ls.length := by rw [h1, List.length_map]
  omega
end Go.Proofs.YteoalfdaanlbjaaGreatDoor.Lift

namespace Go.Proofs.YteoalfdaanlbjaaGreatDoor.Lift
set_option linter.unusedSimpArgs false
set_option linter.unusedVariables false
set_option linter.unnecessarySimpa false
open Go
variable {gl : Globs}

theorem lam24_ok (s : Ty) (b : Tm) : Con1 Tryz.prog gl 50 [s.dv, b.dv] [] (Tm.mk 2 0 s [b]).dv [] := by
  refine t_in Tryz.func50 ?_
  intro X hP hgl hf hfn hn hR hids hfit
  refine t_g0 ?_
  refine t_r ?_
  simp [go_sem, hP, hgl, hn] <;> (try omega)
  all_goals exact t_f

set_option maxRecDepth 100000 in
theorem function_ok (b : Nat) (l : List Int) (p : Nat) (hl : l.length ≤ 500) (hp : p ≤ l.length) :
    Con1 Tryz.prog gl 20 [ptr b] [(b, deck l p)] (.tup [(funD l p).1.1.dv, .sl ((funD l p).1.2.map Val.cells)]) [(b, deck l (funD l p).2)] := by
  have hb2 := nextD_bd (l := l) (p := p) (n := 2) (by decide)
  have hq0 := nextD_le (n := 2) hp
  refine t_in Tryz.func20 ?_
  intro X hP hgl hf hfn hn hR hids hfit
  unfold funD at hR
  simp only at hR
  refine t_g0 ?_
  refine t_c1 trivial (next_ok b l p 2 (by decide) (by omega)) ?_
  generalize nextD l p 2 = kk at *
  obtain ⟨k, q0⟩ := kk
  simp only at hb2 hq0 hR
  obtain ⟨k0, hk0⟩ : ∃ k0 : Nat, k = k0 := ⟨k.toNat, by omega⟩
  subst hk0
  rw [Int.toNat_natCast] at hR
  have hk1 : (1 : Int) + (k0 : Int) = ((k0 + 1 : Nat) : Int) := by omega
  obtain ⟨ls, X, f1, f2, f3, f4, f5, f6, f7⟩ := plainsD_facts l (k0 + 1) q0 hq0
  generalize hps : plainsD l (k0 + 1) q0 = ps at *
  obtain ⟨⟨ts, vs⟩, q2⟩ := ps
  simp only at f1 f2 f6 f7 hR
  refine t_g0 ?_
  refine t_a ?_
  refine t_sub [(1004, 0), (1005, 0)] @hk1 (W_rounds (fun x : (List Ty × List Val) × Nat × Nat => x.2.1 ≤ l.length ∧ (x.1.1 ++ (plainsD l x.2.2 x.2.1).1.1 = ts ∧ x.1.2 ++ (plainsD l x.2.2 x.2.1).1.2 = vs ∧ (plainsD l x.2.2 x.2.1).2 = q2) ∧ x.1.1.length + x.2.2 ≤ 3 ∧ x.1.2.length + x.2.2 ≤ 3) (fun x : (List Ty × List Val) × Nat × Nat => [(.slot 0, .one (.v (ptr b))), (.slot 2, .one (.loc 2 0)), (.loc 2, .row ([.v (dint 0), .v (dint 0), .v (dint 0), .own 0 [], .own 0 []])), (.slot 3, .one (.own 0 [])), (.slot 4, .one (.own 1004 (x.1.1.map Ty.cells))), (.tok 1004, .tk 2 x.1.1.length), (.slot 5, .one (.own 1005 (x.1.2.map Val.cells))), (.tok 1005, .tk 4 x.1.2.length), (.slot 6, .one (.v (dint x.2.2))), (.heap  b, .row ([.v (.sl (ints l)), .v (dint x.2.1)]))]) (fun x : (List Ty × List Val) × Nat × Nat => x.2.2) ((([] : List Ty), ([] : List Val)), q0, k0 + 1) (⟨hq0, ⟨by rw [hps]; rfl, by rw [hps]; rfl, by rw [hps]⟩, by simp; omega, by simp; omega⟩) ?_)
  rintro ⟨⟨at1, av1⟩, q, r⟩ ⟨i1, ⟨i2, i3, i4⟩, i5, i6⟩ ih
  simp only at i1 i2 i3 i4 i5 i6
  cases r with
  | succ r =>
    obtain ⟨a, ha, hap, has⟩ := plainD_T l q
    have hq1 := plainD_le i1
    have hq3 := mkVal_le (l := l) (plainD l q).1 hq1
    have wv := mkval_ok (gl := gl) (plainD l q).1 b l (plainD l q).2 hl hq1 (plainD_plain l q)
    have hft := Ty.fold (plainD l q).1
    have hct := Ty.cells_eq (plainD l q).1
    have hcv := Val.cells_eq (mkVal l (plainD l q).1 (plainD l q).2).1
    refine t_rg0 ?_
    refine t_yes ?_
    refine t_g0 ?_
    refine t_c1 @hct (plain_ok b l q hl i1) ?_
    refine t_g0 ?_
    refine t_c1 @hft wv ?_
    refine t_gt (wr [(1004, 22), (1005, 28)]) (j2 @hct @hcv) trivial (ih ((at1 ++ [(plainD l q).1], av1 ++ [(mkVal l (plainD l q).1 (plainD l q).2).1]), (mkVal l (plainD l q).1 (plainD l q).2).2, r) ⟨hq3, ⟨by rw [← i2]; simp [plainsD], by rw [← i3]; simp [plainsD], by rw [← i4]; rfl⟩, by simp; omega, by simp; omega⟩ (by simp))
  | zero =>
    simp only [plainsD, List.append_nil] at i2 i3 i4
    subst i2 i3 i4
    have hq3 := plainD_le i1
    obtain ⟨rT, hrT, hrp, hrs⟩ := plainD_T l q
    have hsm : (plainD l q).1.small := by rw [hrT]; exact small_ty (by omega)
    have htl : at1.length = k0 + 1 := by rw [f1, List.length_map, f5]
    have wm := mk_term_ok (gl := gl) b l hl 3 (by decide) (plainD l q).1 at1 (plainD l q).2 hsm f7 (by omega) hq3
    have hft := Ty.fold (plainD l q).1
    refine t_rg0 ?_
    refine t_no ?_
    refine t_g0 ?_
    refine t_c2 @hft (plain_ok b l q hl i1) wm ?_
    generalize plainD l q = pr at *
    obtain ⟨tr, q4⟩ := pr
    simp only at hR
    generalize termD l 3 tr at1 q4 = td at *
    obtain ⟨body, q5⟩ := td
    simp only at hR
    have h0 : lamsT body [] = body := rfl
    have hdl : at1.drop at1.length = [] := List.drop_length
    have hcb := Tm.cells_eq body
    refine t_g @hcb ?_
    refine t_a ?_
    refine t_sub [] (j2 @h0 (j2 @hdl @hcb)) (W_rounds (fun j : Nat => j ≤ at1.length) (fun j : Nat => [(.slot 2, .one (.loc 2 0)), (.loc 2, .row ([.v (dint 0), .v (dint 0), .v (dint 0), .own 0 [], .own 0 []])), (.slot 3, .one (.own 0 [])), (.slot 4, .one (.v (.sl (at1.map Ty.cells)))), (.slot 5, .one (.v (.sl (av1.map Val.cells)))), (.slot 8, .one (.loc 8 0)), (.loc 8, .row ([.v (dint (lamsT body (at1.drop j)).kind), .v (dint (lamsT body (at1.drop j)).index), .v (dint (lamsT body (at1.drop j)).type.kind), .v (.sl ((lamsT body (at1.drop j)).type.args.map Ty.cells)), .v (.sl ((lamsT body (at1.drop j)).args.map Tm.cells))])), (.slot 9, .one (.v (dint ((j : Int) - 1)))), (.heap  b, .row ([.v (.sl (ints l)), .v (dint q5)]))]) (fun j : Nat => j) at1.length (Nat.le_refl _) ?_)
    intro j hj ih2
    cases j with
    | zero =>
      have hd0 : at1.drop 0 = at1 := rfl
      have hfl := Tm.fold (lamsT body at1)
      refine t_rg0 ?_
      refine t_no ?_
      refine t_g0 ?_
      repeat (first | refine W_seq ?_ | refine W_skip ?_ | refine W_block ?_ | refine W_inBlock ?_ | refine W_label ?_ | refine W_exit rfl ?_)
      first | refine W_retR hP hf hfn _ ([(b, deck l q5)]) (by first | (simp [go_sem, hP, hgl, hn, hd0, hfl]; done) | (simp [go_sem, hP, hgl, hn, hd0, hfl]; rfl)) (by simp [go_sem, hP, hgl, hn, hd0, hfl]) (by simp) ?_ hR.2 | refine W_endR hP hf hfn _ ([(b, deck l q5)]) (by first | (simp [go_sem, hP, hgl, hn, hd0, hfl]; done) | (simp [go_sem, hP, hgl, hn, hd0, hfl]; rfl)) (by simp [go_sem, hP, hgl, hn, hd0, hfl]) (by simp) ?_ hR.2
      rw [hR.1]
      refine ⟨?_, by simp [hd0, hfl]⟩
      try simp [hd0, hfl]
      try all_goals (simp [Ty.dv, Ty.cells_eq, Ty.kind_mk, Ty.args_mk, Tm.dv, Tm.cells_eq, Tm.kind_mk, Tm.index_mk, Tm.type_mk, Tm.args_mk, Val.dv, Val.cells_eq, Val.kind_mk, Val.num_mk, Val.list_mk, Val.args_mk, ints])
    | succ j =>
      obtain ⟨s, hs⟩ : ∃ s, at1[j]? = some s := ⟨_, List.getElem?_eq_getElem (by omega)⟩
      have hd := lamsT_drop body at1 j s hs
      have hfs := Ty.fold s
      have hcs := Ty.cells_eq s
      have hfb := Tm.fold (lamsT body (at1.drop (j + 1)))
      have wl := lam24_ok (gl := gl) s (lamsT body (at1.drop (j + 1)))
      rw [← hd] at wl
      have hcl := Tm.cells_eq (lamsT body (at1.drop j))
      have hgs : (List.map Ty.cells at1)[j]? = some s.cells := by rw [List.getElem?_map, hs]; rfl
      have hj1 : ((j + 1 : Nat) : Int) - 1 = (j : Int) := by omega
      refine t_rg0 ?_
      refine t_yes ?_
      refine t_g @hgs ?_
      refine t_c1 (j2 @hgs (j2 @hfs (j2 @hcs @hfb))) wl ?_
      refine t_gt (wr []) @hcl trivial (ih2 j (by omega) (by omega))
end Go.Proofs.YteoalfdaanlbjaaGreatDoor.Lift

namespace Go.Proofs.YteoalfdaanlbjaaGreatDoor.Lift
set_option linter.unusedSimpArgs false
set_option linter.unusedVariables false
set_option linter.unnecessarySimpa false
open Go

/-! the plain law of MajorantBounds: least majorants of plain values, and calls with them -/
theorem mostOf_ge : ∀ (l : List Int) (n : Int), n ≤ mostOf n l ∧ ∀ x ∈ l, x ≤ mostOf n l
  | [], n => ⟨Int.le_refl n, fun x h => by cases h⟩
  | y :: l, n => by
    obtain ⟨h1, h2⟩ := mostOf_ge l (max n y)
    refine ⟨?_, fun x hx => ?_⟩
    · show n ≤ mostOf (max n y) l
      omega
    · show x ≤ mostOf (max n y) l
      rcases List.mem_cons.1 hx with rfl | hx
      · omega
      · exact h2 x hx
theorem mostOf_le {B : Int} : ∀ (l : List Int) (n : Int), n ≤ B → (∀ x ∈ l, x ≤ B) → mostOf n l ≤ B
  | [], n, h, _ => h
  | y :: l, n, h, k => mostOf_le l (max n y) (by have := k y (by simp); omega) fun x hx => k x (by simp [hx])

def bnd : (a : T) → a.V → a.maj.V
  | .nat, n => n
  | .list, l => (mostOf (List.length l : Nat) (List.map Int.ofNat l)).toNat
  | .unit, _ => ()
  | .pair a b, p => (bnd a p.1, bnd b p.2)
  | .fn a b, _ => (T.fn a b).maj.dflt
theorem bnd_list (l : List Nat) : ((mostOf (l.length : Nat) (l.map Int.ofNat)).toNat : Int) = mostOf (l.length : Nat) (l.map Int.ofNat) := by
  have := (mostOf_ge (l.map Int.ofNat) (l.length : Nat)).1
  omega
theorem bnd_val_list (l : List Nat) : (Val.mk 2 0 (l.map Int.ofNat) []).boundN = Val.mk 1 (((mostOf (l.length : Nat) (l.map Int.ofNat)).toNat : Nat) : Int) [] [] := by
  rw [Val.boundN_eq, if_pos (show (Val.mk 2 0 (l.map Int.ofNat) []).kind = 2 from rfl)]
  show Val.mk 1 (mostOf ((List.map Int.ofNat l).length : Nat) (List.map Int.ofNat l)) [] [] = _
  rw [bnd_list, List.length_map]
theorem bnd_le_list {N : Int} (l : List Nat) (h : (l.length : Int) ≤ N ∧ ∀ x ∈ l, (x : Int) ≤ N) : (((mostOf (l.length : Nat) (l.map Int.ofNat)).toNat : Nat) : Int) ≤ N := by
  rw [bnd_list]
  exact mostOf_le _ _ h.1 fun x hx => by
    obtain ⟨y, hy, rfl⟩ := List.mem_map.1 hx
    exact h.2 y hy
theorem bnd_val : ∀ (a : T) (x : a.V), a.plain → (valOf a x).boundN = valOf a.maj (bnd a x)
  | .nat, n, _ => by rw [Val.boundN_eq]; rfl
  | .list, l, _ => bnd_val_list l
  | .unit, _, _ => by rw [Val.boundN_eq]; rfl
  | .pair a b, p, h => by
    rw [Val.boundN_eq, if_neg (show ¬ (valOf (.pair a b) p).kind = 2 by simp [valOf, Val.kind]), if_pos (show (valOf (.pair a b) p).kind = 3 from rfl)]
    show Val.mk 3 0 [] [(valOf a p.1).boundN, (valOf b p.2).boundN] = Val.mk 3 0 [] [valOf a.maj (bnd a p.1), valOf b.maj (bnd b p.2)]
    rw [bnd_val a p.1 h.1, bnd_val b p.2 h.2]
  | .fn _ _, _, h => h.elim
theorem bnd_mj : ∀ (a : T) (x : a.V), a.plain → Mj a (bnd a x) x
  | .nat, n, _ => Nat.le_refl n
  | .list, l, _ => by
    obtain ⟨h1, h2⟩ := mostOf_ge (List.map Int.ofNat l) (List.length l : Nat)
    have h3 := bnd_list l
    refine ⟨?_, fun x hx => ?_⟩
    · show List.length l ≤ (mostOf (List.length l : Nat) (List.map Int.ofNat l)).toNat
      omega
    · have := h2 (Int.ofNat x) (List.mem_map_of_mem (f := Int.ofNat) hx)
      show x ≤ (mostOf (List.length l : Nat) (List.map Int.ofNat l)).toNat
      have h4 : (x : Int) ≤ mostOf (List.length l : Nat) (List.map Int.ofNat l) := this
      omega
  | .unit, _, _ => trivial
  | .pair a b, p, h => ⟨bnd_mj a p.1 h.1, bnd_mj b p.2 h.2⟩
  | .fn _ _, _, h => h.elim
theorem bnd_le {N : Int} (hN : 0 ≤ N) : ∀ (a : T) (x : a.V), a.plain → (ofM a x).le N → (ofM a.maj (bnd a x)).le N
  | .nat, n, _, h => h
  | .list, l, _, h => bnd_le_list l h
  | .unit, _, _, _ => trivial
  | .pair a b, p, hp, h => ⟨bnd_le hN a p.1 hp.1 h.1, bnd_le hN b p.2 hp.2 h.2⟩
  | .fn _ _, _, hp, _ => hp.elim
theorem maj_plain : ∀ {a : T}, a.plain → a.maj.plain
  | .nat, _ => trivial
  | .list, _ => trivial
  | .unit, _ => trivial
  | .pair _ _, h => ⟨maj_plain h.1, maj_plain h.2⟩

theorem over_mj : ∀ (r : T) (Y : r.maj.V) (y : r.V), r.plain → Mj r Y y → (valOf r.maj Y).overN (valOf r y) = true
  | .nat, Y, y, _, h => by
    rw [Val.overN_eq, if_pos ⟨rfl, .inl rfl⟩]
    exact decide_eq_true (show (valOf .nat y).boundN.num ≤ Int.ofNat Y by rw [Val.boundN_eq]; exact Int.ofNat_le.2 h)
  | .list, Y, l, _, h => by
    rw [Val.overN_eq, if_pos ⟨rfl, .inr rfl⟩]
    refine decide_eq_true ?_
    rw [bnd_val .list l trivial]
    exact bnd_le_list l ⟨Int.ofNat_le.2 h.1, fun y hy => Int.ofNat_le.2 (h.2 y hy)⟩
  | .unit, _, _, _, _ => by rw [Val.overN_eq]; rfl
  | .pair a b, Y, y, hp, h => by
    have h1 := over_mj a Y.1 y.1 hp.1 h.1
    have h2 := over_mj b Y.2 y.2 hp.2 h.2
    rw [Val.overN_eq, if_neg (by rintro ⟨h, -⟩; exact absurd h (show ¬ (valOf (T.pair a b).maj Y).kind = 1 by show ¬ (3 : Int) = 1; decide)), if_pos ⟨rfl, rfl⟩]
    show ((valOf a.maj Y.1).overN (valOf a y.1) && ((valOf b.maj Y.2).overN (valOf b y.2) && true)) = true
    rw [h1, h2]; rfl
  | .fn _ _, _, _, h, _ => h.elim
theorem majorizes_mj {r : T} {Y : r.maj.V} {y : r.V} (hp : r.plain) (ho : r.ok) (h : Mj r Y y) : (valOf r.maj Y).majorizesN (valOf r y) = true := by
  unfold Val.majorizesN
  rw [valOf_check Y (maj_plain hp) (maj_ok ho), valOf_check y hp ho, over_mj r Y y hp h]
  rfl
theorem mvalue_val {a : T} (x : a.V) (hp : a.plain) (ho : a.ok) : (valOf a x).mValueE = ((valOf a x).boundN, 0) := by
  unfold Val.mValueE
  rw [if_pos (valOf_check x hp ho)]

def bndE : (ls : List T) → Env ls → Env (ls.map T.maj)
  | [], _ => ()
  | a :: ls, e => (bnd a e.1, bndE ls e.2)
theorem bndE_mj : ∀ (ls : List T) (X : Env ls), Plains ls → MjE ls (bndE ls X) X
  | [], _, _ => trivial
  | a :: ls, X, h => ⟨bnd_mj a X.1 h.1, bndE_mj ls X.2 h.2.2⟩
theorem bndE_vals : ∀ (ls : List T) (X : Env ls), Plains ls → (valsOf ls X).map Val.boundN = valsOf (ls.map T.maj) (bndE ls X)
  | [], _, _ => rfl
  | a :: ls, X, h => by
    show (valOf a X.1).boundN :: (valsOf ls X.2).map Val.boundN = valOf a.maj (bnd a X.1) :: valsOf (ls.map T.maj) (bndE ls X.2)
    rw [bnd_val a X.1 h.1, bndE_vals ls X.2 h.2.2]
theorem bndE_le {N : Int} (hN : 0 ≤ N) : ∀ (ls : List T) (X : Env ls), Plains ls → MV.les N (mvsOf ls X) → MV.les N (mvsOf (ls.map T.maj) (bndE ls X))
  | [], _, _, _ => trivial
  | a :: ls, X, h, k => ⟨bnd_le hN a X.1 h.1 k.1, bndE_le hN ls X.2 h.2.2 k.2⟩
theorem plains_maj : ∀ {ls : List T}, Plains ls → Plains (ls.map T.maj)
  | [], _ => trivial
  | _ :: _, h => ⟨maj_plain h.1, maj_ok h.2.1, plains_maj h.2.2⟩

theorem valsOf_all : ∀ (ls : List T) (X : Env ls), Plains ls → ∀ v ∈ valsOf ls X, v.mValueE = (v.boundN, 0) ∧ v.count ≤ 64
  | [], _, _, v, hv => by cases hv
  | a :: ls, X, h, v, hv => by
    rcases List.mem_cons.1 hv with rfl | hv
    · have h1 := (valOf_nodes a X.1 h.1).2
      have h2 : a.size ≤ 64 := h.2.1
      exact ⟨mvalue_val X.1 h.1 h.2.1, by omega⟩
    · exact valsOf_all ls X.2 h.2.2 v hv

/-- a majorant called with values, in its own form -/
def applM : (ls : List T) → {r : T} → (FnT ls r).maj.V → Env (ls.map T.maj) → r.maj.V
  | [], _, f, _ => f
  | _ :: ls, _, f, e => applM ls (f e.1) e.2
theorem applM_mj : ∀ (ls : List T) {r : T} {P : (FnT ls r).maj.V} {f : (FnT ls r).V} {X : Env (ls.map T.maj)} {x : Env ls}, Mj (FnT ls r) P f → MjE ls X x → Mj r (applM ls P X) (appl ls f x)
  | [], _, _, _, _, _, h, _ => h
  | a :: ls, _, _, _, _, _, h, k => applM_mj ls (h.1 _ _ k.1) k.2
theorem applM_ge : ∀ (ls : List T) {r : T} {P Q : (FnT ls r).maj.V} {X Y : Env (ls.map T.maj)}, Ge (FnT ls r).maj P Q → GeE (ls.map T.maj) X Y → Ge r.maj (applM ls P X) (applM ls Q Y)
  | [], _, _, _, _, _, h, _ => h
  | a :: ls, _, _, _, _, _, h, k => applM_ge ls (h.1 _ _ k.1) k.2

theorem cast_fn {A B : T} (e : A = B) {a : T} (P : (T.fn a A).V) (x : a.V) : (cast (congrArg T.V (congrArg (T.fn a) e)) P : (T.fn a B).V) x = cast (congrArg T.V e) (P x) := by
  subst e; rfl
theorem fnT_maj : ∀ (ls : List T) (r : T), (FnT ls r).maj = FnT (ls.map T.maj) r.maj
  | [], _ => rfl
  | a :: ls, r => congrArg (T.fn a.maj) (fnT_maj ls r)
theorem appl_cast : ∀ (ls : List T) {r : T} (P : (FnT ls r).maj.V) (X : Env (ls.map T.maj)), appl (ls.map T.maj) (cast (congrArg T.V (fnT_maj ls r)) P) X = applM ls P X
  | [], _, _, _ => rfl
  | a :: ls, r, P, X => by
    show appl (ls.map T.maj) ((cast (congrArg T.V (congrArg (T.fn a.maj) (fnT_maj ls r))) P : (T.fn a.maj (FnT (ls.map T.maj) r.maj)).V) X.1) X.2 = applM ls (P X.1) X.2
    exact (congrArg (fun q => appl (ls.map T.maj) q X.2) (cast_fn (fnT_maj ls r) P X.1)).trans (appl_cast ls (P X.1) X.2)
theorem dn_cast {Γ : List T} {t : Tm} {A B : T} (e : A = B) {F : Env Γ → A.V} (h : Dn Γ t A F) : Dn Γ t B (fun u => cast (congrArg T.V e) (F u)) := by
  subst e; exact h

/-- the majorant of a closed function, as a function of majorants -/
theorem dn_majf {t : Tm} {ls : List T} {r : T} {F : Env [] → (FnT ls r).V} (h : Dn [] t (FnT ls r) F) : ∃ (P : (FnT ls r).maj.V) (G : Env [] → (FnT (ls.map T.maj) r.maj).V), Dn [] (majT t) (FnT (ls.map T.maj) r.maj) G ∧
    (∀ X, appl (ls.map T.maj) (G ()) X = applM ls P X) ∧ Mj (FnT ls r) P (F ()) ∧ Ge (FnT ls r).maj P P := by
  obtain ⟨P, h1, h2, h3⟩ := dn_maj h
  refine ⟨P (), fun u => cast (congrArg T.V (fnT_maj ls r)) (P u), dn_cast (fnT_maj ls r) h1, fun X => appl_cast ls (P ()) X, h2 () () trivial, h3 () () trivial⟩
end Go.Proofs.YteoalfdaanlbjaaGreatDoor.Lift

namespace Go.Proofs.YteoalfdaanlbjaaGreatDoor.Lift
set_option linter.unusedSimpArgs false
set_option linter.unusedVariables false
set_option linter.unnecessarySimpa false
open Go
variable {gl : Globs}

def limB (e : Int) : Bool := decide (e = 4) || (decide (e = 5) || decide (e = 3))
theorem limits33_ok (e : Int) : Con1 Tryz.prog gl 23 [dint e] [] (dbool (limB e)) [] := by
  unfold limB
  refine t_in Tryz.func23 ?_
  intro X hP hgl hf hfn hn hR hids hfit
  by_cases h4 : e = 4
  · refine t_g @h4 ?_
    refine t_r ?_
    simp [go_sem, hP, hgl, hn, h4] <;> (try omega)
  by_cases h5 : e = 5
  · refine t_g (j2 @h4 @h5) ?_
    refine t_r ?_
    simp [go_sem, hP, hgl, hn, h4, h5] <;> (try omega)
  by_cases h3 : e = 3
  · refine t_g (j2 @h4 (j2 @h5 @h3)) ?_
    refine t_r ?_
    simp [go_sem, hP, hgl, hn, h4, h5, h3] <;> (try omega)
  · refine t_g (j2 @h4 (j2 @h5 @h3)) ?_
    refine t_r ?_
    simp [go_sem, hP, hgl, hn, h4, h5, h3] <;> (try omega)

set_option maxHeartbeats 1000000 in
set_option maxRecDepth 100000 in
theorem majorantBounds_ok (har : globOf gl 0 = some arEls) (l : List Int) : Con1 Tryz.prog gl 4 [.sl (ints l)] [] (dbool true) [] := by
  have wa := awake33_ok har
  refine t_in Tryz.func4 ?_
  intro X hP hgl hf hfn hn hR hids hfit
  by_cases hl : l.length ≤ 500
  rotate_left
  · refine t_g0 ?_
    refine t_c2 @hl wa (few_ok l) ?_
    refine t_g0 ?_
    refine t_c1 trivial wa ?_
    refine t_r ?_
    simp [go_sem, hP, hgl, hn] <;> (try omega)
  refine t_g0 ?_
  refine t_c2 @hl wa (few_ok l) ?_
  refine t_g0 ?_
  obtain ⟨ls, Z, r, F, f1, f2, f3, f4, f5, f6, f7, f8, f9⟩ := funD_facts l (p := 0) (by omega)
  have wf := fun b => function_ok (gl := gl) b l 0 hl (by omega)
  generalize funD l 0 = fd at *
  obtain ⟨⟨t, vs⟩, p1⟩ := fd
  simp only at f1 f7 f8 f9 wf
  subst f1
  have hft := Tm.fold t
  have hct := Tm.cells_eq t
  have w1 := call6_walk (gl := gl) t ls r F Z 20000 5 f7 (by omega) f2 (by omega) f5 f6 (by decide) (by decide) (by decide) (by decide) f3
  have hc1 := callOut_err f7 Z 20000
  have w2 := mterm_ok har t (sh_tys t (dn_shape f7)) (by omega)
  obtain ⟨P, Gm, g1, g2, g3, g4⟩ := dn_majf f7
  have hb := bndE_vals ls Z f2
  have w3 := fun hc => call6_walk (gl := gl) (majT t) (ls.map T.maj) r.maj Gm (bndE ls Z) 60000 5 g1 hc (plains_maj f2) (by simp; omega) (maj_plain f5) (maj_ok f6) (by decide) (by decide) (by decide) (by decide) (bndE_le (by decide) ls Z f2 f3)
  have hc3 := callOut_err g1 (bndE ls Z) 60000
  rw [g2] at hc3
  have hmj := applM_mj ls g3 (bndE_mj ls Z f2)
  have hmm := majorizes_mj f5 f6 hmj
  have hnV := (valOf_nodes r (appl ls (F ()) Z) f5).2
  have hnW := (valOf_nodes r.maj (applM ls P (bndE ls Z)) (maj_plain f5)).2
  have hro : r.size ≤ 64 := f6
  have hrm : r.maj.size = r.size := maj_size r
  have w4 := majorizes_ok (gl := gl) (valOf r.maj (applM ls P (bndE ls Z))) (valOf r (appl ls (F ()) Z)) (by omega) (by omega)
  rw [hmm] at w4
  generalize callOut t ls (F ()) Z 20000 = co1 at *
  generalize callOut (majT t) (ls.map T.maj) (Gm ()) (bndE ls Z) 60000 = co2 at *
  refine t_a ?_
  first | refine W_reg [] fun K hK => ?_ | refine W_regd (by rw [hP]; exact mixed) [] fun K hK => ?_
  refine t_s0 ?_
  repeat (refine ⟨by omega, ?_⟩)
  refine vcK_callR hP hgl (new_ok l) (by simp [go_sem]) rfl (by simp [go_sem]) (by simp) (by rw [hn]; exact Nat.le_of_ble_eq_true rfl) ?_
  rintro rr φ ⟨b, rfl, rfl⟩ -
  simp [go_sem, hP, hgl, hn]
  refine t_c trivial (wf b) ?_
  refine t_e ?_
  clear hK K
  have hva := valsOf_all ls Z f2
  obtain ⟨vs, hvs⟩ : ∃ vs, vs = valsOf ls Z := ⟨_, rfl⟩
  rw [← hvs] at hva hb w1 ⊢
  rw [← hb] at w3
  have hf1 := Val.fold co1.1
  have hc1v := Val.cells_eq co1.1
  refine t_g @hct ?_
  refine t_c1 @hft w1 ?_
  refine t_g @hc1v ?_
  refine t_c1 @hft w2 ?_
  by_cases he : co1.2.2 = 0
  rotate_left
  · refine t_g @he ?_
    refine t_r ?_
    simp [go_sem, hP, hgl, hn] <;> (try omega)
  rcases mterm_dn f7 (by decide) with ⟨h1, h2, -⟩ | h4
  rotate_left
  · refine t_g (j2 @he @h4) ?_
    refine t_r ?_
    simp [go_sem, hP, hgl, hn] <;> (try omega)
  rw [h1]
  have hv1 : co1.1 = valOf r (appl ls (F ()) Z) := by
    rcases hc1 with h | h | h
    · rw [he] at h; cases h
    · rw [he] at h; cases h
    · exact h.2
  rw [← hv1] at w4
  generalize co1.1 = vr at *
  have w3 := w3 (by omega)
  have hfm := Tm.fold (majT t)
  have hcm := Tm.cells_eq (majT t)
  have hf2 := Val.fold co2.1
  have hc2v := Val.cells_eq co2.1
  generalize majT t = m at *
  refine t_g (j2 @he @hcm) ?_
  refine t_a ?_
  refine t_sub [(1010, 0)] trivial (W_listI (vs) (fun done => True) (fun done rest => [(.slot 5, .one (.loc 5 0)), (.loc 5, .row ([.v (dint vr.kind), .v (dint vr.num), .v (.sl (ints vr.list)), .v (.sl (vr.args.map Val.cells))])), (.slot 8, .one (.loc 8 0)), (.loc 8, .row ([.v (dint m.kind), .v (dint m.index), .v (dint m.type.kind), .v (.sl (m.type.args.map Ty.cells)), .v (.sl (m.args.map Tm.cells))])), (.slot 10, .one (.own 1010 ((done.map Val.boundN).map Val.cells))), (.tok 1010, .tk 4 done.length), (.slot 50, .one (.v (.sl (vs.map Val.cells)))), (.slot 51, .one (.v (dint vs.length))), (.slot 52, .one (.v (dint done.length)))]) (trivial) ?_ ?_)
  · intro done v rest hL hg0 _ hnext
    have hlt : done.length < vs.length := by rw [hL]; simp
    have hlv : vs.length ≤ 2 := by rw [hvs, valsOf_len]; exact f4
    obtain ⟨q1, q2⟩ := hva v (List.mem_of_getElem? hg0)
    have wv := mvalue_ok (gl := gl) v (by omega)
    rw [q1] at wv
    have hfv := Val.fold v
    have hcv := Val.cells_eq v
    have hcb := Val.cells_eq v.boundN
    refine t_rg0 ?_
    refine t_yes ?_
    refine t_g (j2 @hg0 @hcv) ?_
    refine t_c1 @hfv wv ?_
    refine t_gt (wr [(1010, 66)]) @hcb @hcb (hnext trivial)
  · intro _
    rcases hc3 with h | h | ⟨h, hv⟩
    · have wl := limits33_ok (gl := gl) 4
      rw [show limB 4 = true from rfl] at wl
      rw [h] at w3
      refine t_rg0 ?_
      refine t_no ?_
      refine t_g0 ?_
      refine t_c1 @hfm w3 ?_
      refine t_g @hc2v ?_
      refine t_c1 trivial wl ?_
      refine t_r ?_
      simp [go_sem, hP, hgl, hn] <;> (try omega)
    · have wl := limits33_ok (gl := gl) 5
      rw [show limB 5 = true from rfl] at wl
      rw [h] at w3
      refine t_rg0 ?_
      refine t_no ?_
      refine t_g0 ?_
      refine t_c1 @hfm w3 ?_
      refine t_g @hc2v ?_
      refine t_c1 trivial wl ?_
      refine t_r ?_
      simp [go_sem, hP, hgl, hn] <;> (try omega)
    · have wl := limits33_ok (gl := gl) 0
      rw [show limB 0 = false from rfl] at wl
      rw [h] at w3
      rw [← hv] at w4
      refine t_rg0 ?_
      refine t_no ?_
      refine t_g0 ?_
      refine t_c1 @hfm w3 ?_
      refine t_g @hc2v ?_
      refine t_c2 (j2 @hf2 @hf1) wl w4 ?_
      refine t_r ?_
      simp [go_sem, hP, hgl, hn] <;> (try omega)
end Go.Proofs.YteoalfdaanlbjaaGreatDoor.Lift

namespace Go.Proofs.YteoalfdaanlbjaaGreatDoor.Lift
set_option linter.unusedSimpArgs false
set_option linter.unusedVariables false
set_option linter.unnecessarySimpa false
open Go
variable {gl : Globs}

/-- the least majorant, as the second form makes it -/
def Val.val33N : Val → Val
  | .mk k n l a => if k = 2 then .mk 1 (mostOf l.length l) [] [] else .mk k n [] (vals a)
where
  vals : List Val → List Val
    | [] => []
    | x :: r => x.val33N :: vals r
theorem Val.val33N_eq (v : Val) : v.val33N = if v.kind = 2 then .mk 1 (mostOf v.list.length v.list) [] [] else .mk v.kind v.num [] (val33N.vals v.args) := by cases v; rw [val33N]; rfl
theorem Val.vals33_append (l r : List Val) : val33N.vals (l ++ r) = val33N.vals l ++ val33N.vals r := by
  induction l with
  | nil => rfl
  | cons x l ih => simp only [List.cons_append, val33N.vals, ih]
theorem Val.vals33_len (l : List Val) : (val33N.vals l).length = l.length := by
  induction l with
  | nil => rfl
  | cons x l ih => simp only [val33N.vals, List.length_cons, ih]

theorem value33_ok (v : Val) : Con1 Tryz.prog gl 89 [v.dv] [] v.val33N.dv [] := by
  induction v using Val.ind with
  | h v ih =>
  refine t_in Tryz.func89 ?_
  intro X hP hgl hf hfn hn hR hids hfit
  have hl2 := Val.fit_list (hfit v.dv (by simp))
  have hli := ((Val.fit_eq v).1 ((Val.dv_fit v).1 (hfit v.dv (by simp)))).2.2.1.2
  have hal := ((Val.fit_eq v).1 ((Val.dv_fit v).1 (hfit v.dv (by simp)))).2.2.2.1
  have hb : BIG = 2147483648 := rfl
  rw [hb] at hal
  rw [Val.val33N_eq] at hR
  by_cases h2 : v.kind = 2
  · rw [if_pos h2] at hR
    refine t_g @h2 ?_
    refine t_a ?_
    refine W_sub [] (by simp [go_sem]) (by simp [go_sem, mostOf, h2] <;> omega) (by simp [go_sem]) (W_listI (v.list) (fun done => True) (fun done rest => [(.slot 3, .one (.v (dint (mostOf v.list.length done)))), (.slot 4, .one (.v (dint done.length))), (.slot 1, .one (.loc 1 0)), (.loc 1, .row ([.v (dint v.kind), .v (dint v.num), .v (.sl (ints v.list)), .v (.sl (v.args.map Val.cells))])), (.slot 2, .one (.loc 2 0)), (.loc 2, .row ([.v (dint 0), .v (dint 0), .own 0 [], .own 0 []]))]) (trivial) ?_ ?_)
    · intro done x rest hL hg0 hI hnext
      have hlt : done.length < v.list.length := by rw [hL]; simp
      have hgi := ints_get hg0
      have hm : mostOf v.list.length (done ++ [x]) = max (mostOf v.list.length done) x := mostOf_append _ _ _
      have hi1 := (intOK_i64 x).1 (hli x (List.mem_of_getElem? hg0))
      refine t_rg0 ?_
      refine t_yes ?_
      refine t_g @hgi ?_
      refine t_gt (wr []) @hm @hi1 (hnext trivial)
    · intro _
      refine t_rg0 ?_
      refine t_no ?_
      refine t_g0 ?_
      refine t_r ?_
      simp [go_sem, hP, hgl, hn] <;> (try omega)
      all_goals exact t_f
  · rw [if_neg h2] at hR
    refine t_g @h2 ?_
    refine t_a ?_
    refine W_sub [(1005, 0)] (by simp [go_sem]) (by simp [go_sem, Val.val33N.vals] <;> omega) (by simp [go_sem]) (W_listI (v.args) (fun done => True) (fun done rest => [(.slot 6, .one (.v (dint done.length))), (.slot 1, .one (.loc 1 0)), (.loc 1, .row ([.v (dint v.kind), .v (dint v.num), .v (.sl (ints v.list)), .v (.sl (v.args.map Val.cells))])), (.slot 2, .one (.loc 2 0)), (.loc 2, .row ([.v (dint 0), .v (dint 0), .own 0 [], .own 0 []])), (.slot 5, .one (.loc 5 0)), (.loc 5, .row ([.v (dint v.kind), .v (dint v.num), .v (.sl []), .own 1005 ((Val.val33N.vals done).map Val.cells)])), (.tok 1005, .tk 4 (Val.val33N.vals done).length)]) (trivial) ?_ ?_)
    · intro done x rest hL hg0 hI hnext
      have hlt : done.length < v.args.length := by rw [hL]; simp
      have hsn : Val.val33N.vals (done ++ [x]) = Val.val33N.vals done ++ [x.val33N] := by rw [Val.vals33_append]; rfl
      have hvl := Val.vals33_len done
      have hfx := Val.fold x
      have hcx := Val.cells_eq x.val33N
      refine t_rg0 ?_
      refine t_yes ?_
      refine t_c1 (j2 @hg0 @hfx) (ih x (List.mem_of_getElem? hg0)) ?_
      refine t_gt (wr [(1005, 50)]) (j2 @hsn (j2 @hvl @hcx)) @hvl (hnext trivial)
    · intro _
      refine t_rg0 ?_
      refine t_no ?_
      refine t_g0 ?_
      refine t_r ?_
      simp [go_sem, hP, hgl, hn] <;> (try omega)
      all_goals exact t_f

def Val.value33E (v : Val) : Val × Int := if v.checkN = 0 then (v.val33N, 0) else (zV, v.checkN)
theorem refvalue33_ok (v : Val) (hc : v.count ≤ 1073741824) : Con1 Tryz.prog gl 25 [v.dv] [] (.tup [v.value33E.1.dv, dint v.value33E.2]) [] := by
  have hfv := Val.fold v
  refine t_in Tryz.func25 ?_
  intro X hP hgl hf hfn hn hR hids hfit
  refine t_g0 ?_
  refine t_c1 @hfv (check5_ok v hc) ?_
  by_cases h : v.checkN = 0
  · refine t_g @h ?_
    refine t_c1 @hfv (value33_ok v) ?_
    refine t_r ?_
    simp [go_sem, hP, hgl, hn, Val.value33E, h] <;> (try omega)
    all_goals exact t_f
  · refine t_g @h ?_
    refine t_r ?_
    simp [go_sem, hP, hgl, hn, Val.value33E, h, zV] <;> (try omega)
    all_goals exact t_f

theorem val33_valOf : ∀ (a : T) (x : a.V), a.plain → (valOf a x).val33N = valOf a.maj (bnd a x)
  | .nat, n, _ => by rw [Val.val33N_eq]; rfl
  | .list, l, h => by
    rw [← bnd_val .list l trivial, Val.val33N_eq, Val.boundN_eq]
    rfl
  | .unit, _, _ => by rw [Val.val33N_eq]; rfl
  | .pair a b, p, h => by
    rw [Val.val33N_eq, if_neg (show ¬ (valOf (.pair a b) p).kind = 2 by simp [valOf, Val.kind])]
    show Val.mk 3 0 [] [(valOf a p.1).val33N, (valOf b p.2).val33N] = Val.mk 3 0 [] [valOf a.maj (bnd a p.1), valOf b.maj (bnd b p.2)]
    rw [val33_valOf a p.1 h.1, val33_valOf b p.2 h.2]
  | .fn _ _, _, h => h.elim

/-- greater values, as they are drawn -/
def moreT (l : List Int) : (a : T) → a.V → Nat → a.V × Nat
  | .nat, n, p => (Nat.add n (nextD l p 3).1.toNat, (nextD l p 3).2)
  | .pair a b, x, p => (((moreT l a x.1 p).1, (moreT l b x.2 (moreT l a x.1 p).2).1), (moreT l b x.2 (moreT l a x.1 p).2).2)
  | .list, x, p => (x, p)
  | .unit, x, p => (x, p)
  | .fn _ _, x, p => (x, p)
theorem moreT_facts {l : List Int} : ∀ (a : T) (x : a.V) {p : Nat}, p ≤ l.length → a.bare → a.plain → (moreT l a x p).2 ≤ l.length ∧ Ge a (moreT l a x p).1 x ∧ ∀ N : Int, (ofM a x).le N → (ofM a (moreT l a x p).1).le (N + 2)
  | .nat, n, p, hp, _, _ => by
    have hb := nextD_bd (l := l) (p := p) (n := 3) (by decide)
    refine ⟨nextD_le hp, Nat.le_add_right _ _, fun N hN => ?_⟩
    have hN : (Int.ofNat n) ≤ N := hN
    show ((Nat.add n (nextD l p 3).1.toNat : Nat) : Int) ≤ N + 2
    have : ((Nat.add n (nextD l p 3).1.toNat : Nat) : Int) = Int.ofNat n + ((nextD l p 3).1.toNat : Nat) := rfl
    rw [this]
    omega
  | .list, _, _, _, hb, _ => by exact hb.elim
  | .unit, _, p, hp, _, _ => ⟨hp, trivial, fun _ _ => trivial⟩
  | .pair a b, x, p, hp, hb, hpl => by
    obtain ⟨a1, a2, a3⟩ := moreT_facts a x.1 hp hb.1 hpl.1
    obtain ⟨b1, b2, b3⟩ := moreT_facts b x.2 a1 hb.2 hpl.2
    exact ⟨b1, ⟨a2, b2⟩, fun N hN => ⟨a3 N hN.1, b3 N hN.2⟩⟩
  | .fn _ _, _, _, _, _, h => h.elim

theorem more33_ok (b : Nat) (l : List Int) (hl : l.length ≤ 500) (a : T) : ∀ (x : a.V) (p : Nat), p ≤ l.length → a.bare → a.plain → (ofM a x).le 1000000 →
    Con1 Tryz.prog gl 26 [ptr b, (valOf a x).dv] [(b, deck l p)] (valOf a (moreT l a x p).1).dv [(b, deck l (moreT l a x p).2)] := by
  induction a with
  | list => intro x p hp hb; exact hb.elim
  | fn a b _ _ => intro x p hp hb hpl; exact hpl.elim
  | nat =>
    intro x p hp _ _ hle
    have hb3 := nextD_bd (l := l) (p := p) (n := 3) (by decide)
    have hle : Int.ofNat x ≤ 1000000 := hle
    have hx0 : 0 ≤ Int.ofNat x := Int.natCast_nonneg _
    have hv : valOf .nat (moreT l .nat x p).1 = Val.mk 1 (Int.ofNat x + (nextD l p 3).1) [] [] := by
      show Val.mk 1 ((Nat.add x (nextD l p 3).1.toNat : Nat) : Int) [] [] = _
      have : ((Nat.add x (nextD l p 3).1.toNat : Nat) : Int) = Int.ofNat x + ((nextD l p 3).1.toNat : Nat) := rfl
      rw [this, show (((nextD l p 3).1.toNat : Nat) : Int) = (nextD l p 3).1 by omega]
    have hp2 : (moreT l .nat x p).2 = (nextD l p 3).2 := rfl
    rw [hv, hp2, valOf_nat]
    have wn := next_ok (gl := gl) b l p 3 (by decide) (by omega)
    generalize Int.ofNat x = n at *
    generalize nextD l p 3 = d at *
    obtain ⟨k, q⟩ := d
    simp only at wn hb3
    refine t_in Tryz.func26 ?_
    intro X hP hgl hf hfn hn hR hids hfit
    refine t_g0 ?_
    refine t_c1 trivial wn ?_
    refine t_g0 ?_
    refine t_a ?_
    refine t_sub [] trivial (W_upto (0) (fun i => True) (fun i => [(.slot 25, .one (.v (dint i))), (.slot 24, .one (.v (dint 0))), (.slot 23, .one (.v (.sl []))), (.slot 0, .one (.v (ptr b))), (.slot 4, .one (.loc 4 0)), (.loc 4, .row ([.v (dint 0), .v (dint 0), .own 0 [], .own 0 []])), (.slot 5, .one (.loc 5 0)), (.loc 5, .row ([.v (dint 1), .v (dint (n + k)), .v (.sl []), .v (.sl [])])), (.heap  b, .row ([.v (.sl (ints l)), .v (dint q)]))]) (trivial) ?_ ?_)
    · intro i hi; exact absurd hi (by omega)
    · intro _
      refine t_rg0 ?_
      refine t_no ?_
      refine t_g0 ?_
      repeat (first | refine W_seq ?_ | refine W_skip ?_ | refine W_block ?_ | refine W_inBlock ?_ | refine W_label ?_ | refine W_exit rfl ?_)
      first | refine W_retR hP hf hfn _ ([(b, deck l q)]) (by first | (simp [go_sem, hP, hgl, hn]; done) | (simp [go_sem, hP, hgl, hn]; rfl)) (by simp [go_sem, hP, hgl, hn]) (by simp) ?_ hR.2 | refine W_endR hP hf hfn _ ([(b, deck l q)]) (by first | (simp [go_sem, hP, hgl, hn]; done) | (simp [go_sem, hP, hgl, hn]; rfl)) (by simp [go_sem, hP, hgl, hn]) (by simp) ?_ hR.2
      rw [hR.1]
      refine ⟨?_, by simp⟩
      try simp
      try all_goals (simp [Ty.dv, Ty.cells_eq, Ty.kind_mk, Ty.args_mk, Tm.dv, Tm.cells_eq, Tm.kind_mk, Tm.index_mk, Tm.type_mk, Tm.args_mk, Val.dv, Val.cells_eq, Val.kind_mk, Val.num_mk, Val.list_mk, Val.args_mk, ints])
  | unit =>
    intro x p hp _ _ hle
    have hm : moreT l .unit x p = (x, p) := rfl
    rw [hm, valOf_unit]
    refine t_in Tryz.func26 ?_
    intro X hP hgl hf hfn hn hR hids hfit
    refine t_g0 ?_
    refine t_a ?_
    refine t_sub [] trivial (W_upto (0) (fun i => True) (fun i => [(.slot 25, .one (.v (dint i))), (.slot 24, .one (.v (dint 0))), (.slot 23, .one (.v (.sl []))), (.slot 0, .one (.v (ptr b))), (.slot 4, .one (.loc 4 0)), (.loc 4, .row ([.v (dint 0), .v (dint 0), .own 0 [], .own 0 []])), (.slot 5, .one (.loc 5 0)), (.loc 5, .row ([.v (dint 4), .v (dint 0), .v (.sl []), .v (.sl [])])), (.heap  b, .row ([.v (.sl (ints l)), .v (dint p)]))]) (trivial) ?_ ?_)
    · intro i hi; exact absurd hi (by omega)
    · intro _
      refine t_rg0 ?_
      refine t_no ?_
      refine t_g0 ?_
      repeat (first | refine W_seq ?_ | refine W_skip ?_ | refine W_block ?_ | refine W_inBlock ?_ | refine W_label ?_ | refine W_exit rfl ?_)
      first | refine W_retR hP hf hfn _ ([(b, deck l p)]) (by first | (simp [go_sem, hP, hgl, hn]; done) | (simp [go_sem, hP, hgl, hn]; rfl)) (by simp [go_sem, hP, hgl, hn]) (by simp) ?_ hR.2 | refine W_endR hP hf hfn _ ([(b, deck l p)]) (by first | (simp [go_sem, hP, hgl, hn]; done) | (simp [go_sem, hP, hgl, hn]; rfl)) (by simp [go_sem, hP, hgl, hn]) (by simp) ?_ hR.2
      rw [hR.1]
      refine ⟨?_, by simp⟩
      try simp
      try all_goals (simp [Ty.dv, Ty.cells_eq, Ty.kind_mk, Ty.args_mk, Tm.dv, Tm.cells_eq, Tm.kind_mk, Tm.index_mk, Tm.type_mk, Tm.args_mk, Val.dv, Val.cells_eq, Val.kind_mk, Val.num_mk, Val.list_mk, Val.args_mk, ints])
  | pair a c iha ihc =>
    intro x p hp hb hpl hle
    obtain ⟨a1, -, -⟩ := moreT_facts (l := l) a x.1 hp hb.1 hpl.1
    have w1 := iha x.1 p hp hb.1 hpl.1 hle.1
    have w2 := ihc x.2 _ a1 hb.2 hpl.2 hle.2
    have hd : valOf (.pair a c) (moreT l (.pair a c) x p).1 = Val.mk 3 0 [] [valOf a (moreT l a x.1 p).1, valOf c (moreT l c x.2 (moreT l a x.1 p).2).1] := rfl
    have hp2 : (moreT l (.pair a c) x p).2 = (moreT l c x.2 (moreT l a x.1 p).2).2 := rfl
    rw [hd, hp2, valOf_pair]
    generalize moreT l a x.1 p = m1 at *
    obtain ⟨y1, q1⟩ := m1
    simp only at w1 w2 a1 ⊢
    generalize moreT l c x.2 q1 = m2 at *
    obtain ⟨y2, q2⟩ := m2
    simp only at w2 ⊢
    generalize valOf a x.1 = v1 at *
    generalize valOf c x.2 = v2 at *
    generalize valOf a y1 = z1 at *
    generalize valOf c y2 = z2 at *
    have f1 := Val.fold v1
    have f2 := Val.fold v2
    have g1 := Val.cells_eq z1
    have g2 := Val.cells_eq z2
    have hl1 : z1.cells.length = 4 := by rw [g1]; rfl
    have hl2 : z2.cells.length = 4 := by rw [g2]; rfl
    refine t_in Tryz.func26 ?_
    intro X hP hgl hf hfn hn hR hids hfit
    refine t_g0 ?_
    refine t_a ?_
    refine t_sub [(1005, 0)] trivial (W_upto (2) (fun i => True) (fun i => [(.slot 25, .one (.v (dint i))), (.slot 24, .one (.v (dint 2))), (.slot 23, .one (.v (.sl [v1.cells, v2.cells]))), (.slot 0, .one (.v (ptr b))), (.slot 4, .one (.loc 4 0)), (.loc 4, .row ([.v (dint 0), .v (dint 0), .own 0 [], .own 0 []])), (.slot 5, .one (.loc 5 0)), (.loc 5, .row ([.v (dint 3), .v (dint 0), .v (.sl []), .own 1005 ([z1.cells, z2.cells].take i)])), (.tok 1005, .tk 4 i), (.heap  b, .row ([.v (.sl (ints l)), .v (dint (if i = 0 then p else if i = 1 then q1 else q2 : Nat))]))]) (trivial) ?_ ?_)
    · intro i hi _ hnext
      match i, hi with
      | 0, _ =>
        refine t_rg0 ?_
        refine t_yes ?_
        refine t_g0 ?_
        refine t_c1 @f1 w1 ?_
        refine t_gt (wr [(1005, 35)]) @g1 @hl1 (hnext trivial)
      | 1, _ =>
        refine t_rg0 ?_
        refine t_yes ?_
        refine t_g0 ?_
        refine t_c1 (j2 @f2 @hl1) w2 ?_
        refine t_gt (wr [(1005, 35)]) (j2 @g1 @g2) (j2 @hl1 @hl2) (hnext trivial)
    · intro _
      refine t_rg0 ?_
      refine t_no ?_
      refine t_g0 ?_
      repeat (first | refine W_seq ?_ | refine W_skip ?_ | refine W_block ?_ | refine W_inBlock ?_ | refine W_label ?_ | refine W_exit rfl ?_)
      first | refine W_retR hP hf hfn _ ([(b, deck l q2)]) (by first | (simp [go_sem, hP, hgl, hn]; done) | (simp [go_sem, hP, hgl, hn]; rfl)) (by simp [go_sem, hP, hgl, hn]) (by simp) ?_ hR.2 | refine W_endR hP hf hfn _ ([(b, deck l q2)]) (by first | (simp [go_sem, hP, hgl, hn]; done) | (simp [go_sem, hP, hgl, hn]; rfl)) (by simp [go_sem, hP, hgl, hn]) (by simp) ?_ hR.2
      rw [hR.1]
      refine ⟨?_, by simp⟩
      try simp
      try all_goals (simp [Ty.dv, Ty.cells_eq, Ty.kind_mk, Ty.args_mk, Tm.dv, Tm.cells_eq, Tm.kind_mk, Tm.index_mk, Tm.type_mk, Tm.args_mk, Val.dv, Val.cells_eq, Val.kind_mk, Val.num_mk, Val.list_mk, Val.args_mk, ints])
end Go.Proofs.YteoalfdaanlbjaaGreatDoor.Lift

namespace Go.Proofs.YteoalfdaanlbjaaGreatDoor.Lift
set_option linter.unusedSimpArgs false
set_option linter.unusedVariables false
set_option linter.unnecessarySimpa false
open Go

/-! the plain law of MajorantGrows -/
def moreE (l : List Int) : (ls : List T) → Env ls → Nat → Env ls × Nat
  | [], _, p => ((), p)
  | a :: ls, e, p => (((moreT l a e.1 p).1, (moreE l ls e.2 (moreT l a e.1 p).2).1), (moreE l ls e.2 (moreT l a e.1 p).2).2)
def moreP (l : List Int) : (ls : List T) → Env ls → Nat → Nat → Nat
  | [], _, p, _ => p
  | _ :: _, _, p, 0 => p
  | a :: ls, e, p, i + 1 => moreP l ls e.2 (moreT l a e.1 p).2 i
theorem moreP_zero (l : List Int) : ∀ (ls : List T) (X : Env ls) (p : Nat), moreP l ls X p 0 = p
  | [], _, _ => rfl
  | _ :: _, _, _ => rfl

theorem grow_at {l : List Int} {N : Int} (hN : 0 ≤ N) : ∀ (ls : List T) (X : Env ls) (p i : Nat), i < ls.length → Plains ls → MV.les N (mvsOf ls X) → p ≤ l.length → ∃ (a : T) (x : a.V), (valsOf ls X)[i]? = some (valOf a x) ∧ a.plain ∧ a.ok ∧
    (valsOf (ls.map T.maj) (bndE ls X))[i]? = some (valOf a.maj (bnd a x)) ∧
    (valsOf (ls.map T.maj) (moreE l (ls.map T.maj) (bndE ls X) p).1)[i]? = some (valOf a.maj (moreT l a.maj (bnd a x) (moreP l (ls.map T.maj) (bndE ls X) p i)).1) ∧
    moreP l (ls.map T.maj) (bndE ls X) p (i + 1) = (moreT l a.maj (bnd a x) (moreP l (ls.map T.maj) (bndE ls X) p i)).2 ∧ moreP l (ls.map T.maj) (bndE ls X) p i ≤ l.length ∧ (ofM a.maj (bnd a x)).le N
  | [], _, _, _, h, _, _, _ => absurd h (Nat.not_lt_zero _)
  | a :: ls, X, p, 0, _, hp, hl, hpl => by
    refine ⟨a, X.1, rfl, hp.1, hp.2.1, rfl, rfl, ?_, hpl, bnd_le hN a X.1 hp.1 hl.1⟩
    show moreP l (ls.map T.maj) (bndE ls X.2) _ 0 = _
    rw [moreP_zero]
    rfl
  | a :: ls, X, p, i + 1, h, hp, hl, hpl => by
    obtain ⟨m1, -, -⟩ := moreT_facts (l := l) a.maj (bnd a X.1) hpl (T.maj_bare a) (maj_plain hp.1)
    obtain ⟨b, x, h1, h2, h3, h4, h5, h6, h7, h8⟩ := grow_at (l := l) hN ls X.2 (moreT l a.maj (bnd a X.1) p).2 i (by simpa using h) hp.2.2 hl.2 m1
    exact ⟨b, x, h1, h2, h3, h4, h5, h6, h7, h8⟩

theorem moreE_facts {l : List Int} {N : Int} : ∀ (ls : List T) (X : Env (ls.map T.maj)) (p : Nat), p ≤ l.length → Plains ls → MV.les N (mvsOf (ls.map T.maj) X) → GeE (ls.map T.maj) (moreE l (ls.map T.maj) X p).1 X ∧ MV.les (N + 2) (mvsOf (ls.map T.maj) (moreE l (ls.map T.maj) X p).1)
  | [], _, _, _, _, _ => ⟨trivial, trivial⟩
  | a :: ls, X, p, hp, hpl, hle => by
    obtain ⟨m1, m2, m3⟩ := moreT_facts (l := l) a.maj X.1 hp (T.maj_bare a) (maj_plain hpl.1)
    obtain ⟨h1, h2⟩ := moreE_facts (l := l) (N := N) ls X.2 (moreT l a.maj X.1 p).2 m1 hpl.2.2 hle.2
    exact ⟨⟨m2, h1⟩, ⟨m3 N hle.1, h2⟩⟩

theorem over_ge : ∀ (c : T) (Y y : c.V), c.bare → c.plain → Ge c Y y → (valOf c Y).overN (valOf c y) = true
  | .nat, Y, y, _, _, h => by
    rw [Val.overN_eq, if_pos ⟨rfl, .inl rfl⟩]
    exact decide_eq_true (show (valOf .nat y).boundN.num ≤ Int.ofNat Y by rw [Val.boundN_eq]; exact Int.ofNat_le.2 h)
  | .list, _, _, hb, _, _ => by exact hb.elim
  | .unit, _, _, _, _, _ => by rw [Val.overN_eq]; rfl
  | .pair a b, Y, y, hb, hp, h => by
    have h1 := over_ge a Y.1 y.1 hb.1 hp.1 h.1
    have h2 := over_ge b Y.2 y.2 hb.2 hp.2 h.2
    rw [Val.overN_eq, if_neg (by rintro ⟨h, -⟩; exact absurd h (show ¬ (valOf (T.pair a b) Y).kind = 1 by show ¬ (3 : Int) = 1; decide)), if_pos ⟨rfl, rfl⟩]
    show ((valOf a Y.1).overN (valOf a y.1) && ((valOf b Y.2).overN (valOf b y.2) && true)) = true
    rw [h1, h2]; rfl
  | .fn _ _, _, _, _, h, _ => h.elim
theorem majorizes_ge {c : T} {Y y : c.V} (hb : c.bare) (hp : c.plain) (ho : c.ok) (h : Ge c Y y) : (valOf c Y).majorizesN (valOf c y) = true := by
  unfold Val.majorizesN
  rw [valOf_check Y hp ho, valOf_check y hp ho, over_ge c Y y hb hp h]
  rfl
theorem value33_val {a : T} (x : a.V) (hp : a.plain) (ho : a.ok) : (valOf a x).value33E = (valOf a.maj (bnd a x), 0) := by
  unfold Val.value33E
  rw [if_pos (valOf_check x hp ho), val33_valOf a x hp]
end Go.Proofs.YteoalfdaanlbjaaGreatDoor.Lift

