import Derived.Test.YtmdjiajbnifjpaaDoorQ3
/-
  Integer programs, plainly: the code of a term, block by block; the blocks in the order in which they are met; the program of blocks; reading a block back.
-/
namespace Go.Proofs.YtmdjiajbnifjpaaDoor.Lift
set_option linter.unusedSimpArgs false
set_option linter.unusedVariables false
set_option linter.unnecessarySimpa false
open Go

/-- an instruction: its operation and its number -/
abbrev Ins := Int × Int

def uTy : Ty := .mk 5 []
def zTy : Ty := .mk 0 []
def hasTy (k : Int) : Bool := decide (k = 2) || (decide (k = 6) || decide (k = 9))

namespace Tm
set_option linter.unusedSimpArgs false
set_option linter.unusedVariables false
set_option linter.unnecessarySimpa false
/-- the code of a term in its own block -/
def skel : Tm → List Ins
  | .mk k i _ a => if k = 2 then [(2, i)] else skels a ++ [(k, i)]
where
  skels : List Tm → List Ins
    | [] => []
    | a :: r => a.skel ++ skels r
/-- the bodies of its functions -/
def subs : Tm → List Tm
  | .mk k _ _ a => if k = 2 then a else subss a
where
  subss : List Tm → List Tm
    | [] => []
    | a :: r => a.subs ++ subss r
def untyped : Tm → Tm
  | .mk k i _ a => .mk k i (if hasTy k = true then uTy else zTy) (untypeds a)
where
  untypeds : List Tm → List Tm
    | [] => []
    | a :: r => a.untyped :: untypeds r
theorem skel_eq (t : Tm) : t.skel = if t.kind = 2 then [(2, t.index)] else skel.skels t.args ++ [(t.kind, t.index)] := by cases t; rfl
theorem subs_eq (t : Tm) : t.subs = if t.kind = 2 then t.args else subs.subss t.args := by cases t; rfl
theorem untypeds_map (l : List Tm) : untyped.untypeds l = l.map untyped := by
  induction l with
  | nil => rfl
  | cons a r ih => simp [untyped.untypeds, ih]
theorem untyped_eq (t : Tm) : t.untyped = .mk t.kind t.index (if hasTy t.kind = true then uTy else zTy) (t.args.map untyped) := by
  cases t
  show Tm.mk _ _ _ (untyped.untypeds _) = _
  rw [untypeds_map]
  rfl
theorem skels_append (l m : List Tm) : skel.skels (l ++ m) = skel.skels l ++ skel.skels m := by
  induction l with
  | nil => rfl
  | cons a r ih => simp [skel.skels, ih]
theorem subss_append (l m : List Tm) : subs.subss (l ++ m) = subs.subss l ++ subs.subss m := by
  induction l with
  | nil => rfl
  | cons a r ih => simp [subs.subss, ih]
theorem skel_count (t : Tm) : t.skel.length + count.counts t.subs = t.count := by
  induction t using Tm.ind with
  | h t ih =>
    have hl : ∀ l : List Tm, (∀ a ∈ l, a.skel.length + count.counts a.subs = a.count) → (skel.skels l).length + count.counts (subs.subss l) = count.counts l := by
      intro l
      induction l with
      | nil => intro _; rfl
      | cons a r ihr =>
        intro h
        have h1 := h a (by simp)
        have h2 := ihr fun b hb => h b (by simp [hb])
        have happ : ∀ l m : List Tm, count.counts (l ++ m) = count.counts l + count.counts m := by
          intro l m
          induction l with
          | nil => simp [count.counts]
          | cons a r ih => simp [count.counts, ih]; omega
        simp only [skel.skels, subs.subss, List.length_append, happ, count.counts]
        omega
    rw [skel_eq, subs_eq, count_eq]
    by_cases hk : t.kind = 2
    · rw [if_pos hk, if_pos hk]
      simp
    · rw [if_neg hk, if_neg hk]
      have := hl t.args ih
      simp only [List.length_append, List.length_singleton]
      omega
theorem skel_pos (t : Tm) : 1 ≤ t.skel.length := by
  rw [skel_eq]
  split <;> simp
theorem counts_app (l m : List Tm) : count.counts (l ++ m) = count.counts l + count.counts m := by
  induction l with
  | nil => simp [count.counts]
  | cons a r ih => simp [count.counts, ih]; omega
/-- the bodies in the order in which their blocks are laid -/
def bfs : List Tm → List Tm
  | [] => []
  | t :: r => t :: bfs (r ++ t.subs)
termination_by q => count.counts q
decreasing_by
  have := skel_count t
  have := skel_pos t
  simp only [counts_app, count.counts]
  omega
theorem bfs_nil : bfs [] = [] := by rw [bfs]
theorem bfs_cons (t : Tm) (r : List Tm) : bfs (t :: r) = t :: bfs (r ++ t.subs) := by rw [bfs]
theorem bfs_eq : ∀ q : List Tm, bfs q = q ++ (bfs q).flatMap subs
  | [] => by rw [bfs_nil]; rfl
  | t :: r => by
    have ih := bfs_eq (r ++ t.subs)
    rw [bfs_cons, List.flatMap_cons]
    rw [ih]
    simp only [List.flatMap_append, List.cons_append, List.append_assoc]
    congr 2
    have h2 : (bfs (r ++ t.subs)).flatMap subs = (r.flatMap subs ++ (t.subs.flatMap subs ++ ((bfs (r ++ t.subs)).flatMap subs).flatMap subs)) := by
      conv => lhs; rw [ih]
      simp
    congr 1
termination_by q => count.counts q
decreasing_by
  have := skel_count t
  have := skel_pos t
  simp only [counts_app, count.counts]
  omega
theorem bfs_count : ∀ q : List Tm, (((bfs q).map skel).flatten).length = count.counts q
  | [] => by rw [bfs_nil]; rfl
  | t :: r => by
    have ih := bfs_count (r ++ t.subs)
    have := skel_count t
    rw [bfs_cons, List.map_cons, List.flatten_cons, List.length_append, ih, counts_app]
    simp only [count.counts]
    omega
termination_by q => count.counts q
decreasing_by
  have := skel_count t
  have := skel_pos t
  simp only [counts_app, count.counts]
  omega
end Tm

/-- the blocks, each with its end -/
def lay (bs : List (List Ins)) : List Ins := bs.flatMap fun b => b ++ [(14, 0)]
theorem lay_append (l m : List (List Ins)) : lay (l ++ m) = lay l ++ lay m := List.flatMap_append
theorem lay_nil : lay [] = [] := rfl
theorem lay_one (b : List Ins) : lay [b] = b ++ [(14, 0)] := by simp [lay]
theorem lay_cons (b : List Ins) (r : List (List Ins)) : lay (b :: r) = b ++ [(14, 0)] ++ lay r := by simp [lay]
/-- how many functions code has -/
def funs (c : List Ins) : Nat := (c.filter fun x => decide (x.1 = 2)).length
theorem funs_append (c d : List Ins) : funs (c ++ d) = funs c + funs d := by simp [funs]
theorem funs_nil : funs [] = 0 := rfl
theorem funs_cons (x : Ins) (c : List Ins) : funs (x :: c) = (if x.1 = 2 then 1 else 0) + funs c := by
  by_cases h : x.1 = 2 <;> simp [funs, h] <;> omega
/-- the numbers of functions are put in -/
def fillF (p : Nat → Int) : Nat → List Ins → List Ins
  | _, [] => []
  | j, (o, a) :: r => if o = 2 then (2, p j) :: fillF p (j + 1) r else (o, a) :: fillF p j r
theorem fillF_append (p : Nat → Int) (j : Nat) (c d : List Ins) : fillF p j (c ++ d) = fillF p j c ++ fillF p (j + funs c) d := by
  induction c generalizing j with
  | nil => simp [fillF, funs]
  | cons x r ih =>
    obtain ⟨o, a⟩ := x
    simp only [List.cons_append, fillF, funs_cons]
    split
    · rw [ih, List.cons_append]; congr 2; congr 1; omega
    · rw [ih, List.cons_append]; congr 2; congr 1; omega
theorem fillF_length (p : Nat → Int) (j : Nat) (c : List Ins) : (fillF p j c).length = c.length := by
  induction c generalizing j with
  | nil => rfl
  | cons x r ih =>
    obtain ⟨o, a⟩ := x
    simp only [fillF]
    split <;> simp [ih]
theorem fillF_congr {p q : Nat → Int} {j : Nat} {c : List Ins} (h : ∀ i, i < funs c → p (j + i) = q (j + i)) : fillF p j c = fillF q j c := by
  induction c generalizing j with
  | nil => rfl
  | cons x r ih =>
    obtain ⟨o, a⟩ := x
    simp only [funs_cons] at h
    simp only [fillF]
    split
    · rename_i ho
      rw [if_pos ho] at h
      have h0 := h 0 (by omega)
      rw [Nat.add_zero] at h0
      rw [h0, ih fun i hi => ?_]
      have := h (i + 1) (by omega)
      rwa [show j + (i + 1) = j + 1 + i from by omega] at this
    · rename_i ho
      rw [if_neg ho] at h
      rw [ih fun i hi => h i (by omega)]
/-- where functions stand -/
def funPos : Nat → List Ins → List Int
  | _, [] => []
  | n, (o, _) :: r => if o = 2 then (n : Int) :: funPos (n + 1) r else funPos (n + 1) r
theorem funPos_append (n : Nat) (c d : List Ins) : funPos n (c ++ d) = funPos n c ++ funPos (n + c.length) d := by
  induction c generalizing n with
  | nil => simp [funPos]
  | cons x r ih =>
    obtain ⟨o, a⟩ := x
    simp only [List.cons_append, funPos, List.length_cons]
    have e : n + (r.length + 1) = n + 1 + r.length := by omega
    split <;> rw [ih, e] <;> rfl
theorem funPos_length (n : Nat) (c : List Ins) : (funPos n c).length = funs c := by
  induction c generalizing n with
  | nil => rfl
  | cons x r ih =>
    obtain ⟨o, a⟩ := x
    simp only [funPos, funs_cons]
    split <;> simp [ih]; omega
/-- the place of a function, and its number put in -/
theorem funPos_set (p : Nat → Int) : ∀ (c : List Ins) (n j m : Nat), m < funs c → ∃ i : Nat, (funPos n c)[m]? = some ((n + i : Nat) : Int) ∧ i < c.length ∧ (fillF p j c)[i]? = some (2, p (j + m)) ∧
    ∀ v : Int, (fillF p j c).set i (2, v) = fillF (fun x => if x = j + m then v else p x) j c
  | [], _, _, m, h => by simp [funs] at h
  | (o, a) :: r, n, j, m, h => by
    simp only [funs_cons] at h
    simp only [funPos, fillF]
    by_cases ho : o = 2
    · rw [if_pos ho, if_pos ho]
      rw [if_pos ho] at h
      cases m with
      | zero =>
        refine ⟨0, by simp, by simp, by simp, fun v => ?_⟩
        rw [List.set_cons_zero, if_pos ho]
        simp only [Nat.add_zero, if_true]
        congr 1
        exact fillF_congr fun i _ => by rw [if_neg (by omega)]
      | succ m =>
        obtain ⟨i, h1, h2, h3, h4⟩ := funPos_set p r (n + 1) (j + 1) m (by omega)
        refine ⟨i + 1, ?_, by simpa using h2, ?_, fun v => ?_⟩
        · rw [List.getElem?_cons_succ, h1]; congr 2; omega
        · rw [List.getElem?_cons_succ, h3]; congr 3; omega
        · rw [List.set_cons_succ, h4, if_pos ho, if_neg (by omega)]
          congr 1
          exact fillF_congr fun i _ => by congr 1; exact propext ⟨fun h => by omega, fun h => by omega⟩
    · rw [if_neg ho, if_neg ho]
      rw [if_neg ho] at h
      obtain ⟨i, h1, h2, h3, h4⟩ := funPos_set p r (n + 1) j m (by omega)
      refine ⟨i + 1, ?_, by simpa using h2, by rw [List.getElem?_cons_succ, h3], fun v => ?_⟩
      · rw [h1]; congr 2; omega
      · rw [List.set_cons_succ, h4, if_neg ho]

/-- where a block begins -/
def startAt (bs : List (List Ins)) (k : Nat) : Nat := (lay (bs.take k)).length
/-- the program of blocks: each function has the place of its block -/
def prog (bs : List (List Ins)) : List Ins := fillF (fun j => (startAt bs (j + 1) : Nat)) 0 (lay bs)
def Tm.blocks (t : Tm) : List (List Ins) := (Tm.bfs [t]).map Tm.skel
def Tm.codeN (t : Tm) : List Ins := prog t.blocks
/-- what Compile returns -/
def Tm.compN (t : Tm) : List Ins × Int := if t.checkN = 0 then if 4096 < t.codeN.length then ([], 4) else (t.codeN, 0) else ([], t.checkN)

/-- the program while its blocks are laid: functions whose block is not begun have 0 -/
def partC (bs : List (List Ins)) : List Ins := fillF (fun j => if j + 1 < bs.length then ((startAt bs (j + 1) : Nat) : Int) else 0) 0 (lay bs)
def Ins.row (x : Ins) : List DV := [dint x.1, dint x.2]
theorem lay_length (bs : List (List Ins)) : (lay bs).length = bs.flatten.length + bs.length := by
  induction bs with
  | nil => rfl
  | cons b r ih => rw [lay_cons]; simp [ih]; omega
theorem startAt_app (bs : List (List Ins)) (b : List Ins) {k : Nat} (h : k ≤ bs.length) : startAt (bs ++ [b]) k = startAt bs k := by
  unfold startAt
  rw [List.take_append_of_le_length h]
theorem startAt_all (bs : List (List Ins)) : startAt bs bs.length = (lay bs).length := by unfold startAt; rw [List.take_length]
theorem funs_skels (l : List Tm) (h : ∀ a ∈ l, funs a.skel = a.subs.length) : funs (Tm.skel.skels l) = (Tm.subs.subss l).length := by
  induction l with
  | nil => rfl
  | cons a r ih => simp only [Tm.skel.skels, Tm.subs.subss, funs_append, List.length_append]; rw [h a (by simp), ih fun b hb => h b (by simp [hb])]
theorem funs_skel (t : Tm) (h : t.shape = true) : funs t.skel = t.subs.length := by
  induction t using Tm.ind with
  | h t ih =>
    rw [Tm.shape_eq, Bool.and_eq_true] at h
    have hs := (Tm.shapes_iff _).1 h.2
    rw [Tm.skel_eq, Tm.subs_eq]
    by_cases hk : t.kind = 2
    · rw [if_pos hk, if_pos hk]
      have h1 := h.1
      simp only [tmKind, hk, Bool.and_eq_true, decide_eq_true_eq, arityI] at h1
      have : t.args.length = 1 := by have := h1.1.1.1; simp at this; omega
      rw [this]; rfl
    · rw [if_neg hk, if_neg hk, funs_append, funs_skels t.args fun a ha => ih a ha (hs a ha)]
      simp [funs, hk]
theorem subs_shape (t : Tm) (h : t.shape = true) : ∀ s ∈ t.subs, s.shape = true := by
  induction t using Tm.ind with
  | h t ih =>
    rw [Tm.shape_eq, Bool.and_eq_true] at h
    have hs := (Tm.shapes_iff _).1 h.2
    rw [Tm.subs_eq]
    by_cases hk : t.kind = 2
    · rw [if_pos hk]; exact hs
    · rw [if_neg hk]
      have hl : ∀ l : List Tm, (∀ a ∈ l, ∀ s ∈ a.subs, s.shape = true) → ∀ s ∈ Tm.subs.subss l, s.shape = true := by
        intro l
        induction l with
        | nil => intro _ s hs; cases hs
        | cons a r ihr =>
          intro h s hm
          rcases List.mem_append.1 hm with hm | hm
          · exact h a (by simp) s hm
          · exact ihr (fun b hb => h b (by simp [hb])) s hm
      exact hl _ fun a ha => ih a ha (hs a ha)
theorem bfs_shape : ∀ q : List Tm, (∀ t ∈ q, t.shape = true) → ∀ t ∈ Tm.bfs q, t.shape = true
  | [], _ => by rw [Tm.bfs_nil]; intro t ht; cases ht
  | t :: r, h => by
    rw [Tm.bfs_cons]
    intro s hs
    rcases List.mem_cons.1 hs with rfl | hs
    · exact h _ (by simp)
    · refine bfs_shape (r ++ t.subs) (fun x hx => ?_) s hs
      rcases List.mem_append.1 hx with hx | hx
      · exact h x (by simp [hx])
      · exact subs_shape t (h t (by simp)) x hx
termination_by q => Tm.count.counts q
decreasing_by
  have := Tm.skel_count t
  have := Tm.skel_pos t
  simp only [Tm.counts_app, Tm.count.counts]
  omega

/-- how many terms an operation takes -/
def takesI (o : Int) : Nat := if o = 5 ∨ o = 11 ∨ o = 12 then 1 else if o = 3 ∨ o = 8 ∨ o = 10 then 2 else if o = 6 ∨ o = 9 then 3 else 0
/-- one instruction on a stack of terms, the last one on top -/
def stepB (body : Int → Tm) (st : List Tm) (x : Ins) : List Tm :=
  st.take (st.length - takesI x.1) ++ [.mk x.1 (if x.1 = 1 then x.2 else 0) (if hasTy x.1 = true then uTy else zTy) (if x.1 = 2 then [body x.2] else st.drop (st.length - takesI x.1))]
def runB (body : Int → Tm) (c : List Ins) (st : List Tm) : List Tm := c.foldl (stepB body) st
theorem runB_append (body : Int → Tm) (c d : List Ins) (st : List Tm) : runB body (c ++ d) st = runB body d (runB body c st) := List.foldl_append
theorem tm_takes {t : Tm} (h : t.shape = true) (hk : ¬ t.kind = 2) : takesI t.kind = t.args.length := by
  rw [Tm.shape_eq, Bool.and_eq_true] at h
  have h1 := h.1
  simp only [tmKind, Bool.and_eq_true, decide_eq_true_eq] at h1
  have h2 := h1.1.1.1
  unfold arityI at h2
  unfold takesI
  repeat' split at h2
  all_goals first
    | omega
    | (split <;> first | omega | (split <;> first | omega | (split <;> omega)))
theorem tm_index {t : Tm} (h : t.shape = true) (hk : ¬ t.kind = 1) : t.index = 0 := by
  rw [Tm.shape_eq, Bool.and_eq_true] at h
  have h1 := h.1
  simp only [tmKind, Bool.and_eq_true, Bool.or_eq_true, decide_eq_true_eq] at h1
  exact h1.1.2.resolve_left hk
/-- a block of a term, run, leads to the term without types -/
theorem run_skel (body : Int → Tm) (p : Nat → Int) (t : Tm) (h : t.shape = true) (j : Nat) (hb : ∀ (i : Nat) (s : Tm), t.subs[i]? = some s → body (p (j + i)) = s.untyped) (st : List Tm) : runB body (fillF p j t.skel) st = st ++ [t.untyped] := by
  induction t using Tm.ind generalizing j st with
  | h t ih =>
    have h0 := h
    rw [Tm.shape_eq, Bool.and_eq_true] at h
    have hs := (Tm.shapes_iff _).1 h.2
    by_cases hk : t.kind = 2
    · rw [Tm.subs_eq, if_pos hk] at hb
      have h1 := h.1
      simp only [tmKind, hk, Bool.and_eq_true, decide_eq_true_eq, arityI] at h1
      have hlen : t.args.length = 1 := by have := h1.1.1.1; simp at this; omega
      obtain ⟨b, hab⟩ := List.length_eq_one_iff.1 hlen
      have hb0 := hb 0 b (by rw [hab]; rfl)
      rw [Nat.add_zero] at hb0
      rw [Tm.skel_eq, if_pos hk, Tm.untyped_eq, hab, tm_index h0 (by omega), hk]
      simp [fillF, runB, stepB, hb0, takesI]
    · have hl : ∀ (l : List Tm), (∀ a ∈ l, ∀ (j : Nat), (∀ (i : Nat) (s : Tm), a.subs[i]? = some s → body (p (j + i)) = s.untyped) → ∀ st, runB body (fillF p j a.skel) st = st ++ [a.untyped]) → (∀ a ∈ l, a.shape = true) →
          ∀ (j : Nat), (∀ (i : Nat) (s : Tm), (Tm.subs.subss l)[i]? = some s → body (p (j + i)) = s.untyped) → ∀ st, runB body (fillF p j (Tm.skel.skels l)) st = st ++ l.map Tm.untyped := by
        intro l
        induction l with
        | nil => intro _ _ j _ st; simp [Tm.skel.skels, fillF, runB]
        | cons a r ihr =>
          intro h1 h2 j hb st
          simp only [Tm.subs.subss] at hb
          simp only [Tm.skel.skels, fillF_append, runB_append, funs_skel a (h2 a (by simp))]
          rw [h1 a (by simp) j (fun i s hi => hb i s (by rw [List.getElem?_append_left (List.getElem?_eq_some_iff.1 hi).1]; exact hi)) st]
          rw [ihr (fun b hb => h1 b (by simp [hb])) (fun b hb => h2 b (by simp [hb])) (j + a.subs.length) (fun i s hi => by
            have := hb (a.subs.length + i) s (by rw [List.getElem?_append_right (by omega)]; rw [show a.subs.length + i - a.subs.length = i from by omega]; exact hi)
            rwa [← Nat.add_assoc] at this)]
          simp
      rw [Tm.subs_eq, if_neg hk] at hb
      rw [Tm.skel_eq, if_neg hk, fillF_append, runB_append, hl t.args (fun a ha j hb st => ih a ha (hs a ha) j hb st) hs j hb]
      have htk := tm_takes h0 hk
      rw [Tm.untyped_eq]
      have hi : (if t.kind = 1 then t.index else 0) = t.index := by
        by_cases h1 : t.kind = 1
        · rw [if_pos h1]
        · rw [if_neg h1, tm_index h0 h1]
      simp only [fillF, if_neg hk, runB, List.foldl_cons, List.foldl_nil, stepB, htk, List.length_append, List.length_map, Nat.add_sub_cancel, List.take_left', List.drop_left', hi]
end Go.Proofs.YtmdjiajbnifjpaaDoor.Lift

/-
  Valid programs, plainly: what Starts sees, and the blocks of what it accepts; the terms of the blocks, from the last one on.
-/
namespace Go.Proofs.YtmdjiajbnifjpaaDoor.Lift
set_option linter.unusedSimpArgs false
set_option linter.unusedVariables false
set_option linter.unnecessarySimpa false
open Go

/-- the number of an instruction is right at its place -/
def okI (n : Nat) (x : Ins) : Bool := decide (1 ≤ x.1) && decide (x.1 ≤ 13) && (if x.1 = 2 then decide ((n : Int) < x.2) else if x.1 = 1 then decide (0 ≤ x.2) else decide (x.2 = 0))
/-- the loop of Starts -/
def scanS : List Ins → Nat → Int → List Int → List Int → Option (List Int × List Int)
  | [], _, _, st, fs => some (st, fs)
  | x :: r, n, h, st, fs =>
    if x.1 = 14 then if x.2 = 0 ∧ h = 1 then scanS r (n + 1) 0 (st ++ [((n + 1 : Nat) : Int)]) fs else none
    else if okI n x = true ∧ (takesI x.1 : Int) ≤ h then scanS r (n + 1) (h + 1 - takesI x.1) st (if x.1 = 2 then fs ++ [x.2] else fs) else none
def lastOp (c : List Ins) : Int := (c.getLast?.getD (0, 0)).1
/-- what Starts returns -/
def startsN (c : List Ins) : List Int × Bool :=
  if c = [] ∨ 4096 < c.length ∨ ¬ lastOp c = 14 then ([], false) else
  match scanS c 0 0 [0] [] with
  | none => ([], false)
  | some (st, fs) => if st.dropLast.tail = fs then (st.dropLast, true) else ([], false)

/-- how high the stack is behind some instructions -/
def hts : List Ins → Int → Option Int
  | [], h => some h
  | x :: r, h => if (takesI x.1 : Int) ≤ h then hts r (h + 1 - takesI x.1) else none
def ends (n : Nat) : List (List Ins) → List Int
  | [] => []
  | b :: r => ((n + b.length + 1 : Nat) : Int) :: ends (n + b.length + 1) r
def funA : List Ins → List Int
  | [] => []
  | x :: r => if x.1 = 2 then x.2 :: funA r else funA r
theorem funA_length (c : List Ins) : (funA c).length = funs c := by
  induction c with
  | nil => rfl
  | cons x r ih =>
    simp only [funA, funs_cons]
    split <;> simp [ih]; omega
def okCd : Nat → List Ins → Prop
  | _, [] => True
  | n, x :: r => (¬ x.1 = 14 → okI n x = true) ∧ okCd (n + 1) r
theorem okCd_append (n : Nat) (c d : List Ins) : okCd n (c ++ d) ↔ okCd n c ∧ okCd (n + c.length) d := by
  induction c generalizing n with
  | nil => simp [okCd]
  | cons x r ih =>
    simp only [List.cons_append, okCd, ih, List.length_cons, and_assoc]
    rw [show n + (r.length + 1) = n + 1 + r.length from by omega]
theorem okCd_at {n : Nat} {c : List Ins} (h : okCd n c) {i : Nat} {x : Ins} (hi : c[i]? = some x) (hx : ¬ x.1 = 14) : okI (n + i) x = true := by
  induction c generalizing n i with
  | nil => cases hi
  | cons y r ih =>
    cases i with
    | zero => simp at hi; subst hi; exact h.1 hx
    | succ i =>
      rw [List.getElem?_cons_succ] at hi
      have := ih h.2 hi
      rwa [show n + 1 + i = n + (i + 1) from by omega] at this
theorem lastOp_cons (x : Ins) {r : List Ins} (h : r ≠ []) : lastOp (x :: r) = lastOp r := by
  unfold lastOp
  cases r with
  | nil => exact absurd rfl h
  | cons y t => simp [List.getLast?_cons]

theorem scan_inv : ∀ (c : List Ins) (n : Nat) (h : Int) (st fs : List Int) (q : List Int × List Int), scanS c n h st fs = some q → c ≠ [] → lastOp c = 14 →
    ∃ b bs, c = lay (b :: bs) ∧ hts b h = some 1 ∧ (∀ d ∈ bs, hts d 0 = some 1) ∧ okCd n c ∧ (∀ d ∈ b :: bs, ∀ x ∈ d, ¬ x.1 = 14) ∧ q = (st ++ ends n (b :: bs), fs ++ funA c)
  | [], _, _, _, _, _, _, h, _ => absurd rfl h
  | x :: r, n, h, st, fs, q, hs, _, hl => by
    simp only [scanS] at hs
    by_cases hx : x.1 = 14
    · rw [if_pos hx] at hs
      split at hs
      · rename_i hc
        obtain ⟨h1, h2⟩ := hc
        have hxe : x = (14, 0) := by cases x; simp only at hx h1; rw [hx, h1]
        subst hxe
        by_cases hr : r = []
        · subst hr
          simp only [scanS, Option.some.injEq] at hs
          refine ⟨[], [], by simp [lay], by rw [h2]; rfl, by simp, ⟨by simp, trivial⟩, by simp, ?_⟩
          rw [← hs]
          simp [ends, funA]
        · obtain ⟨b, bs, i1, i2, i3, i4, i5, i6⟩ := scan_inv r (n + 1) 0 _ fs q hs hr (by rw [← lastOp_cons _ hr]; exact hl)
          refine ⟨[], b :: bs, by rw [lay_cons, ← i1]; rfl, by rw [h2]; rfl, ?_, ⟨by simp, i4⟩, ?_, ?_⟩
          · intro d hd
            rcases List.mem_cons.1 hd with rfl | hd
            · exact i2
            · exact i3 d hd
          · intro d hd
            rcases List.mem_cons.1 hd with rfl | hd
            · intro x hx; cases hx
            · exact i5 d hd
          · rw [i6]
            simp [ends, funA]
      · cases hs
    · rw [if_neg hx] at hs
      split at hs
      · rename_i hc
        have hr : r ≠ [] := by
          rintro rfl
          simp [lastOp] at hl
          exact hx hl
        obtain ⟨b, bs, i1, i2, i3, i4, i5, i6⟩ := scan_inv r (n + 1) _ st _ q hs hr (by rw [← lastOp_cons _ hr]; exact hl)
        refine ⟨x :: b, bs, by rw [i1]; simp [lay], by rw [hts, if_pos hc.2]; exact i2, i3, ⟨fun _ => hc.1, i4⟩, ?_, ?_⟩
        · intro d hd
          rcases List.mem_cons.1 hd with rfl | hd
          · intro y hy
            rcases List.mem_cons.1 hy with rfl | hy
            · exact hx
            · exact i5 b (by simp) y hy
          · exact i5 d (by simp [hd])
        · rw [i6]
          congr 1
          · simp only [ends, List.length_cons]
            rw [show n + 1 + b.length + 1 = n + (b.length + 1) + 1 from by omega]
          · simp only [funA]
            split <;> simp
      · cases hs

theorem scan_fwd : ∀ (b : List Ins) (bs : List (List Ins)) (n : Nat) (h : Int) (st fs : List Int), hts b h = some 1 → (∀ d ∈ bs, hts d 0 = some 1) → okCd n (lay (b :: bs)) → (∀ d ∈ b :: bs, ∀ x ∈ d, ¬ x.1 = 14) →
    scanS (lay (b :: bs)) n h st fs = some (st ++ ends n (b :: bs), fs ++ funA (lay (b :: bs)))
  | [], bs, n, h, st, fs, h1, h2, h3, h4 => by
    obtain rfl : h = 1 := by simpa [hts] using h1
    rw [lay_cons] at h3 ⊢
    simp only [List.nil_append, List.cons_append, scanS, if_true, and_self, okCd] at h3 ⊢
    cases bs with
    | nil => simp [lay, scanS, ends, funA]
    | cons d r =>
      rw [scan_fwd d r (n + 1) 0 _ fs (h2 d (by simp)) (fun x hx => h2 x (by simp [hx])) h3.2 fun x hx => h4 x (by simp [hx])]
      simp [ends, funA]
  | x :: b, bs, n, h, st, fs, h1, h2, h3, h4 => by
    have hx : ¬ x.1 = 14 := h4 (x :: b) (by simp) x (by simp)
    have he : lay ((x :: b) :: bs) = x :: lay (b :: bs) := by simp [lay]
    rw [he] at h3 ⊢
    simp only [hts] at h1
    split at h1
    · rename_i hc
      simp only [scanS, if_neg hx]
      rw [if_pos ⟨h3.1 hx, hc⟩]
      rw [scan_fwd b bs (n + 1) _ st _ h1 h2 h3.2 fun d hd y hy => by
        rcases List.mem_cons.1 hd with rfl | hd
        · exact h4 (x :: d) (by simp) y (by simp [hy])
        · exact h4 d (by simp [hd]) y hy]
      congr 2
      · simp only [ends, List.length_cons]
        rw [show n + 1 + b.length + 1 = n + (b.length + 1) + 1 from by omega]
      · simp only [funA]
        split <;> simp
    · cases h1
termination_by b bs => (lay (b :: bs)).length
decreasing_by
  all_goals (subst_vars; simp [lay])

/-- a valid program, by its blocks -/
structure Prg (bs : List (List Ins)) : Prop where
  one : bs ≠ []
  len : (lay bs).length ≤ 4096
  high : ∀ d ∈ bs, hts d 0 = some 1
  ok : okCd 0 (lay bs)
  no14 : ∀ d ∈ bs, ∀ x ∈ d, ¬ x.1 = 14
  at' : funA (lay bs) = (ends 0 bs).dropLast
theorem lay_last (b : List Ins) (bs : List (List Ins)) : lastOp (lay (b :: bs)) = 14 := by
  have : ∃ c, lay (b :: bs) = c ++ [(14, 0)] := by
    induction bs generalizing b with
    | nil => exact ⟨b, by simp [lay]⟩
    | cons d r ih =>
      obtain ⟨c, hc⟩ := ih d
      exact ⟨b ++ [(14, 0)] ++ c, by rw [lay_cons, hc]; simp⟩
  obtain ⟨c, hc⟩ := this
  rw [hc]
  simp [lastOp]
theorem ends_length (n : Nat) (bs : List (List Ins)) : (ends n bs).length = bs.length := by
  induction bs generalizing n with
  | nil => rfl
  | cons b r ih => simp [ends, ih]
theorem starts_of {c : List Ins} {s : List Int} (h : startsN c = (s, true)) : ∃ bs, c = lay bs ∧ Prg bs ∧ s = 0 :: (ends 0 bs).dropLast := by
  unfold startsN at h
  split at h
  · cases h
  · rename_i h0
    simp only [not_or, Decidable.not_not] at h0
    split at h
    · cases h
    · rename_i st fs hs
      obtain ⟨b, bs, i1, i2, i3, i4, i5, i6⟩ := scan_inv c 0 0 _ _ _ hs h0.1 h0.2.2
      simp only [Prod.mk.injEq, List.nil_append, List.cons_append] at i6
      have hne : ends 0 (b :: bs) ≠ [] := by simp [ends]
      split at h
      · rename_i hd
        rw [i6.1, i6.2, List.dropLast_cons_of_ne_nil hne, List.tail_cons] at hd
        simp only [Prod.mk.injEq, and_true] at h
        refine ⟨b :: bs, i1, ⟨by simp, by rw [← i1]; omega, ?_, by rw [← i1]; exact i4, i5, by rw [← i1]; exact hd.symm⟩, ?_⟩
        · intro d hd
          rcases List.mem_cons.1 hd with rfl | hd
          · exact i2
          · exact i3 d hd
        · rw [← h, i6.1, List.dropLast_cons_of_ne_nil hne]
      · cases h
theorem starts_to {bs : List (List Ins)} (h : Prg bs) : startsN (lay bs) = (0 :: (ends 0 bs).dropLast, true) := by
  obtain ⟨h1, h2, h3, h4, h5, h6⟩ := h
  cases bs with
  | nil => exact absurd rfl h1
  | cons b r =>
    unfold startsN
    have hne : ends 0 (b :: r) ≠ [] := by simp [ends]
    rw [if_neg (by
      simp only [not_or, Decidable.not_not]
      exact ⟨by simp [lay], by omega, lay_last b r⟩)]
    rw [scan_fwd b r 0 0 [0] [] (h3 b (by simp)) (fun d hd => h3 d (by simp [hd])) h4 h5]
    simp only [List.nil_append, List.cons_append]
    rw [List.dropLast_cons_of_ne_nil hne, List.tail_cons, h6, if_pos rfl]
theorem starts_snd {c : List Ins} : (startsN c).2 = true → startsN c = ((startsN c).1, true) := fun h => by rw [← h]

/-- what a map holds at a number -/
def look (m : List (Int × Tm)) (a : Int) : Tm := ((m.find? fun e => decide (e.1 = a)).map (·.2)).getD (.mk 0 0 zTy [])
theorem look_of {m : List (Int × Tm)} {a : Int} {v : Tm} (h : (a, v) ∈ m) (hu : ∀ v', (a, v') ∈ m → v' = v) : look m a = v := by
  unfold look
  induction m with
  | nil => cases h
  | cons e r ih =>
    rw [List.find?_cons]
    by_cases he : e.1 = a
    · simp only [he, decide_true]
      have := hu e.2 (by rw [← he]; simp)
      simpa using this
    · simp only [he, decide_false]
      rcases List.mem_cons.1 h with h | h
      · exact absurd (by rw [← h]) he
      · exact ih h fun v' hv => hu v' (by simp [hv])
/-- the terms of blocks, from the last one on -/
def decs : List (Int × List Ins) → List (Int × Tm)
  | [] => []
  | (s, b) :: r => decs r ++ [(s, (runB (look (decs r)) b []).headD (.mk 0 0 zTy []))]
/-- what Term returns -/
def termOf (bs : List (List Ins)) : Tm := look (decs ((0 :: (ends 0 bs).dropLast).zip bs)) 0
def splitC : List Ins → List (List Ins)
  | [] => []
  | x :: r => if x.1 = 14 then [] :: splitC r else match splitC r with
    | [] => [[x]]
    | b :: bs => (x :: b) :: bs
theorem split_block (b c : List Ins) (h : ∀ x ∈ b, ¬ x.1 = 14) : splitC (b ++ (14, 0) :: c) = b :: splitC c := by
  induction b with
  | nil => simp [splitC]
  | cons x r ih =>
    have hx := h x (by simp)
    rw [List.cons_append, splitC, if_neg hx, ih fun y hy => h y (by simp [hy])]
theorem split_lay (bs : List (List Ins)) (h : ∀ d ∈ bs, ∀ x ∈ d, ¬ x.1 = 14) : splitC (lay bs) = bs := by
  induction bs with
  | nil => rfl
  | cons b r ih =>
    rw [lay_cons, List.append_assoc, List.cons_append, List.nil_append, split_block b _ (h b (by simp)), ih fun d hd => h d (by simp [hd])]
def termC (c : List Ins) : Tm × Int := if (startsN c).2 = true then (termOf (splitC c), 0) else (.mk 0 0 zTy [], 43)

/-! the program of a term is valid, and leads back -/
theorem ends_get (n : Nat) (bs : List (List Ins)) (k : Nat) (h : k < bs.length) : (ends n bs)[k]? = some ((n + startAt bs (k + 1) : Nat) : Int) := by
  induction bs generalizing n k with
  | nil => simp at h
  | cons b r ih =>
    cases k with
    | zero => simp [ends, startAt, lay]; omega
    | succ k =>
      rw [ends, List.getElem?_cons_succ, ih _ _ (by simpa using h)]
      simp only [startAt, List.take_succ_cons, lay_cons, List.length_append, List.length_singleton]
      congr 2
      omega
/-- the starts of the blocks -/
theorem starts_eq (bs : List (List Ins)) (h : bs ≠ []) : (0 :: (ends 0 bs).dropLast) = (List.range bs.length).map fun k => ((startAt bs k : Nat) : Int) := by
  have hp : 0 < bs.length := List.length_pos_iff.2 h
  apply List.ext_getElem?
  intro i
  cases i with
  | zero =>
    rw [List.getElem?_cons_zero, List.getElem?_map, List.getElem?_range hp]
    simp [startAt, lay]
  | succ i =>
    rw [List.getElem?_cons_succ]
    by_cases hi : i + 1 < bs.length
    · rw [List.getElem?_map, List.getElem?_range hi, List.getElem?_dropLast, if_pos (by rw [ends_length]; omega), ends_get 0 bs i (by omega)]
      simp
    · rw [List.getElem?_eq_none (by simp [ends_length]; omega), List.getElem?_eq_none (by simp; omega)]
theorem funA_fill (p : Nat → Int) (j : Nat) (c : List Ins) : funA (fillF p j c) = (List.range' j (funs c)).map p := by
  induction c generalizing j with
  | nil => simp [fillF, funA, funs]
  | cons x r ih =>
    obtain ⟨o, a⟩ := x
    simp only [fillF, funs_cons]
    by_cases ho : o = 2
    · rw [if_pos ho, if_pos ho, funA, if_pos rfl, ih, show 1 + funs r = funs r + 1 from by omega, List.range'_succ, List.map_cons]
    · rw [if_neg ho, if_neg ho, funA, if_neg ho, ih, Nat.zero_add]
/-- blocks with the numbers put in -/
def fillB (p : Nat → Int) : Nat → List (List Ins) → List (List Ins)
  | _, [] => []
  | j, b :: r => fillF p j b :: fillB p (j + funs b) r
theorem lay_fill (p : Nat → Int) (j : Nat) (bs : List (List Ins)) : fillF p j (lay bs) = lay (fillB p j bs) := by
  induction bs generalizing j with
  | nil => rfl
  | cons b r ih =>
    rw [lay_cons, fillF_append, fillF_append, fillB, lay_cons, ih, funs_append]
    simp [fillF, funs]
theorem fillB_length (p : Nat → Int) (j : Nat) (bs : List (List Ins)) : (fillB p j bs).length = bs.length := by
  induction bs generalizing j with
  | nil => rfl
  | cons b r ih => simp [fillB, ih]
theorem startAt_fill (p : Nat → Int) (j : Nat) (bs : List (List Ins)) (k : Nat) : startAt (fillB p j bs) k = startAt bs k := by
  unfold startAt
  have : ∀ (bs : List (List Ins)) (j k : Nat), (lay ((fillB p j bs).take k)).length = (lay (bs.take k)).length := by
    intro bs
    induction bs with
    | nil => intro j k; rfl
    | cons b r ih =>
      intro j k
      cases k with
      | zero => rfl
      | succ k =>
        rw [fillB, List.take_succ_cons, List.take_succ_cons, lay_cons, lay_cons]
        simp only [List.length_append, fillF_length, ih]
  exact this bs j k
theorem hts_append (c d : List Ins) (h : Int) : hts (c ++ d) h = (hts c h).bind (hts d) := by
  induction c generalizing h with
  | nil => rfl
  | cons x r ih =>
    simp only [List.cons_append, hts]
    split
    · exact ih _
    · rfl
theorem hts_fill (p : Nat → Int) (j : Nat) (c : List Ins) (h : Int) : hts (fillF p j c) h = hts c h := by
  induction c generalizing j h with
  | nil => rfl
  | cons x r ih =>
    obtain ⟨o, a⟩ := x
    simp only [fillF]
    split
    · rename_i ho
      simp only [hts, ho, ih]
    · simp only [hts, ih]
theorem hts_skel (t : Tm) (hs : t.shape = true) (h : Int) (h0 : 0 ≤ h) : hts t.skel h = some (h + 1) := by
  induction t using Tm.ind generalizing h with
  | h t ih =>
    have hs0 := hs
    rw [Tm.shape_eq, Bool.and_eq_true] at hs
    have hss := (Tm.shapes_iff _).1 hs.2
    rw [Tm.skel_eq]
    by_cases hk : t.kind = 2
    · rw [if_pos hk]
      simp [hts, takesI, h0]
    · rw [if_neg hk, hts_append]
      have hl : ∀ l : List Tm, (∀ a ∈ l, ∀ h : Int, 0 ≤ h → hts a.skel h = some (h + 1)) → ∀ h : Int, 0 ≤ h → hts (Tm.skel.skels l) h = some (h + l.length) := by
        intro l
        induction l with
        | nil => intro _ h _; simp [Tm.skel.skels, hts]
        | cons a r ihr =>
          intro h1 h hh
          rw [Tm.skel.skels, hts_append, h1 a (by simp) h hh, Option.bind_some, ihr (fun b hb => h1 b (by simp [hb])) _ (by omega)]
          simp only [List.length_cons]
          congr 1
          push_cast
          omega
      rw [hl t.args (fun a ha h hh => ih a ha (hss a ha) h hh) h h0, Option.bind_some]
      have := tm_takes hs0 hk
      simp only [hts]
      rw [this, if_pos (by omega)]
      congr 1
      omega
theorem skel_ok (t : Tm) (hs : t.shape = true) : ∀ x ∈ t.skel, 1 ≤ x.1 ∧ x.1 ≤ 13 ∧ (if x.1 = 1 then 0 ≤ x.2 else x.2 = 0) := by
  induction t using Tm.ind with
  | h t ih =>
    have hs0 := hs
    rw [Tm.shape_eq, Bool.and_eq_true] at hs
    have hss := (Tm.shapes_iff _).1 hs.2
    have h1 := hs.1
    simp only [tmKind, Bool.and_eq_true, decide_eq_true_eq] at h1
    have hi := h1.1.1.2
    have hk : 1 ≤ t.kind ∧ t.kind ≤ 13 := by
      have h2 := h1.1.1.1
      unfold arityI at h2
      repeat' split at h2
      all_goals omega
    have hz := fun h => tm_index hs0 h
    rw [Tm.skel_eq]
    by_cases h2 : t.kind = 2
    · rw [if_pos h2]
      intro x hx
      obtain rfl := List.mem_singleton.1 hx
      refine ⟨(by decide : (1 : Int) ≤ 2), (by decide : (2 : Int) ≤ 13), ?_⟩
      rw [if_neg (by decide : ¬ (2 : Int) = 1)]
      exact hz (by omega)
    · rw [if_neg h2]
      intro x hx
      rcases List.mem_append.1 hx with hx | hx
      · have hl : ∀ l : List Tm, (∀ a ∈ l, ∀ x ∈ a.skel, 1 ≤ x.1 ∧ x.1 ≤ 13 ∧ (if x.1 = 1 then 0 ≤ x.2 else x.2 = 0)) → ∀ x ∈ Tm.skel.skels l, 1 ≤ x.1 ∧ x.1 ≤ 13 ∧ (if x.1 = 1 then 0 ≤ x.2 else x.2 = 0) := by
          intro l
          induction l with
          | nil => intro _ x hx; cases hx
          | cons a r ihr =>
            intro h x hx
            rcases List.mem_append.1 hx with hx | hx
            · exact h a (by simp) x hx
            · exact ihr (fun b hb => h b (by simp [hb])) x hx
        exact hl t.args (fun a ha => ih a ha (hss a ha)) x hx
      · obtain rfl := List.mem_singleton.1 hx
        refine ⟨hk.1, hk.2, ?_⟩
        by_cases h3 : t.kind = 1
        · rw [if_pos h3]; exact hi
        · rw [if_neg h3]; exact hz h3
end Go.Proofs.YtmdjiajbnifjpaaDoor.Lift

/-
  The program of a term is valid, leads back to the term without types, and tells it.
-/
namespace Go.Proofs.YtmdjiajbnifjpaaDoor.Lift
set_option linter.unusedSimpArgs false
set_option linter.unusedVariables false
set_option linter.unnecessarySimpa false
open Go

theorem bfs_take : ∀ (i : Nat) (q : List Tm), i ≤ (Tm.bfs q).length → ∃ r, (Tm.bfs q).take i ++ r = q ++ ((Tm.bfs q).take i).flatMap Tm.subs ∧ Tm.bfs q = (Tm.bfs q).take i ++ Tm.bfs r
  | 0, q, _ => ⟨q, by simp, by simp⟩
  | i + 1, [], h => by rw [Tm.bfs_nil] at h; simp at h
  | i + 1, t :: q, h => by
    rw [Tm.bfs_cons] at h ⊢
    obtain ⟨r, h1, h2⟩ := bfs_take i (q ++ t.subs) (by simpa using h)
    refine ⟨r, ?_, ?_⟩
    · rw [List.take_succ_cons, List.cons_append, h1, List.flatMap_cons]
      simp
    · rw [List.take_succ_cons, List.cons_append, ← h2]
/-- how many functions stand before a block -/
def funsB (bs : List (List Ins)) (i : Nat) : Nat := funs (lay (bs.take i))
theorem funs_lay_skel (l : List Tm) (h : ∀ t ∈ l, t.shape = true) : funs (lay (l.map Tm.skel)) = (l.flatMap Tm.subs).length := by
  induction l with
  | nil => rfl
  | cons t r ih =>
    rw [List.map_cons, lay_cons, funs_append, funs_append, List.flatMap_cons, List.length_append, ih fun x hx => h x (by simp [hx]), funs_skel t (h t (by simp))]
    simp [funs]
theorem blocks_funs (t : Tm) (h : t.shape = true) : funs (lay t.blocks) + 1 = t.blocks.length := by
  unfold Tm.blocks
  rw [funs_lay_skel _ (bfs_shape _ (by simpa using h)), List.length_map]
  have := congrArg List.length (Tm.bfs_eq [t])
  rw [List.length_append, List.length_singleton] at this
  omega
theorem blocks_before (t : Tm) (h : t.shape = true) (i : Nat) (hi : i < t.blocks.length) : i ≤ funsB t.blocks i := by
  unfold funsB
  unfold Tm.blocks at hi ⊢
  rw [List.length_map] at hi
  have hsh := bfs_shape [t] (by simpa using h)
  rw [← List.map_take, funs_lay_skel _ fun x hx => hsh x (List.mem_of_mem_take hx)]
  obtain ⟨r, h1, h2⟩ := bfs_take i [t] (by omega)
  have hr : r ≠ [] := by
    rintro rfl
    rw [Tm.bfs_nil, List.append_nil] at h2
    have := congrArg List.length h2
    rw [List.length_take] at this
    omega
  have h3 := congrArg List.length h1
  have h4 : 0 < r.length := List.length_pos_iff.2 hr
  simp only [List.length_append, List.length_take, List.length_singleton] at h3
  omega

theorem startAt_mono (bs : List (List Ins)) {i k : Nat} (h : i ≤ k) : startAt bs i ≤ startAt bs k := by
  unfold startAt
  obtain ⟨d, rfl⟩ := Nat.exists_eq_add_of_le h
  rw [List.take_add, lay_append, List.length_append]
  exact Nat.le_add_right _ _
theorem startAt_succ (bs : List (List Ins)) {i : Nat} {b : List Ins} (h : bs[i]? = some b) : startAt bs (i + 1) = startAt bs i + b.length + 1 := by
  unfold startAt
  rw [List.take_add_one, h, lay_append, List.length_append, Option.toList_some, lay_one, List.length_append, List.length_singleton]
  omega
theorem startAt_lt (bs : List (List Ins)) {i k : Nat} (h : i < k) (hk : k ≤ bs.length) : startAt bs i < startAt bs k := by
  obtain ⟨b, hb⟩ : ∃ b, bs[i]? = some b := ⟨_, List.getElem?_eq_getElem (by omega)⟩
  have h1 := startAt_succ bs hb
  have h2 := startAt_mono bs (show i + 1 ≤ k from h)
  omega
theorem startAt_inj (bs : List (List Ins)) {i k : Nat} (hi : i ≤ bs.length) (hk : k ≤ bs.length) (h : startAt bs i = startAt bs k) : i = k := by
  rcases Nat.lt_trichotomy i k with h1 | h1 | h1
  · have := startAt_lt bs h1 hk; omega
  · exact h1
  · have := startAt_lt bs h1 hi; omega

def insOK (x : Ins) : Prop := 1 ≤ x.1 ∧ x.1 ≤ 13 ∧ (if x.1 = 1 then 0 ≤ x.2 else x.2 = 0)
theorem okCd_fill (p : Nat → Int) : ∀ (c : List Ins) (n j : Nat), (∀ x ∈ c, x.1 = 14 ∨ insOK x) → (∀ m, m < funs c → ((n + c.length : Nat) : Int) ≤ p (j + m)) → okCd n (fillF p j c)
  | [], _, _, _, _ => trivial
  | (o, a) :: r, n, j, h1, h2 => by
    simp only [funs_cons, List.length_cons] at h2
    simp only [fillF]
    by_cases ho : o = 2
    · rw [if_pos ho]
      rw [if_pos ho] at h2
      refine ⟨fun _ => ?_, okCd_fill p r (n + 1) (j + 1) (fun x hx => h1 x (by simp [hx])) fun m hm => ?_⟩
      · have := h2 0 (by omega)
        simp only [Nat.add_zero] at this
        simp only [okI, if_true, Bool.and_eq_true, decide_eq_true_eq]
        refine ⟨⟨by decide, by decide⟩, by omega⟩
      · have := h2 (m + 1) (by omega)
        rw [show j + (m + 1) = j + 1 + m from by omega] at this
        omega
    · rw [if_neg ho]
      rw [if_neg ho] at h2
      refine ⟨fun h14 => ?_, okCd_fill p r (n + 1) j (fun x hx => h1 x (by simp [hx])) fun m hm => ?_⟩
      · rcases h1 (o, a) (by simp) with h | ⟨k1, k2, k3⟩
        · exact absurd h h14
        · simp only at k1 k2 k3
          simp only [okI, if_neg ho, Bool.and_eq_true, decide_eq_true_eq]
          refine ⟨⟨k1, k2⟩, ?_⟩
          by_cases h : o = 1
          · rw [if_pos h] at k3 ⊢; exact decide_eq_true k3
          · rw [if_neg h] at k3 ⊢; exact decide_eq_true k3
      · have := h2 m (by omega)
        omega
theorem okCd_lay (p : Nat → Int) : ∀ (bs : List (List Ins)) (n j : Nat), (∀ d ∈ bs, ∀ x ∈ d, insOK x) → (∀ i m (d : List Ins), bs[i]? = some d → m < funs d → ((n + startAt bs (i + 1) : Nat) : Int) ≤ p (j + funsB bs i + m)) → okCd n (fillF p j (lay bs))
  | [], _, _, _, _ => trivial
  | b :: r, n, j, h1, h2 => by
    rw [lay_cons, fillF_append, okCd_append, fillF_length]
    have hfb : funs (b ++ [(14, 0)]) = funs b := by rw [funs_append]; simp [funs]
    constructor
    · refine okCd_fill p _ n j (fun x hx => ?_) fun m hm => ?_
      · rcases List.mem_append.1 hx with hx | hx
        · exact .inr (h1 b (by simp) x hx)
        · obtain rfl := List.mem_singleton.1 hx; exact .inl rfl
      · rw [hfb] at hm
        have := h2 0 m b rfl hm
        simp only [startAt, funsB, List.take_zero, lay_nil, funs_nil, List.take_succ_cons, lay_one] at this
        simpa using this
    · refine okCd_lay p r _ _ (fun d hd => h1 d (by simp [hd])) fun i m d hd hm => ?_
      have := h2 (i + 1) m d (by rw [List.getElem?_cons_succ]; exact hd) hm
      simp only [startAt, funsB, List.take_succ_cons, lay_cons, List.length_append, funs_append] at this ⊢
      have e1 : funs [(14, 0)] = 0 := by simp [funs]
      rw [e1] at this ⊢
      simp only [Nat.add_zero] at this ⊢
      have e2 : j + (funs b + funs (lay (List.take i r))) + m = j + funs b + funs (lay (List.take i r)) + m := by omega
      rw [e2] at this
      omega
theorem fillB_get (p : Nat → Int) : ∀ (bs : List (List Ins)) (j i : Nat) (b : List Ins), bs[i]? = some b → (fillB p j bs)[i]? = some (fillF p (j + funsB bs i) b)
  | [], _, _, _, h => by simp at h
  | d :: r, j, 0, b, h => by
    simp at h; subst h
    simp [fillB, funsB, lay, funs]
  | d :: r, j, i + 1, b, h => by
    rw [List.getElem?_cons_succ] at h
    rw [fillB, List.getElem?_cons_succ, fillB_get p r _ i b h]
    simp only [funsB, List.take_succ_cons, lay_cons, funs_append]
    congr 2
    have e1 : funs [(14, 0)] = 0 := by simp [funs]
    rw [e1]
    omega

/-- the numbers of a term's functions -/
def Tm.at (t : Tm) (j : Nat) : Int := ((startAt t.blocks (j + 1) : Nat) : Int)
/-- the blocks of a term's program -/
def Tm.code (t : Tm) : List (List Ins) := fillB t.at 0 t.blocks
theorem code_lay (t : Tm) : t.codeN = lay t.code := lay_fill _ _ _
theorem blocks_ne (t : Tm) : t.blocks ≠ [] := by unfold Tm.blocks; rw [Tm.bfs_cons]; simp
theorem blocks_get {t : Tm} (h : t.shape = true) {i : Nat} {b : List Ins} (hb : t.blocks[i]? = some b) : ∃ s : Tm, (Tm.bfs [t])[i]? = some s ∧ s.shape = true ∧ b = s.skel := by
  unfold Tm.blocks at hb
  rw [List.getElem?_map] at hb
  obtain ⟨s, hs, rfl⟩ := Option.map_eq_some_iff.1 hb
  exact ⟨s, hs, bfs_shape [t] (by simpa using h) s (List.mem_of_getElem? hs), rfl⟩
theorem code_get {t : Tm} {i : Nat} {d : List Ins} (hd : t.code[i]? = some d) : ∃ b, t.blocks[i]? = some b ∧ d = fillF t.at (funsB t.blocks i) b := by
  have hi : i < t.blocks.length := by have := (List.getElem?_eq_some_iff.1 hd).1; rwa [Tm.code, fillB_length] at this
  refine ⟨_, List.getElem?_eq_getElem hi, ?_⟩
  have := fillB_get t.at t.blocks 0 i _ (List.getElem?_eq_getElem hi)
  rw [Tm.code] at hd
  rw [hd, Nat.zero_add] at this
  exact Option.some.inj this
theorem fill_no14 (p : Nat → Int) (j : Nat) (c : List Ins) (h : ∀ x ∈ c, ¬ x.1 = 14) : ∀ x ∈ fillF p j c, ¬ x.1 = 14 := by
  induction c generalizing j with
  | nil => intro x hx; cases hx
  | cons y r ih =>
    obtain ⟨o, a⟩ := y
    intro x hx
    simp only [fillF] at hx
    have h0 := h (o, a) (by simp)
    split at hx
    · rcases List.mem_cons.1 hx with rfl | hx
      · show ¬ ((2 : Int) = 14)
        decide
      · exact ih _ (fun y hy => h y (by simp [hy])) x hx
    · rcases List.mem_cons.1 hx with rfl | hx
      · exact h0
      · exact ih _ (fun y hy => h y (by simp [hy])) x hx
theorem code_prg (t : Tm) (h : t.shape = true) (hl : t.codeN.length ≤ 4096) : Prg t.code := by
  have hne := blocks_ne t
  refine ⟨?_, by rw [← code_lay]; exact hl, ?_, ?_, ?_, ?_⟩
  · intro he
    have := congrArg List.length he
    rw [Tm.code, fillB_length] at this
    exact hne (List.length_eq_zero_iff.1 this)
  · intro d hd
    obtain ⟨i, hi⟩ := List.mem_iff_getElem?.1 hd
    obtain ⟨b, hb, rfl⟩ := code_get hi
    obtain ⟨s, -, hs, rfl⟩ := blocks_get h hb
    rw [hts_fill]
    exact hts_skel s hs 0 (by omega)
  · rw [← code_lay]
    refine okCd_lay _ _ 0 0 (fun d hd x hx => ?_) fun i m d hd hm => ?_
    · obtain ⟨i, hi⟩ := List.mem_iff_getElem?.1 hd
      obtain ⟨s, -, hs, rfl⟩ := blocks_get h hi
      exact skel_ok s hs x hx
    · have h1 := blocks_before t h i (List.getElem?_eq_some_iff.1 hd).1
      have h2 := startAt_mono t.blocks (show i + 1 ≤ 0 + funsB t.blocks i + m + 1 from by omega)
      omega
  · intro d hd x hx
    obtain ⟨i, hi⟩ := List.mem_iff_getElem?.1 hd
    obtain ⟨b, hb, rfl⟩ := code_get hi
    obtain ⟨s, -, hs, rfl⟩ := blocks_get h hb
    exact fill_no14 _ _ _ (fun y hy => by have := (skel_ok s hs y hy).2.1; omega) x hx
  · rw [← code_lay, Tm.codeN, prog, funA_fill]
    have hf := blocks_funs t h
    apply List.ext_getElem?
    intro k
    rw [List.getElem?_dropLast, ends_length, Tm.code, fillB_length]
    by_cases hk : k < funs (lay t.blocks)
    · rw [if_pos (by omega), List.getElem?_map, ends_get 0 _ k (by rw [fillB_length]; omega), startAt_fill, Nat.zero_add]
      simp [List.getElem?_range', hk]
    · rw [if_neg (by omega), List.getElem?_eq_none (by simp; omega)]

theorem bfs_sub (t : Tm) (h : t.shape = true) {i m : Nat} {s x : Tm} (hs : (Tm.bfs [t])[i]? = some s) (hm : s.subs[m]? = some x) : (Tm.bfs [t])[funsB t.blocks i + m + 1]? = some x := by
  have hsh := bfs_shape [t] (by simpa using h)
  have hi := (List.getElem?_eq_some_iff.1 hs).1
  have e : Tm.bfs [t] = (Tm.bfs [t]).take i ++ (s :: (Tm.bfs [t]).drop (i + 1)) := by
    have h1 : (Tm.bfs [t]).drop i = s :: (Tm.bfs [t]).drop (i + 1) := by
      rw [List.drop_eq_getElem_cons hi]
      congr 1
      rw [List.getElem?_eq_getElem hi] at hs
      exact Option.some.inj hs
    rw [← h1, List.take_append_drop]
  have hf : funsB t.blocks i = (((Tm.bfs [t]).take i).flatMap Tm.subs).length := by
    unfold funsB Tm.blocks
    rw [← List.map_take, funs_lay_skel _ fun x hx => hsh x (List.mem_of_mem_take hx)]
  rw [Tm.bfs_eq, hf, List.singleton_append, List.getElem?_cons_succ]
  have e2 : (Tm.bfs [t]).flatMap Tm.subs = ((Tm.bfs [t]).take i).flatMap Tm.subs ++ (s.subs ++ ((Tm.bfs [t]).drop (i + 1)).flatMap Tm.subs) := by
    conv => lhs; rw [e]
    rw [List.flatMap_append, List.flatMap_cons]
  rw [e2, List.getElem?_append_right (by omega), Nat.add_sub_cancel_left, List.getElem?_append_left (List.getElem?_eq_some_iff.1 hm).1, hm]

theorem decs_code (t : Tm) (h : t.shape = true) : ∀ (d i : Nat), i + d = t.blocks.length → ∀ e : Int × Tm, e ∈ decs (((0 :: (ends 0 t.code).dropLast).zip t.code).drop i) ↔ ∃ k s, i ≤ k ∧ (Tm.bfs [t])[k]? = some s ∧ e = (((startAt t.blocks k : Nat) : Int), s.untyped)
  | 0, i, hi, e => by
    have hz : ((0 :: (ends 0 t.code).dropLast).zip t.code).drop i = [] := List.drop_eq_nil_of_le (by
      rw [List.length_zip, Tm.code, fillB_length]; omega)
    rw [hz]
    refine ⟨fun hm => (by simp [decs] at hm), ?_⟩
    rintro ⟨k, s, h1, h2, -⟩
    have := (List.getElem?_eq_some_iff.1 h2).1
    have h3 : t.blocks.length = (Tm.bfs [t]).length := by unfold Tm.blocks; rw [List.length_map]
    omega
  | d + 1, i, hi, e => by
    have ih := decs_code t h d (i + 1) (by omega)
    have h3 : t.blocks.length = (Tm.bfs [t]).length := by unfold Tm.blocks; rw [List.length_map]
    have hlen : t.code.length = t.blocks.length := by rw [Tm.code, fillB_length]
    have hcne : t.code ≠ [] := by intro he; rw [he] at hlen; simp at hlen; omega
    have hib : i < t.blocks.length := by omega
    obtain ⟨s, hs, hsh, hbs⟩ := blocks_get h (List.getElem?_eq_getElem hib)
    have hci : t.code[i]? = some (fillF t.at (funsB t.blocks i) s.skel) := by
      have := fillB_get t.at t.blocks 0 i _ (List.getElem?_eq_getElem hib)
      rw [Nat.zero_add, hbs] at this
      exact this
    have hsi : (0 :: (ends 0 t.code).dropLast)[i]? = some ((startAt t.blocks i : Nat) : Int) := by
      rw [starts_eq _ hcne, List.getElem?_map, List.getElem?_range (by omega), Option.map_some, Tm.code, startAt_fill]
    have hz : ((0 :: (ends 0 t.code).dropLast).zip t.code)[i]? = some (((startAt t.blocks i : Nat) : Int), fillF t.at (funsB t.blocks i) s.skel) := by
      rw [List.getElem?_zip_eq_some]; exact ⟨hsi, hci⟩
    have hdr : ((0 :: (ends 0 t.code).dropLast).zip t.code).drop i = (((startAt t.blocks i : Nat) : Int), fillF t.at (funsB t.blocks i) s.skel) :: ((0 :: (ends 0 t.code).dropLast).zip t.code).drop (i + 1) := by
      have hlt := (List.getElem?_eq_some_iff.1 hz).1
      rw [List.drop_eq_getElem_cons hlt]
      congr 1
      rw [List.getElem?_eq_getElem hlt] at hz
      exact Option.some.inj hz
    have hrun : runB (look (decs (((0 :: (ends 0 t.code).dropLast).zip t.code).drop (i + 1)))) (fillF t.at (funsB t.blocks i) s.skel) [] = [s.untyped] := by
      have := run_skel (look (decs (((0 :: (ends 0 t.code).dropLast).zip t.code).drop (i + 1)))) t.at s hsh (funsB t.blocks i) (fun m x hm => ?_) []
      · simpa using this
      · have hx := bfs_sub t h hs hm
        have hkb := (List.getElem?_eq_some_iff.1 hx).1
        have hle := blocks_before t h i hib
        refine look_of ((ih _).2 ⟨funsB t.blocks i + m + 1, x, by omega, hx, rfl⟩) fun v' hv => ?_
        obtain ⟨k', s', q1, q2, q3⟩ := (ih _).1 hv
        simp only [Prod.mk.injEq, Tm.at] at q3
        have hk' := (List.getElem?_eq_some_iff.1 q2).1
        have := startAt_inj t.blocks (i := funsB t.blocks i + m + 1) (k := k') (by omega) (by omega) (by omega)
        rw [← this, hx] at q2
        rw [q3.2, ← Option.some.inj q2]
    rw [hdr, decs, hrun, List.mem_append, ih, List.mem_singleton, List.headD_cons]
    constructor
    · rintro (⟨k, x, h1, h2, h3⟩ | rfl)
      · exact ⟨k, x, by omega, h2, h3⟩
      · exact ⟨i, s, Nat.le_refl _, hs, rfl⟩
    · rintro ⟨k, x, h1, h2, h3⟩
      by_cases hk : k = i
      · subst hk
        rw [hs] at h2
        obtain rfl := Option.some.inj h2
        exact .inr h3
      · exact .inl ⟨k, x, by omega, h2, h3⟩
/-- A PROGRAM LEADS BACK TO ITS TERM, WITHOUT TYPES -/
theorem code_back (t : Tm) (h : t.shape = true) : termOf t.code = t.untyped := by
  have hd := decs_code t h t.blocks.length 0 (by omega)
  simp only [List.drop_zero] at hd
  have h0 : (Tm.bfs [t])[0]? = some t := by rw [Tm.bfs_cons]; rfl
  refine look_of ((hd _).2 ⟨0, t, Nat.le_refl _, h0, by simp [startAt, lay]⟩) fun v' hv => ?_
  obtain ⟨k, s, h1, h2, h3⟩ := (hd _).1 hv
  simp only [Prod.mk.injEq] at h3
  have hk := (List.getElem?_eq_some_iff.1 h2).1
  have h4 : t.blocks.length = (Tm.bfs [t]).length := by unfold Tm.blocks; rw [List.length_map]
  have := startAt_inj t.blocks (i := k) (k := 0) (by omega) (by omega) (by simp [startAt, lay] at h3 ⊢; omega)
  rw [this, h0] at h2
  rw [h3.2, ← Option.some.inj h2]

/-! types play no part -/
end Go.Proofs.YtmdjiajbnifjpaaDoor.Lift

namespace Go.Proofs.YtmdjiajbnifjpaaDoor.Lift
set_option linter.unusedSimpArgs false
set_option linter.unusedVariables false
set_option linter.unnecessarySimpa false
open Go
variable {gl : Globs}

theorem ref02_args_ok (k : Int) : Con1 Tryd.prog gl 78 [dint k] [] (dint (arityI k)) [] := by
  refine t_in Tryd.func78 ?_
  intro X hP hgl hf hfn hn hR hids hfit
  by_cases hs0 : k = 1
  · refine t_g @hs0 ?_
    refine t_r ?_
    simp [go_sem, hP, hgl, hn, arityI, hs0] <;> (try omega)
  by_cases hs1 : k = 4
  · refine t_g @hs1 ?_
    refine t_r ?_
    simp [go_sem, hP, hgl, hn, arityI, hs1] <;> (try omega)
  by_cases hs2 : k = 7
  · refine t_g @hs2 ?_
    refine t_r ?_
    simp [go_sem, hP, hgl, hn, arityI, hs2] <;> (try omega)
  by_cases hs3 : k = 13
  · refine t_g @hs3 ?_
    refine t_r ?_
    simp [go_sem, hP, hgl, hn, arityI, hs3] <;> (try omega)
  by_cases hs4 : k = 2
  · refine t_g @hs4 ?_
    refine t_r ?_
    simp [go_sem, hP, hgl, hn, arityI, hs4] <;> (try omega)
  by_cases hs5 : k = 5
  · refine t_g @hs5 ?_
    refine t_r ?_
    simp [go_sem, hP, hgl, hn, arityI, hs5] <;> (try omega)
  by_cases hs6 : k = 11
  · refine t_g @hs6 ?_
    refine t_r ?_
    simp [go_sem, hP, hgl, hn, arityI, hs6] <;> (try omega)
  by_cases hs7 : k = 12
  · refine t_g @hs7 ?_
    refine t_r ?_
    simp [go_sem, hP, hgl, hn, arityI, hs7] <;> (try omega)
  by_cases hs8 : k = 3
  · refine t_g @hs8 ?_
    refine t_r ?_
    simp [go_sem, hP, hgl, hn, arityI, hs8] <;> (try omega)
  by_cases hs9 : k = 8
  · refine t_g @hs9 ?_
    refine t_r ?_
    simp [go_sem, hP, hgl, hn, arityI, hs9] <;> (try omega)
  by_cases hs10 : k = 10
  · refine t_g @hs10 ?_
    refine t_r ?_
    simp [go_sem, hP, hgl, hn, arityI, hs10] <;> (try omega)
  by_cases hs11 : k = 6
  · refine t_g @hs11 ?_
    refine t_r ?_
    simp [go_sem, hP, hgl, hn, arityI, hs11] <;> (try omega)
  by_cases hs12 : k = 9
  · refine t_g @hs12 ?_
    refine t_r ?_
    simp [go_sem, hP, hgl, hn, arityI, hs12] <;> (try omega)
  refine t_g (j2 @hs0 (j2 @hs1 (j2 @hs2 (j2 @hs3 (j2 @hs4 (j2 @hs5 (j2 @hs6 (j2 @hs7 (j2 @hs8 (j2 @hs9 (j2 @hs10 (j2 @hs11 @hs12)))))))))))) ?_
  refine t_r ?_
  simp [go_sem, hP, hgl, hn, arityI, hs0, hs1, hs2, hs3, hs4, hs5, hs6, hs7, hs8, hs9, hs10, hs11, hs12] <;> (try omega)

def okNode (t : Tm) : Bool := decide ((t.args.length : Int) = arityI t.kind) && decide (0 ≤ t.index) && (decide (t.kind = 1) || decide (t.index = 0))

theorem ref02_shape_ok (t : Tm) (ht : t.tys) : Con1 Tryd.prog gl 69 [t.dv] [] (dbool t.shape) [] := by
  induction t using Tm.ind with
  | h t ih =>
  obtain ⟨ht1, ht2⟩ := (Tm.tys_eq t).1 ht
  refine t_in Tryd.func69 ?_
  intro X hP hgl hf hfn hn hR hids hfit
  have hlen := Tm.fit_len (hfit t.dv (by simp))
  have hs := Tm.shape_eq t
  refine t_rg0 ?_
  repeat (first | refine W_seq ?_ | refine W_skip ?_ | refine W_inBlock ?_ | refine W_label ?_)
  refine W_cut [(.slot 26, .one (.v (dbool (!okNode t)))), (.loc 1, .row ([.v (dint t.kind), .v (dint t.index), .v (dint t.type.kind), .v (.sl (t.type.args.map Ty.cells)), .v (.sl (t.args.map Tm.cells))])), (.slot 1, .one (.loc 1 0))] ?_ ?_
  · intro hrest
    by_cases hA : (t.args.length : Int) = arityI t.kind
    · by_cases hB : t.index < 0
      · refine t_c1 (j2 @hA @hB) (ref02_args_ok t.kind) ?_
        repeat (first | refine W_inBlock ?_ | refine W_skip ?_ | refine W_label ?_ | refine W_exit rfl ?_)
        refine W_sub [] (by simp [go_sem]) (by simp [go_sem, okNode, hA, hB] <;> omega) (by simp [go_sem]) hrest
      · by_cases hC : t.kind = 1
        · refine t_c1 (j2 @hA (j2 @hB @hC)) (ref02_args_ok t.kind) ?_
          repeat (first | refine W_inBlock ?_ | refine W_skip ?_ | refine W_label ?_ | refine W_exit rfl ?_)
          refine W_sub [] (by simp [go_sem]) (by simp [go_sem, okNode, hA, hB, hC] <;> omega) (by simp [go_sem]) hrest
        · by_cases hD : t.index = 0
          · refine t_c1 (j2 @hA (j2 @hB (j2 @hC @hD))) (ref02_args_ok t.kind) ?_
            repeat (first | refine W_inBlock ?_ | refine W_skip ?_ | refine W_label ?_ | refine W_exit rfl ?_)
            refine W_sub [] (by simp [go_sem]) (by simp [go_sem, okNode, hA, hB, hC, hD] <;> omega) (by simp [go_sem]) hrest
          · refine t_c1 (j2 @hA (j2 @hB (j2 @hC @hD))) (ref02_args_ok t.kind) ?_
            repeat (first | refine W_inBlock ?_ | refine W_skip ?_ | refine W_label ?_ | refine W_exit rfl ?_)
            refine W_sub [] (by simp [go_sem]) (by simp [go_sem, okNode, hA, hB, hC, hD] <;> omega) (by simp [go_sem]) hrest
    · refine t_c1 @hA (ref02_args_ok t.kind) ?_
      repeat (first | refine W_inBlock ?_ | refine W_skip ?_ | refine W_label ?_ | refine W_exit rfl ?_)
      refine W_sub [] (by simp [go_sem]) (by simp [go_sem, okNode, hA] <;> omega) (by simp [go_sem]) hrest
  · by_cases hok : okNode t = true
    · have hk : tmKind t.kind t.index t.type t.args.length = tyOfKind t.kind t.type := by
        simp only [okNode, Bool.and_eq_true, decide_eq_true_eq] at hok
        simp [tmKind, hok]
      refine t_n @hok ?_
      refine t_rg0 ?_
      repeat (first | refine W_seq ?_ | refine W_skip ?_ | refine W_inBlock ?_ | refine W_label ?_)
      refine W_cutP (tyOfKind t.kind t.type = true) [(.loc 1, .row ([.v (dint t.kind), .v (dint t.index), .v (dint t.type.kind), .v (.sl (t.type.args.map Ty.cells)), .v (.sl (t.args.map Tm.cells))])), (.slot 1, .one (.loc 1 0))] ?_ ?_
      · intro hrest
        by_cases k2 : t.kind = 2
        · refine t_g @k2 ?_
          refine t_c1 trivial (ref01_check_ok t.type (by omega)) ?_
          by_cases hc : t.type.checkN = 0
          · refine t_gt (wr []) @k2 (j2 @k2 @hc) (hrest (by simp [tyOfKind, k2, hc]))
          · have hz : tyOfKind t.kind t.type = false := by simp [tyOfKind, k2, hc]
            refine t_g @hc ?_
            refine t_r ?_
            simp [go_sem, hP, hgl, hn, hs, hk, hz] <;> (try omega)
        by_cases k6 : t.kind = 6
        · refine t_g @k6 ?_
          refine t_c1 trivial (ref01_check_ok t.type (by omega)) ?_
          by_cases hc : t.type.checkN = 0
          · refine t_gt (wr []) @k6 (j2 @k6 @hc) (hrest (by simp [tyOfKind, k6, hc]))
          · have hz : tyOfKind t.kind t.type = false := by simp [tyOfKind, k6, hc]
            refine t_g @hc ?_
            refine t_r ?_
            simp [go_sem, hP, hgl, hn, hs, hk, hz] <;> (try omega)
        by_cases k9 : t.kind = 9
        · refine t_g @k9 ?_
          refine t_c1 trivial (ref01_check_ok t.type (by omega)) ?_
          by_cases hc : t.type.checkN = 0
          · refine t_gt (wr []) @k9 (j2 @k9 @hc) (hrest (by simp [tyOfKind, k9, hc]))
          · have hz : tyOfKind t.kind t.type = false := by simp [tyOfKind, k9, hc]
            refine t_g @hc ?_
            refine t_r ?_
            simp [go_sem, hP, hgl, hn, hs, hk, hz] <;> (try omega)
        refine t_g (j2 @k2 (j2 @k6 @k9)) ?_
        refine t_c1 trivial (ref01_zero_ok t.type) ?_
        by_cases hc : t.type.zero = true
        · refine t_gt (wr []) trivial @hc (hrest (by simp [tyOfKind, k2, k6, k9, hc]))
        · have hz : tyOfKind t.kind t.type = false := by simp [tyOfKind, k2, k6, k9, hc]
          refine t_g @hc ?_
          refine t_r ?_
          simp [go_sem, hP, hgl, hn, hs, hk, hz] <;> (try omega)
      · intro hty
        refine t_g0 ?_
        refine t_a ?_
        refine W_sub [] (by simp [go_sem]) (by simp [go_sem, Tm.shape.shapes] <;> omega) (by simp [go_sem]) (W_listI (t.args) (fun done => Tm.shape.shapes done = true) (fun done rest => [(.slot 44, .one (.v (dint done.length))), (.slot 43, .one (.v (dint t.args.length))), (.slot 42, .one (.v (.sl (t.args.map Tm.cells))))]) (rfl) ?_ ?_)
        · intro done x rest hL hg hI hnext
          have hlt : done.length < t.args.length := by rw [hL]; simp
          refine t_rg0 ?_
          refine t_yes ?_
          refine t_rg @hg ?_
          refine t_c1 @hg (ih x (List.mem_of_getElem? hg) (ht2 x (List.mem_of_getElem? hg))) ?_
          by_cases hx : x.shape = true
          · refine t_gt (wr []) trivial @hx (hnext (by rw [Tm.shapes_append]; simp [hI, Tm.shape.shapes, hx]))
          · refine t_g @hx ?_
            have : t.shape = false := by rw [hs, hL, Tm.shapes_append]; simp [Tm.shape.shapes, hx]
            refine t_r ?_
            simp [go_sem, hP, hgl, hn, this] <;> (try omega)
        · intro hI
          refine t_rg0 ?_
          refine t_no ?_
          refine t_g0 ?_
          refine t_r ?_
          simp [go_sem, hP, hgl, hn, hs, hk, hty, hI] <;> (try omega)
    · have hk : tmKind t.kind t.index t.type t.args.length = false := by
        simp only [okNode, Bool.and_eq_true, decide_eq_true_eq] at hok
        simp only [tmKind]
        cases hh : (decide ((t.args.length : Int) = arityI t.kind) && decide (0 ≤ t.index) && (decide (t.kind = 1) || decide (t.index = 0))) with
        | true => exact absurd (by simpa using hh) hok
        | false => rfl
      refine t_g @hok ?_
      refine t_r ?_
      simp [go_sem, hP, hgl, hn, hs, hk] <;> (try omega)

theorem ref02_check_ok (t : Tm) (ht : t.tys) (hc : t.count ≤ 2147483648) : Con1 Tryd.prog gl 50 [t.dv] [] (dint t.checkN) [] := by
  refine t_in Tryd.func50 ?_
  intro X hP hgl hf hfn hn hR hids hfit
  refine t_g0 ?_
  refine t_c1 trivial (ref02_shape_ok t ht) ?_
  by_cases h : t.shape = true
  · refine t_g @h ?_
    refine t_c1 trivial (ref02_count_ok t hc) ?_
    by_cases h2 : 4096 < t.count
    · refine t_g @h2 ?_
      refine t_r ?_
      simp [go_sem, hP, hgl, hn, Tm.checkN, h, h2] <;> (try omega)
    · refine t_g @h2 ?_
      refine t_r ?_
      simp [go_sem, hP, hgl, hn, Tm.checkN, h, h2] <;> (try omega)
  · refine t_g @h ?_
    refine t_r ?_
    simp [go_sem, hP, hgl, hn, Tm.checkN, h] <;> (try omega)
end Go.Proofs.YtmdjiajbnifjpaaDoor.Lift

namespace Go.Proofs.YtmdjiajbnifjpaaDoor.Lift
set_option linter.unusedSimpArgs false
set_option linter.unusedVariables false
set_option linter.unnecessarySimpa false
open Go
variable {gl : Globs}

/-- the package's table of arities -/
def arEls : List (List DV) := ints [0, 0, 1, 2, 0, 1, 3, 0, 2, 3, 2, 1, 1, 0]
def known (k : Int) : Bool := decide (1 ≤ k) && decide (k ≤ 13)
theorem arityI_known (k : Int) : known k = decide (0 ≤ arityI k) := by
  unfold known arityI
  by_cases h : 1 ≤ k ∧ k ≤ 13
  · have : k = 1 ∨ k = 2 ∨ k = 3 ∨ k = 4 ∨ k = 5 ∨ k = 6 ∨ k = 7 ∨ k = 8 ∨ k = 9 ∨ k = 10 ∨ k = 11 ∨ k = 12 ∨ k = 13 := by omega
    rcases this with rfl | rfl | rfl | rfl | rfl | rfl | rfl | rfl | rfl | rfl | rfl | rfl | rfl <;> decide
  · rw [if_neg (by omega), if_neg (by omega), if_neg (by omega), if_neg (by omega)]
    simp; omega

theorem arity_ok (har : globOf gl 1 = some arEls) (k : Int) : Con1 Tryd.prog gl 81 [dint k] [] (.tup [dint (if known k = true then arityI k else 0), dbool (known k)]) [] := by
  refine t_in Tryd.func81 ?_
  intro X hP hgl hf hfn hn hR hids hfit
  have hk := har
  simp only [arEls, ints, List.map] at hk
  by_cases hs0 : k = 1
  · refine t_g (j2 @hs0 @hk) ?_
    refine t_r ?_
    simp [go_sem, hP, hgl, hn, known, arityI, hs0] <;> (try omega)
  by_cases hs1 : k = 2
  · refine t_g (j2 @hs1 @hk) ?_
    refine t_r ?_
    simp [go_sem, hP, hgl, hn, known, arityI, hs1] <;> (try omega)
  by_cases hs2 : k = 3
  · refine t_g (j2 @hs2 @hk) ?_
    refine t_r ?_
    simp [go_sem, hP, hgl, hn, known, arityI, hs2] <;> (try omega)
  by_cases hs3 : k = 4
  · refine t_g (j2 @hs3 @hk) ?_
    refine t_r ?_
    simp [go_sem, hP, hgl, hn, known, arityI, hs3] <;> (try omega)
  by_cases hs4 : k = 5
  · refine t_g (j2 @hs4 @hk) ?_
    refine t_r ?_
    simp [go_sem, hP, hgl, hn, known, arityI, hs4] <;> (try omega)
  by_cases hs5 : k = 6
  · refine t_g (j2 @hs5 @hk) ?_
    refine t_r ?_
    simp [go_sem, hP, hgl, hn, known, arityI, hs5] <;> (try omega)
  by_cases hs6 : k = 7
  · refine t_g (j2 @hs6 @hk) ?_
    refine t_r ?_
    simp [go_sem, hP, hgl, hn, known, arityI, hs6] <;> (try omega)
  by_cases hs7 : k = 8
  · refine t_g (j2 @hs7 @hk) ?_
    refine t_r ?_
    simp [go_sem, hP, hgl, hn, known, arityI, hs7] <;> (try omega)
  by_cases hs8 : k = 9
  · refine t_g (j2 @hs8 @hk) ?_
    refine t_r ?_
    simp [go_sem, hP, hgl, hn, known, arityI, hs8] <;> (try omega)
  by_cases hs9 : k = 10
  · refine t_g (j2 @hs9 @hk) ?_
    refine t_r ?_
    simp [go_sem, hP, hgl, hn, known, arityI, hs9] <;> (try omega)
  by_cases hs10 : k = 11
  · refine t_g (j2 @hs10 @hk) ?_
    refine t_r ?_
    simp [go_sem, hP, hgl, hn, known, arityI, hs10] <;> (try omega)
  by_cases hs11 : k = 12
  · refine t_g (j2 @hs11 @hk) ?_
    refine t_r ?_
    simp [go_sem, hP, hgl, hn, known, arityI, hs11] <;> (try omega)
  by_cases hs12 : k = 13
  · refine t_g (j2 @hs12 @hk) ?_
    refine t_r ?_
    simp [go_sem, hP, hgl, hn, known, arityI, hs12] <;> (try omega)
  by_cases hlo : k < 1
  · have : known k = false := by simp [known]; omega
    refine t_g @hlo ?_
    refine t_r ?_
    simp [go_sem, hP, hgl, hn, this] <;> (try omega)
  · have hhi : 14 ≤ k := by omega
    have : known k = false := by simp [known]; omega
    refine t_g (j2 @hlo @hhi) ?_
    refine t_r ?_
    simp [go_sem, hP, hgl, hn, this] <;> (try omega)

theorem typed_ok (k : Int) : Con1 Tryd.prog gl 82 [dint k] [] (dbool (decide (k = 2) || decide (k = 6) || decide (k = 9))) [] := by
  refine t_in Tryd.func82 ?_
  intro X hP hgl hf hfn hn hR hids hfit
  by_cases hs0 : k = 2
  · refine t_g @hs0 ?_
    refine t_r ?_
    simp [go_sem, hP, hgl, hn, hs0] <;> (try omega)
  by_cases hs1 : k = 6
  · refine t_g @hs1 ?_
    refine t_r ?_
    simp [go_sem, hP, hgl, hn, hs1] <;> (try omega)
  by_cases hs2 : k = 9
  · refine t_g @hs2 ?_
    refine t_r ?_
    simp [go_sem, hP, hgl, hn, hs2] <;> (try omega)
  refine t_g (j2 @hs0 (j2 @hs1 @hs2)) ?_
  refine t_r ?_
  simp [go_sem, hP, hgl, hn, hs0, hs1, hs2] <;> (try omega)

theorem notype_ok (t : Ty) : Con1 Tryd.prog gl 84 [t.dv] [] (dbool t.zero) [] := by
  refine t_in Tryd.func84 ?_
  intro X hP hgl hf hfn hn hR hids hfit
  by_cases h : t.kind = 0
  · refine t_g @h ?_
    refine t_r ?_
    simp [go_sem, hP, hgl, hn, Ty.zero, h] <;> (try omega)
  · refine t_g @h ?_
    refine t_r ?_
    simp [go_sem, hP, hgl, hn, Ty.zero, h] <;> (try omega)

def Ty.nodesR (t : Ty) : DV := .tup [dint (if t.shape = true then t.count else 0 : Nat), dbool t.shape]

theorem typenodes_ok (t : Ty) (hc : t.count ≤ 2147483648) : Con1 Tryd.prog gl 87 [t.dv] [] t.nodesR [] := by
  induction t using Ty.ind with
  | h t ih =>
  rw [Ty.count_eq] at hc
  refine t_in Tryd.func87 ?_
  intro X hP hgl hf hfn hn hR hids hfit
  have hlen := Ty.fit_len (hfit t.dv (by simp))
  have hs := Ty.shape_eq t
  have no : t.shape = false → t.nodesR = .tup [dint 0, dbool false] := fun h => by simp [Ty.nodesR, h]
  refine t_rg0 ?_
  refine t_rg0 ?_
  refine t_rg0 ?_
  repeat (first | refine W_seq ?_ | refine W_skip ?_ | refine W_inBlock ?_ | refine W_label ?_)
  refine W_cutP (t.kind = 1 ∨ t.kind = 2 ∨ t.kind = 5 ∨ t.kind = 3 ∨ t.kind = 4) [(.slot 4, .one (.v (dint (wantI t.kind)))), (.loc 1, .row ([.v (dint t.kind), .v (.sl (t.args.map Ty.cells))])), (.slot 1, .one (.loc 1 0))] ?_ ?_
  · intro hrest
    by_cases h1 : t.kind = 1
    · repeat (first | (refine W_sub [] (by simp [go_sem]) (by simp [go_sem, wantI, h1] <;> omega) (by simp [go_sem]) (hrest (by simp [h1]))) | refine W_seq ?_ | refine W_skip ?_ | refine W_block ?_ | refine W_inBlock ?_ | refine W_label ?_ | refine W_exit rfl ?_ | ((first | refine W_reg [] fun K hK => ?_ | refine W_regd (by rw [hP]; exact mixed) [] fun K hK => ?_); simp [go_sem, hP, hgl, hn, h1]; (repeat (refine ⟨by omega, ?_⟩)); (first | refine hK _ ?_ | refine ⟨by rfl, hK _ ?_⟩); clear hK K) | refine W_cond rfl (fun _ => ?_) (fun hq => False.elim (by first | (simp [h1]; done) | (simp [h1]; omega) | (simp [h1] at hq; done) | (simp [h1] at hq; omega))) | refine W_cond rfl (fun hq => False.elim (by first | (simp [h1]; done) | (simp [h1]; omega) | (simp [h1] at hq; done) | (simp [h1] at hq; omega))) (fun _ => ?_))
    by_cases h2 : t.kind = 2
    · repeat (first | (refine W_sub [] (by simp [go_sem]) (by simp [go_sem, wantI, h2] <;> omega) (by simp [go_sem]) (hrest (by simp [h2]))) | refine W_seq ?_ | refine W_skip ?_ | refine W_block ?_ | refine W_inBlock ?_ | refine W_label ?_ | refine W_exit rfl ?_ | ((first | refine W_reg [] fun K hK => ?_ | refine W_regd (by rw [hP]; exact mixed) [] fun K hK => ?_); simp [go_sem, hP, hgl, hn, h2]; (repeat (refine ⟨by omega, ?_⟩)); (first | refine hK _ ?_ | refine ⟨by rfl, hK _ ?_⟩); clear hK K) | refine W_cond rfl (fun _ => ?_) (fun hq => False.elim (by first | (simp [h2]; done) | (simp [h2]; omega) | (simp [h2] at hq; done) | (simp [h2] at hq; omega))) | refine W_cond rfl (fun hq => False.elim (by first | (simp [h2]; done) | (simp [h2]; omega) | (simp [h2] at hq; done) | (simp [h2] at hq; omega))) (fun _ => ?_))
    by_cases h3 : t.kind = 5
    · repeat (first | (refine W_sub [] (by simp [go_sem]) (by simp [go_sem, wantI, h3] <;> omega) (by simp [go_sem]) (hrest (by simp [h3]))) | refine W_seq ?_ | refine W_skip ?_ | refine W_block ?_ | refine W_inBlock ?_ | refine W_label ?_ | refine W_exit rfl ?_ | ((first | refine W_reg [] fun K hK => ?_ | refine W_regd (by rw [hP]; exact mixed) [] fun K hK => ?_); simp [go_sem, hP, hgl, hn, h3]; (repeat (refine ⟨by omega, ?_⟩)); (first | refine hK _ ?_ | refine ⟨by rfl, hK _ ?_⟩); clear hK K) | refine W_cond rfl (fun _ => ?_) (fun hq => False.elim (by first | (simp [h3]; done) | (simp [h3]; omega) | (simp [h3] at hq; done) | (simp [h3] at hq; omega))) | refine W_cond rfl (fun hq => False.elim (by first | (simp [h3]; done) | (simp [h3]; omega) | (simp [h3] at hq; done) | (simp [h3] at hq; omega))) (fun _ => ?_))
    by_cases h4 : t.kind = 3
    · repeat (first | (refine W_sub [] (by simp [go_sem]) (by simp [go_sem, wantI, h4] <;> omega) (by simp [go_sem]) (hrest (by simp [h4]))) | refine W_seq ?_ | refine W_skip ?_ | refine W_block ?_ | refine W_inBlock ?_ | refine W_label ?_ | refine W_exit rfl ?_ | ((first | refine W_reg [] fun K hK => ?_ | refine W_regd (by rw [hP]; exact mixed) [] fun K hK => ?_); simp [go_sem, hP, hgl, hn, h4]; (repeat (refine ⟨by omega, ?_⟩)); (first | refine hK _ ?_ | refine ⟨by rfl, hK _ ?_⟩); clear hK K) | refine W_cond rfl (fun _ => ?_) (fun hq => False.elim (by first | (simp [h4]; done) | (simp [h4]; omega) | (simp [h4] at hq; done) | (simp [h4] at hq; omega))) | refine W_cond rfl (fun hq => False.elim (by first | (simp [h4]; done) | (simp [h4]; omega) | (simp [h4] at hq; done) | (simp [h4] at hq; omega))) (fun _ => ?_))
    by_cases h5 : t.kind = 4
    · repeat (first | (refine W_sub [] (by simp [go_sem]) (by simp [go_sem, wantI, h5] <;> omega) (by simp [go_sem]) (hrest (by simp [h5]))) | refine W_seq ?_ | refine W_skip ?_ | refine W_block ?_ | refine W_inBlock ?_ | refine W_label ?_ | refine W_exit rfl ?_ | ((first | refine W_reg [] fun K hK => ?_ | refine W_regd (by rw [hP]; exact mixed) [] fun K hK => ?_); simp [go_sem, hP, hgl, hn, h5]; (repeat (refine ⟨by omega, ?_⟩)); (first | refine hK _ ?_ | refine ⟨by rfl, hK _ ?_⟩); clear hK K) | refine W_cond rfl (fun _ => ?_) (fun hq => False.elim (by first | (simp [h5]; done) | (simp [h5]; omega) | (simp [h5] at hq; done) | (simp [h5] at hq; omega))) | refine W_cond rfl (fun hq => False.elim (by first | (simp [h5]; done) | (simp [h5]; omega) | (simp [h5] at hq; done) | (simp [h5] at hq; omega))) (fun _ => ?_))
    have hz := no (by rw [hs]; simp [tyKind, h1, h2, h3, h4, h5])
    refine t_g (j2 @h1 (j2 @h2 (j2 @h3 (j2 @h4 @h5)))) ?_
    refine t_r ?_
    simp [go_sem, hP, hgl, hn, hz] <;> (try omega)
  · intro hk
    by_cases hl : (t.args.length : Int) = wantI t.kind
    · have hty : tyKind t.kind t.args.length = true := by
        unfold wantI at hl
        unfold tyKind
        rcases hk with h | h | h | h | h <;> simp [h] at hl ⊢ <;> omega
      refine t_g @hl ?_
      refine t_a ?_
      refine W_sub [] (by simp [go_sem]) (by simp [go_sem, Ty.count.counts] <;> omega) (by simp [go_sem]) (W_listI (t.args) (fun done => Ty.shape.shapes done = true) (fun done rest => [(.slot 5, .one (.v (dint (1 + Ty.count.counts done : Nat)))), (.slot 27, .one (.v (dint done.length))), (.slot 26, .one (.v (dint t.args.length))), (.slot 25, .one (.v (.sl (t.args.map Ty.cells))))]) (rfl) ?_ ?_)
      · intro done x rest hL hg hI hnext
        have hlt : done.length < t.args.length := by rw [hL]; simp
        have hcx : Ty.count.counts t.args = Ty.count.counts done + (x.count + Ty.count.counts rest) := by rw [hL, Ty.counts_append]; rfl
        rw [Ty.counts_append] at hnext
        refine t_rg0 ?_
        refine t_yes ?_
        refine t_rg @hg ?_
        by_cases hx : x.shape = true
        · refine t_a ?_
          first | refine W_reg [] fun K hK => ?_ | refine W_regd (by rw [hP]; exact mixed) [] fun K hK => ?_
          simp [go_sem, hP, hgl, hn, hg, Ty.nodesR, hx]
          repeat (refine ⟨by omega, ?_⟩)
          first | refine vcK_call hP hgl (ih x (List.mem_of_getElem? hg) (by omega)) (by simp [go_sem, hP, hgl, hn, hg, Ty.nodesR, hx]) rfl (by simp [go_sem]) (by simp) (by rw [hn]; exact Nat.le_of_ble_eq_true rfl) ?_ | refine vcdC_call (fun _ _ => vcd_sound) hP hgl (ih x (List.mem_of_getElem? hg) (by omega)) (by simp [go_sem, hP, hgl, hn, hg, Ty.nodesR, hx]) rfl (by simp [go_sem]) (by simp) (by rw [hn]; exact Nat.le_of_ble_eq_true rfl) ?_ | refine vcK_callG hP hgl (ih x (List.mem_of_getElem? hg) (by omega)) (by simp [go_sem, hP, hgl, hn, hg, Ty.nodesR, hx]) rfl (by simp [go_sem]) (by simp) (by rw [hn]; exact Nat.le_of_ble_eq_true rfl) (by simp [go_sem]; rfl) (by rw [hn]; exact Nat.le_of_ble_eq_true rfl) (by simp [go_sem]) ?_ | refine vcdC_callG (fun _ _ => vcd_sound) hP hgl (ih x (List.mem_of_getElem? hg) (by omega)) (by simp [go_sem, hP, hgl, hn, hg, Ty.nodesR, hx]) rfl (by simp [go_sem]) (by simp) (by rw [hn]; exact Nat.le_of_ble_eq_true rfl) (by simp [go_sem]; rfl) (by rw [hn]; exact Nat.le_of_ble_eq_true rfl) (by simp [go_sem]) ?_
          simp [go_sem, hP, hgl, hn, hg, Ty.nodesR, hx]
          refine t_e ?_
          clear hK K
          repeat (first | (refine W_sub [] (by simp [go_sem]) (by simp [go_sem, Ty.count.counts] <;> omega) (by simp [go_sem]) (hnext (by rw [Ty.shapes_append]; simp [hI, Ty.shape.shapes, hx]))) | refine W_seq ?_ | refine W_skip ?_ | refine W_block ?_ | refine W_inBlock ?_ | refine W_label ?_ | refine W_exit rfl ?_ | ((first | refine W_reg [] fun K hK => ?_ | refine W_regd (by rw [hP]; exact mixed) [] fun K hK => ?_); simp [go_sem, hP, hgl, hn, hx]; (repeat (refine ⟨by omega, ?_⟩)); (first | refine hK _ ?_ | refine ⟨by rfl, hK _ ?_⟩); clear hK K) | refine W_cond rfl (fun _ => ?_) (fun hq => False.elim (by first | (simp [hx]; done) | (simp [hx]; omega) | (simp [hx] at hq; done) | (simp [hx] at hq; omega))) | refine W_cond rfl (fun hq => False.elim (by first | (simp [hx]; done) | (simp [hx]; omega) | (simp [hx] at hq; done) | (simp [hx] at hq; omega))) (fun _ => ?_))
        · have hz := no (by rw [hs, hL, Ty.shapes_append]; simp [Ty.shape.shapes, hx])
          refine t_a ?_
          first | refine W_reg [] fun K hK => ?_ | refine W_regd (by rw [hP]; exact mixed) [] fun K hK => ?_
          simp [go_sem, hP, hgl, hn, hg, Ty.nodesR, hx]
          repeat (refine ⟨by omega, ?_⟩)
          first | refine vcK_call hP hgl (ih x (List.mem_of_getElem? hg) (by omega)) (by simp [go_sem, hP, hgl, hn, hg, Ty.nodesR, hx]) rfl (by simp [go_sem]) (by simp) (by rw [hn]; exact Nat.le_of_ble_eq_true rfl) ?_ | refine vcdC_call (fun _ _ => vcd_sound) hP hgl (ih x (List.mem_of_getElem? hg) (by omega)) (by simp [go_sem, hP, hgl, hn, hg, Ty.nodesR, hx]) rfl (by simp [go_sem]) (by simp) (by rw [hn]; exact Nat.le_of_ble_eq_true rfl) ?_ | refine vcK_callG hP hgl (ih x (List.mem_of_getElem? hg) (by omega)) (by simp [go_sem, hP, hgl, hn, hg, Ty.nodesR, hx]) rfl (by simp [go_sem]) (by simp) (by rw [hn]; exact Nat.le_of_ble_eq_true rfl) (by simp [go_sem]; rfl) (by rw [hn]; exact Nat.le_of_ble_eq_true rfl) (by simp [go_sem]) ?_ | refine vcdC_callG (fun _ _ => vcd_sound) hP hgl (ih x (List.mem_of_getElem? hg) (by omega)) (by simp [go_sem, hP, hgl, hn, hg, Ty.nodesR, hx]) rfl (by simp [go_sem]) (by simp) (by rw [hn]; exact Nat.le_of_ble_eq_true rfl) (by simp [go_sem]; rfl) (by rw [hn]; exact Nat.le_of_ble_eq_true rfl) (by simp [go_sem]) ?_
          simp [go_sem, hP, hgl, hn, hg, Ty.nodesR, hx]
          refine t_e ?_
          clear hK K
          refine t_g @hx ?_
          refine t_r ?_
          simp [go_sem, hP, hgl, hn, hz] <;> (try omega)
      · intro hI
        have hz : t.nodesR = .tup [dint t.count, dbool true] := by simp [Ty.nodesR, hs, hty, hI]
        refine t_rg0 ?_
        refine t_no ?_
        refine t_g0 ?_
        refine t_r ?_
        simp [go_sem, hP, hgl, hn, hz, Ty.count_eq] <;> (try omega)
    · have hz := no (by
        rw [hs]
        have : tyKind t.kind t.args.length = false := by
          unfold wantI at hl
          unfold tyKind
          rcases hk with h | h | h | h | h <;> simp [h] at hl ⊢ <;> omega
        simp [this])
      refine t_g @hl ?_
      refine t_r ?_
      simp [go_sem, hP, hgl, hn, hz] <;> (try omega)

theorem checktype_ok (t : Ty) (hc : t.count ≤ 2147483648) : Con1 Tryd.prog gl 83 [t.dv] [] (.tup [dint (if t.checkN = 0 then t.count else 0 : Nat), dint t.checkN]) [] := by
  refine t_in Tryd.func83 ?_
  intro X hP hgl hf hfn hn hR hids hfit
  refine t_g0 ?_
  by_cases h : t.shape = true
  · refine t_a ?_
    first | refine W_reg [] fun K hK => ?_ | refine W_regd (by rw [hP]; exact mixed) [] fun K hK => ?_
    simp [go_sem, hP, hgl, hn, Ty.nodesR, h]
    repeat (refine ⟨by omega, ?_⟩)
    first | refine vcK_call hP hgl (typenodes_ok t hc) (by simp [go_sem, hP, hgl, hn, Ty.nodesR, h]) rfl (by simp [go_sem]) (by simp) (by rw [hn]; exact Nat.le_of_ble_eq_true rfl) ?_ | refine vcdC_call (fun _ _ => vcd_sound) hP hgl (typenodes_ok t hc) (by simp [go_sem, hP, hgl, hn, Ty.nodesR, h]) rfl (by simp [go_sem]) (by simp) (by rw [hn]; exact Nat.le_of_ble_eq_true rfl) ?_ | refine vcK_callG hP hgl (typenodes_ok t hc) (by simp [go_sem, hP, hgl, hn, Ty.nodesR, h]) rfl (by simp [go_sem]) (by simp) (by rw [hn]; exact Nat.le_of_ble_eq_true rfl) (by simp [go_sem]; rfl) (by rw [hn]; exact Nat.le_of_ble_eq_true rfl) (by simp [go_sem]) ?_ | refine vcdC_callG (fun _ _ => vcd_sound) hP hgl (typenodes_ok t hc) (by simp [go_sem, hP, hgl, hn, Ty.nodesR, h]) rfl (by simp [go_sem]) (by simp) (by rw [hn]; exact Nat.le_of_ble_eq_true rfl) (by simp [go_sem]; rfl) (by rw [hn]; exact Nat.le_of_ble_eq_true rfl) (by simp [go_sem]) ?_
    simp [go_sem, hP, hgl, hn, Ty.nodesR, h]
    refine t_e ?_
    clear hK K
    by_cases h2 : 64 < t.count
    · refine t_g (j2 @h @h2) ?_
      refine t_r ?_
      simp [go_sem, hP, hgl, hn, Ty.checkN, h, h2] <;> (try omega)
    · refine t_g (j2 @h @h2) ?_
      refine t_r ?_
      simp [go_sem, hP, hgl, hn, Ty.checkN, h, h2] <;> (try omega)
  · refine t_a ?_
    first | refine W_reg [] fun K hK => ?_ | refine W_regd (by rw [hP]; exact mixed) [] fun K hK => ?_
    simp [go_sem, hP, hgl, hn, Ty.nodesR, h]
    repeat (refine ⟨by omega, ?_⟩)
    first | refine vcK_call hP hgl (typenodes_ok t hc) (by simp [go_sem, hP, hgl, hn, Ty.nodesR, h]) rfl (by simp [go_sem]) (by simp) (by rw [hn]; exact Nat.le_of_ble_eq_true rfl) ?_ | refine vcdC_call (fun _ _ => vcd_sound) hP hgl (typenodes_ok t hc) (by simp [go_sem, hP, hgl, hn, Ty.nodesR, h]) rfl (by simp [go_sem]) (by simp) (by rw [hn]; exact Nat.le_of_ble_eq_true rfl) ?_ | refine vcK_callG hP hgl (typenodes_ok t hc) (by simp [go_sem, hP, hgl, hn, Ty.nodesR, h]) rfl (by simp [go_sem]) (by simp) (by rw [hn]; exact Nat.le_of_ble_eq_true rfl) (by simp [go_sem]; rfl) (by rw [hn]; exact Nat.le_of_ble_eq_true rfl) (by simp [go_sem]) ?_ | refine vcdC_callG (fun _ _ => vcd_sound) hP hgl (typenodes_ok t hc) (by simp [go_sem, hP, hgl, hn, Ty.nodesR, h]) rfl (by simp [go_sem]) (by simp) (by rw [hn]; exact Nat.le_of_ble_eq_true rfl) (by simp [go_sem]; rfl) (by rw [hn]; exact Nat.le_of_ble_eq_true rfl) (by simp [go_sem]) ?_
    simp [go_sem, hP, hgl, hn, Ty.nodesR, h]
    refine t_e ?_
    clear hK K
    refine t_g @h ?_
    refine t_r ?_
    simp [go_sem, hP, hgl, hn, Ty.checkN, h] <;> (try omega)

def okNodeP (t : Tm) : Bool := known t.kind && decide ((t.args.length : Int) = arityI t.kind) && decide (0 ≤ t.index) && (decide (t.index = 0) || decide (t.kind = 1))
theorem okNodeP_eq (t : Tm) : okNodeP t = okNode t := by
  unfold okNodeP okNode
  rw [arityI_known]
  cases h : decide ((t.args.length : Int) = arityI t.kind) with
  | false => simp
  | true =>
    have h1 : (t.args.length : Int) = arityI t.kind := by simpa using h
    have : decide (0 ≤ arityI t.kind) = true := by simp; omega
    rw [this]
    cases decide (0 ≤ t.index) <;> cases decide (t.index = 0) <;> cases decide (t.kind = 1) <;> rfl

def Tm.nodesR (t : Tm) : DV := .tup [dint (if t.shape = true then t.count else 0 : Nat), dbool t.shape]

theorem termnodes_ok (har : globOf gl 1 = some arEls) (t : Tm) (ht : t.tys) (hc : t.count ≤ 2147483648) : Con1 Tryd.prog gl 77 [t.dv] [] t.nodesR [] := by
  induction t using Tm.ind with
  | h t ih =>
  obtain ⟨ht1, ht2⟩ := (Tm.tys_eq t).1 ht
  rw [Tm.count_eq] at hc
  refine t_in Tryd.func77 ?_
  intro X hP hgl hf hfn hn hR hids hfit
  have hlen := Tm.fit_len (hfit t.dv (by simp))
  have hs := Tm.shape_eq t
  have no : t.shape = false → t.nodesR = .tup [dint 0, dbool false] := fun h => by simp [Tm.nodesR, h]
  refine t_g0 ?_
  refine t_c1 trivial (arity_ok har t.kind) ?_
  repeat (first | refine W_seq ?_ | refine W_skip ?_ | refine W_inBlock ?_ | refine W_label ?_)
  refine W_cut [(.slot 42, .one (.v (dbool (!okNodeP t)))), (.loc 1, .row ([.v (dint t.kind), .v (dint t.index), .v (dint t.type.kind), .v (.sl (t.type.args.map Ty.cells)), .v (.sl (t.args.map Tm.cells))])), (.slot 1, .one (.loc 1 0))] ?_ ?_
  · intro hrest
    by_cases h0 : known t.kind = true
    · by_cases hA : (t.args.length : Int) = arityI t.kind
      · by_cases hB : t.index < 0
        · refine t_rg (j2 @h0 (j2 @hA @hB)) ?_
          repeat (first | refine W_inBlock ?_ | refine W_skip ?_ | refine W_label ?_ | refine W_exit rfl ?_)
          refine W_sub [] (by simp [go_sem]) (by simp [go_sem, okNodeP, h0, hA, hB] <;> omega) (by simp [go_sem]) hrest
        · by_cases hD : t.index = 0
          · refine t_rg (j2 @h0 (j2 @hA (j2 @hB @hD))) ?_
            repeat (first | refine W_inBlock ?_ | refine W_skip ?_ | refine W_label ?_ | refine W_exit rfl ?_)
            refine W_sub [] (by simp [go_sem]) (by simp [go_sem, okNodeP, h0, hA, hB, hD] <;> omega) (by simp [go_sem]) hrest
          · by_cases hC : t.kind = 1
            · have h01 : known 1 = true := rfl
              refine t_rg (j2 @h0 (j2 @hA (j2 @hB (j2 @hD (j2 @hC @h01))))) ?_
              repeat (first | refine W_inBlock ?_ | refine W_skip ?_ | refine W_label ?_ | refine W_exit rfl ?_)
              refine W_sub [] (by simp [go_sem]) (by simp [go_sem, okNodeP, h0, hA, hB, hD, hC, h01] <;> omega) (by simp [go_sem]) hrest
            · refine t_rg (j2 @h0 (j2 @hA (j2 @hB (j2 @hD @hC)))) ?_
              repeat (first | refine W_inBlock ?_ | refine W_skip ?_ | refine W_label ?_ | refine W_exit rfl ?_)
              refine W_sub [] (by simp [go_sem]) (by simp [go_sem, okNodeP, h0, hA, hB, hD, hC] <;> omega) (by simp [go_sem]) hrest
      · refine t_rg (j2 @h0 @hA) ?_
        repeat (first | refine W_inBlock ?_ | refine W_skip ?_ | refine W_label ?_ | refine W_exit rfl ?_)
        refine W_sub [] (by simp [go_sem]) (by simp [go_sem, okNodeP, h0, hA] <;> omega) (by simp [go_sem]) hrest
    · refine t_rg @h0 ?_
      repeat (first | refine W_inBlock ?_ | refine W_skip ?_ | refine W_label ?_ | refine W_exit rfl ?_)
      refine W_sub [] (by simp [go_sem]) (by simp [go_sem, okNodeP, h0] <;> omega) (by simp [go_sem]) hrest
  · rw [okNodeP_eq]
    by_cases hok : okNode t = true
    · have hk : tmKind t.kind t.index t.type t.args.length = tyOfKind t.kind t.type := by
        simp only [okNode, Bool.and_eq_true, decide_eq_true_eq] at hok
        simp [tmKind, hok]
      refine t_n @hok ?_
      refine t_c1 trivial (typed_ok t.kind) ?_
      repeat (first | refine W_seq ?_ | refine W_skip ?_ | refine W_inBlock ?_ | refine W_label ?_)
      refine W_cutP (tyOfKind t.kind t.type = true) [(.loc 1, .row ([.v (dint t.kind), .v (dint t.index), .v (dint t.type.kind), .v (.sl (t.type.args.map Ty.cells)), .v (.sl (t.args.map Tm.cells))])), (.slot 1, .one (.loc 1 0))] ?_ ?_
      · intro hrest
        by_cases k2 : t.kind = 2
        · refine t_g @k2 ?_
          refine t_c1 trivial (checktype_ok t.type (by omega)) ?_
          by_cases hc : t.type.checkN = 0
          · refine t_gt (wr []) @k2 (j2 @k2 @hc) (hrest (by simp [tyOfKind, k2, hc]))
          · have hz := no (by rw [hs, hk]; simp [tyOfKind, k2, hc])
            refine t_g @hc ?_
            refine t_r ?_
            simp [go_sem, hP, hgl, hn, hz] <;> (try omega)
        by_cases k6 : t.kind = 6
        · refine t_g @k6 ?_
          refine t_c1 trivial (checktype_ok t.type (by omega)) ?_
          by_cases hc : t.type.checkN = 0
          · refine t_gt (wr []) @k6 (j2 @k6 @hc) (hrest (by simp [tyOfKind, k6, hc]))
          · have hz := no (by rw [hs, hk]; simp [tyOfKind, k6, hc])
            refine t_g @hc ?_
            refine t_r ?_
            simp [go_sem, hP, hgl, hn, hz] <;> (try omega)
        by_cases k9 : t.kind = 9
        · refine t_g @k9 ?_
          refine t_c1 trivial (checktype_ok t.type (by omega)) ?_
          by_cases hc : t.type.checkN = 0
          · refine t_gt (wr []) @k9 (j2 @k9 @hc) (hrest (by simp [tyOfKind, k9, hc]))
          · have hz := no (by rw [hs, hk]; simp [tyOfKind, k9, hc])
            refine t_g @hc ?_
            refine t_r ?_
            simp [go_sem, hP, hgl, hn, hz] <;> (try omega)
        refine t_g (j2 @k2 (j2 @k6 @k9)) ?_
        refine t_c1 trivial (notype_ok t.type) ?_
        by_cases hc : t.type.zero = true
        · refine t_gt (wr []) trivial @hc (hrest (by simp [tyOfKind, k2, k6, k9, hc]))
        · have hz := no (by rw [hs, hk]; simp [tyOfKind, k2, k6, k9, hc])
          refine t_g @hc ?_
          refine t_r ?_
          simp [go_sem, hP, hgl, hn, hz] <;> (try omega)
      · intro hty
        refine t_g0 ?_
        refine t_a ?_
        refine W_sub [] (by simp [go_sem]) (by simp [go_sem, Tm.count.counts] <;> omega) (by simp [go_sem]) (W_listI (t.args) (fun done => Tm.shape.shapes done = true) (fun done rest => [(.slot 8, .one (.v (dint (1 + Tm.count.counts done : Nat)))), (.slot 61, .one (.v (dint done.length))), (.slot 60, .one (.v (dint t.args.length))), (.slot 59, .one (.v (.sl (t.args.map Tm.cells))))]) (rfl) ?_ ?_)
        · intro done x rest hL hg hI hnext
          have hlt : done.length < t.args.length := by rw [hL]; simp
          have hcx : Tm.count.counts t.args = Tm.count.counts done + (x.count + Tm.count.counts rest) := by rw [hL, Tm.counts_append]; rfl
          rw [Tm.counts_append] at hnext
          refine t_rg0 ?_
          refine t_yes ?_
          refine t_rg @hg ?_
          by_cases hx : x.shape = true
          · refine t_a ?_
            first | refine W_reg [] fun K hK => ?_ | refine W_regd (by rw [hP]; exact mixed) [] fun K hK => ?_
            simp [go_sem, hP, hgl, hn, hg, Tm.nodesR, hx]
            repeat (refine ⟨by omega, ?_⟩)
            first | refine vcK_call hP hgl (ih x (List.mem_of_getElem? hg) (ht2 x (List.mem_of_getElem? hg)) (by omega)) (by simp [go_sem, hP, hgl, hn, hg, Tm.nodesR, hx]) rfl (by simp [go_sem]) (by simp) (by rw [hn]; exact Nat.le_of_ble_eq_true rfl) ?_ | refine vcdC_call (fun _ _ => vcd_sound) hP hgl (ih x (List.mem_of_getElem? hg) (ht2 x (List.mem_of_getElem? hg)) (by omega)) (by simp [go_sem, hP, hgl, hn, hg, Tm.nodesR, hx]) rfl (by simp [go_sem]) (by simp) (by rw [hn]; exact Nat.le_of_ble_eq_true rfl) ?_ | refine vcK_callG hP hgl (ih x (List.mem_of_getElem? hg) (ht2 x (List.mem_of_getElem? hg)) (by omega)) (by simp [go_sem, hP, hgl, hn, hg, Tm.nodesR, hx]) rfl (by simp [go_sem]) (by simp) (by rw [hn]; exact Nat.le_of_ble_eq_true rfl) (by simp [go_sem]; rfl) (by rw [hn]; exact Nat.le_of_ble_eq_true rfl) (by simp [go_sem]) ?_ | refine vcdC_callG (fun _ _ => vcd_sound) hP hgl (ih x (List.mem_of_getElem? hg) (ht2 x (List.mem_of_getElem? hg)) (by omega)) (by simp [go_sem, hP, hgl, hn, hg, Tm.nodesR, hx]) rfl (by simp [go_sem]) (by simp) (by rw [hn]; exact Nat.le_of_ble_eq_true rfl) (by simp [go_sem]; rfl) (by rw [hn]; exact Nat.le_of_ble_eq_true rfl) (by simp [go_sem]) ?_
            simp [go_sem, hP, hgl, hn, hg, Tm.nodesR, hx]
            refine t_e ?_
            clear hK K
            repeat (first | (refine W_sub [] (by simp [go_sem]) (by simp [go_sem, Tm.count.counts] <;> omega) (by simp [go_sem]) (hnext (by rw [Tm.shapes_append]; simp [hI, Tm.shape.shapes, hx]))) | refine W_seq ?_ | refine W_skip ?_ | refine W_block ?_ | refine W_inBlock ?_ | refine W_label ?_ | refine W_exit rfl ?_ | ((first | refine W_reg [] fun K hK => ?_ | refine W_regd (by rw [hP]; exact mixed) [] fun K hK => ?_); simp [go_sem, hP, hgl, hn, hx]; (repeat (refine ⟨by omega, ?_⟩)); (first | refine hK _ ?_ | refine ⟨by rfl, hK _ ?_⟩); clear hK K) | refine W_cond rfl (fun _ => ?_) (fun hq => False.elim (by first | (simp [hx]; done) | (simp [hx]; omega) | (simp [hx] at hq; done) | (simp [hx] at hq; omega))) | refine W_cond rfl (fun hq => False.elim (by first | (simp [hx]; done) | (simp [hx]; omega) | (simp [hx] at hq; done) | (simp [hx] at hq; omega))) (fun _ => ?_))
          · have hz := no (by rw [hs, hL, Tm.shapes_append]; simp [Tm.shape.shapes, hx])
            refine t_a ?_
            first | refine W_reg [] fun K hK => ?_ | refine W_regd (by rw [hP]; exact mixed) [] fun K hK => ?_
            simp [go_sem, hP, hgl, hn, hg, Tm.nodesR, hx]
            repeat (refine ⟨by omega, ?_⟩)
            first | refine vcK_call hP hgl (ih x (List.mem_of_getElem? hg) (ht2 x (List.mem_of_getElem? hg)) (by omega)) (by simp [go_sem, hP, hgl, hn, hg, Tm.nodesR, hx]) rfl (by simp [go_sem]) (by simp) (by rw [hn]; exact Nat.le_of_ble_eq_true rfl) ?_ | refine vcdC_call (fun _ _ => vcd_sound) hP hgl (ih x (List.mem_of_getElem? hg) (ht2 x (List.mem_of_getElem? hg)) (by omega)) (by simp [go_sem, hP, hgl, hn, hg, Tm.nodesR, hx]) rfl (by simp [go_sem]) (by simp) (by rw [hn]; exact Nat.le_of_ble_eq_true rfl) ?_ | refine vcK_callG hP hgl (ih x (List.mem_of_getElem? hg) (ht2 x (List.mem_of_getElem? hg)) (by omega)) (by simp [go_sem, hP, hgl, hn, hg, Tm.nodesR, hx]) rfl (by simp [go_sem]) (by simp) (by rw [hn]; exact Nat.le_of_ble_eq_true rfl) (by simp [go_sem]; rfl) (by rw [hn]; exact Nat.le_of_ble_eq_true rfl) (by simp [go_sem]) ?_ | refine vcdC_callG (fun _ _ => vcd_sound) hP hgl (ih x (List.mem_of_getElem? hg) (ht2 x (List.mem_of_getElem? hg)) (by omega)) (by simp [go_sem, hP, hgl, hn, hg, Tm.nodesR, hx]) rfl (by simp [go_sem]) (by simp) (by rw [hn]; exact Nat.le_of_ble_eq_true rfl) (by simp [go_sem]; rfl) (by rw [hn]; exact Nat.le_of_ble_eq_true rfl) (by simp [go_sem]) ?_
            simp [go_sem, hP, hgl, hn, hg, Tm.nodesR, hx]
            refine t_e ?_
            clear hK K
            refine t_g @hx ?_
            refine t_r ?_
            simp [go_sem, hP, hgl, hn, hz] <;> (try omega)
        · intro hI
          have hz : t.nodesR = .tup [dint t.count, dbool true] := by simp [Tm.nodesR, hs, hk, hty, hI]
          refine t_rg0 ?_
          refine t_no ?_
          refine t_g0 ?_
          refine t_r ?_
          simp [go_sem, hP, hgl, hn, hz, Tm.count_eq] <;> (try omega)
    · have hk : tmKind t.kind t.index t.type t.args.length = false := by
        simp only [okNode, Bool.and_eq_true, decide_eq_true_eq] at hok
        simp only [tmKind]
        cases hh : (decide ((t.args.length : Int) = arityI t.kind) && decide (0 ≤ t.index) && (decide (t.kind = 1) || decide (t.index = 0))) with
        | true => exact absurd (by simpa using hh) hok
        | false => rfl
      have hz := no (by rw [hs, hk]; rfl)
      refine t_g @hok ?_
      refine t_r ?_
      simp [go_sem, hP, hgl, hn, hz] <;> (try omega)
end Go.Proofs.YtmdjiajbnifjpaaDoor.Lift

namespace Go.Proofs.YtmdjiajbnifjpaaDoor.Lift
set_option linter.unusedSimpArgs false
set_option linter.unusedVariables false
set_option linter.unnecessarySimpa false
open Go
variable {gl : Globs}

theorem checkterm_ok (har : globOf gl 1 = some arEls) (t : Tm) (ht : t.tys) (hc : t.count ≤ 2147483648) : Con1 Tryd.prog gl 68 [t.dv] [] (.tup [dint (if t.checkN = 0 then t.count else 0 : Nat), dint t.checkN]) [] := by
  refine t_in Tryd.func68 ?_
  intro X hP hgl hf hfn hn hR hids hfit
  refine t_g0 ?_
  by_cases h : t.shape = true
  · refine t_a ?_
    first | refine W_reg [] fun K hK => ?_ | refine W_regd (by rw [hP]; exact mixed) [] fun K hK => ?_
    simp [go_sem, hP, hgl, hn, Tm.nodesR, h]
    repeat (refine ⟨by omega, ?_⟩)
    first | refine vcK_call hP hgl (termnodes_ok har t ht hc) (by simp [go_sem, hP, hgl, hn, Tm.nodesR, h]) rfl (by simp [go_sem]) (by simp) (by rw [hn]; exact Nat.le_of_ble_eq_true rfl) ?_ | refine vcdC_call (fun _ _ => vcd_sound) hP hgl (termnodes_ok har t ht hc) (by simp [go_sem, hP, hgl, hn, Tm.nodesR, h]) rfl (by simp [go_sem]) (by simp) (by rw [hn]; exact Nat.le_of_ble_eq_true rfl) ?_ | refine vcK_callG hP hgl (termnodes_ok har t ht hc) (by simp [go_sem, hP, hgl, hn, Tm.nodesR, h]) rfl (by simp [go_sem]) (by simp) (by rw [hn]; exact Nat.le_of_ble_eq_true rfl) (by simp [go_sem]; rfl) (by rw [hn]; exact Nat.le_of_ble_eq_true rfl) (by simp [go_sem]) ?_ | refine vcdC_callG (fun _ _ => vcd_sound) hP hgl (termnodes_ok har t ht hc) (by simp [go_sem, hP, hgl, hn, Tm.nodesR, h]) rfl (by simp [go_sem]) (by simp) (by rw [hn]; exact Nat.le_of_ble_eq_true rfl) (by simp [go_sem]; rfl) (by rw [hn]; exact Nat.le_of_ble_eq_true rfl) (by simp [go_sem]) ?_
    simp [go_sem, hP, hgl, hn, Tm.nodesR, h]
    refine t_e ?_
    clear hK K
    by_cases h2 : 4096 < t.count
    · refine t_g (j2 @h @h2) ?_
      refine t_r ?_
      simp [go_sem, hP, hgl, hn, Tm.checkN, h, h2] <;> (try omega)
    · refine t_g (j2 @h @h2) ?_
      refine t_r ?_
      simp [go_sem, hP, hgl, hn, Tm.checkN, h, h2] <;> (try omega)
  · refine t_a ?_
    first | refine W_reg [] fun K hK => ?_ | refine W_regd (by rw [hP]; exact mixed) [] fun K hK => ?_
    simp [go_sem, hP, hgl, hn, Tm.nodesR, h]
    repeat (refine ⟨by omega, ?_⟩)
    first | refine vcK_call hP hgl (termnodes_ok har t ht hc) (by simp [go_sem, hP, hgl, hn, Tm.nodesR, h]) rfl (by simp [go_sem]) (by simp) (by rw [hn]; exact Nat.le_of_ble_eq_true rfl) ?_ | refine vcdC_call (fun _ _ => vcd_sound) hP hgl (termnodes_ok har t ht hc) (by simp [go_sem, hP, hgl, hn, Tm.nodesR, h]) rfl (by simp [go_sem]) (by simp) (by rw [hn]; exact Nat.le_of_ble_eq_true rfl) ?_ | refine vcK_callG hP hgl (termnodes_ok har t ht hc) (by simp [go_sem, hP, hgl, hn, Tm.nodesR, h]) rfl (by simp [go_sem]) (by simp) (by rw [hn]; exact Nat.le_of_ble_eq_true rfl) (by simp [go_sem]; rfl) (by rw [hn]; exact Nat.le_of_ble_eq_true rfl) (by simp [go_sem]) ?_ | refine vcdC_callG (fun _ _ => vcd_sound) hP hgl (termnodes_ok har t ht hc) (by simp [go_sem, hP, hgl, hn, Tm.nodesR, h]) rfl (by simp [go_sem]) (by simp) (by rw [hn]; exact Nat.le_of_ble_eq_true rfl) (by simp [go_sem]; rfl) (by rw [hn]; exact Nat.le_of_ble_eq_true rfl) (by simp [go_sem]) ?_
    simp [go_sem, hP, hgl, hn, Tm.nodesR, h]
    refine t_e ?_
    clear hK K
    refine t_g @h ?_
    refine t_r ?_
    simp [go_sem, hP, hgl, hn, Tm.checkN, h] <;> (try omega)

theorem termscheck_ok (har : globOf gl 1 = some arEls) (t : Tm) (ht : t.tys) (hc : t.count ≤ 2147483648) : Con1 Tryd.prog gl 47 [t.dv] [] (dint t.checkN) [] := by
  refine t_in Tryd.func47 ?_
  intro X hP hgl hf hfn hn hR hids hfit
  refine t_g0 ?_
  refine t_c1 trivial (checkterm_ok har t ht hc) ?_
  refine t_g0 ?_
  refine t_r ?_
  simp [go_sem, hP, hgl, hn] <;> (try omega)

/-- the number of which a term is the term: how many Succ, and what stands behind them -/
def Tm.peel : Tm → Nat × Int
  | .mk 5 _ _ [a] => ((a.peel).1 + 1, (a.peel).2)
  | t => (0, t.kind)
def zeroV : Val := Val.mk 0 0 [] []

/-- the numbers of a list's term, and what stands behind them; none where one of them is no number -/
def Tm.readL : Tm → Option (List Int × Int)
  | .mk 8 _ _ [h, r] => if h.peel.2 = 4 then (r.readL).map fun p => ((h.peel.1 : Int) :: p.1, p.2) else none
  | t => some ([], t.kind)
end Go.Proofs.YtmdjiajbnifjpaaDoor.Lift

/-
  Package code: byTerm, and the block of a term (emit).
-/
namespace Go.Proofs.YtmdjiajbnifjpaaDoor.Lift
set_option linter.unusedSimpArgs false
set_option linter.unusedVariables false
set_option linter.unnecessarySimpa false
open Go
variable {gl : Globs}

/-- the package's table of operations: what each takes, the kind of term that it is for -/
def opEls : List (List DV) := [[dint 0, dint 0], [dint 0, dint 1], [dint 0, dint 2], [dint 2, dint 3], [dint 0, dint 4], [dint 1, dint 5], [dint 3, dint 6], [dint 0, dint 7], [dint 2, dint 8], [dint 3, dint 9], [dint 2, dint 10], [dint 1, dint 11], [dint 1, dint 12], [dint 0, dint 13]]
theorem evG_op : evG (some opEls) = some (.dp opEls 0 0) := rfl
attribute [go_sem] evG_op
theorem opEls_get (i : Nat) (h1 : 1 ≤ i) (h2 : i ≤ 13) : opEls[i]? = some [dint (takesI (i : Int)), dint i] := by
  have : i = 1 ∨ i = 2 ∨ i = 3 ∨ i = 4 ∨ i = 5 ∨ i = 6 ∨ i = 7 ∨ i = 8 ∨ i = 9 ∨ i = 10 ∨ i = 11 ∨ i = 12 ∨ i = 13 := by omega
  rcases this with rfl | rfl | rfl | rfl | rfl | rfl | rfl | rfl | rfl | rfl | rfl | rfl | rfl <;> rfl

theorem byterm_ok (hop : globOf gl 0 = some opEls) (k : Nat) (h1 : 1 ≤ k) (h2 : k ≤ 13) : Con1 Tryd.prog gl 49 [dint k] [] (dint k) [] := by
  refine t_in Tryd.func49 ?_
  intro X hP hgl hf hfn hn hR hids hfit
  refine t_rg0 ?_
  refine t_rg0 ?_
  refine t_a ?_
  refine t_sub [] trivial (W_rounds (fun i : Nat => 1 ≤ i ∧ i ≤ k) (fun i : Nat => [(.slot 0, .one (.v (dint k))), (.slot 3, .one (.v (dint i)))]) (fun i : Nat => k - i) 1 (⟨Nat.le_refl _, h1⟩) ?_)
  rintro i ⟨i1, i2⟩ ih
  have hg := opEls_get i i1 (by omega)
  have hle : (i : Int) < 14 := by omega
  have hle2 : (i : Nat) < 14 := by omega
  refine t_rg (j2 @hop @hg) ?_
  by_cases hik : i = k
  · subst hik
    refine t_no ?_
    refine t_g0 ?_
    refine t_r ?_
    simp [go_sem, hP, hgl, hn] <;> (try omega)
  · refine t_yes ?_
    refine t_rg0 ?_
    refine t_b ?_
    refine t_sub [] trivial (ih (i + 1) ⟨by omega, by omega⟩ (by omega))

theorem byterm_okI (hop : globOf gl 0 = some opEls) (k : Int) (h1 : 1 ≤ k) (h2 : k ≤ 13) : Con1 Tryd.prog gl 49 [dint k] [] (dint k) [] := by
  obtain ⟨n, rfl⟩ := Int.eq_ofNat_of_zero_le (by omega : 0 ≤ k)
  exact byterm_ok hop n (by omega) (by omega)
theorem kind_in {t : Tm} (h : t.shape = true) : 1 ≤ t.kind ∧ t.kind ≤ 13 := by
  rw [Tm.shape_eq, Bool.and_eq_true] at h
  have h1 := h.1
  simp only [tmKind, Bool.and_eq_true, decide_eq_true_eq] at h1
  have h2 := h1.1.1.1
  unfold arityI at h2
  repeat' split at h2
  all_goals omega
theorem W_cutM {α : Type} {X : Ctx} {k kk : List Item} {s : St} (E : α → Prop) (S : α → St) (h1 : (∀ x, E x → W X kk (S x)) → W X k s) (h2 : ∀ x, E x → W X kk (S x)) : W X k s := h1 h2
/-! emit: the block of a term is laid -/
def emV (bf bo bt be : Nat) : DV := .prim (.func (.func 48) #[] #[.pointer (some ⟨bf, 0, none⟩), .pointer (some ⟨bo, 0, none⟩), .pointer (some ⟨bt, 0, none⟩), .pointer (some ⟨be, 0, none⟩)])
/-- the objects: the boxes of functions, out, todo and emit, and the arrays of the first three -/
def emO (bf bo bt be : Nat) (vF vO vT : DV) (F O T : RS) : Objs := (bf, [vF]) :: (bo, [vO]) :: (bt, [vT]) :: (be, [emV bf bo bt be]) :: (F.objs ++ (O.objs ++ T.objs))
theorem emO_F (bf bo bt be : Nat) (vF vO vT : DV) (F O T : RS) : emO bf bo bt be vF vO vT F O T = [(bf, [vF]), (bo, [vO]), (bt, [vT]), (be, [emV bf bo bt be])] ++ (F.objs ++ (O.objs ++ T.objs)) := rfl
theorem emO_O (bf bo bt be : Nat) (vF vO vT : DV) (F O T : RS) : emO bf bo bt be vF vO vT F O T = ([(bf, [vF]), (bo, [vO]), (bt, [vT]), (be, [emV bf bo bt be])] ++ F.objs) ++ (O.objs ++ T.objs) := by simp [emO]
theorem emO_T (bf bo bt be : Nat) (vF vO vT : DV) (F O T : RS) : emO bf bo bt be vF vO vT F O T = ([(bf, [vF]), (bo, [vO]), (bt, [vT]), (be, [emV bf bo bt be])] ++ F.objs ++ O.objs) ++ (T.objs ++ []) := by simp [emO]
def rowsI (l : List Ins) : List (List DV) := l.map Ins.row
theorem rowsI_app (l m : List Ins) : rowsI (l ++ m) = rowsI l ++ rowsI m := List.map_append
theorem ints_app (l m : List Int) : ints (l ++ m) = ints l ++ ints m := by simp [ints]
/-- what emit leaves -/
def EmR (bf bo bt be : Nat) (fs : List Int) (os : List Ins) (ts : List Tm) (r : DV) (ψ : Objs) : Prop :=
  r = .tup [] ∧ ∃ F O T : RS, F.is 1 (ints fs) ∧ O.is 2 (rowsI os) ∧ T.is 5 (ts.map Tm.cells) ∧ (ψ.map (·.1)).Nodup ∧ ψ = emO bf bo bt be F.v O.v T.v F O T
theorem emO_get {bf bo bt be : Nat} {vF vO vT : DV} {F O T : RS} (h : ((emO bf bo bt be vF vO vT F O T).map (·.1)).Nodup) :
    get (heapSt (emO bf bo bt be vF vO vT F O T)) (.heap bf) = some (.row [.v vF]) ∧ get (heapSt (emO bf bo bt be vF vO vT F O T)) (.heap bo) = some (.row [.v vO]) ∧ get (heapSt (emO bf bo bt be vF vO vT F O T)) (.heap bt) = some (.row [.v vT]) ∧ get (heapSt (emO bf bo bt be vF vO vT F O T)) (.heap be) = some (.row [.v (emV bf bo bt be)]) ∧
    (∀ b, F.q = some b → get (heapSt (emO bf bo bt be vF vO vT F O T)) (.heap b) = some (.row (arrRow F.full))) ∧ (∀ b, O.q = some b → get (heapSt (emO bf bo bt be vF vO vT F O T)) (.heap b) = some (.row (arrRow O.full))) ∧ (∀ b, T.q = some b → get (heapSt (emO bf bo bt be vF vO vT F O T)) (.heap b) = some (.row (arrRow T.full))) := by
  have hm : ∀ b cs, (b, cs) ∈ emO bf bo bt be vF vO vT F O T → get (heapSt (emO bf bo bt be vF vO vT F O T)) (.heap b) = some (.row (cs.map SV.v)) := fun b cs hb => get_heapSt_of h hb
  refine ⟨hm bf [vF] (by simp [emO]), hm bo [vO] (by simp [emO]), hm bt [vT] (by simp [emO]), hm be [emV bf bo bt be] (by simp [emO]), fun b hb => hm b F.full.flatten ?_, fun b hb => hm b O.full.flatten ?_, fun b hb => hm b T.full.flatten ?_⟩
  · have := RS.mem_objs (x := F).2 ⟨hb, rfl⟩
    simp [emO, this]
  · have := RS.mem_objs (x := O).2 ⟨hb, rfl⟩
    simp [emO, this]
  · have := RS.mem_objs (x := T).2 ⟨hb, rfl⟩
    simp [emO, this]
/-- the objects' blocks are apart -/
theorem emO_ne {bf bo bt be : Nat} {vF vO vT : DV} {F O T : RS} (h : ((emO bf bo bt be vF vO vT F O T).map (·.1)).Nodup) :
    (bf ≠ bo ∧ bf ≠ bt ∧ bf ≠ be ∧ bo ≠ bt ∧ bo ≠ be ∧ bt ≠ be) ∧ (F.q ≠ some bf ∧ F.q ≠ some bo ∧ F.q ≠ some bt ∧ F.q ≠ some be) ∧ (O.q ≠ some bf ∧ O.q ≠ some bo ∧ O.q ≠ some bt ∧ O.q ≠ some be) ∧ (T.q ≠ some bf ∧ T.q ≠ some bo ∧ T.q ≠ some bt ∧ T.q ≠ some be) := by
  simp only [emO, List.map_cons, List.map_append, List.nodup_cons, List.mem_cons, List.mem_append, List.mem_map, not_or] at h
  obtain ⟨⟨a1, a2, a3, a4, a5, a6⟩, ⟨b2, b3, b4, b5, b6⟩, ⟨c3, c4, c5, c6⟩, ⟨d4, d5, d6⟩, -⟩ := h
  have key : ∀ {x : RS} {b : Nat}, (¬ ∃ p, p ∈ x.objs ∧ p.1 = b) → x.q ≠ some b := fun hh e => hh ⟨_, RS.mem_objs.2 ⟨e, rfl⟩, rfl⟩
  exact ⟨⟨a1, a2, a3, b2, b3, c3⟩, ⟨key a4, key b4, key c4, key d4⟩, ⟨key a5, key b5, key c5, key d5⟩, ⟨key a6, key b6, key c6, key d6⟩⟩
theorem len_counts (l : List Tm) : l.length ≤ Tm.count.counts l := by
  induction l with
  | nil => exact Nat.zero_le _
  | cons a r ih => have := Tm.count_eq a; simp only [Tm.count.counts, List.length_cons]; omega
theorem skels_le (l : List Tm) : (Tm.skel.skels l).length ≤ Tm.count.counts l := by
  induction l with
  | nil => exact Nat.zero_le _
  | cons a r ih => have := Tm.skel_count a; simp only [Tm.skel.skels, Tm.count.counts, List.length_append]; omega
theorem subs_le (t : Tm) : t.subs.length ≤ t.count := by
  have := Tm.skel_count t
  have := len_counts t.subs
  omega
theorem skel_le (t : Tm) : t.skel.length ≤ t.count := by
  have := Tm.skel_count t
  omega
theorem subss_le (l : List Tm) : (Tm.subs.subss l).length ≤ Tm.count.counts l := by
  induction l with
  | nil => exact Nat.zero_le _
  | cons a r ih => have := subs_le a; simp only [Tm.subs.subss, Tm.count.counts, List.length_append]; omega
theorem funPos_le (n : Nat) (c : List Ins) : (funPos n c).length ≤ c.length := by
  rw [funPos_length]
  exact List.length_filter_le _ _
theorem counts_at {l : List Tm} {i : Nat} {x : Tm} (h : l[i]? = some x) : l.take (i + 1) = l.take i ++ [x] ∧ Tm.count.counts (l.take i) + x.count ≤ Tm.count.counts l := by
  have h1 : l.take (i + 1) = l.take i ++ [x] := by rw [List.take_add_one, h]; rfl
  refine ⟨h1, ?_⟩
  have h2 := Tm.counts_app (l.take (i + 1)) (l.drop (i + 1))
  rw [List.take_append_drop, h1, Tm.counts_app] at h2
  simp only [Tm.count.counts] at h2
  omega
end Go.Proofs.YtmdjiajbnifjpaaDoor.Lift

/-
  Structs of two numbers, compared.
-/
namespace Go.Proofs.YtmdjiajbnifjpaaDoor.Lift
set_option linter.unusedSimpArgs false
set_option linter.unusedVariables false
set_option linter.unnecessarySimpa false
open Go
section
variable {X : Ctx} {s s0 : St} {k : List Item}

def intB (P : Program) (t : TypeId) : Bool :=
  match P.underlying t with
  | some (.int .i64) => true
  | _ => false
theorem intB_spec {P : Program} {t : TypeId} (h : intB P t = true) : P.underlying t = some (.int .i64) := by
  unfold intB at h
  split at h
  · assumption
  · cases h
/-- a struct of two numbers -/
def insT (P : Program) (T : TypeId) : Bool :=
  match P.underlying T with
  | some (.struct fs) => match fs.toList with
    | [f, g] => (f.name != "_") && ((g.name != "_") && ((f.offset == 0) && ((g.offset == 1) && (intB P f.type && (intB P g.type && (!(P.stoodInHeld T) && !(P.eqGuardType P.depth T)))))))
    | _ => false
  | _ => false
theorem insT_spec {P : Program} {T : TypeId} (h : insT P T = true) : ∃ f g : Field, P.underlying T = some (.struct #[f, g]) ∧ f.name ≠ "_" ∧ g.name ≠ "_" ∧ f.offset = 0 ∧ g.offset = 1 ∧ P.underlying f.type = some (.int .i64) ∧ P.underlying g.type = some (.int .i64) ∧ P.stoodInHeld T = false ∧ P.eqGuardType P.depth T = false := by
  unfold insT at h
  split at h
  · rename_i fs hu
    split at h
    · rename_i f g hl
      simp only [Bool.and_eq_true, bne_iff_ne, beq_iff_eq, Bool.not_eq_true'] at h
      obtain ⟨h1, h2, h3, h4, h5, h6, h7, h8⟩ := h
      have : fs = #[f, g] := by
        cases fs with
        | mk l => simp at hl; rw [hl]
      exact ⟨f, g, by rw [hu, this], h1, h2, h3, h4, intB_spec h5, intB_spec h6, h7, h8⟩
    · cases h
  · cases h
theorem run_partI {P : Program} {w : World} {t : TypeId} (ht : P.underlying t = some (.int .i64)) (cs : Array Value) (off : Nat) {v : Value} (h : cs[off]? = some v) : (part t cs off).run P w = .ok v w := by
  simp [part, isAgg, run_underlying ht, h]
theorem run_eqI {P : Program} {w : World} {t : TypeId} (ht : P.underlying t = some (.int .i64)) (d : Nat) (a b : Int) : (Op.equalIn (d + 1) t (.int .i64 a) (.int .i64 b)).run P w = .ok (a == b) w := by
  unfold Op.equalIn
  simp [run_underlying ht]
theorem run_eqS {P : Program} {w : World} {T : TypeId} (hT : insT P T = true) (a b c d : Int) (n : Nat) : (Op.equalIn (n + 2) T (.agg #[.int .i64 a, .int .i64 b]) (.agg #[.int .i64 c, .int .i64 d])).run P w = .ok ((a == c) && (b == d)) w := by
  obtain ⟨f, g, h1, h2, h3, h4, h5, h6, h7, h8, h9⟩ := insT_spec hT
  unfold Op.equalIn
  have e1 := fun (w : World) => run_partI (w := w) h6 #[.int .i64 a, .int .i64 b] f.offset (v := .int .i64 a) (by rw [h4]; rfl)
  have e2 := fun (w : World) => run_partI (w := w) h6 #[.int .i64 c, .int .i64 d] f.offset (v := .int .i64 c) (by rw [h4]; rfl)
  have e3 := fun (w : World) => run_partI (w := w) h7 #[.int .i64 a, .int .i64 b] g.offset (v := .int .i64 b) (by rw [h5]; rfl)
  have e4 := fun (w : World) => run_partI (w := w) h7 #[.int .i64 c, .int .i64 d] g.offset (v := .int .i64 d) (by rw [h5]; rfl)
  have e5 := fun (w : World) => run_eqI (w := w) h6 n a c
  have e6 := fun (w : World) => run_eqI (w := w) h7 n b d
  have hb1 : ∀ x y : Int, (x == y) = decide (x = y) := fun x y => by by_cases h : x = y <;> simp [h]
  simp only [hb1] at e5 e6
  by_cases k1 : a = c
  · have e5' := fun (w : World) => (e5 w).trans (by rw [decide_eq_true k1])
    by_cases k2 : b = d
    · have e6' := fun (w : World) => (e6 w).trans (by rw [decide_eq_true k2])
      have hr : ((a == c) && (b == d)) = true := by simp [k1, k2]
      rw [hr]
      simp [run_underlying h1, h8, h2, h3, e1, e2, e3, e4, e5', e6']
    · have e6' := fun (w : World) => (e6 w).trans (by rw [decide_eq_false k2])
      have hr : ((a == c) && (b == d)) = false := by simp [k2]
      rw [hr]
      simp [run_underlying h1, h8, h2, h3, e1, e2, e3, e4, e5', e6']
  · have e5' := fun (w : World) => (e5 w).trans (by rw [decide_eq_false k1])
    have hr : ((a == c) && (b == d)) = false := by simp [k1]
    rw [hr]
    simp [run_underlying h1, h8, h2, h3, e1, e2, e3, e4, e5']

/-- what a comparison of structs gives -/
def eqR (neq : Bool) (a b c d : Int) : Bool := if neq then !(decide (a = c) && decide (b = d)) else decide (a = c) && decide (b = d)
theorem agg2 {D : Nat → Nat → Prop} {w : World} {a b : Int} {v : Value} (h : RV D w (.agg [dint a, dint b]) v) : v = .agg #[.int .i64 a, .int .i64 b] := by
  cases h with
  | agg cs vs hl hcell h =>
    have h0 : 0 < vs.size := by rw [hl]; simp
    have h1 : 1 < vs.size := by rw [hl]; simp
    have e0 := (prim_of (h 0 (dint a) vs[0] rfl (by simp))).1
    have e1 := (prim_of (h 1 (dint b) vs[1] rfl (by simp))).1
    congr 1
    apply Array.ext
    · rw [hl]; rfl
    · intro i hi hj
      have : i = 0 ∨ i = 1 := by simp at hj; omega
      rcases this with rfl | rfl
      · exact e0
      · exact e1
theorem step_eqS {o : Oper} {neq : Bool} {T T2 : TypeId} {x y : Operand} (ho : o.op = .binOp (if neq then .neq else .eql) T x y T2) {d : Nat} (hd : o.dst = some d) (hn : d < X.n) (hT : insT X.P T = true) {a b c e : Int}
    (hx : (evl X (get s) x).bind toD = some (.agg [dint a, dint b])) (hy : (evl X (get s) y).bind toD = some (.agg [dint c, dint e])) : StepOK X s o (upd s (.slot d) (.one (.v (dbool (eqR neq a b c e))))) := by
  intro G ac w R next Q hK
  obtain ⟨x1, hx1, hx2⟩ := Option.bind_eq_some_iff.1 hx
  obtain ⟨y1, hy1, hy2⟩ := Option.bind_eq_some_iff.1 hy
  have hv := agg2 (toD_sound hx2 (evl_sound R hx1))
  have hw := agg2 (toD_sound hy2 (evl_sound R hy1))
  obtain ⟨f, g, h1, -, -, -, -, -, -, -, h9⟩ := insT_spec hT
  refine opIn (by intro c e; rw [ho] at e; cases e) ?_
  have hq := run_eqS (w := w) hT a b c e 9998
  have hrun : (Op.equal T (.agg #[.int .i64 a, .int .i64 b]) (.agg #[.int .i64 c, .int .i64 e])).run X.P w = .ok ((a == c) && (b == e)) w := hq
  have hb1 : ∀ x y : Int, (x == y) = decide (x = y) := fun x y => by by_cases h : x = y <;> simp [h]
  have hexec : (execOp ac.eval o).run X.P w = .ok (.value (.bool (eqR neq a b c e))) w := by
    cases neq
    · simp [execOp, ho, hv, hw, eqGuard, h9, Go.binOp, hrun, eqR, hb1]
    · simp [execOp, ho, hv, hw, eqGuard, h9, Go.binOp, hrun, eqR, hb1]
  rw [hexec, upn_value, hd]
  exact hK G _ w (R.setSlot (Trans.refl X G ac w R.nil) rfl rfl (fun _ h => h) hn (.prim _ trivial))
theorem vcK_eqS {esc : List Nat} {ops : Array Oper} {l : List Oper} {K : St → Prop} {d : Tmp} {T T2 ty : TypeId} {x y : Operand} {pos : String} {af : Array Edge} {q : Option (Prop × St)} (neq : Bool) {a b c e : Int} (hn : d < X.n) (hT : insT X.P T = true)
    (hx : (evl X (get s) x).bind toD = some (.agg [dint a, dint b])) (hy : (evl X (get s) y).bind toD = some (.agg [dint c, dint e])) {op : BinOp} (hop : op = if neq then .neq else .eql) (hq : q = none)
    (h : vc X esc ops l (upd s (.slot d) (.one (.v (dbool (eqR neq a b c e))))) K) : vcK X esc ops l K ⟨some d, .binOp op T x y T2, ty, pos, af, none⟩ s q := by
  subst hq hop
  exact VL_step rfl (step_eqS (neq := neq) (o := ⟨some d, .binOp (if neq then .neq else .eql) T x y T2, ty, pos, af, none⟩) rfl rfl hn hT hx hy) (vc_sound h)
theorem vcK_eqSG {esc : List Nat} {ops : Array Oper} {l : List Oper} {K : St → Prop} {d : Tmp} {T T2 ty : TypeId} {x y : Operand} {pos : String} {af : Array Edge} {q : Option (Prop × St)} {j dj : Nat} {want : Bool} (neq : Bool) {a b c e : Int} (hn : d < X.n) (hT : insT X.P T = true)
    (hx : (evl X (get s) x).bind toD = some (.agg [dint a, dint b])) (hy : (evl X (get s) y).bind toD = some (.agg [dint c, dint e])) {op : BinOp} (hop : op = if neq then .neq else .eql) (hq : q = none)
    (hj : gsl ops j = some dj) (hjn : dj < X.n) (hb : get s (.slot dj) = some (.one (.v (.prim (.bool want)))))
    (h : vc X esc ops l (upd s (.slot d) (.one (.v (dbool (eqR neq a b c e))))) K) : vcK X esc ops l K ⟨some d, .binOp op T x y T2, ty, pos, af, some (j, want)⟩ s q := by
  subst hq hop
  exact VL_op (opOK_of (.inr ⟨j, dj, want, rfl, hj, hjn, hb⟩) (step_eqS (neq := neq) (o := ⟨some d, .binOp (if neq then .neq else .eql) T x y T2, ty, pos, af, some (j, want)⟩) rfl rfl hn hT hx hy)) (vc_sound h)
end
end Go.Proofs.YtmdjiajbnifjpaaDoor.Lift

/-
  Package code: emit, walked.
-/
namespace Go.Proofs.YtmdjiajbnifjpaaDoor.Lift
set_option linter.unusedSimpArgs false
set_option linter.unusedVariables false
set_option linter.unnecessarySimpa false
open Go
variable {gl : Globs}

set_option maxHeartbeats 1000000 in
set_option maxRecDepth 10000 in
theorem emit_ok (hop : globOf gl 0 = some opEls) (t : Tm) (bf bo bt be : Nat) : ∀ (fs : List Int) (os : List Ins) (ts : List Tm) (F O T : RS), t.shape = true → t.count ≤ 1000000 → fs.length + t.count ≤ 1000000000 → os.length + t.count ≤ 1000000000 → ts.length + t.count ≤ 1000000000 →
    F.is 1 (ints fs) → O.is 2 (rowsI os) → T.is 5 (ts.map Tm.cells) → ((emO bf bo bt be F.v O.v T.v F O T).map (·.1)).Nodup →
    Con Tryd.prog gl 48 [t.dv, ptr bf, ptr bo, ptr bt, ptr be] (emO bf bo bt be F.v O.v T.v F O T) (EmR bf bo bt be (fs ++ funPos os.length t.skel) (os ++ t.skel) (ts ++ t.subs)) := by
  induction t using Tm.ind with
  | h t ih =>
  intro fs os ts F O T hs hc hfs hos hts hF hO hT hnd
  refine t_in Tryd.func48 ?_
  intro X hP hgl hf hfn hn hR hids hfit
  have hfo := Tm.fold t
  have hlen := Tm.fit_len (hfit t.dv (by simp))
  have hge := emO_get hnd
  have hne := emO_ne hnd
  simp only [entry, argSt, List.cons_append, List.nil_append]
  refine t_rg0 ?_
  refine t_rg0 ?_
  apply W_cutM (fun x : RS × RS × RS => x.1.is 1 (ints (fs ++ funPos os.length t.skel)) ∧ x.2.1.is 2 (rowsI (os ++ if t.kind = 2 then [] else Tm.skel.skels t.args)) ∧ x.2.2.is 5 ((ts ++ t.subs).map Tm.cells) ∧ ((emO bf bo bt be x.1.v x.2.1.v x.2.2.v x.1 x.2.1 x.2.2).map (·.1)).Nodup)
    (fun x => (.slot 1, .one (.v (ptr bf))) :: (.slot 2, .one (.v (ptr bo))) :: (.slot 3, .one (.v (ptr bt))) :: (.slot 4, .one (.v (ptr be))) :: (.slot 5, .one (.loc 5 0)) :: (.loc 5, .row [.v (dint t.kind), .v (dint t.index), .v (dint t.type.kind), .v (.sl (t.type.args.map Ty.cells)), .v (.sl (t.args.map Tm.cells))]) :: heapSt (emO bf bo bt be x.1.v x.2.1.v x.2.2.v x.1 x.2.1 x.2.2))
  · intro hrest
    by_cases h2 : t.kind = 2
    · refine t_yes ?_
      obtain ⟨a, ha⟩ : ∃ a, t.args = [a] := by
        have h1 := hs
        rw [Tm.shape_eq, Bool.and_eq_true] at h1
        have h1 := h1.1
        simp only [tmKind, h2, Bool.and_eq_true, decide_eq_true_eq, arityI] at h1
        exact List.length_eq_one_iff.1 (by have := h1.1.1.1; simp at this; omega)
      have hcnt := Tm.count_eq t
      refine t_a ?_
      refine W_regF (by rw [hP]; exact mixed) 11 4 _ (by decide) (by decide) rfl (by rfl) (d := 15) (by rw [hn]; exact Nat.le_of_ble_eq_true rfl) F.q (AppP X F.q 1 F.n F.full [[dint (os.length : Int)]]) fresh_app [] fun K hK => ?_
      have hOn : O.n = os.length := by rw [hO.n_eq]; simp [rowsI]
      have hFn : F.n = fs.length := by rw [hF.n_eq]; simp [ints]
      have hTn : T.n = ts.length := by rw [hT.n_eq]; simp
      simp [go_sem, hP, hgl, hn, hge, hne, ha, hOn, markO]
      refine ⟨by omega, ?_⟩
      refine vcdF_append (E := 1) (B := 8) (q := F.q) (n := F.n) (cap := F.cap) (full := F.full) (zs := [[dint (os.length : Int)]]) (zd := [dint 0]) (by simp [go_sem, hP, hgl, hn]) (by simp [go_sem, hP, hgl, hn]) (by simp [go_sem, hP]) (by rw [hP]; kernel_rfl) rfl (by decide) (by rw [hP]; rfl) (by rw [hn]; exact Nat.le_of_ble_eq_true rfl) (fun b hb => by simp [go_sem, hge, hb]) hF.nil hF.len hF.le (by simp) (by simp [hFn]; unfold BIG; omega) hF.wid (by simp) ?_
      simp [go_sem, hP, hgl, hn, hge, hne, ha, hOn]
      refine ⟨by generalize F.q = q; cases q <;> rfl, by simp [evFree, evFree.evFree', allL, freeR, freeW, wrL, hne], ?_⟩
      intro y b cs hap hnew
      obtain ⟨F', hq', rfl, rfl, hF'⟩ := hF.app hap
      have hnew' := newA_objs (by repeat (first | exact Tail.nil _ | apply Tail.slot | apply Tail.loc)) hnd hnew
      refine VL_eff F' (emO bf bo bt be F.v O.v T.v F' O T) (by repeat (first | exact Tail.nil _ | apply Tail.slot | apply Tail.loc)) (emO_F ..) (emO_F ..) hnd hq' hnew' fun hnd1 => vc_sound (esc := [22]) ?_
      have hge1 := emO_get hnd1
      have hne1 := emO_ne hnd1
      simp [go_sem, hP, hgl, hn, hge1, hne1, ha, hOn]
      refine vcK_eff (x := T) (E := 5) (zs := [[dint a.kind, dint a.index, dint a.type.kind, .sl (a.type.args.map Ty.cells), .sl (a.args.map Tm.cells)]]) (fun T' => emO bf bo bt be F.v O.v T.v F' O T') rfl (by repeat (first | exact Tail.nil _ | apply Tail.slot | apply Tail.loc)) (emO_T ..) (fun _ => emO_T ..) hnd1 hT (free_append (E := 5) (B := 72) (zd := [dint 0, dint 0, dint 0, .sl [], .sl []]) rfl rfl (by rw [hn]; exact Nat.le_of_ble_eq_true rfl) (by simp [go_sem, hP]) (by decide) (by rw [hP]; rfl) (by simp [go_sem, hP, hgl, hn]) (by simp [go_sem, hP, hgl, hn]) (fun b hb => by simp [go_sem, hge1, hb]) hT.nil hT.len hT.le (by simp) (by simp [hTn]; unfold BIG; omega) hT.wid (by simp) (by rw [hP]; kernel_rfl) rfl) rfl ?_
      intro T' hT' hqT hnd2
      have hge2 := emO_get hnd2
      have hne2 := emO_ne hnd2
      simp only [go_sem, List.cons_append, List.nil_append]
      refine VL_boxT (agg := false) (b := bf) (c := F.v) (d := F'.v) (A := []) (B := (bo, [O.v]) :: (bt, [T.v]) :: (be, [emV bf bo bt be]) :: (F'.objs ++ (O.objs ++ T'.objs))) (emO bf bo bt be F'.v O.v T.v F' O T') (by repeat (first | exact Tail.nil _ | apply Tail.slot | apply Tail.loc)) rfl rfl hnd2 (by simp [go_sem]) (by simp [go_sem]) (by simp [go_sem, hP]) rfl rfl fun hnd3 => ?_
      simp only [List.cons_append, List.nil_append]
      refine VL_boxT (agg := false) (b := bt) (c := T.v) (d := T'.v) (A := [(bf, [F'.v]), (bo, [O.v])]) (B := (be, [emV bf bo bt be]) :: (F'.objs ++ (O.objs ++ T'.objs))) (emO bf bo bt be F'.v O.v T'.v F' O T') (by repeat (first | exact Tail.nil _ | apply Tail.slot | apply Tail.loc)) rfl rfl hnd3 (by simp [go_sem]) (by simp [go_sem]) (by simp [go_sem, hP]) rfl rfl fun hnd4 => ?_
      simp only [List.cons_append, List.nil_append]
      refine VL_nil (hK _ ?_)
      clear hK K
      have e1 : funPos os.length t.skel = [(os.length : Int)] := by rw [Tm.skel_eq, if_pos h2]; rfl
      have e2 : t.subs = [a] := by rw [Tm.subs_eq, if_pos h2, ha]
      refine W_sub [] (by simp [go_sem]) ?_ (by simp [go_sem]) (hrest (F', O, T') ⟨?_, ?_, ?_, hnd4⟩)
      · simp [go_sem, subLe_hs_self _ hnd4, ha, Tm.cells_eq]
      · rw [e1, ints_app]; exact hF'
      · simp only [if_pos h2, List.append_nil]; exact hO
      · rw [e2, List.map_append]; rw [List.map_cons, List.map_nil, Tm.cells_eq]; exact hT'
    · refine t_no ?_
      refine t_rg0 ?_
      refine t_a ?_
      have hcnt := Tm.count_eq t
      have hsh := (Tm.shapes_iff _).1 ((Bool.and_eq_true _ _ ▸ (Tm.shape_eq t ▸ hs : _ = true) : _ ∧ _).2)
      refine W_sub [] (by simp [go_sem]) ?_ (by simp [go_sem]) (W_rounds
        (fun x : Nat × RS × RS × RS => x.1 ≤ t.args.length ∧ x.2.1.is 1 (ints (fs ++ funPos os.length (Tm.skel.skels (t.args.take x.1)))) ∧ x.2.2.1.is 2 (rowsI (os ++ Tm.skel.skels (t.args.take x.1))) ∧ x.2.2.2.is 5 ((ts ++ Tm.subs.subss (t.args.take x.1)).map Tm.cells) ∧ ((emO bf bo bt be x.2.1.v x.2.2.1.v x.2.2.2.v x.2.1 x.2.2.1 x.2.2.2).map (·.1)).Nodup)
        (fun x => (.slot 1, .one (.v (ptr bf))) :: (.slot 2, .one (.v (ptr bo))) :: (.slot 3, .one (.v (ptr bt))) :: (.slot 4, .one (.v (ptr be))) :: (.slot 24, .one (.v (.sl (t.args.map Tm.cells)))) :: (.slot 25, .one (.v (dint t.args.length))) :: (.slot 26, .one (.v (dint x.1))) :: (.slot 5, .one (.loc 5 0)) :: (.loc 5, .row [.v (dint t.kind), .v (dint t.index), .v (dint t.type.kind), .v (.sl (t.type.args.map Ty.cells)), .v (.sl (t.args.map Tm.cells))]) :: heapSt (emO bf bo bt be x.2.1.v x.2.2.1.v x.2.2.2.v x.2.1 x.2.2.1 x.2.2.2))
        (fun x => t.args.length - x.1) (0, F, O, T) ⟨Nat.zero_le _, ?_, ?_, ?_, hnd⟩ ?_)
      · simp [go_sem, subLe_hs_self _ hnd]
      · simpa [Tm.skel.skels, funPos] using hF
      · simpa [Tm.skel.skels] using hO
      · simpa [Tm.subs.subss] using hT
      · rintro ⟨i, F1, O1, T1⟩ ⟨i1, i2, i3, i4, i5⟩ ihr
        simp only at i1 i2 i3 i4 i5
        have hg1 := emO_get i5
        rcases Nat.lt_or_ge i t.args.length with hlt | hgt
        · obtain ⟨x, hx⟩ : ∃ x, t.args[i]? = some x := ⟨_, List.getElem?_eq_getElem hlt⟩
          have hxm := List.mem_of_getElem? hx
          refine t_rg0 ?_
          refine t_yes ?_
          refine t_rg @hx ?_
          obtain ⟨ht1, hcx⟩ := counts_at hx
          have b1 := skels_le (t.args.take i)
          have b2 := subss_le (t.args.take i)
          have b3 := funPos_le os.length (Tm.skel.skels (t.args.take i))
          refine t_a ?_
          refine W_reg [] fun K hK => ?_
          simp [go_sem, hP, hgl, hn, hg1]
          repeat (refine ⟨by omega, ?_⟩)
          refine vcK_callVT hP hgl (f := 48) (fi := #[]) (ca := #[.pointer (some ⟨bf, 0, none⟩), .pointer (some ⟨bo, 0, none⟩), .pointer (some ⟨bt, 0, none⟩), .pointer (some ⟨be, 0, none⟩)]) (by simp [go_sem, emV]) (by simp [primOK]) (ih x hxm _ _ _ F1 O1 T1 (hsh x hxm) (by omega) (by rw [List.length_append]; omega) (by rw [List.length_append]; omega) (by rw [List.length_append]; omega) i2 i3 i4 i5) (by simp [go_sem]; rfl) (by simp [Tm.dv]) (by repeat (first | exact Tail.nil _ | apply Tail.slot | apply Tail.loc)) i5 (by rw [hn]; exact Nat.le_of_ble_eq_true rfl) rfl ?_
          rintro r ψ ⟨rfl, F2, O2, T2, q1, q2, q3, q4, rfl⟩
          refine ⟨q4, ?_⟩
          simp [go_sem]
          refine hK _ ?_
          clear hK K
          refine t_rg0 ?_
          refine t_b ?_
          refine W_sub [] (by simp [go_sem]) ?_ (by simp [go_sem]) (ihr (i + 1, F2, O2, T2) ⟨hlt, ?_, ?_, ?_, q4⟩ (by simp only; omega))
          · simp [go_sem, subLe_hs_self _ q4]
          · rw [ht1, Tm.skels_append, funPos_append]
            simpa [Tm.skel.skels] using q1
          · rw [ht1, Tm.skels_append]
            simpa [Tm.skel.skels] using q2
          · rw [ht1, Tm.subss_append]
            simpa [Tm.subs.subss] using q3
        · have hie : i = t.args.length := by omega
          refine t_rg0 ?_
          refine t_no ?_
          refine t_b ?_
          have e1 : funPos os.length t.skel = funPos os.length (Tm.skel.skels t.args) := by rw [Tm.skel_eq, if_neg h2, funPos_append]; simp [funPos, h2]
          have e2 : t.subs = Tm.subs.subss t.args := by rw [Tm.subs_eq, if_neg h2]
          rw [hie, List.take_length] at i2 i3 i4
          refine W_sub [] (by simp [go_sem]) ?_ (by simp [go_sem]) (hrest (F1, O1, T1) ⟨?_, ?_, ?_, i5⟩)
          · simp [go_sem, subLe_hs_self _ i5]
          · rw [e1]; exact i2
          · simp only [if_neg h2]; exact i3
          · rw [e2]; exact i4
  · rintro ⟨F1, O1, T1⟩ ⟨i2, i3, i4, i5⟩
    simp only at i2 i3 i4 i5
    have hg1 := emO_get i5
    have hn1 := emO_ne i5
    obtain ⟨hk1, hk2⟩ := kind_in hs
    have hOn : O1.n ≤ os.length + t.count := by
      rw [i3.n_eq]
      simp only [rowsI, List.length_map, List.length_append]
      have b1 := skels_le t.args
      have hcnt := Tm.count_eq t
      split
      · simp
      · omega
    refine t_a ?_
    refine W_regT (by rw [hP]; exact mixed) 8 (by decide) (by rfl) [] [42] fun K hK => ?_
    simp [go_sem, hP, hgl, hn, hg1]
    refine t_c trivial (byterm_okI hop t.kind hk1 hk2) ?_
    repeat (refine ⟨by omega, ?_⟩)
    refine ⟨by rfl, ?_⟩
    refine vcK_eff (x := O1) (E := 2) (zs := [[dint t.kind, dint t.index]]) (fun O2 => emO bf bo bt be F1.v O1.v T1.v F1 O2 T1) rfl (by repeat (first | exact Tail.nil _ | apply Tail.slot | apply Tail.loc)) (emO_O ..) (fun _ => emO_O ..) i5 i3 (free_append (E := 2) (B := 16) (zd := [dint 0, dint 0]) rfl rfl (by rw [hn]; exact Nat.le_of_ble_eq_true rfl) (by simp [go_sem, hP]) (by decide) (by rw [hP]; rfl) (by simp [go_sem, hP, hgl, hn]) (by simp [go_sem, hP, hgl, hn]) (fun b hb => by simp [go_sem, hg1, hb]) i3.nil i3.len i3.le (by simp) (by simp; unfold BIG; omega) i3.wid (by simp) (by rw [hP]; kernel_rfl) rfl) rfl ?_
    intro O2 hO2 hq hnd2
    simp only [go_sem, List.cons_append, List.nil_append]
    refine VL_boxT (agg := false) (b := bo) (c := O1.v) (d := O2.v) (A := [(bf, [F1.v])]) (B := (bt, [T1.v]) :: (be, [emV bf bo bt be]) :: (F1.objs ++ (O2.objs ++ T1.objs))) (emO bf bo bt be F1.v O2.v T1.v F1 O2 T1) (by repeat (first | exact Tail.nil _ | apply Tail.slot | apply Tail.loc)) rfl rfl hnd2 (by simp [go_sem]) (by simp [go_sem]) (by simp [go_sem, hP]) rfl rfl fun hnd3 => ?_
    simp only [List.cons_append, List.nil_append]
    refine VL_nil (hK _ ?_)
    clear hK K
    refine t_a ?_
    refine W_endR hP hf hfn (.tup []) (emO bf bo bt be F1.v O2.v T1.v F1 O2 T1) (by simp [go_sem, hP, hgl, hn]) ?_ hnd3 ?_ hR.2
    · repeat (first | exact objsIn_self hnd3 | refine objsIn_slot ?_ | refine objsIn_loc ?_)
    · rw [hR.1]
      refine ⟨rfl, F1, O2, T1, i2, ?_, i4, hnd3, rfl⟩
      have e1 : t.skel = (if t.kind = 2 then [] else Tm.skel.skels t.args) ++ [(t.kind, t.index)] := by
        rw [Tm.skel_eq]
        by_cases h2 : t.kind = 2
        · simp [h2]
        · rw [if_neg h2, if_neg h2]
      rw [e1, ← List.append_assoc, rowsI_app]
      exact hO2
end Go.Proofs.YtmdjiajbnifjpaaDoor.Lift

/-
  Package code: Compile, walked: the rounds over what is to be laid.
-/
namespace Go.Proofs.YtmdjiajbnifjpaaDoor.Lift
set_option linter.unusedSimpArgs false
set_option linter.unusedVariables false
set_option linter.unnecessarySimpa false
open Go
variable {gl : Globs}

theorem bfs_len (t : Tm) : (Tm.bfs [t]).length ≤ t.count := by
  have h := Tm.bfs_count [t]
  simp only [Tm.count.counts, Nat.add_zero] at h
  rw [← h]
  generalize Tm.bfs [t] = l
  induction l with
  | nil => exact Nat.zero_le _
  | cons a r ih => have := Tm.skel_pos a; simp only [List.map_cons, List.flatten_cons, List.length_append, List.length_cons]; omega
theorem bfs_mem : ∀ (q : List Tm) (x : Tm), x ∈ Tm.bfs q → x.count ≤ Tm.count.counts q
  | [], x, h => by rw [Tm.bfs_nil] at h; cases h
  | t :: r, x, h => by
    rw [Tm.bfs_cons] at h
    have h1 := Tm.skel_count t
    have h2 := Tm.skel_pos t
    rcases List.mem_cons.1 h with rfl | h
    · simp only [Tm.count.counts]; omega
    · have := bfs_mem (r ++ t.subs) x h
      rw [Tm.counts_app] at this
      simp only [Tm.count.counts]
      omega
termination_by q => Tm.count.counts q
decreasing_by
  have := Tm.skel_count t
  have := Tm.skel_pos t
  simp only [Tm.counts_app, Tm.count.counts]
  omega
/-- what is laid before round i -/
def Tm.laid (t : Tm) (i : Nat) : List (List Ins) := ((Tm.bfs [t]).take i).map Tm.skel
/-- what stands in todo before round i -/
def Tm.todo (t : Tm) (i : Nat) : List Tm := t :: ((Tm.bfs [t]).take i).flatMap Tm.subs
theorem laid_length (t : Tm) {i : Nat} (h : i ≤ (Tm.bfs [t]).length) : (t.laid i).length = i := by simp [Tm.laid, h]
theorem todo_at (t : Tm) {i : Nat} (h : i ≤ (Tm.bfs [t]).length) :
    (i = (Tm.bfs [t]).length ∧ (t.todo i).length = i) ∨ ∃ x, i < (t.todo i).length ∧ (t.todo i)[i]? = some x ∧ (Tm.bfs [t])[i]? = some x ∧ t.laid (i + 1) = t.laid i ++ [x.skel] ∧ t.todo (i + 1) = t.todo i ++ x.subs ∧ i + 1 ≤ (Tm.bfs [t]).length := by
  obtain ⟨r, h1, h2⟩ := bfs_take i [t] h
  have h1' : (Tm.bfs [t]).take i ++ r = t.todo i := h1
  have hl : ((Tm.bfs [t]).take i).length = i := by simp [h]
  cases r with
  | nil =>
    rw [Tm.bfs_nil, List.append_nil] at h2
    rw [List.append_nil] at h1'
    refine .inl ⟨?_, by rw [← h1', hl]⟩
    have := congrArg List.length h2
    rw [hl] at this
    exact this.symm
  | cons x r =>
    have hx : (Tm.bfs [t])[i]? = some x := by
      rw [h2, List.getElem?_append_right (by omega), hl, Nat.sub_self, Tm.bfs_cons]; rfl
    have ht : (Tm.bfs [t]).take (i + 1) = (Tm.bfs [t]).take i ++ [x] := by rw [List.take_add_one, hx]; rfl
    refine .inr ⟨x, ?_, ?_, hx, ?_, ?_, (List.getElem?_eq_some_iff.1 hx).1⟩
    · rw [← h1', List.length_append, hl]; simp
    · rw [← h1', List.getElem?_append_right (by omega), hl, Nat.sub_self]; rfl
    · simp [Tm.laid, ht]
    · simp [Tm.todo, ht]
theorem todo_bfs (t : Tm) (i : Nat) : (t.todo i).length ≤ t.count := by
  have h1 : (Tm.bfs [t]).length = 1 + ((Tm.bfs [t]).flatMap Tm.subs).length := by
    conv => lhs; rw [Tm.bfs_eq]
    simp; omega
  have h2 : (((Tm.bfs [t]).take i).flatMap Tm.subs).length ≤ ((Tm.bfs [t]).flatMap Tm.subs).length := by
    conv => rhs; rw [← List.take_append_drop i (Tm.bfs [t])]
    rw [List.flatMap_append, List.length_append]
    exact Nat.le_add_right _ _
  have h3 := bfs_len t
  simp only [Tm.todo, List.length_cons]
  omega
theorem laid_le (t : Tm) {i : Nat} (h : i ≤ (Tm.bfs [t]).length) : (lay (t.laid i)).length ≤ t.count + i := by
  rw [lay_length, laid_length t h]
  have h1 := Tm.bfs_count [t]
  simp only [Tm.count.counts, Nat.add_zero] at h1
  have h2 : ((t.laid i).flatten).length ≤ (((Tm.bfs [t]).map Tm.skel).flatten).length := by
    conv => rhs; rw [← List.take_append_drop i (Tm.bfs [t])]
    rw [List.map_append, List.flatten_append, List.length_append]
    exact Nat.le_add_right _ _
  omega
theorem todo_funs (t : Tm) (h : t.shape = true) (i : Nat) : (t.todo i).length = 1 + funs (lay (t.laid i)) := by
  rw [Tm.todo, Tm.laid, funs_lay_skel _ fun x hx => bfs_shape [t] (by simpa using h) x (List.mem_of_mem_take hx)]
  simp; omega
/-- a function's number is put in: the i-th function has the place of block i + 1 -/
theorem partC_put (bs : List (List Ins)) {m : Nat} (hb : bs.length = m + 1) (hm : m < funs (lay bs)) : ∃ i : Nat, (funPos 0 (lay bs))[m]? = some (i : Int) ∧ i < (partC bs).length ∧ (∃ a, (partC bs)[i]? = some (2, a)) ∧
    (partC bs).set i (2, ((lay bs).length : Nat)) = fillF (fun j => if j < m + 1 then ((startAt bs (j + 1) : Nat) : Int) else 0) 0 (lay bs) := by
  obtain ⟨i, h1, h2, h3, h4⟩ := funPos_set (fun j => if j + 1 < bs.length then ((startAt bs (j + 1) : Nat) : Int) else 0) (lay bs) 0 0 m hm
  refine ⟨i, by simpa using h1, by rw [partC, fillF_length]; exact h2, ⟨_, h3⟩, ?_⟩
  rw [partC, h4]
  refine fillF_congr fun j hj => ?_
  simp only [Nat.zero_add]
  by_cases e : j = m
  · subst e
    rw [if_pos rfl, if_pos (by omega)]
    have := startAt_all bs
    rw [hb] at this
    rw [this]
  · rw [if_neg e]
    by_cases h : j + 1 < bs.length
    · rw [if_pos h, if_pos (by omega)]
    · rw [if_neg h, if_neg (by omega)]
/-- a block is laid -/
theorem partC_lay (bs : List (List Ins)) (x : Tm) (hx : x.shape = true) {m : Nat} (hb : bs.length = m) (hm : m ≤ funs (lay bs)) :
    fillF (fun j => if j < m then ((startAt bs (j + 1) : Nat) : Int) else 0) 0 (lay bs) ++ x.skel ++ [(14, 0)] = partC (bs ++ [x.skel]) := by
  have h0 : ∀ (p : Nat → Int) (c : List Ins) (j : Nat), (∀ y ∈ c, y.1 = 2 → y.2 = 0) → (∀ k, j ≤ k → p k = 0) → fillF p j c = c := by
    intro p c
    induction c with
    | nil => intro _ _ _; rfl
    | cons y r ih =>
      obtain ⟨o, a⟩ := y
      intro j h1 h2
      simp only [fillF]
      split
      · rename_i ho
        have := h1 (o, a) (by simp) ho
        simp only at this
        rw [h2 j (Nat.le_refl _), ih (j + 1) (fun y hy => h1 y (by simp [hy])) (fun k hk => h2 k (by omega)), ho, this]
      · rw [ih j (fun y hy => h1 y (by simp [hy])) h2]
  rw [partC, lay_append, lay_one, fillF_append, Nat.zero_add, List.append_assoc]
  congr 1
  · refine fillF_congr fun j hj => ?_
    simp only [Nat.zero_add, List.length_append, List.length_singleton, hb]
    by_cases h : j < m
    · rw [if_pos h, if_pos (by omega), startAt_app _ _ (by omega)]
    · rw [if_neg h, if_neg (by omega)]
  · symm
    refine h0 _ _ _ (fun y hy h2 => ?_) fun k hk => ?_
    · rcases List.mem_append.1 hy with hy | hy
      · have := (skel_ok x hx y hy).2.2
        rw [if_neg (by omega)] at this
        exact this
      · rw [List.mem_singleton.1 hy]
    · rw [if_neg (by simp [hb]; omega)]
theorem partC_all (t : Tm) (h : t.shape = true) : partC (t.laid (Tm.bfs [t]).length) = t.codeN := by
  have e : t.laid (Tm.bfs [t]).length = t.blocks := by rw [Tm.laid, List.take_length]; rfl
  rw [e, partC, Tm.codeN, prog]
  have hf := blocks_funs t h
  refine fillF_congr fun j hj => ?_
  simp only [Nat.zero_add]
  rw [if_pos (by omega)]
theorem funPos_lay (bs : List (List Ins)) (b : List Ins) : funPos 0 (lay (bs ++ [b])) = funPos 0 (lay bs) ++ funPos (lay bs).length b := by
  rw [lay_append, lay_one, funPos_append, funPos_append, Nat.zero_add]
  simp [funPos]
end Go.Proofs.YtmdjiajbnifjpaaDoor.Lift

/-
  Maps from numbers, in the small logic: made, looked into, written; a piece of a raw slice, copied into data; structs compared.
-/
namespace Go.Proofs.YtmdjiajbnifjpaaDoor.Lift
set_option linter.unusedSimpArgs false
set_option linter.unusedVariables false
set_option linter.unnecessarySimpa false
open Go
section
variable {X : Ctx} {s s0 : St} {k : List Item}

/-- what a map holds at a number -/
def lookM : List (Int × DV) → Int → Option DV
  | [], _ => none
  | (k, d) :: r, n => if n = k then some d else lookM r n
def mapT (P : Program) (T : TypeId) : Bool :=
  match P.underlying T with
  | some (.map key _) => match P.underlying key with
    | some (.int .i64) => true
    | _ => false
  | _ => false
theorem mapT_spec {P : Program} {T : TypeId} (h : mapT P T = true) : ∃ key e, P.underlying T = some (.map key e) ∧ P.underlying key = some (.int .i64) := by
  unfold mapT at h
  split at h
  · rename_i key e hu
    split at h
    · rename_i hk; exact ⟨key, e, hu, hk⟩
    · cases h
  · cases h
theorem find_look {G : Gh} {w : World} (n : Int) : ∀ (ml : List (Int × DV)) (es : List MapEntry) (j : Nat), es.length = ml.length → (∀ (i : Nat) (k : Int) (d : DV) (e : MapEntry), ml[i]? = some (k, d) → es[i]? = some e → e.key = .int .i64 k ∧ RV G.D w d e.val) →
    (∀ d, lookM ml n = some d → ∃ r v, Instr.findNow (.int .i64) (.int .i64 n) es j = some (some (r, v)) ∧ RV G.D w d v) ∧ (lookM ml n = none → Instr.findNow (.int .i64) (.int .i64 n) es j = some none)
  | [], [], j, _, _ => ⟨fun d h => (nomatch h), fun _ => rfl⟩
  | [], e :: es, j, h, _ => by simp at h
  | (k, d) :: ml, [], j, h, _ => by simp at h
  | (k, d) :: ml, e :: es, j, hl, h => by
    obtain ⟨h1, h2⟩ := h 0 k d e rfl rfl
    have ih := find_look n ml es (j + 1) (by simpa using hl) fun i k d e hi he => h (i + 1) k d e (by simpa using hi) (by simpa using he)
    unfold Instr.findNow
    simp only [h1, Instr.sameNow, if_true, lookM]
    by_cases hk : n = k
    · subst hk
      rw [if_pos rfl]
      simp only [beq_self_eq_true]
      exact ⟨fun d' hd => (by cases hd; exact ⟨j, e.val, rfl, h2⟩), fun hd => nomatch hd⟩
    · rw [if_neg hk]
      have : (n == k) = false := by simpa using hk
      rw [this]
      exact ih
theorem run_getMap {P : Program} {w : World} {r : Nat} {es : Array MapEntry} {clock : Nat} (hb : w.heap[r]? = some (.map es clock)) : (getObj r).run P w = .ok (.map es clock) w := by
  simp [getObj, Sem.run, hb]
theorem run_setMap {P : Program} {w : World} {r : Nat} {es : Array MapEntry} {clock : Nat} (o : Obj) (hb : w.heap[r]? = some (.map es clock)) : (setObj r o).run P w = .ok () { w with heap := w.heap.setIfInBounds r o } := by
  simp [setObj, Sem.run, hb]
theorem run_checkN {P : Program} {w : World} {key : TypeId} (hk : P.underlying key = some (.int .i64)) (e : Bool) (n : Int) (m : Nat) : (Instr.checkKey e (m + 1) key (.int .i64 n)).run P w = .ok () w := by
  unfold Instr.checkKey
  simp only [Sem.run_bind, run_underlying hk, Result.andThen, Sem.run_pure]
theorem run_checkInt {P : Program} {w : World} {key : TypeId} (hk : P.underlying key = some (.int .i64)) (e : Bool) (n : Int) : (Instr.checkKey e 10000 key (.int .i64 n)).run P w = .ok () w := run_checkN hk e n 9999
theorem run_findInt {P : Program} {w : World} {key : TypeId} {k : Value} {l : List MapEntry} {a : Option (Nat × Value)} (hd : P.underlying key = some (.int .i64)) (h : Instr.findNow (.int .i64) k l 0 = some a) : (Instr.findKey key k l).run P w = .ok a w := by
  simp [Instr.findKey, run_underlying hd, Result.andThen, h]

theorem step_makeMap {o : Oper} {T : TypeId} (ho : o.op = .makeMap T none) {d : Nat} (hd : o.dst = some d) (hn : d < X.n) {G : Gh} {a : Act} {w : World} (R : Rel X G s a w) (next : Act → World → Prop) (Q : Exit → Act → World → Prop)
    (hK : ∀ b, newB b s → X.w0.heap.size ≤ b → ∀ G' a' w', Rel X G' (upd (upd s (.slot d) (.one (.v (.prim (.map (some b)))))) (.heap b) (.mp [])) a' w' → next a' w') : o.wpIn X.F 0 X.P a w next Q := by
  refine opIn (by intro c e; rw [ho] at e; cases e) ?_
  have hexec : (execOp a.eval o).run X.P w = .ok (.value (.map (some w.heap.size))) (w.alloc (.map #[] 0)) := by
    simp [execOp, ho, Instr.makeMap]
  rw [hexec, upn_value, hd]
  have hp := put_tmps a (some d) (.map (some w.heap.size))
  have T' : Trans X G a w G (a.put (some d) (.map (some w.heap.size))) (w.alloc (.map #[] 0)) (fun _ => False) :=
    ⟨hp.1, fun h => (h.heap fun b hb => alloc_old w _ b hb).put hp.2, rfl, rfl, rfl, by simp, fun b hb _ => alloc_old w _ b hb, fun _ h => h.elim, fun b k hD => ⟨hD, World.cell?_alloc_lt w _ _ (R.wf.lt hD)⟩, fun b k hD hnD => absurd hD hnD, R.nil⟩
  refine hK w.heap.size (newB_size R) R.ext.size G _ _ ?_
  refine R.step T' (fun l u => (l = .slot d ∧ u = .one (.v (.prim (.map (some w.heap.size))))) ∨ (l = .heap w.heap.size ∧ u = .mp [])) (fun l u h => ?_) (fun l u h => ?_) (fun l u l' u' b h h' hb hb' => ?_)
  · rw [get_upd, get_upd] at h
    by_cases h1 : Loc.heap w.heap.size = l
    · rw [if_pos h1] at h; cases h; exact .inl (.inr ⟨h1.symm, rfl⟩)
    · rw [if_neg h1] at h
      by_cases h3 : Loc.slot d = l
      · rw [if_pos h3] at h; cases h; exact .inl (.inl ⟨h3.symm, rfl⟩)
      · rw [if_neg h3] at h
        exact .inr ⟨h, fun n hn => put_get_ne _ _ _ _ (fun e => h3 (by rw [hn, e])), fun b hb hBb => hBb.elim, fun _ _ => rfl, fun _ _ => rfl⟩
  · rcases h with ⟨rfl, rfl⟩ | ⟨rfl, rfl⟩
    · refine ⟨?_, fun b hb => by cases hb⟩
      show RSV G _ (.v _) _
      rw [put_get_same _ _ _ (by rw [R.size]; exact hn)]
      exact .prim _ trivial
    · refine ⟨⟨#[], 0, alloc_new w _, rfl, fun i k d e hi => by simp at hi⟩, fun b hb => ?_⟩
      cases hb
      exact ⟨.inl (Nat.le_refl _), .inl R.ext.size, fun _ o hD => absurd (R.wf.lt hD) (Nat.lt_irrefl _)⟩
  · rcases h with ⟨rfl, rfl⟩ | ⟨rfl, rfl⟩
    · cases hb
    · rcases h' with ⟨rfl, rfl⟩ | ⟨rfl, rfl⟩
      · cases hb'
      · rfl
theorem vcK_makeMap {esc : List Nat} {ops : Array Oper} {l : List Oper} {K : St → Prop} {d : Tmp} {T ty : TypeId} {pos : String} {af : Array Edge} {q : Option (Prop × St)} (hn : d < X.n) (hq : q = none)
    (h : ∀ b, newB b s → X.w0.heap.size ≤ b → vc X esc ops l (upd (upd s (.slot d) (.one (.v (.prim (.map (some b)))))) (.heap b) (.mp [])) K) : vcK X esc ops l K ⟨some d, .makeMap T none, ty, pos, af, none⟩ s q := by
  subst hq
  intro m hm G a w R0
  obtain ⟨p1, p3⟩ := drop_cons hm
  simp only [List.length_cons, List.range'_succ, wpOpsIn, p1, Region.wanted, if_true]
  exact step_makeMap (o := ⟨some d, .makeMap T none, ty, pos, af, none⟩) rfl rfl hn R0 _ _ fun b hb hw G' a' w' R' => vc_sound (h b hb hw) (m + 1) p3 G' a' w' R'

/-- a number that is there is looked up -/
theorem step_lookup {o : Oper} {T : TypeId} {x i : Operand} (ho : o.op = .lookup T x i false) {d : Nat} (hd : o.dst = some d) (hn : d < X.n) (hT : mapT X.P T = true) {b : Nat} {n : Int} {ml : List (Int × DV)} {dv : DV}
    (hx : evl X (get s) x = some (.v (.prim (.map (some b))))) (hi : evl X (get s) i = some (.v (.prim (.int .i64 n)))) (hm : get s (.heap b) = some (.mp ml)) (hl : lookM ml n = some dv) : StepOK X s o (upd s (.slot d) (.one (.v dv))) := by
  intro G a w R next Q hK
  have hv := (prim_of (evl_sound R hx)).1
  have hiv := (prim_of (evl_sound R hi)).1
  obtain ⟨key, e, h1, h2⟩ := mapT_spec hT
  obtain ⟨es, cl, m1, m2, m3⟩ := R.holds _ _ hm
  obtain ⟨r, v, f1, f2⟩ := (find_look n ml es.toList 0 (by simpa using m2) fun i k d e hi he => m3 i k d e hi (by simpa using he)).1 dv hl
  refine opIn (by intro c e; rw [ho] at e; cases e) ?_
  have hexec : (execOp a.eval o).run X.P w = .ok (.value v) w := by
    simp [execOp, ho, hv, hiv, Instr.lookup, run_underlying h1, run_getMap m1, run_checkInt h2, run_findInt h2 f1]
  rw [hexec, upn_value, hd]
  exact hK G _ w (R.setSlot (Trans.refl X G a w R.nil) rfl rfl (fun _ h => h) hn f2)
theorem vcK_lookup {esc : List Nat} {ops : Array Oper} {l : List Oper} {K : St → Prop} {d : Tmp} {T ty : TypeId} {x i : Operand} {pos : String} {af : Array Edge} {q : Option (Prop × St)} {b : Nat} {n : Int} {ml : List (Int × DV)} {dv : DV} (hn : d < X.n) (hT : mapT X.P T = true)
    (hx : evl X (get s) x = some (.v (.prim (.map (some b))))) (hi : evl X (get s) i = some (.v (.prim (.int .i64 n)))) (hm : get s (.heap b) = some (.mp ml)) (hl : lookM ml n = some dv) (hq : q = none)
    (h : vc X esc ops l (upd s (.slot d) (.one (.v dv))) K) : vcK X esc ops l K ⟨some d, .lookup T x i false, ty, pos, af, none⟩ s q := by
  subst hq
  exact VL_step rfl (step_lookup (o := ⟨some d, .lookup T x i false, ty, pos, af, none⟩) rfl rfl hn hT hx hi hm hl) (vc_sound h)
theorem vcdC_lookup {ops : Array Oper} {K : St → Prop} {l : List Oper} {k : St → List Ev → Prop} {ev : List Ev} {fp wr : List Loc} {d : Tmp} {T ty : TypeId} {x i : Operand} {pos : String} {af : Array Edge} {q : Option (Prop × St)} {b : Nat} {n : Int} {ml : List (Int × DV)} {dv : DV}
    (hk : ∀ s ev, k s ev → VD X ops s0 l s ev K) (hn : d < X.n) (hT : mapT X.P T = true)
    (hx : evl X (get s) x = some (.v (.prim (.map (some b))))) (hi : evl X (get s) i = some (.v (.prim (.int .i64 n)))) (hm : get s (.heap b) = some (.mp ml)) (hl : lookM ml n = some dv) (hq : q = none)
    (g : vcdD k ev s (slotsOf [x, i] ++ [.heap b]) [] [(.slot d, some (.one (.v dv)))]) :
    vcdC X ops s0 l K k ⟨some d, .lookup T x i false, ty, pos, af, none⟩ ev s fp wr q := by
  subst hq
  show VD X ops s0 _ s ev K
  have hsl : ∀ z : Operand, z = x ∨ z = i → ∀ t, z = .tmp t → Loc.slot t ∈ slotsOf [x, i] ++ [.heap b] := by
    intro z hz t ht
    subst ht
    refine List.mem_append.2 (.inl ?_)
    rcases hz with rfl | rfl
    · simp [slotsOf]
    · cases x <;> simp [slotsOf]
  refine VD_step ⟨slotsOf [x, i] ++ [.heap b], [(.slot d, some (.one (.v dv)))], []⟩ (fun s' hs _ => opOK_of (.inl rfl) ?_) (hk _ _ (by exact g))
  exact step_lookup (o := ⟨some d, .lookup T x i false, ty, pos, af, none⟩) rfl rfl hn hT (evl_restr (hsl x (.inl rfl)) hs hx) (evl_restr (hsl i (.inr rfl)) hs hi) (hs _ _ (get_restr_mem (List.mem_append.2 (.inr (List.mem_singleton.2 rfl))) hm)) hl

/-- a number that is not there is put in -/
theorem step_mapUpdate {o : Oper} {T : TypeId} {x i y : Operand} (ho : o.op = .mapUpdate T x i y) (hd : o.dst = none) (hT : mapT X.P T = true) {b : Nat} {n : Int} {ml : List (Int × DV)} {dv : DV}
    (hx : evl X (get s) x = some (.v (.prim (.map (some b))))) (hi : evl X (get s) i = some (.v (.prim (.int .i64 n)))) (hy : evl X (get s) y = some (.v dv)) (hm : get s (.heap b) = some (.mp ml)) (hl : lookM ml n = none) : StepOK X s o (upd s (.heap b) (.mp (ml ++ [(n, dv)]))) := by
  intro G a w R next Q hK
  have hv := (prim_of (evl_sound R hx)).1
  have hiv := (prim_of (evl_sound R hi)).1
  have hyv : RV G.D w dv (a.eval y) := evl_sound R hy
  obtain ⟨key, e, h1, h2⟩ := mapT_spec hT
  obtain ⟨es, cl, m1, m2, m3⟩ := R.holds _ _ hm
  have f1 := (find_look (G := G) (w := w) n ml es.toList 0 (by simpa using m2) fun i k d e hi he => m3 i k d e hi (by simpa using he)).2 hl
  refine opIn (by intro c e; rw [ho] at e; cases e) ?_
  have hexec : (execOp a.eval o).run X.P w = .ok .skip { w with heap := w.heap.setIfInBounds b (.map (es.push { key := .int .i64 n, val := a.eval y, born := cl }) (cl + 1)) } := by
    simp [execOp, ho, hv, hiv, Instr.mapUpdate, run_underlying h1, run_getMap m1, run_checkInt h2, run_findInt h2 f1, run_setMap _ m1]
  rw [hexec, upn_skip, hd]
  have hbl : b < w.heap.size := (Array.getElem?_eq_some_iff.1 m1).1
  have hnd : ∀ o, ¬ G.D b o := fun o => R.data _ _ b o hm rfl rfl
  have hoth : ∀ b', b' ≠ b → (w.heap.setIfInBounds b (.map (es.push { key := .int .i64 n, val := a.eval y, born := cl }) (cl + 1)))[b']? = w.heap[b']? := fun b' hb' => Array.getElem?_setIfInBounds_ne (Ne.symm hb')
  have T' : Trans X G a w G a { w with heap := w.heap.setIfInBounds b (.map (es.push { key := .int .i64 n, val := a.eval y, born := cl }) (cl + 1)) } (fun b' => b' = b) := by
    refine ⟨rfl, fun h => h.keep rfl fun D hD => ?_, rfl, rfl, rfl, by simp, fun b' hb' hn => hoth b' hn, fun b' hb' => ?_, fun b' o hD => ⟨hD, ?_⟩, fun _ _ h k => absurd h k, R.nil⟩
    · refine (hoth D fun e => ?_).trans hD
      subst e
      rw [m1] at hD; cases hD
    · subst hb'
      exact (R.own _ _ b' hm rfl).imp id And.left
    · have hne : b' ≠ b := fun e => by subst e; exact hnd o hD
      simp only [World.cell?]
      rw [hoth b' hne]
  refine hK G a _ ?_
  refine R.step T' (fun l u => l = .heap b ∧ u = .mp (ml ++ [(n, dv)])) (fun l u h => ?_) (fun l u h => ?_) (fun l u l' u' b' h h' _ _ => h.1.trans h'.1.symm)
  · rw [get_upd] at h
    by_cases hl' : Loc.heap b = l
    · rw [if_pos hl'] at h; cases h; exact .inl ⟨hl'.symm, rfl⟩
    · rw [if_neg hl'] at h
      refine .inr ⟨h, fun _ _ => rfl, fun b' hb' he => ?_, fun _ _ => rfl, fun _ _ => rfl⟩
      subst he
      exact hl' (R.sep _ _ _ _ b' hm h rfl hb')
  · obtain ⟨rfl, rfl⟩ := h
    refine ⟨⟨es.push { key := .int .i64 n, val := a.eval y, born := cl }, cl + 1, ?_, by simp [m2], fun i' k d e hi' he => ?_⟩, fun b' hb' => ?_⟩
    · simp [hbl]
    · rcases Nat.lt_or_ge i' ml.length with hlt | hge
      · rw [List.getElem?_append_left hlt] at hi'
        rw [Array.getElem?_push, if_neg (by omega)] at he
        obtain ⟨q1, q2⟩ := m3 i' k d e hi' he
        exact ⟨q1, q2.mono T'.grow⟩
      · rw [List.getElem?_append_right hge] at hi'
        have : i' - ml.length = 0 := by
          have := (List.getElem?_eq_some_iff.1 hi').1
          simpa using this
        have hie : i' = es.size := by omega
        rw [this] at hi'
        simp only [List.getElem?_cons_zero, Option.some.injEq, Prod.mk.injEq] at hi'
        obtain ⟨rfl, rfl⟩ := hi'
        rw [Array.getElem?_push, if_pos hie] at he
        cases he
        exact ⟨rfl, hyv.mono T'.grow⟩
    · cases hb'
      exact ⟨.inr rfl, R.own _ _ b hm rfl, fun _ o => hnd o⟩
theorem vcK_mapUpdate {esc : List Nat} {ops : Array Oper} {l : List Oper} {K : St → Prop} {T ty : TypeId} {x i y : Operand} {pos : String} {af : Array Edge} {q : Option (Prop × St)} {b : Nat} {n : Int} {ml : List (Int × DV)} {dv : DV} (hT : mapT X.P T = true)
    (hx : evl X (get s) x = some (.v (.prim (.map (some b))))) (hi : evl X (get s) i = some (.v (.prim (.int .i64 n)))) (hy : evl X (get s) y = some (.v dv)) (hm : get s (.heap b) = some (.mp ml)) (hl : lookM ml n = none) (hq : q = none)
    (h : vc X esc ops l (upd s (.heap b) (.mp (ml ++ [(n, dv)]))) K) : vcK X esc ops l K ⟨none, .mapUpdate T x i y, ty, pos, af, none⟩ s q := by
  subst hq
  exact VL_step rfl (step_mapUpdate (o := ⟨none, .mapUpdate T x i y, ty, pos, af, none⟩) rfl rfl hT hx hi hy hm hl) (vc_sound h)

/-! a piece of a raw slice -/
theorem step_sliceR {o : Oper} {T : TypeId} {x lo : Operand} (ho : o.op = .slice T x (some lo) none none) {d : Nat} (hd : o.dst = some d) (hn : d < X.n) {E b n cap : Nat} {kd : IntKind} {l : Int} (he : elemT X.P T = some E)
    (hx : evl X (get s) x = some (.v (rawS b n cap))) (hl : evl X (get s) lo = some (.v (.prim (.int kd l)))) (h0 : 0 ≤ l) (h1 : l ≤ n) (h2 : l < cap) (h3 : n ≤ cap) :
    StepOK X s o (upd s (.slot d) (.one (.v (.prim (.slice (some ⟨b, l.toNat * E, none⟩) (n - l.toNat) (cap - l.toNat)))))) := by
  intro G a w R next Q hK
  have hv := (prim_of (evl_sound R hx)).1
  have hlv := (prim_of (evl_sound R hl)).1
  obtain ⟨e', ie, hu, hie, hsz⟩ := elem_run he
  refine opIn (by intro c e; rw [ho] at e; cases e) ?_
  have hrun := slice_run (P := X.P) (w := w) (t := T) hu hie (some ⟨b, 0, none⟩) n cap (some (a.eval lo)) none l n (.inr ⟨kd, by rw [hlv]⟩) (.inl ⟨rfl, rfl⟩) h0 h1 (by omega)
  have hne : ¬ cap = l.toNat := by omega
  rw [if_neg hne] at hrun
  have hexec : (execOp a.eval o).run X.P w = .ok (.value (.slice (some ⟨b, l.toNat * E, none⟩) (n - l.toNat) (cap - l.toNat))) w := by
    have e2 : (Option.map (fun q : Addr => q.add (l.toNat * ie.size)) (some ⟨b, 0, none⟩)) = some ⟨b, l.toNat * E, none⟩ := by simp [addr_add, hsz]
    rw [e2] at hrun
    simp [execOp, ho, hv, hrun]
  rw [hexec, upn_value, hd]
  exact hK G _ w (R.setSlot (Trans.refl X G a w R.nil) rfl rfl (fun _ h => h) hn (.prim _ trivial))
theorem vcK_sliceR {esc : List Nat} {ops : Array Oper} {lst : List Oper} {K : St → Prop} {d : Tmp} {T ty : TypeId} {x lo : Operand} {pos : String} {af : Array Edge} {q : Option (Prop × St)} {E b n cap : Nat} {kd : IntKind} {l : Int} (he : elemT X.P T = some E) (hn : d < X.n)
    (hx : evl X (get s) x = some (.v (rawS b n cap))) (hl : evl X (get s) lo = some (.v (.prim (.int kd l)))) (h0 : 0 ≤ l) (h1 : l ≤ n) (h2 : l < cap) (h3 : n ≤ cap) (hq : q = none)
    (h : vc X esc ops lst (upd s (.slot d) (.one (.v (.prim (.slice (some ⟨b, l.toNat * E, none⟩) (n - l.toNat) (cap - l.toNat)))))) K) : vcK X esc ops lst K ⟨some d, .slice T x (some lo) none none, ty, pos, af, none⟩ s q := by
  subst hq
  exact VL_step rfl (step_sliceR (o := ⟨some d, .slice T x (some lo) none none, ty, pos, af, none⟩) rfl rfl hn he hx hl h0 h1 h2 h3) (vc_sound h)

/-- a piece of a raw slice is copied: it becomes data -/
theorem step_appendV {o : Oper} {x y : Operand} {T T2 : TypeId} (ho : o.op = .call { callee := .builtin .append, args := #[x, y], argTypes := #[T, T2] }) {d : Nat} (hd : o.dst = some d) (hn : d < X.n)
    {E B : Nat} (he : elemZ X.P T = some (E, B)) (hB : 0 < B ∧ B ≤ 1024) (h2 : (elemT X.P T2).isSome = true) {b lo k cap : Nat} {full : List (List DV)} (hx : evl X (get s) x = some (.own 0 [])) (hy : evl X (get s) y = some (.v (.prim (.slice (some ⟨b, lo * E, none⟩) k cap))))
    (hrow : get s (.heap b) = some (.row (arrRow full))) (hE : ∀ e ∈ full, e.length = E) (hk : lo + k ≤ full.length) (hpos : 0 < k) (hbig : k ≤ BIG) :
    StepOK X s o (upd s (.slot d) (.one (.v (.sl ((full.drop lo).take k))))) := by
  intro G a w R next Q hK
  obtain ⟨hv, -⟩ := evl_own R hx
  rw [R.nil] at hv
  have hyv := (prim_of (evl_sound R hy)).1
  obtain ⟨c0, e0, k1, k2, k3⟩ : BlkAt G w b (arrRow full) := R.holds _ _ hrow
  rw [arrRow_len hE] at k2
  have hlen : ((full.drop lo).take k).length = k := by simp; omega
  have hmul : lo * E + k * E ≤ full.length * E := by rw [← Nat.add_mul]; exact Nat.mul_le_mul_right _ hk
  have hdr : ∀ w' : World, w'.heap = w.heap → (Builtin.firstCells E k (a.eval y)).run X.P w' = .ok (arr (fun j => (c0[lo * E + j]?).getD undef) (k * E)) w' := fun w' hw => by
    rw [hyv]
    simp only [Builtin.firstCells]
    refine run_loadCells_f b (lo * E) (k * E) _ (fun j hj => ?_)
    have hlt : lo * E + j < c0.size := by omega
    rw [cell_of_heap hw]
    simp [World.cell?, k1, hlt]
  obtain ⟨c, e, nc, r1, r2, r3, r4, r5⟩ := run_append_new (P := X.P) (t := T) (ty := o.type) (t2 := T2) (w := w) he hB h2 (base := none) (len := 0) (cap := 0) (x := a.eval y) (n := k) (old := #[]) (fun w' _ => by rw [hyv]; simp [Builtin.lenOf]) hdr (fun w' _ => by simp [Builtin.firstCells]) (by omega) (by omega) (by simp) (arr_size _ _)
  rw [Nat.zero_add] at r1 r2
  have hv' : a.eval x = .slice none 0 0 := hv
  have hexec : (execOp a.eval o).run X.P w = .ok (.value (.slice (some ⟨w.heap.size, 0, none⟩) k nc)) (w.drew.alloc (.cells c e)) := by
    have hr1 : (Builtin.append_ #[T, T2] o.type #[a.eval x, a.eval y]).run X.P w = .ok (.slice (some ⟨w.heap.size, 0, none⟩) k nc) (w.drew.alloc (.cells c e)) := by rw [hv']; exact r1
    simp [execOp, ho, resolve, invoke, builtin, hr1]
  refine opIn (by intro c e; rw [ho] at e; cases e) ?_
  rw [hexec, upn_value, hd]
  let G' : Gh := { D := withData G.D w.heap.size 0 (k * E), ν := G.ν, τ := G.τ }
  have hcsz : k * E ≤ c.size := by rw [r3]; exact Nat.mul_le_mul_right _ r2
  have hcn : ∀ j, (w.drew.alloc (.cells c e)).cell? ⟨w.heap.size, j, none⟩ = c[j]? := fun j => World.cell?_alloc_new w.drew c e j
  have T' : Trans X G a w G' a (w.drew.alloc (.cells c e)) (fun _ => False) := by
    refine ⟨rfl, fun h => h.heap fun b hb => alloc_old w.drew _ b hb, rfl, rfl, rfl, by simp, fun b hb _ => alloc_old w.drew _ b hb, fun _ h => h.elim, fun b k hD => ⟨.inl hD, World.cell?_alloc_lt w.drew _ _ (R.wf.lt hD)⟩, fun b' j hD hnD => ?_, R.nil⟩
    rcases hD with hD | ⟨rfl, q1, q2⟩
    · exact absurd hD hnD
    · exact ⟨.inl (Nat.le_refl _), _, (hcn j).trans (Array.getElem?_eq_getElem (by omega))⟩
  refine hK G' _ _ (R.setSlot T' rfl rfl (fun _ h => h) hn ?_)
  show RV G'.D _ (.sl _) _
  have hsrc : ∀ i j e' d', ((full.drop lo).take k)[i]? = some e' → e'[j]? = some d' → d'.isCell = true ∧ RV G.D w d' ((c0[lo * E + (i * E + j)]?).getD undef) := by
    intro i j e' d' hi hj
    have hik : i < k := by have := (List.getElem?_eq_some_iff.1 hi).1; omega
    rw [List.getElem?_take_of_lt hik, List.getElem?_drop] at hi
    obtain ⟨q0, v, q1, q2⟩ := k3 ((lo + i) * E + j) (.v d') (arrRow_cell hE hi hj)
    rw [Nat.add_mul, Nat.add_assoc] at q1
    exact ⟨q0, by rw [q1]; exact q2⟩
  have hEz : ∀ e' ∈ (full.drop lo).take k, e'.length = E := fun e' he' => hE e' (List.mem_of_mem_drop (List.mem_of_mem_take he'))
  have := sl_of_laid (D := G'.D) (w := w.drew.alloc (.cells c e)) (E := E) (b := w.heap.size) (o := 0) (cap := nc) (els := (full.drop lo).take k) (f := fun j => (c0[lo * E + j]?).getD undef) (by rw [hlen]; exact hbig) (by rw [hlen]; exact r2) hEz (fun e' he' d' hd' => ?_) (fun j hj => ?_) (fun i j e' d' hi hj => ?_)
  · rw [hlen] at this
    exact this
  · obtain ⟨i, hi⟩ := List.mem_iff_getElem?.1 he'
    obtain ⟨j, hj⟩ := List.mem_iff_getElem?.1 hd'
    exact (hsrc i j e' d' hi hj).1
  · rw [hlen] at hj
    refine ⟨?_, .inr ⟨rfl, by omega, by omega⟩⟩
    have := r5 j hj
    rw [Nat.zero_mul, Nat.zero_add] at this
    rw [Nat.zero_add, hcn, this]
    exact arr_get _ _ _ hj
  · exact (hsrc i j e' d' hi hj).2.mono T'.grow
theorem vcK_appendV {esc : List Nat} {ops : Array Oper} {lst : List Oper} {K : St → Prop} {d : Tmp} {x y : Operand} {T T2 ty : TypeId} {pos : String} {af : Array Edge} {q : Option (Prop × St)} {E B b lo k cap : Nat} {full : List (List DV)}
    (he : elemZ X.P T = some (E, B)) (hB : 0 < B ∧ B ≤ 1024) (h2 : (elemT X.P T2).isSome = true) (hn : d < X.n) (hx : evl X (get s) x = some (.own 0 [])) (hy : evl X (get s) y = some (.v (.prim (.slice (some ⟨b, lo * E, none⟩) k cap))))
    (hrow : get s (.heap b) = some (.row (arrRow full))) (hE : ∀ e ∈ full, e.length = E) (hk : lo + k ≤ full.length) (hpos : 0 < k) (hbig : k ≤ BIG) (hq : q = none)
    (h : vc X esc ops lst (upd s (.slot d) (.one (.v (.sl ((full.drop lo).take k))))) K) : vcK X esc ops lst K ⟨some d, .call { callee := .builtin .append, args := #[x, y], argTypes := #[T, T2] }, ty, pos, af, none⟩ s q := by
  subst hq
  exact VL_step rfl (step_appendV (o := ⟨some d, .call { callee := .builtin .append, args := #[x, y], argTypes := #[T, T2] }, ty, pos, af, none⟩) rfl rfl hn he hB h2 hx hy hrow hE hk hpos hbig) (vc_sound h)

/-! a state that ends in a map and a raw slice's array -/
inductive TailM (bm : Nat) (ml : List (Int × DV)) (φ : Objs) : St → St → Prop
  | nil : TailM bm ml φ ((.heap bm, .mp ml) :: heapSt φ) []
  | slot {s l : St} (n : Nat) (v : LV) (h : TailM bm ml φ s l) : TailM bm ml φ ((.slot n, v) :: s) ((.slot n, v) :: l)
  | loc {s l : St} (n : Nat) (v : LV) (h : TailM bm ml φ s l) : TailM bm ml φ ((.loc n, v) :: s) ((.loc n, v) :: l)
  | tok {s l : St} (n : Nat) (v : LV) (h : TailM bm ml φ s l) : TailM bm ml φ ((.tok n, v) :: s) ((.tok n, v) :: l)
theorem TailM.spec {s l : St} {bm : Nat} {ml : List (Int × DV)} {φ : Objs} (h : TailM bm ml φ s l) : s = l ++ (.heap bm, .mp ml) :: heapSt φ ∧ noHeap l = true := by
  induction h with
  | nil => exact ⟨rfl, rfl⟩
  | slot n v h ih => exact ⟨by rw [ih.1]; rfl, ih.2⟩
  | loc n v h ih => exact ⟨by rw [ih.1]; rfl, ih.2⟩
  | tok n v h ih => exact ⟨by rw [ih.1]; rfl, ih.2⟩
theorem RS.nodup (x : RS) : (x.objs.map (·.1)).Nodup := by
  unfold RS.objs
  cases x.q <;> simp
theorem RS.get_objs {x : RS} {b : Nat} (h : x.q = some b) : get (heapSt x.objs) (.heap b) = some (.row (arrRow x.full)) := by
  unfold RS.objs
  rw [h]
  simp [heapSt, get, arrRow]
theorem get_mp {l : St} (hl : noHeap l = true) (bm : Nat) (ml : List (Int × DV)) (φ : Objs) (b : Nat) : get (l ++ (.heap bm, .mp ml) :: heapSt φ) (.heap b) = if bm = b then some (.mp ml) else get (heapSt φ) (.heap b) := by
  rw [get_append, noHeap_get hl]
  show get ((.heap bm, .mp ml) :: heapSt φ) (.heap b) = _
  simp only [get, Loc.heap.injEq]
theorem vcK_effM {esc : List Nat} {ops : Array Oper} {lst : List Oper} {K : St → Prop} {o : Oper} {q : Option (Prop × St)} {d : Nat} {l : St} {bm : Nat} {ml : List (Int × DV)} {φ : Objs} {x : RS} {E : Nat} {ys zs : List (List DV)} (hg : o.guard = none) (ht : TailM bm ml φ s l) (hφ : φ = x.objs) (hi : x.is E ys) (hbm : x.q ≠ some bm)
    (hf : FreeStep X o s d x.q (AppP X x.q E x.n x.full zs)) (hq : q = none) (h : ∀ x' : RS, x'.is E (ys ++ zs) → x'.q ≠ some bm → vc X esc ops lst (upd l (.slot d) (.one (.v x'.v)) ++ (.heap bm, .mp ml) :: heapSt x'.objs) K) : vcK X esc ops lst K o s q := by
  subst hφ
  refine vcK_freeW hg hf hq fun y b cs hap hnew => ?_
  obtain ⟨x', hq', rfl, rfl, hx'⟩ := hi.app hap
  obtain ⟨hs, hl⟩ := ht.spec
  have hb : b ≠ bm := hnew bm hbm (by rw [hs, get_mp hl, if_pos rfl]; simp)
  refine ⟨_, fun m v hm => ?_, vc_sound (h x' hx' (by rw [hq']; simpa using hb))⟩
  have hu := noHeap_upd hl d (.one (.v x'.v))
  by_cases hh : ∃ c, m = .heap c
  · obtain ⟨c, rfl⟩ := hh
    rw [get_mp hu] at hm
    by_cases h1 : bm = c
    · subst h1
      rw [if_pos rfl] at hm
      rw [effO_ne (by simp) (fun e => by cases e; exact hb rfl) (fun b' hb' e => by cases e; exact hbm hb'), hs, get_mp hl, if_pos rfl]
      exact hm
    · rw [if_neg h1] at hm
      obtain ⟨b0, cs, e, rfl, hmem⟩ := get_heapSt hm
      cases e
      obtain ⟨k1, k2⟩ := RS.mem_objs.1 hmem
      rw [hq'] at k1
      cases k1
      unfold effO
      rw [get_upd, if_pos rfl, k2]
      rfl
  · have hm' : ∀ c, m ≠ .heap c := fun c e => hh ⟨c, e⟩
    have hg1 : get (upd l (.slot d) (.one (.v x'.v))) m = some v := by
      rw [get_append] at hm
      cases hq : get (upd l (.slot d) (.one (.v x'.v))) m with
      | some u => rw [hq] at hm; exact hm
      | none =>
        rw [hq] at hm
        have hm : get ((.heap bm, .mp ml) :: heapSt x'.objs) m = some v := hm
        simp only [get] at hm
        rw [if_neg (fun e => hm' bm e.symm)] at hm
        obtain ⟨c, _, e, -⟩ := get_heapSt hm
        exact absurd e (hm' c)
    unfold effO
    rw [get_upd, if_neg (fun e => hm' b e.symm), get_upd]
    rw [get_upd] at hg1
    split
    · rename_i e; rw [if_pos e] at hg1; exact hg1
    · rename_i e
      rw [if_neg e] at hg1
      rw [get_delO _ _ _ (fun b' _ => hm' b'), hs, get_append, hg1]
      rfl
theorem subLe_hs_mp (σ : Nat → Nat) {x : RS} {bm : Nat} (h : x.q ≠ some bm) (v : LV) (s : St) : subLe σ ((.heap bm, v) :: s) (heapSt x.objs) = subLe σ s (heapSt x.objs) := by
  unfold RS.objs
  cases hq : x.q with
  | none => rfl
  | some b =>
    have hne : bm ≠ b := fun e => h (by rw [hq, e])
    simp only [heapSt, subLe, factLe, get, Loc.heap.injEq, hne, if_false]
/-- a nil slice of a slot, told as a raw one -/
theorem W_nilslot {kk : List Item} (n : Nat) (hg : get s (.slot n) = some (.one (.own 0 []))) (h : W X kk (upd s (.slot n) (.one (.v (.prim (.slice none 0 0)))))) : W X kk s := by
  intro G a w b cs hf hk hr R
  have hb : RV G.D w (.prim (.slice none 0 0)) (a.tmps.getD n undef) := by
    obtain ⟨h1, -⟩ := (R.holds _ _ hg : RSV G w (.own 0 []) _)
    rw [R.nil] at h1
    rw [h1]
    exact .prim _ ⟨rfl, rfl⟩
  have key : ∀ l v b', get (upd s (.slot n) (.one (.v (.prim (.slice none 0 0))))) l = some v → blkOf G l v = some b' → get s l = some v := by
    intro l v b' hl hb'
    rw [get_upd] at hl
    split at hl
    · subst_vars; cases hl; cases hb'
    · exact hl
  refine h G a w b cs hf hk hr ⟨R.size, R.defers, R.ext, R.wf, R.nil, fun l v hl => ?_, fun l v l' v' b' hl hl' hb1 hb2 => R.sep _ _ _ _ _ (key _ _ _ hl hb1) (key _ _ _ hl' hb2) hb1 hb2, fun l v b' hl hb1 => R.own _ _ _ (key _ _ _ hl hb1) hb1, fun l v b' o hl hb1 ht => R.data _ _ _ o (key _ _ _ hl hb1) hb1 ht⟩
  rw [get_upd] at hl
  split at hl
  · subst_vars; cases hl; exact hb
  · exact R.holds _ _ hl
end
end Go.Proofs.YtmdjiajbnifjpaaDoor.Lift

/-
  Reading a valid program back, plainly: what stands where, how high the stack is, what is looked up.
-/
namespace Go.Proofs.YtmdjiajbnifjpaaDoor.Lift
set_option linter.unusedSimpArgs false
set_option linter.unusedVariables false
set_option linter.unnecessarySimpa false
open Go

theorem lay_at (bs : List (List Ins)) {k : Nat} {b : List Ins} (hb : bs[k]? = some b) : (∀ j, j < b.length → (lay bs)[startAt bs k + j]? = b[j]?) ∧ (lay bs)[startAt bs k + b.length]? = some (14, 0) ∧ startAt bs k + b.length + 1 ≤ (lay bs).length := by
  have hk := (List.getElem?_eq_some_iff.1 hb).1
  have e : bs = bs.take k ++ (b :: bs.drop (k + 1)) := by
    have h1 : bs.drop k = b :: bs.drop (k + 1) := by
      rw [List.drop_eq_getElem_cons hk]
      congr 1
      rw [List.getElem?_eq_getElem hk] at hb
      exact Option.some.inj hb
    rw [← h1, List.take_append_drop]
  have e2 : lay bs = lay (bs.take k) ++ (b ++ ((14, 0) :: lay (bs.drop (k + 1)))) := by
    conv => lhs; rw [e]
    rw [lay_append, lay_cons]
    simp
  have hl : (lay (bs.take k)).length = startAt bs k := rfl
  refine ⟨fun j hj => ?_, ?_, ?_⟩
  · rw [e2, List.getElem?_append_right (by omega), hl, Nat.add_sub_cancel_left, List.getElem?_append_left hj]
  · rw [e2, List.getElem?_append_right (by omega), hl, Nat.add_sub_cancel_left, List.getElem?_append_right (Nat.le_refl _), Nat.sub_self]
    rfl
  · have := congrArg List.length e2
    simp only [List.length_append, List.length_cons, hl] at this
    omega
theorem stepB_len (body : Int → Tm) (st : List Tm) (x : Ins) (h : takesI x.1 ≤ st.length) : (stepB body st x).length = st.length - takesI x.1 + 1 := by
  unfold stepB
  simp
theorem runB_len (body : Int → Tm) : ∀ (c : List Ins) (st : List Tm) (h : Int), hts c st.length = some h → ((runB body c st).length : Int) = h
  | [], st, h, hh => by simp only [hts, Option.some.injEq] at hh; simpa [runB] using hh
  | x :: r, st, h, hh => by
    simp only [hts] at hh
    split at hh
    · rename_i ht
      have hl := stepB_len body st x (by omega)
      have := runB_len body r (stepB body st x) h (by rw [hl]; rw [← hh]; congr 1; omega)
      simpa [runB] using this
    · cases hh
theorem hts_at {b : List Ins} {j : Nat} {x : Ins} (h : hts b 0 = some 1) (hx : b[j]? = some x) (body : Int → Tm) : takesI x.1 ≤ (runB body (b.take j) []).length ∧ b.take (j + 1) = b.take j ++ [x] := by
  have hj := (List.getElem?_eq_some_iff.1 hx).1
  have h1 : b.take (j + 1) = b.take j ++ [x] := by rw [List.take_add_one, hx]; rfl
  refine ⟨?_, h1⟩
  have e : b = b.take j ++ (x :: b.drop (j + 1)) := by
    have h1 : b.drop j = x :: b.drop (j + 1) := by
      rw [List.drop_eq_getElem_cons hj]
      congr 1
      rw [List.getElem?_eq_getElem hj] at hx
      exact Option.some.inj hx
    rw [← h1, List.take_append_drop]
  rw [e, hts_append] at h
  cases hq : hts (b.take j) 0 with
  | none => rw [hq] at h; cases h
  | some hh =>
    rw [hq] at h
    simp only [Option.bind_some, hts] at h
    have := runB_len body (b.take j) [] hh (by simpa using hq)
    split at h
    · omega
    · cases h
theorem runB_le (body : Int → Tm) : ∀ (c : List Ins) (st : List Tm), (runB body c st).length ≤ st.length + c.length
  | [], st => by simp [runB]
  | x :: r, st => by
    have := runB_le body r (stepB body st x)
    have h2 : (stepB body st x).length ≤ st.length + 1 := by unfold stepB; simp
    simp only [runB, List.foldl_cons, List.length_cons] at this ⊢
    omega

/-- the blocks with their starts -/
def zipS (bs : List (List Ins)) : List (Int × List Ins) := (0 :: (ends 0 bs).dropLast).zip bs
theorem zipS_at {bs : List (List Ins)} {k : Nat} {b : List Ins} (hb : bs[k]? = some b) : (zipS bs)[k]? = some (((startAt bs k : Nat) : Int), b) := by
  have hk := (List.getElem?_eq_some_iff.1 hb).1
  have hne : bs ≠ [] := by intro e; rw [e] at hk; simp at hk
  rw [zipS, List.getElem?_zip_eq_some]
  refine ⟨?_, hb⟩
  rw [starts_eq _ hne, List.getElem?_map, List.getElem?_range hk]
  rfl
theorem starts_len {bs : List (List Ins)} (h : bs ≠ []) : (0 :: (ends 0 bs).dropLast).length = bs.length := by
  have : 0 < bs.length := List.length_pos_iff.2 h
  simp [ends_length]
  omega
theorem zipS_len {bs : List (List Ins)} (h : bs ≠ []) : (zipS bs).length = bs.length := by
  rw [zipS, List.length_zip, starts_len h]; simp
theorem starts_get {bs : List (List Ins)} {k : Nat} (hk : k < bs.length) : (0 :: (ends 0 bs).dropLast)[k]? = some ((startAt bs k : Nat) : Int) := by
  have hne : bs ≠ [] := by intro e; rw [e] at hk; simp at hk
  rw [starts_eq _ hne, List.getElem?_map, List.getElem?_range hk]
  rfl
/-- the terms of the blocks from place k on -/
def decAt (bs : List (List Ins)) (k : Nat) : List (Int × Tm) := decs ((zipS bs).drop k)
theorem decAt_step {bs : List (List Ins)} {k : Nat} {b : List Ins} (hb : bs[k]? = some b) : decAt bs k = decAt bs (k + 1) ++ [(((startAt bs k : Nat) : Int), (runB (look (decAt bs (k + 1))) b []).headD (.mk 0 0 zTy []))] := by
  have hz := zipS_at hb
  have hlt := (List.getElem?_eq_some_iff.1 hz).1
  unfold decAt
  have hdr : (zipS bs).drop k = (((startAt bs k : Nat) : Int), b) :: (zipS bs).drop (k + 1) := by
    rw [List.drop_eq_getElem_cons hlt]
    congr 1
    rw [List.getElem?_eq_getElem hlt] at hz
    exact Option.some.inj hz
  rw [hdr, decs]
theorem decAt_end {bs : List (List Ins)} (h : bs ≠ []) : decAt bs bs.length = [] := by
  unfold decAt
  rw [List.drop_of_length_le (by rw [zipS_len h]; exact Nat.le_refl _)]
  rfl
/-- what keys there are -/
theorem decAt_keys {bs : List (List Ins)} (hne : bs ≠ []) : ∀ (d k : Nat), k + d = bs.length → ∀ a : Int, (∃ v, (a, v) ∈ decAt bs k) ↔ ∃ k', k ≤ k' ∧ k' < bs.length ∧ a = ((startAt bs k' : Nat) : Int)
  | 0, k, hk, a => by
    have : k = bs.length := by omega
    subst this
    rw [decAt_end hne]
    constructor
    · rintro ⟨v, hv⟩; cases hv
    · rintro ⟨k', h1, h2, -⟩; omega
  | d + 1, k, hk, a => by
    have ih := decAt_keys hne d (k + 1) (by omega) a
    have hb : bs[k]? = some (bs[k]'(by omega)) := List.getElem?_eq_getElem (by omega)
    rw [decAt_step hb]
    constructor
    · rintro ⟨v, hv⟩
      rcases List.mem_append.1 hv with hv | hv
      · obtain ⟨k', h1, h2, h3⟩ := ih.1 ⟨v, hv⟩
        exact ⟨k', by omega, h2, h3⟩
      · have := List.mem_singleton.1 hv
        exact ⟨k, Nat.le_refl _, by omega, (Prod.mk.inj this).1⟩
    · rintro ⟨k', h1, h2, h3⟩
      by_cases e : k' = k
      · subst e
        exact ⟨_, List.mem_append.2 (.inr (List.mem_singleton.2 (by rw [h3])))⟩
      · obtain ⟨v, hv⟩ := ih.2 ⟨k', by omega, h2, h3⟩
        exact ⟨v, List.mem_append.2 (.inl hv)⟩
/-- a map of terms -/
def mapD (m : List (Int × Tm)) : List (Int × DV) := m.map fun e => (e.1, e.2.dv)
theorem mapD_app (m n : List (Int × Tm)) : mapD (m ++ n) = mapD m ++ mapD n := List.map_append
theorem lookM_yes {m : List (Int × Tm)} {a : Int} (h : ∃ v, (a, v) ∈ m) : lookM (mapD m) a = some (look m a).dv := by
  unfold look
  induction m with
  | nil => obtain ⟨v, hv⟩ := h; cases hv
  | cons e r ih =>
    rw [List.find?_cons]
    simp only [mapD, List.map_cons, lookM]
    by_cases he : e.1 = a
    · simp only [he, decide_true, if_true, Option.map_some, Option.getD_some]
    · simp only [he, decide_false]
      rw [if_neg (Ne.symm he)]
      obtain ⟨v, hv⟩ := h
      rcases List.mem_cons.1 hv with hv | hv
      · exact absurd (by rw [← hv]) he
      · exact ih ⟨v, hv⟩
theorem lookM_no {m : List (Int × Tm)} {a : Int} (h : ¬ ∃ v, (a, v) ∈ m) : lookM (mapD m) a = none := by
  induction m with
  | nil => rfl
  | cons e r ih =>
    simp only [mapD, List.map_cons, lookM]
    rw [if_neg (fun he => h ⟨e.2, by rw [he]; simp⟩)]
    exact ih fun ⟨v, hv⟩ => h ⟨v, List.mem_cons_of_mem _ hv⟩
/-- a function's number is the start of a later block -/
theorem fun_later {bs : List (List Ins)} (h : Prg bs) {k j : Nat} {b : List Ins} {a : Int} (hb : bs[k]? = some b) (hx : b[j]? = some (2, a)) : ∃ k', k + 1 ≤ k' ∧ k' < bs.length ∧ a = ((startAt bs k' : Nat) : Int) := by
  have hj := (List.getElem?_eq_some_iff.1 hx).1
  have hat := (lay_at bs hb).1 j hj
  rw [hx] at hat
  have hok := okCd_at h.ok hat (show ¬ ((2 : Int) = 14) from by decide)
  simp only [okI, if_true, Bool.and_eq_true, decide_eq_true_eq, Nat.zero_add] at hok
  have hmem : a ∈ funA (lay bs) := by
    have hm := List.mem_of_getElem? hat
    generalize lay bs = c at hm
    induction c with
    | nil => cases hm
    | cons y r ih =>
      simp only [funA]
      rcases List.mem_cons.1 hm with e | hm
      · subst e; simp
      · split
        · exact List.mem_cons_of_mem _ (ih hm)
        · exact ih hm
  rw [h.at'] at hmem
  have hm2 : a ∈ (0 :: (ends 0 bs).dropLast) := List.mem_cons_of_mem _ hmem
  obtain ⟨k', hk'⟩ := List.mem_iff_getElem?.1 hm2
  have hlen := starts_len h.one
  have hkl : k' < bs.length := by have := (List.getElem?_eq_some_iff.1 hk').1; omega
  rw [starts_get hkl] at hk'
  have ha := Option.some.inj hk'
  refine ⟨k', ?_, hkl, ha.symm⟩
  rcases Nat.lt_or_ge k k' with h1 | h1
  · omega
  · have := startAt_mono bs h1
    omega
end Go.Proofs.YtmdjiajbnifjpaaDoor.Lift

/-
  Programs of terms, plainly: the main block, how long they are, how many blocks they have, pairs.
-/
namespace Go.Proofs.YtmdjiajbnifjpaaDoor.Lift
set_option linter.unusedSimpArgs false
set_option linter.unusedVariables false
set_option linter.unnecessarySimpa false
open Go

theorem compN_of (t : Tm) (h : t.shape = true) (hc : t.count ≤ 4096) : t.compN = if 4096 < t.codeN.length then ([], 4) else (t.codeN, 0) := by
  unfold Tm.compN
  rw [if_pos]
  unfold Tm.checkN
  rw [if_pos h, if_neg (by omega)]
theorem compN_cases (t : Tm) (h : t.shape = true) (hc : t.count ≤ 4096) : (t.compN = (t.codeN, 0) ∧ t.codeN.length ≤ 4096) ∨ t.compN = ([], 4) := by
  rw [compN_of t h hc]
  by_cases hl : 4096 < t.codeN.length
  · rw [if_pos hl]; exact .inr rfl
  · rw [if_neg hl]; exact .inl ⟨rfl, by omega⟩
end Go.Proofs.YtmdjiajbnifjpaaDoor.Lift

/-
  What is valid is the program of its term, plainly.
-/
namespace Go.Proofs.YtmdjiajbnifjpaaDoor.Lift
set_option linter.unusedSimpArgs false
set_option linter.unusedVariables false
set_option linter.unnecessarySimpa false
open Go

/-- the term of block k -/
def termAt (bs : List (List Ins)) (k : Nat) : Tm := look (decAt bs k) ((startAt bs k : Nat) : Int)
theorem termAt_look {bs : List (List Ins)} (hne : bs ≠ []) : ∀ (d i k : Nat), i + d = bs.length → i ≤ k → k < bs.length → look (decAt bs i) ((startAt bs k : Nat) : Int) = termAt bs k
  | 0, i, k, h1, h2, h3 => by omega
  | d + 1, i, k, h1, h2, h3 => by
    by_cases e : i = k
    · subst e; rfl
    · have ih := termAt_look hne d (i + 1) k (by omega) (by omega) h3
      have hb : bs[i]? = some (bs[i]'(by omega)) := List.getElem?_eq_getElem (by omega)
      rw [decAt_step hb]
      rw [← ih]
      obtain ⟨v, hv⟩ := (decAt_keys hne (bs.length - (i + 1)) (i + 1) (by omega) ((startAt bs k : Nat) : Int)).2 ⟨k, by omega, h3, rfl⟩
      unfold look
      rw [List.find?_append]
      cases hq : (decAt bs (i + 1)).find? fun e => decide (e.1 = ((startAt bs k : Nat) : Int)) with
      | some x => rfl
      | none =>
        rw [List.find?_eq_none] at hq
        have := hq _ hv
        simp at this
theorem termAt_run {bs : List (List Ins)} {k : Nat} {b : List Ins} (hb : bs[k]? = some b) : termAt bs k = (runB (look (decAt bs (k + 1))) b []).headD (.mk 0 0 zTy []) := by
  have hk := (List.getElem?_eq_some_iff.1 hb).1
  have hne : bs ≠ [] := by intro e; rw [e] at hk; simp at hk
  unfold termAt
  rw [decAt_step hb]
  refine look_of (List.mem_append.2 (.inr (List.mem_singleton.2 rfl))) fun v' hv => ?_
  rcases List.mem_append.1 hv with hv | hv
  · obtain ⟨k', h1, h2, h3⟩ := (decAt_keys hne (bs.length - (k + 1)) (k + 1) (by omega) _).1 ⟨v', hv⟩
    have := startAt_inj bs (i := k) (k := k') (by omega) (by omega) (by omega)
    omega
  · exact (Prod.mk.inj (List.mem_singleton.1 hv)).2
end Go.Proofs.YtmdjiajbnifjpaaDoor.Lift

/-
  What the reference asks of a program, plainly: the numbers, and each block in turn.
-/
namespace Go.Proofs.YtmdjiajbnifjpaaDoor.Lift
set_option linter.unusedSimpArgs false
set_option linter.unusedVariables false
set_option linter.unnecessarySimpa false
open Go

/-- where blocks begin, behind the first -/
def begG (n : Nat) : Nat → List Ins → List Int
  | _, [] => []
  | j, x :: r => (if x.1 = 14 ∧ j + 1 < n then [((j + 1 : Nat) : Int)] else []) ++ begG n (j + 1) r
def beginsN (c : List Ins) : List Int := 0 :: begG c.length 0 c
theorem begG_append (n j : Nat) (c d : List Ins) : begG n j (c ++ d) = begG n j c ++ begG n (j + c.length) d := by
  induction c generalizing j with
  | nil => simp [begG]
  | cons x r ih =>
    simp only [List.cons_append, begG, ih, List.length_cons, List.append_assoc]
    rw [show j + 1 + r.length = j + (r.length + 1) from by omega]
/-- the loop of numbers -/
def numG (bl : List Int) : Nat → Nat → List Ins → Option Nat
  | _, f, [] => some f
  | j, f, x :: r =>
    if x.1 < 1 ∨ 14 < x.1 then none
    else if x.1 = 1 then if x.2 < 0 then none else numG bl (j + 1) f r
    else if x.1 = 2 then if bl.length ≤ f + 1 ∨ ¬ x.2 = bl.getD (f + 1) 0 ∨ x.2 ≤ (j : Int) then none else numG bl (j + 1) (f + 1) r
    else if x.2 = 0 then numG bl (j + 1) f r else none
def numbersN (c : List Ins) : Bool :=
  if c = [] ∨ 4096 < c.length ∨ ¬ lastOp c = 14 then false else
  match numG (beginsN c) 0 0 c with
  | none => false
  | some f => decide (f + 1 = (beginsN c).length)

/-- a program whose numbers are right, by its blocks -/
structure NumP (bs : List (List Ins)) : Prop where
  one : bs ≠ []
  len : (lay bs).length ≤ 4096
  ok : okCd 0 (lay bs)
  no14 : ∀ d ∈ bs, ∀ x ∈ d, ¬ x.1 = 14
  at' : funA (lay bs) = (ends 0 bs).dropLast
  ret : ∀ x ∈ lay bs, x.1 = 14 → x.2 = 0

theorem num_inv (bl : List Int) : ∀ (c : List Ins) (j f f' : Nat), numG bl j f c = some f' → okCd j c ∧ (∀ x ∈ c, x.1 = 14 → x.2 = 0) ∧ f' = f + funs c ∧ f' + 1 ≤ max (f + 1) bl.length ∧ ∀ i a, (funA c)[i]? = some a → bl[f + 1 + i]? = some a
  | [], j, f, f', h => by
    simp only [numG, Option.some.injEq] at h
    subst h
    exact ⟨trivial, by simp, by simp [funs], by omega, fun i a h => by simp [funA] at h⟩
  | x :: r, j, f, f', h => by
    simp only [numG] at h
    split at h
    · cases h
    rename_i h0
    split at h
    · rename_i h1
      split at h
      · cases h
      rename_i h2
      obtain ⟨i1, i2, i3, i4, i5⟩ := num_inv bl r (j + 1) f f' h
      refine ⟨⟨fun _ => ?_, i1⟩, ?_, ?_, i4, ?_⟩
      · simp [okI, h1]; omega
      · intro y hy
        rcases List.mem_cons.1 hy with rfl | hy
        · intro e; omega
        · exact i2 y hy
      · rw [funs_cons, if_neg (by omega)]; omega
      · simp only [funA, h1]; simpa using i5
    rename_i h1
    split at h
    · rename_i h2
      split at h
      · cases h
      rename_i h3
      simp only [not_or, Decidable.not_not, Nat.not_le] at h3
      obtain ⟨i1, i2, i3, i4, i5⟩ := num_inv bl r (j + 1) (f + 1) f' h
      refine ⟨⟨fun _ => ?_, i1⟩, ?_, ?_, by omega, ?_⟩
      · simp [okI, h2]; omega
      · intro y hy
        rcases List.mem_cons.1 hy with rfl | hy
        · intro e; omega
        · exact i2 y hy
      · rw [funs_cons, if_pos h2]; omega
      · simp only [funA, h2, if_true]
        intro i a ha
        cases i with
        | zero =>
          simp at ha
          subst ha
          rw [h3.2.1, List.getD_eq_getElem?_getD, Nat.add_zero, List.getElem?_eq_getElem (by omega)]
          rfl
        | succ i =>
          have := i5 i a (by simpa using ha)
          rwa [show f + 1 + (i + 1) = f + 1 + 1 + i from by omega]
    · rename_i h2
      split at h
      · rename_i h3
        obtain ⟨i1, i2, i3, i4, i5⟩ := num_inv bl r (j + 1) f f' h
        refine ⟨⟨fun e => ?_, i1⟩, ?_, ?_, i4, ?_⟩
        · simp [okI, h1, h2, h3]; omega
        · intro y hy
          rcases List.mem_cons.1 hy with rfl | hy
          · intro _; exact h3
          · exact i2 y hy
        · rw [funs_cons, if_neg h2]; omega
        · simp only [funA, h2]; simpa using i5
      · cases h
theorem num_fwd (bl : List Int) : ∀ (c : List Ins) (j f : Nat), okCd j c → (∀ x ∈ c, x.1 = 14 → x.2 = 0) → (∀ i a, (funA c)[i]? = some a → bl[f + 1 + i]? = some a) → numG bl j f c = some (f + funs c)
  | [], j, f, _, _, _ => by simp [numG, funs]
  | x :: r, j, f, h1, h2, h3 => by
    simp only [numG]
    have h2' := fun y hy => h2 y (List.mem_cons_of_mem _ hy)
    by_cases e14 : x.1 = 14
    · have hx0 := h2 x (by simp) e14
      rw [if_neg (by omega), if_neg (by omega), if_neg (by omega), if_pos hx0]
      have e2 : ¬ x.1 = 2 := by omega
      rw [num_fwd bl r (j + 1) f h1.2 h2' (by simpa [funA, e2] using h3), funs_cons, if_neg e2]
      congr 1
      omega
    · have hok := h1.1 e14
      simp only [okI, Bool.and_eq_true, decide_eq_true_eq] at hok
      obtain ⟨⟨k1, k2⟩, k3⟩ := hok
      rw [if_neg (by omega)]
      by_cases e1 : x.1 = 1
      · rw [if_neg (by omega), if_pos e1] at k3
        have k3 := of_decide_eq_true k3
        rw [if_pos e1, if_neg (by omega)]
        have e2 : ¬ x.1 = 2 := by omega
        rw [num_fwd bl r (j + 1) f h1.2 h2' (by simpa [funA, e2] using h3), funs_cons, if_neg e2]
        congr 1
        omega
      · rw [if_neg e1]
        by_cases e2 : x.1 = 2
        · rw [if_pos e2] at k3 ⊢
          have k3 := of_decide_eq_true k3
          have h4 := h3 0 x.2 (by simp [funA, e2])
          rw [Nat.add_zero] at h4
          have hlt := (List.getElem?_eq_some_iff.1 h4).1
          rw [if_neg (by
            simp only [not_or, Decidable.not_not]
            refine ⟨by omega, ?_, by omega⟩
            rw [List.getD_eq_getElem?_getD, h4]; rfl)]
          rw [num_fwd bl r (j + 1) (f + 1) h1.2 h2' (fun i a ha => by
            have := h3 (i + 1) a (by simpa [funA, e2] using ha)
            rwa [show f + 1 + (i + 1) = f + 1 + 1 + i from by omega] at this), funs_cons, if_pos e2]
          congr 1
          omega
        · rw [if_neg e2] at k3 ⊢
          rw [if_neg e1] at k3
          have k3 := of_decide_eq_true k3
          rw [if_pos k3]
          rw [num_fwd bl r (j + 1) f h1.2 h2' (by simpa [funA, e2] using h3), funs_cons, if_neg e2]
          congr 1
          omega

/-- where the blocks of what is laid begin -/
theorem begG_no14 (n j : Nat) (b : List Ins) (h : ∀ x ∈ b, ¬ x.1 = 14) : begG n j b = [] := by
  induction b generalizing j with
  | nil => rfl
  | cons x r ih => simp only [begG]; rw [if_neg (fun e => h x (by simp) e.1), ih _ fun y hy => h y (by simp [hy])]; rfl
theorem begG_lay : ∀ (bs : List (List Ins)) (j n : Nat), bs ≠ [] → (∀ d ∈ bs, ∀ x ∈ d, ¬ x.1 = 14) → n = j + (lay bs).length → begG n j (lay bs) = (ends j bs).dropLast
  | [], _, _, h, _, _ => absurd rfl h
  | b :: r, j, n, _, h14, hn => by
    rw [lay_cons, begG_append, begG_append, begG_no14 _ _ b (h14 b (by simp)), List.nil_append]
    rw [lay_cons] at hn
    simp only [List.length_append, List.length_singleton] at hn
    simp only [begG, List.append_nil, true_and, List.length_append, List.length_singleton]
    cases r with
    | nil =>
      have hz : (lay ([] : List (List Ins))).length = 0 := rfl
      rw [hz] at hn
      rw [if_neg (by omega)]
      simp [lay, begG, ends]
    | cons d r =>
      have hpos : 0 < (lay (d :: r)).length := by rw [lay_cons]; simp; omega
      rw [if_pos (by omega)]
      have ih := begG_lay (d :: r) (j + b.length + 1) n (by simp) (fun x hx => h14 x (by simp [hx])) (by omega)
      rw [show j + (b.length + 1) = j + b.length + 1 from by omega, ih]
      rfl
theorem splitC_ok : ∀ (c : List Ins), (∀ d ∈ splitC c, ∀ x ∈ d, ¬ x.1 = 14)
  | [] => by simp [splitC]
  | x :: r => by
    have ih := splitC_ok r
    simp only [splitC]
    split
    · intro d hd
      rcases List.mem_cons.1 hd with rfl | hd
      · intro x hx; cases hx
      · exact ih d hd
    · rename_i hx
      split
      · intro d hd y hy
        rw [List.mem_singleton.1 hd] at hy
        rw [List.mem_singleton.1 hy]
        exact hx
      · rename_i b bs he
        rw [he] at ih
        intro d hd
        rcases List.mem_cons.1 hd with rfl | hd
        · intro y hy
          rcases List.mem_cons.1 hy with rfl | hy
          · exact hx
          · exact ih b (by simp) y hy
        · exact ih d (by simp [hd])
theorem splitC_lay : ∀ (c : List Ins), c ≠ [] → lastOp c = 14 → (∀ x ∈ c, x.1 = 14 → x.2 = 0) → lay (splitC c) = c ∧ splitC c ≠ []
  | [], h, _, _ => absurd rfl h
  | x :: r, _, hl, hr => by
    by_cases hx : x.1 = 14
    · have hx0 := hr x (by simp) hx
      have hxe : x = (14, 0) := by cases x; simp only at hx hx0; rw [hx, hx0]
      simp only [splitC, if_pos hx]
      refine ⟨?_, by simp⟩
      rw [lay_cons]
      by_cases e : r = []
      · subst e; simp [splitC, lay, hxe]
      · rw [(splitC_lay r e (by rw [← lastOp_cons _ e]; exact hl) fun y hy => hr y (by simp [hy])).1, hxe]; rfl
    · have e : r ≠ [] := by
        rintro rfl
        simp [lastOp] at hl
        exact hx hl
      obtain ⟨h1, h2⟩ := splitC_lay r e (by rw [← lastOp_cons _ e]; exact hl) fun y hy => hr y (by simp [hy])
      simp only [splitC, if_neg hx]
      split
      · rename_i he; exact absurd he h2
      · rename_i b bs he
        rw [he] at h1
        refine ⟨?_, by simp⟩
        rw [lay_cons] at h1 ⊢
        simp only [List.cons_append, h1]
theorem funs_funA (c : List Ins) : funs c = (funA c).length := (funA_length c).symm
theorem numbers_of {c : List Ins} (h : numbersN c = true) : NumP (splitC c) ∧ lay (splitC c) = c := by
  unfold numbersN at h
  split at h
  · cases h
  rename_i h0
  simp only [not_or, Decidable.not_not] at h0
  split at h
  · cases h
  rename_i f hf
  have h := of_decide_eq_true h
  obtain ⟨i1, i2, i3, i4, i5⟩ := num_inv _ c 0 0 f hf
  obtain ⟨s1, s2⟩ := splitC_lay c h0.1 h0.2.2 i2
  have s3 := splitC_ok c
  have hb : beginsN c = 0 :: (ends 0 (splitC c)).dropLast := by
    unfold beginsN
    conv => lhs; rw [← s1]
    rw [begG_lay (splitC c) 0 _ s2 s3 (by omega)]
  refine ⟨⟨s2, by rw [s1]; omega, by rw [s1]; exact i1, s3, ?_, by rw [s1]; exact i2⟩, s1⟩
  rw [s1]
  rw [hb] at h i5
  simp only [List.length_cons] at h
  have hlen : (funA c).length = ((ends 0 (splitC c)).dropLast).length := by rw [← funs_funA]; omega
  apply List.ext_getElem?
  intro i
  rcases Nat.lt_or_ge i (funA c).length with hi | hi
  · rw [List.getElem?_eq_getElem hi]
    have := i5 i _ (List.getElem?_eq_getElem hi)
    rw [show 0 + 1 + i = i + 1 from by omega, List.getElem?_cons_succ] at this
    exact this.symm
  · rw [List.getElem?_eq_none hi, List.getElem?_eq_none (by omega)]
theorem numbers_to {bs : List (List Ins)} (h : NumP bs) : numbersN (lay bs) = true := by
  obtain ⟨h1, h2, h3, h4, h5, h6⟩ := h
  unfold numbersN
  have hb : beginsN (lay bs) = 0 :: (ends 0 bs).dropLast := by
    unfold beginsN
    rw [begG_lay bs 0 _ h1 h4 (by omega)]
  have hne : lay bs ≠ [] ∧ lastOp (lay bs) = 14 := by
    cases bs with
    | nil => exact absurd rfl h1
    | cons b r => exact ⟨by rw [lay_cons]; simp, lay_last b r⟩
  rw [if_neg (by
    simp only [not_or, Decidable.not_not]
    exact ⟨hne.1, by omega, hne.2⟩)]
  rw [num_fwd _ (lay bs) 0 0 h3 h6 fun i a ha => by
    rw [hb, show 0 + 1 + i = i + 1 from by omega, List.getElem?_cons_succ, ← h5]; exact ha]
  simp only [hb, List.length_cons, ← h5, funs_funA, Nat.zero_add, decide_true]

/-- a function's number is the start of a later block -/
theorem num_later {bs : List (List Ins)} (h : NumP bs) {k j : Nat} {b : List Ins} {a : Int} (hb : bs[k]? = some b) (hx : b[j]? = some (2, a)) : ∃ k', k + 1 ≤ k' ∧ k' < bs.length ∧ a = ((startAt bs k' : Nat) : Int) := by
  have hj := (List.getElem?_eq_some_iff.1 hx).1
  have hat := (lay_at bs hb).1 j hj
  rw [hx] at hat
  have hok := okCd_at h.ok hat (show ¬ ((2 : Int) = 14) from by decide)
  simp only [okI, if_true, Bool.and_eq_true, decide_eq_true_eq, Nat.zero_add] at hok
  have hmem : a ∈ funA (lay bs) := by
    have hm := List.mem_of_getElem? hat
    generalize lay bs = c at hm
    induction c with
    | nil => cases hm
    | cons y r ih =>
      simp only [funA]
      rcases List.mem_cons.1 hm with e | hm
      · subst e; simp
      · split
        · exact List.mem_cons_of_mem _ (ih hm)
        · exact ih hm
  rw [h.at'] at hmem
  have hm2 : a ∈ (0 :: (ends 0 bs).dropLast) := List.mem_cons_of_mem _ hmem
  obtain ⟨k', hk'⟩ := List.mem_iff_getElem?.1 hm2
  have hlen := starts_len h.one
  have hkl : k' < bs.length := by have := (List.getElem?_eq_some_iff.1 hk').1; omega
  rw [starts_get hkl] at hk'
  have ha := Option.some.inj hk'
  refine ⟨k', ?_, hkl, ha.symm⟩
  rcases Nat.lt_or_ge k k' with h1 | h1
  · omega
  · have := startAt_mono bs h1
    omega
/-- what stands in what is laid, and is no end, stands in a block -/
theorem lay_pos : ∀ (bs : List (List Ins)) (p : Nat) (x : Ins), (lay bs)[p]? = some x → ¬ x.1 = 14 → ∃ (i : Nat) (b : List Ins) (q : Nat), bs[i]? = some b ∧ b[q]? = some x ∧ p = startAt bs i + q
  | [], p, x, h, _ => by simp [lay] at h
  | b :: r, p, x, h, hx => by
    rw [lay_cons] at h
    rcases Nat.lt_or_ge p b.length with h1 | h1
    · rw [List.append_assoc, List.getElem?_append_left h1] at h
      exact ⟨0, b, p, rfl, h, by simp [startAt, lay]⟩
    · rw [List.append_assoc, List.getElem?_append_right h1] at h
      rcases Nat.eq_zero_or_pos (p - b.length) with h2 | h2
      · rw [h2] at h
        simp at h
        exact absurd (by rw [← h]) hx
      · obtain ⟨m, hm⟩ : ∃ m, p - b.length = m + 1 := ⟨p - b.length - 1, by omega⟩
        rw [hm] at h
        simp only [List.cons_append, List.nil_append, List.getElem?_cons_succ] at h
        obtain ⟨i, d, q, i1, i2, i3⟩ := lay_pos r m x h hx
        refine ⟨i + 1, d, q, by simpa using i1, i2, ?_⟩
        have : startAt (b :: r) (i + 1) = b.length + 1 + startAt r i := by
          unfold startAt
          rw [List.take_succ_cons, lay_cons]
          simp
          omega
        omega
/-- the blocks that are reached from one are right -/
inductive Good (bs : List (List Ins)) : Nat → Prop
  | mk (k : Nat) (b : List Ins) (hb : bs[k]? = some b) (hh : hts b 0 = some 1) (hf : ∀ j : Nat, j < bs.length → (2, ((startAt bs j : Nat) : Int)) ∈ b → Good bs j) : Good bs k
theorem good_iff {bs : List (List Ins)} {k : Nat} {b : List Ins} (hb : bs[k]? = some b) : Good bs k ↔ hts b 0 = some 1 ∧ ∀ j : Nat, j < bs.length → (2, ((startAt bs j : Nat) : Int)) ∈ b → Good bs j := by
  constructor
  · rintro ⟨_, b', hb', hh, hf⟩
    rw [hb] at hb'
    cases hb'
    exact ⟨hh, hf⟩
  · rintro ⟨h1, h2⟩
    exact ⟨k, b, hb, h1, h2⟩
theorem good_all {bs : List (List Ins)} (h : NumP bs) : Good bs 0 ↔ ∀ d ∈ bs, hts d 0 = some 1 := by
  constructor
  · intro h0
    have key : ∀ k, k < bs.length → Good bs k := by
      intro k
      induction k using Nat.strongRecOn with
      | _ k ih =>
        intro hk
        rcases Nat.eq_zero_or_pos k with e | e
        · subst e; exact h0
        · obtain ⟨m, rfl⟩ : ∃ m, k = m + 1 := ⟨k - 1, by omega⟩
          have h1 := starts_get hk
          rw [List.getElem?_cons_succ, ← h.at'] at h1
          have hmem : ∀ (c : List Ins) (i : Nat) (a : Int), (funA c)[i]? = some a → ∃ p : Nat, c[p]? = some (2, a) := by
            intro c
            induction c with
            | nil => intro i a hi; simp [funA] at hi
            | cons y r ihc =>
              intro i a hi
              simp only [funA] at hi
              split at hi
              · rename_i hy
                cases i with
                | zero => simp at hi; exact ⟨0, by rw [← hi, ← hy]; rfl⟩
                | succ i =>
                  obtain ⟨p, hp⟩ := ihc i a (by simpa using hi)
                  exact ⟨p + 1, by simpa using hp⟩
              · obtain ⟨p, hp⟩ := ihc i a hi
                exact ⟨p + 1, by simpa using hp⟩
          obtain ⟨p, hp⟩ := hmem _ _ _ h1
          have hok := okCd_at h.ok hp (show ¬ ((2 : Int) = 14) from by decide)
          simp only [okI, if_true, Bool.and_eq_true, decide_eq_true_eq, Nat.zero_add] at hok
          obtain ⟨i, b, q, q1, q2, q3⟩ := lay_pos bs p _ hp (show ¬ ((2 : Int) = 14) from by decide)
          have hi := (List.getElem?_eq_some_iff.1 q1).1
          have hlt : i < m + 1 := by
            rcases Nat.lt_or_ge i (m + 1) with h2 | h2
            · exact h2
            · have := startAt_mono bs h2; omega
          exact ((good_iff q1).1 (ih i hlt hi)).2 (m + 1) hk (List.mem_of_getElem? q2)
    intro d hd
    obtain ⟨k, hk⟩ := List.mem_iff_getElem?.1 hd
    exact ((good_iff hk).1 (key k (List.getElem?_eq_some_iff.1 hk).1)).1
  · intro hh
    have key : ∀ n k, k + n = bs.length → ∀ i, k ≤ i → i < bs.length → Good bs i := by
      intro n
      induction n with
      | zero => intro k hk i h1 h2; omega
      | succ n ih =>
        intro k hk i h1 h2
        by_cases e : i = k
        · subst e
          have hb : bs[i]? = some (bs[i]'h2) := List.getElem?_eq_getElem h2
          refine (good_iff hb).2 ⟨hh _ (List.mem_of_getElem? hb), fun j hj hm => ?_⟩
          obtain ⟨q, hq⟩ := List.mem_iff_getElem?.1 hm
          obtain ⟨k', k1, k2, k3⟩ := num_later h hb hq
          have : j = k' := startAt_inj bs (by omega) (by omega) (by omega)
          exact ih (i + 1) (by omega) j (by omega) hj
        · exact ih (k + 1) (by omega) i (by omega) h2
    exact key bs.length 0 (by omega) 0 (Nat.le_refl _) (List.length_pos_iff.2 h.one)
theorem prg_num {bs : List (List Ins)} (h : Prg bs) : NumP bs where
  one := h.one
  len := h.len
  ok := h.ok
  no14 := h.no14
  at' := h.at'
  ret := by
    intro x hx e
    unfold lay at hx
    rw [List.mem_flatMap] at hx
    obtain ⟨b, hb, hxb⟩ := hx
    rcases List.mem_append.1 hxb with hxb | hxb
    · exact absurd e (h.no14 b hb x hxb)
    · rw [List.mem_singleton.1 hxb]
theorem num_prg {bs : List (List Ins)} (h : NumP bs) (hg : Good bs 0) : Prg bs := ⟨h.one, h.len, (good_all h).1 hg, h.ok, h.no14, h.at'⟩
theorem prg_good {bs : List (List Ins)} (h : Prg bs) : Good bs 0 := (good_all (prg_num h)).2 h.high
/-- a program is valid exactly if its numbers are right, and its blocks -/
theorem valid_iff (c : List Ins) : (startsN c).2 = true ↔ numbersN c = true ∧ Good (splitC c) 0 := by
  constructor
  · intro hs
    obtain ⟨bs, rfl, hp, -⟩ := starts_of (starts_snd hs)
    rw [split_lay bs hp.no14]
    exact ⟨numbers_to (prg_num hp), prg_good hp⟩
  · rintro ⟨h1, h2⟩
    obtain ⟨h3, h4⟩ := numbers_of h1
    have := starts_to (num_prg h3 h2)
    rw [h4] at this
    rw [this]
end Go.Proofs.YtmdjiajbnifjpaaDoor.Lift

/-
  Part V of the small logic: a slice literal that is one's own (it may be appended to).
-/
namespace Go.Proofs.YtmdjiajbnifjpaaDoor.Lift
set_option linter.unusedSimpArgs false
set_option linter.unusedVariables false
set_option linter.unnecessarySimpa false
open Go
section
variable {X : Ctx} {s : St}

theorem step_litO {o : Oper} {t len E B : Nat} {parts : Array (Nat × Operand)} (ho : o.op = .buildSlice t len parts) {d : Nat} (hd : o.dst = some d) (hn : d < X.n) (hd0 : d ≠ 0) (hf : freshT d s = true) (he : elemZ X.P t = some (E, B)) {els : List (List DV)}
    (h : litEls X (get s) E 0 parts.toList = some els) (hc : els.length = len ∧ len * E ≤ 16777216 ∧ len ≤ BIG) : StepOK X s o (upd (upd (del s (.tok 0)) (.slot d) (.one (.own d els))) (.tok d) (.tk E len)) := by
  intro G a w R next Q hK
  obtain ⟨c, e, h1, h2, h3⟩ := buildSlice_run R he h hc.1 hc.2.1 hc.2.2
  refine opIn (by intro c e; rw [ho] at e; cases e) ?_
  simp only [execOp, ho, Sem.run_bind, h1, Result.andThen_ok, Sem.run_pure, upn_value, hd]
  have hτ0 : (setτ G (withData G.D w.heap.size 0 (len * E)) d (some ⟨w.heap.size, 0, none⟩, len)).τ 0 = (none, 0) := by simp only [setτ, if_neg (Ne.symm hd0)]; exact R.nil
  have T : Trans X G a w (setτ G (withData G.D w.heap.size 0 (len * E)) d (some ⟨w.heap.size, 0, none⟩, len)) a (w.alloc (.cells c e)) (fun _ => False) := trans_data R (hi := len * E) (by omega) rfl hτ0
  refine hK (setτ G (withData G.D w.heap.size 0 (len * E)) d (some ⟨w.heap.size, 0, none⟩, len)) _ _ (R.ownNew (t := 0) hn hf T rfl (fun k hk => by simp [setτ, hk]) (fun b h => h.elim) ?_ ?_ (fun b hb => ?_))
  · simp only [RSV, setτ, if_true]
    rw [← hc.1] at h3 ⊢
    exact ⟨rfl, h3⟩
  · simp only [TokAt, setτ, if_true]
    exact ⟨Nat.le_refl _, fun h => absurd h (Nat.lt_irrefl _)⟩
  · simp [tokBlk, setτ] at hb

theorem vcK_litO {esc : List Nat} {ops : Array Oper} {l : List Oper} {K : St → Prop} {d : Tmp} {t len : Nat} {parts : Array (Nat × Operand)} {ty : TypeId} {pos : String} {af : Array Edge} {q : Option (Prop × St)} {E B : Nat} {els : List (List DV)}
    (he : elemZ X.P t = some (E, B)) (h : litEls X (get s) E 0 parts.toList = some els) (hc : els.length = len ∧ len * E ≤ 16777216 ∧ len ≤ BIG) (hn : d < X.n) (hd0 : d ≠ 0) (hf : freshT d s = true) (hq : q = none)
    (k : vc X esc ops l (upd (upd (del s (.tok 0)) (.slot d) (.one (.own d els))) (.tok d) (.tk E len)) K) :
    vcK X esc ops l K ⟨some d, .buildSlice t len parts, ty, pos, af, none⟩ s q := by
  subst hq
  exact VL_step rfl (step_litO (o := ⟨some d, .buildSlice t len parts, ty, pos, af, none⟩) rfl rfl hn hd0 hf he h hc) (vc_sound k)

end
end Go.Proofs.YtmdjiajbnifjpaaDoor.Lift

/-
  Package code: Starts and Check, walked.
-/
namespace Go.Proofs.YtmdjiajbnifjpaaDoor.Lift
set_option linter.unusedSimpArgs false
set_option linter.unusedVariables false
set_option linter.unnecessarySimpa false
open Go
variable {gl : Globs}

set_option maxHeartbeats 2000000 in
set_option maxRecDepth 10000 in
theorem starts_ok (hop : globOf gl 0 = some opEls) (c : List Ins) (hb : c.length ≤ 1000000000) : Con1 Tryd.prog gl 55 [.sl (rowsI c)] [] (.tup [.sl (ints (startsN c).1), dbool (startsN c).2]) [] := by
  refine t_in Tryd.func55 ?_
  intro X hP hgl hf hfn hn hR hids hfit
  have hcl : (rowsI c).length = c.length := by simp [rowsI]
  refine t_rg0 ?_
  by_cases h0 : c = []
  · subst h0
    repeat (first | refine W_seq ?_ | refine W_skip ?_ | refine W_block ?_ | refine W_inBlock ?_ | refine W_label ?_ | refine W_exit rfl ?_ | ((first | refine W_reg [] fun K hK => ?_ | refine W_regd (by rw [hP]; exact mixed) [] fun K hK => ?_); simp [go_sem, hP, hgl, hn, rowsI]; (repeat (refine ⟨by omega, ?_⟩)); (first | refine hK _ ?_ | refine ⟨by rfl, hK _ ?_⟩); clear hK K) | refine W_cond rfl (fun _ => ?_) (fun hq => False.elim (by first | (simp [rowsI]; done) | (simp [rowsI]; omega) | (simp [rowsI] at hq; done) | (simp [rowsI] at hq; omega))) | refine W_cond rfl (fun hq => False.elim (by first | (simp [rowsI]; done) | (simp [rowsI]; omega) | (simp [rowsI] at hq; done) | (simp [rowsI] at hq; omega))) (fun _ => ?_))
    refine t_r ?_
    simp [go_sem, hP, hgl, hn, startsN, ints] <;> (try omega)
  have hpos : 1 ≤ c.length := by
    cases c with
    | nil => exact absurd rfl h0
    | cons x r => simp
  have hlast : c.getLast? = some (c[c.length - 1]'(by omega)) := by rw [List.getLast?_eq_getElem?, List.getElem?_eq_getElem]
  have hi1 : ¬ ((c.length : Int) < 1) := by omega
  by_cases h1 : 4096 < c.length
  · have hi2 : (4096 : Int) < (c.length : Int) := by omega
    refine t_g (j2 @hcl (j2 @hi1 @hi2)) ?_
    refine t_r ?_
    simp [go_sem, hP, hgl, hn, startsN, h1, ints] <;> (try omega)
  obtain ⟨o, a, hoa⟩ : ∃ o a, c[c.length - 1]? = some (o, a) := ⟨(c[c.length - 1]'(by omega)).1, (c[c.length - 1]'(by omega)).2, by rw [List.getElem?_eq_getElem]⟩
  have hlo : lastOp c = o := by rw [lastOp, List.getLast?_eq_getElem?, hoa]; rfl
  have hrow : (rowsI c)[c.length - 1]? = some [dint o, dint a] := by simp [rowsI, hoa, Ins.row]
  have hidx : ((c.length : Int) - 1).toNat = c.length - 1 := by omega
  have hi2 : ¬ ((4096 : Int) < (c.length : Int)) := by omega
  by_cases h2 : o = 14
  · subst h2
    refine t_rg (j2 @hcl (j2 @hi1 (j2 @hi2 (j2 @hidx @hrow)))) ?_
    refine t_no ?_
    refine t_a ?_
    refine W_reg [29] fun K hK => ?_
    simp [go_sem, hP, hgl, hn]
    refine vcK_litO (E := 1) (els := [[dint 0]]) (by simp [go_sem, hP]; rfl) (by simp [go_sem, hP, hgl, hn]) ⟨rfl, by decide, by decide⟩ (by rw [hn]; exact Nat.le_of_ble_eq_true rfl) (by decide) (by rfl) (by rfl) ?_
    simp [go_sem, hP, hgl, hn]
    refine hK _ ?_
    clear hK K
    refine t_rg0 ?_
    refine t_rg0 ?_
    refine t_rg @hcl ?_
    refine t_a ?_
    refine W_sub [(1004, 29), (1005, 0)] (by simp [go_sem]) (by simp [go_sem, ints] <;> omega) (by simp [go_sem]) (W_rounds (fun x : Nat × Int × List Int × List Int => x.1 ≤ c.length ∧ scanS (c.drop x.1) x.1 x.2.1 x.2.2.1 x.2.2.2 = scanS c 0 0 [0] [] ∧ 0 ≤ x.2.1 ∧ x.2.1 ≤ x.1 ∧ x.2.2.1 ≠ [] ∧ x.2.2.1.length ≤ x.1 + 1 ∧ x.2.2.2.length ≤ x.1) (fun x : Nat × Int × List Int × List Int => [(.slot 4, .one (.own 1004 (ints x.2.2.1))), (.tok 1004, .tk 1 x.2.2.1.length), (.slot 5, .one (.own 1005 (ints x.2.2.2))), (.tok 1005, .tk 1 x.2.2.2.length), (.slot 6, .one (.v (dint x.2.1))), (.slot 30, .one (.v (.sl (rowsI c)))), (.slot 31, .one (.v (dint c.length))), (.slot 32, .one (.v (dint x.1)))]) (fun x : Nat × Int × List Int × List Int => c.length - x.1) (0, 0, [0], []) (⟨Nat.zero_le _, rfl, by decide, by decide, by decide, by decide, by decide⟩) ?_)
    rintro ⟨n, h, st, fs⟩ ⟨i1, i2, i3, i4, i5, i6, i7⟩ ihr
    simp only at i1 i2 i3 i4 i5 i6 i7
    rcases Nat.lt_or_ge n c.length with hlt | hge
    · obtain ⟨o, a, hx⟩ : ∃ o a, c[n]? = some (o, a) := ⟨(c[n]'hlt).1, (c[n]'hlt).2, by rw [List.getElem?_eq_getElem hlt]⟩
      have hdr : c.drop n = (o, a) :: c.drop (n + 1) := by
        rw [List.drop_eq_getElem_cons hlt]
        rw [List.getElem?_eq_getElem hlt] at hx
        rw [Option.some.inj hx]
      have hg : (rowsI c)[n]? = some [dint o, dint a] := by simp [rowsI, hx, Ins.row]
      rw [hdr, scanS] at i2
      simp only at i2
      have hltI : (n : Int) < (c.length : Int) := by omega
      have hrj : scanS c 0 0 [0] [] = none → startsN c = ([], false) := by
        intro hq
        unfold startsN
        rw [hq]
        split <;> rfl
      refine t_rg @hltI ?_
      refine t_yes ?_
      by_cases h14 : o = 14
      · subst h14
        rw [if_pos rfl] at i2
        by_cases ha : a = 0
        · by_cases hh : h = 1
          · rw [if_pos ⟨ha, hh⟩] at i2
            repeat (first | (refine W_sub [(1004, 52)] (by simp [go_sem]) (by simp [go_sem, ints] <;> omega) (by simp [go_sem]) (ihr (n + 1, 0, st ++ [((n + 1 : Nat) : Int)], fs) ⟨hlt, i2, Int.le_refl _, by simp only; omega, by simp, by simp only [List.length_append, List.length_singleton]; omega, by simp only; omega⟩ (by simp only; omega))) | refine W_seq ?_ | refine W_skip ?_ | refine W_block ?_ | refine W_inBlock ?_ | refine W_label ?_ | refine W_exit rfl ?_ | ((first | refine W_reg [] fun K hK => ?_ | refine W_regd (by rw [hP]; exact mixed) [] fun K hK => ?_); simp [go_sem, hP, hgl, hn, hg, ha, hh, ints]; (repeat (refine ⟨by omega, ?_⟩)); (first | refine hK _ ?_ | refine ⟨by rfl, hK _ ?_⟩); clear hK K) | refine W_cond rfl (fun _ => ?_) (fun hq => False.elim (by first | (simp [hg, ha, hh, ints]; done) | (simp [hg, ha, hh, ints]; omega) | (simp [hg, ha, hh, ints] at hq; done) | (simp [hg, ha, hh, ints] at hq; omega))) | refine W_cond rfl (fun hq => False.elim (by first | (simp [hg, ha, hh, ints]; done) | (simp [hg, ha, hh, ints]; omega) | (simp [hg, ha, hh, ints] at hq; done) | (simp [hg, ha, hh, ints] at hq; omega))) (fun _ => ?_))
          · rw [if_neg (fun e => hh e.2)] at i2
            have hr := hrj i2.symm
            refine t_g (j2 @hg (j2 @ha @hh)) ?_
            refine t_r ?_
            simp [go_sem, hP, hgl, hn, hr, ints] <;> (try omega)
        · rw [if_neg (fun e => ha e.1)] at i2
          have hr := hrj i2.symm
          refine t_g (j2 @hg @ha) ?_
          refine t_r ?_
          simp [go_sem, hP, hgl, hn, hr, ints] <;> (try omega)
      · rw [if_neg h14] at i2
        by_cases hr : 1 ≤ o ∧ o ≤ 13
        · obtain ⟨k, rfl⟩ := Int.eq_ofNat_of_zero_le (by omega : 0 ≤ o)
          have hk1 : 1 ≤ k := by omega
          have hk2 : k ≤ 13 := by omega
          have hop1 := opEls_get k hk1 hk2
          have hk14 : ¬ k = 14 := by omega
          have hk14' : ¬ (k : Int) = 14 := by omega
          have hkl : ¬ (k : Int) < 1 := by omega
          have hkg : ¬ (14 : Int) ≤ (k : Int) := by omega
          have hkh : (k : Int) < 14 := by omega
          have htk : (0 : Int) ≤ takesI (k : Int) ∧ (takesI (k : Int) : Int) ≤ 3 := by
            unfold takesI; repeat' split
            all_goals decide
          have e13 : ((1 : Int) ≤ (k : Int)) ∧ ((k : Int) ≤ 13) := ⟨by omega, by omega⟩
          by_cases k2 : k = 2
          · subst k2
            have ht2 : takesI ((2 : Nat) : Int) = 0 := rfl
            have ht2' : takesI (2 : Int) = 0 := rfl
            by_cases ha : a ≤ n
            · rw [if_neg (fun e => by
                have h1 := e.1
                simp only [okI, Bool.and_eq_true, decide_eq_true_eq] at h1
                have h2 := h1.2
                simp at h2
                omega)] at i2
              have hr' := hrj i2.symm
              refine t_g (j2 @hg @ha) ?_
              refine t_r ?_
              simp [go_sem, hP, hgl, hn, hr', ints] <;> (try omega)
            · have hh0 : ¬ h < 0 := by omega
              rw [if_pos ⟨by simp [okI]; omega, by show ((takesI ((2 : Nat) : Int) : Nat) : Int) ≤ h; omega⟩, if_pos (show ((2 : Nat) : Int) = 2 from rfl)] at i2
              have e : h + 1 - ((takesI ((2 : Nat) : Int) : Nat) : Int) = h + 1 := by rw [ht2]; omega
              have i2' : scanS (c.drop (n + 1)) (n + 1) (h + 1) st (fs ++ [a]) = scanS c 0 0 [0] [] := i2 ▸ congrArg (fun z => scanS (c.drop (n + 1)) (n + 1) z st (fs ++ [a])) e.symm
              repeat (first | (refine W_sub [(1005, 74)] (by simp [go_sem]) (by simp [go_sem, ints] <;> omega) (by simp [go_sem]) (ihr (n + 1, h + 1, st, fs ++ [a]) ⟨hlt, i2', by simp only; omega, by simp only; omega, i5, by simp only; omega, by simp only [List.length_append, List.length_singleton]; omega⟩ (by simp only; omega))) | refine W_seq ?_ | refine W_skip ?_ | refine W_block ?_ | refine W_inBlock ?_ | refine W_label ?_ | refine W_exit rfl ?_ | ((first | refine W_reg [] fun K hK => ?_ | refine W_regd (by rw [hP]; exact mixed) [] fun K hK => ?_); simp [go_sem, hP, hgl, hn, hg, ha, ints, hop, hop1, ht2', hh0]; (repeat (refine ⟨by omega, ?_⟩)); (first | refine hK _ ?_ | refine ⟨by rfl, hK _ ?_⟩); clear hK K) | refine W_cond rfl (fun _ => ?_) (fun hq => False.elim (by first | (simp [hg, ha, ints, hop, hop1, ht2', hh0]; done) | (simp [hg, ha, ints, hop, hop1, ht2', hh0]; omega) | (simp [hg, ha, ints, hop, hop1, ht2', hh0] at hq; done) | (simp [hg, ha, ints, hop, hop1, ht2', hh0] at hq; omega))) | refine W_cond rfl (fun hq => False.elim (by first | (simp [hg, ha, ints, hop, hop1, ht2', hh0]; done) | (simp [hg, ha, ints, hop, hop1, ht2', hh0]; omega) | (simp [hg, ha, ints, hop, hop1, ht2', hh0] at hq; done) | (simp [hg, ha, ints, hop, hop1, ht2', hh0] at hq; omega))) (fun _ => ?_))
          by_cases k1 : k = 1
          · subst k1
            have ht1 : takesI ((1 : Nat) : Int) = 0 := rfl
            have ht1' : takesI (1 : Int) = 0 := rfl
            by_cases ha : a < 0
            · rw [if_neg (fun e => by
                have h1 := e.1
                simp only [okI, Bool.and_eq_true, decide_eq_true_eq] at h1
                have h2 := h1.2
                simp at h2
                omega)] at i2
              have hr' := hrj i2.symm
              refine t_g (j2 @hg @ha) ?_
              refine t_r ?_
              simp [go_sem, hP, hgl, hn, hr', ints] <;> (try omega)
            · have hh0 : ¬ h < 0 := by omega
              rw [if_pos ⟨by simp [okI]; omega, by show ((takesI ((1 : Nat) : Int) : Nat) : Int) ≤ h; omega⟩, if_neg (show ¬ ((1 : Nat) : Int) = 2 from by decide)] at i2
              have e : h + 1 - ((takesI ((1 : Nat) : Int) : Nat) : Int) = h + 1 := by rw [ht1]; omega
              have i2' : scanS (c.drop (n + 1)) (n + 1) (h + 1) st fs = scanS c 0 0 [0] [] := i2 ▸ congrArg (fun z => scanS (c.drop (n + 1)) (n + 1) z st fs) e.symm
              repeat (first | (refine W_sub [] (by simp [go_sem]) (by simp [go_sem, ints] <;> omega) (by simp [go_sem]) (ihr (n + 1, h + 1, st, fs) ⟨hlt, i2', by simp only; omega, by simp only; omega, i5, by simp only; omega, by simp only; omega⟩ (by simp only; omega))) | refine W_seq ?_ | refine W_skip ?_ | refine W_block ?_ | refine W_inBlock ?_ | refine W_label ?_ | refine W_exit rfl ?_ | ((first | refine W_reg [] fun K hK => ?_ | refine W_regd (by rw [hP]; exact mixed) [] fun K hK => ?_); simp [go_sem, hP, hgl, hn, hg, ha, ints, hop, hop1, ht1', hh0]; (repeat (refine ⟨by omega, ?_⟩)); (first | refine hK _ ?_ | refine ⟨by rfl, hK _ ?_⟩); clear hK K) | refine W_cond rfl (fun _ => ?_) (fun hq => False.elim (by first | (simp [hg, ha, ints, hop, hop1, ht1', hh0]; done) | (simp [hg, ha, ints, hop, hop1, ht1', hh0]; omega) | (simp [hg, ha, ints, hop, hop1, ht1', hh0] at hq; done) | (simp [hg, ha, ints, hop, hop1, ht1', hh0] at hq; omega))) | refine W_cond rfl (fun hq => False.elim (by first | (simp [hg, ha, ints, hop, hop1, ht1', hh0]; done) | (simp [hg, ha, ints, hop, hop1, ht1', hh0]; omega) | (simp [hg, ha, ints, hop, hop1, ht1', hh0] at hq; done) | (simp [hg, ha, ints, hop, hop1, ht1', hh0] at hq; omega))) (fun _ => ?_))
          have k2' : ¬ (k : Int) = 2 := by omega
          have k1' : ¬ (k : Int) = 1 := by omega
          by_cases ha : a = 0
          · by_cases hh : h < takesI (k : Int)
            · rw [if_neg (fun e => by have h5 : ((takesI (k : Int) : Nat) : Int) ≤ h := e.2; omega)] at i2
              have hr' := hrj i2.symm
              refine t_g (j2 @hg (j2 @hk14 (j2 @hk14' (j2 @hkl (j2 @hkg (j2 @hkh (j2 @k1 (j2 @k2 (j2 @k1' (j2 @k2' (j2 @ha (j2 @hop (j2 @hop1 (j2 @hh @hk2)))))))))))))) ?_
              refine t_r ?_
              simp [go_sem, hP, hgl, hn, hr', ints] <;> (try omega)
            · rw [if_pos ⟨by simp [okI, k1, k2, ha, hk1, hk2]; omega, by show ((takesI (k : Int) : Nat) : Int) ≤ h; omega⟩, if_neg k2'] at i2
              repeat (first | (refine W_sub [] (by simp [go_sem]) (by simp [go_sem, ints] <;> omega) (by simp [go_sem]) (ihr (n + 1, h + (1 - takesI (k : Int)), st, fs) ⟨hlt, by rw [← i2]; simp only; congr 1; omega, by simp only; omega, by simp only; omega, i5, by simp only; omega, by simp only; omega⟩ (by simp only; omega))) | refine W_seq ?_ | refine W_skip ?_ | refine W_block ?_ | refine W_inBlock ?_ | refine W_label ?_ | refine W_exit rfl ?_ | ((first | refine W_reg [] fun K hK => ?_ | refine W_regd (by rw [hP]; exact mixed) [] fun K hK => ?_); simp [go_sem, hP, hgl, hn, hg, hk14, hk14', hkl, hkg, hkh, k1, k2, k1', k2', ha, hop, hop1, hh, hk2]; (repeat (refine ⟨by omega, ?_⟩)); (first | refine hK _ ?_ | refine ⟨by rfl, hK _ ?_⟩); clear hK K) | refine W_cond rfl (fun _ => ?_) (fun hq => False.elim (by first | (simp [hg, hk14, hk14', hkl, hkg, hkh, k1, k2, k1', k2', ha, hop, hop1, hh, hk2]; done) | (simp [hg, hk14, hk14', hkl, hkg, hkh, k1, k2, k1', k2', ha, hop, hop1, hh, hk2]; omega) | (simp [hg, hk14, hk14', hkl, hkg, hkh, k1, k2, k1', k2', ha, hop, hop1, hh, hk2] at hq; done) | (simp [hg, hk14, hk14', hkl, hkg, hkh, k1, k2, k1', k2', ha, hop, hop1, hh, hk2] at hq; omega))) | refine W_cond rfl (fun hq => False.elim (by first | (simp [hg, hk14, hk14', hkl, hkg, hkh, k1, k2, k1', k2', ha, hop, hop1, hh, hk2]; done) | (simp [hg, hk14, hk14', hkl, hkg, hkh, k1, k2, k1', k2', ha, hop, hop1, hh, hk2]; omega) | (simp [hg, hk14, hk14', hkl, hkg, hkh, k1, k2, k1', k2', ha, hop, hop1, hh, hk2] at hq; done) | (simp [hg, hk14, hk14', hkl, hkg, hkh, k1, k2, k1', k2', ha, hop, hop1, hh, hk2] at hq; omega))) (fun _ => ?_))
          · rw [if_neg (fun e => by
              have h1 := e.1
              simp only [okI, Bool.and_eq_true, decide_eq_true_eq] at h1
              have h2 := h1.2
              rw [if_neg k2', if_neg k1'] at h2
              exact ha (of_decide_eq_true h2))] at i2
            have hr' := hrj i2.symm
            refine t_g (j2 @hg (j2 @hk14 (j2 @hk14' (j2 @hkl (j2 @hkg (j2 @k1 (j2 @k2 (j2 @k1' (j2 @k2' @ha))))))))) ?_
            refine t_r ?_
            simp [go_sem, hP, hgl, hn, hr', ints] <;> (try omega)
        · rw [if_neg (fun e => hr (by
            have h1 := e.1
            simp only [okI, Bool.and_eq_true, decide_eq_true_eq] at h1
            exact h1.1))] at i2
          have hr' := hrj i2.symm
          by_cases hl : o < 1
          · refine t_g (j2 @hg (j2 @h14 @hl)) ?_
            refine t_r ?_
            simp [go_sem, hP, hgl, hn, hr', ints] <;> (try omega)
          · have hgt : (14 : Int) ≤ o := by omega
            refine t_g (j2 @hg (j2 @h14 (j2 @hl @hgt))) ?_
            refine t_r ?_
            simp [go_sem, hP, hgl, hn, hr', ints] <;> (try omega)
    · have hn0 : n = c.length := by omega
      subst hn0
      rw [List.drop_length, scanS] at i2
      have hss : startsN c = if st.dropLast.tail = fs then (st.dropLast, true) else ([], false) := by
        unfold startsN
        rw [if_neg (by simp only [not_or, Decidable.not_not]; exact ⟨h0, by omega, hlo⟩), ← i2]
      have hs1 : 1 ≤ st.length := by cases st with | nil => exact absurd rfl i5 | cons _ _ => simp
      have hil : (ints st).length = st.length := by simp [ints]
      have hif : (ints fs).length = fs.length := by simp [ints]
      have hidx2 : ((st.length : Int) - 1).toNat = st.length - 1 := by omega
      have htk : (ints st).take (st.length - 1) = ints st.dropLast := by simp [ints, List.dropLast_eq_take, List.map_take]
      refine t_rg0 ?_
      refine t_no ?_
      refine t_rg (j2 @hil (j2 @hif (j2 @hidx2 @htk))) ?_
      have hs2 : 2 ≤ st.length := by
        obtain ⟨b, bs, -, -, -, -, -, i6'⟩ := scan_inv c 0 0 _ _ _ i2.symm h0 hlo
        have e := (Prod.mk.inj i6').1
        rw [e]
        simp [ends]
      have hdl : st.dropLast.length = st.length - 1 := List.length_dropLast
      generalize st.dropLast = sd at *
      have hsl : (ints sd).length = sd.length := by simp [ints]
      by_cases hle : fs.length = sd.length - 1
      · have hq : ((fs.length : Int)) = (sd.length : Int) - 1 := by omega
        refine t_g (j2 @hif (j2 @hsl @hq)) ?_
        refine t_a ?_
        refine t_sub [] @hq (W_rounds (fun k : Nat => k ≤ fs.length ∧ sd.tail.take k = fs.take k) (fun k : Nat => [(.slot 4, .one (.v (.sl (ints sd)))), (.slot 119, .one (.v (.sl (ints fs)))), (.slot 120, .one (.v (dint fs.length))), (.slot 121, .one (.v (dint k)))]) (fun k : Nat => fs.length - k) 0 (⟨Nat.zero_le _, rfl⟩) ?_)
        rintro k ⟨j1', j2'⟩ ihr2
        rcases Nat.lt_or_ge k fs.length with hk | hk
        · obtain ⟨y, hy⟩ : ∃ y, fs[k]? = some y := ⟨_, List.getElem?_eq_getElem hk⟩
          obtain ⟨z, hz⟩ : ∃ z, sd[k + 1]? = some z := ⟨sd[k + 1]'(by omega), List.getElem?_eq_getElem (by omega)⟩
          have hy' : (ints fs)[k]? = some [dint y] := by simp [ints, hy]
          have hz' : (ints sd)[k + 1]? = some [dint z] := by simp [ints, hz]
          have hi3 : ((k : Int) + 1).toNat = k + 1 := by omega
          have hzt : sd.tail[k]? = some z := by simpa using hz
          refine t_rg0 ?_
          refine t_yes ?_
          by_cases hyz : z = y
          · subst hyz
            refine t_gt (wr []) trivial (j2 @hy' (j2 @hz' @hi3)) (ihr2 (k + 1) ⟨hk, by rw [List.take_add_one, List.take_add_one, j2', hzt, hy]⟩ (by omega))
          · have hne : ¬ sd.tail = fs := by
              intro e
              rw [e, hy] at hzt
              exact hyz (Option.some.inj hzt).symm
            rw [if_neg hne] at hss
            refine t_g (j2 @hy' (j2 @hz' (j2 @hi3 @hyz))) ?_
            refine t_r ?_
            simp [go_sem, hP, hgl, hn, hss, ints] <;> (try omega)
        · have hke : k = fs.length := by omega
          have heq : sd.tail = fs := by
            rw [hke, List.take_length, List.take_of_length_le (by simp; omega)] at j2'
            exact j2'
          rw [if_pos heq] at hss
          refine t_rg0 ?_
          refine t_no ?_
          refine t_g0 ?_
          refine t_r ?_
          simp [go_sem, hP, hgl, hn, hss] <;> (try omega)
      · have hne : ¬ sd.tail = fs := by
          intro e
          apply hle
          rw [← e, List.length_tail]
        rw [if_neg hne] at hss
        have hq : ¬ ((fs.length : Int)) = (sd.length : Int) - 1 := by omega
        refine t_g (j2 @hif (j2 @hsl @hq)) ?_
        refine t_r ?_
        simp [go_sem, hP, hgl, hn, hss, ints] <;> (try omega)
  · refine t_g (j2 @hcl (j2 @hi1 (j2 @hi2 (j2 @hidx (j2 @hrow @h2))))) ?_
    refine t_r ?_
    simp [go_sem, hP, hgl, hn, startsN, hlo, h2, ints] <;> (try omega)
end Go.Proofs.YtmdjiajbnifjpaaDoor.Lift

/-
  The laws of layer 37: small functions of the reference, and untyped.
-/
namespace Go.Proofs.YtmdjiajbnifjpaaDoor.Lift
set_option linter.unusedSimpArgs false
set_option linter.unusedVariables false
set_option linter.unnecessarySimpa false
open Go
variable {gl : Globs}

theorem unit23c_ok : Con1 Tryd.prog gl 59 [] [] (Ty.mk 5 []).dv [] := by
  refine t_in Tryd.func59 ?_
  intro X hP hgl hf hfn hn hR hids hfit
  refine t_g0 ?_
  refine t_r ?_
  simp [go_sem, hP, hgl, hn] <;> (try omega)
  all_goals exact t_f
set_option maxHeartbeats 1000000 in
theorem same37_ok (a b : List Ins) (ha : a.length ≤ 1000000000) (hb : b.length ≤ 1000000000) : Con1 Tryd.prog gl 19 [.sl (rowsI a), .sl (rowsI b)] [] (dbool (decide (a = b))) [] := by
  refine t_in Tryd.func19 ?_
  intro X hP hgl hf hfn hn hR hids hfit
  have hal : (rowsI a).length = a.length := by simp [rowsI]
  have hbl : (rowsI b).length = b.length := by simp [rowsI]
  refine t_rg0 ?_
  by_cases hl : a.length = b.length
  rotate_left
  · have hne : ¬ a = b := fun e => hl (by rw [e])
    refine t_g (j2 @hal (j2 @hbl @hl)) ?_
    refine t_r ?_
    simp [go_sem, hP, hgl, hn, hne] <;> (try omega)
  · refine t_rg (j2 @hal (j2 @hbl @hl)) ?_
    refine t_no ?_
    refine t_rg0 ?_
    refine t_a ?_
    refine t_sub [] trivial (W_rounds (fun i : Nat => i ≤ a.length ∧ a.take i = b.take i) (fun i : Nat => [(.slot 0, .one (.v (.sl (rowsI a)))), (.slot 1, .one (.v (.sl (rowsI b)))), (.slot 5, .one (.v (dint i)))]) (fun i : Nat => a.length - i) 0 (⟨Nat.zero_le _, rfl⟩) ?_)
    rintro i ⟨i1, i2⟩ ihr
    rcases Nat.lt_or_ge i a.length with hi | hi
    · obtain ⟨o, x, hx⟩ : ∃ o x, a[i]? = some (o, x) := ⟨(a[i]'hi).1, (a[i]'hi).2, by rw [List.getElem?_eq_getElem hi]⟩
      obtain ⟨p, y, hy⟩ : ∃ p y, b[i]? = some (p, y) := ⟨(b[i]'(by omega)).1, (b[i]'(by omega)).2, by rw [List.getElem?_eq_getElem (by omega)]⟩
      have hx' : (rowsI a)[i]? = some [dint o, dint x] := by simp [rowsI, hx, Ins.row]
      have hy' : (rowsI b)[i]? = some [dint p, dint y] := by simp [rowsI, hy, Ins.row]
      refine t_rg @hal ?_
      refine t_yes ?_
      refine t_a ?_
      refine W_regT (by rw [hP]; exact mixed) 8 (by decide) (by rfl) [] [] fun K hK => ?_
      simp [go_sem, hP, hgl, hn, hx', hy']
      repeat (refine ⟨by omega, ?_⟩)
      refine ⟨by rfl, ?_⟩
      refine vcK_eqS (a := o) (b := x) (c := p) (e := y) true (by rw [hn]; exact Nat.le_of_ble_eq_true rfl) (by rw [hP]; kernel_rfl) (by simp [go_sem]) (by simp [go_sem]) rfl (by rfl) ?_
      simp [go_sem]
      refine hK _ ?_
      clear hK K
      by_cases he : o = p ∧ x = y
      · obtain ⟨rfl, rfl⟩ := he
        have hr : eqR true o x o x = false := by simp [eqR]
        rw [hr]
        refine t_gt (wr []) trivial trivial (ihr (i + 1) ⟨hi, by rw [List.take_add_one, List.take_add_one, i2, hx, hy]⟩ (by omega))
      · have hr : eqR true o x p y = true := by
          simp only [eqR, if_true]
          simp only [Bool.not_eq_true', Bool.and_eq_false_iff, decide_eq_false_iff_not]
          by_cases h1 : o = p
          · exact .inr fun h2 => he ⟨h1, h2⟩
          · exact .inl h1
        have hne : ¬ a = b := by
          intro e
          subst e
          rw [hx] at hy
          have := Option.some.inj hy
          exact he ⟨(Prod.mk.inj this).1, (Prod.mk.inj this).2⟩
        rw [hr]
        refine t_g0 ?_
        refine t_r ?_
        simp [go_sem, hP, hgl, hn, hne] <;> (try omega)
    · have hie : i = a.length := by omega
      have heq : a = b := by
        rw [hie, List.take_length, hl, List.take_length] at i2
        exact i2
      refine t_rg @hal ?_
      refine t_no ?_
      refine t_g0 ?_
      refine t_r ?_
      simp [go_sem, hP, hgl, hn, heq] <;> (try omega)

end Go.Proofs.YtmdjiajbnifjpaaDoor.Lift

/-
  The reference's Check and Term, walked.
-/
namespace Go.Proofs.YtmdjiajbnifjpaaDoor.Lift
set_option linter.unusedSimpArgs false
set_option linter.unusedVariables false
set_option linter.unnecessarySimpa false
open Go
variable {gl : Globs}

def kind37 (k : Int) : Int × Int := if 3 ≤ k ∧ k ≤ 13 then (k, takesI k) else (0, 0)
theorem kind37_ok (k : Int) : Con1 Tryd.prog gl 74 [dint k] [] (.tup [dint (kind37 k).1, dint (kind37 k).2]) [] := by
  refine t_in Tryd.func74 ?_
  intro X hP hgl hf hfn hn hR hids hfit
  refine t_g0 ?_
  by_cases hs0 : k = 3
  · refine t_g @hs0 ?_
    refine t_r ?_
    simp [go_sem, hP, hgl, hn, kind37, takesI, hs0] <;> (try omega)
  by_cases hs1 : k = 4
  · refine t_g @hs1 ?_
    refine t_r ?_
    simp [go_sem, hP, hgl, hn, kind37, takesI, hs1] <;> (try omega)
  by_cases hs2 : k = 5
  · refine t_g @hs2 ?_
    refine t_r ?_
    simp [go_sem, hP, hgl, hn, kind37, takesI, hs2] <;> (try omega)
  by_cases hs3 : k = 6
  · refine t_g @hs3 ?_
    refine t_r ?_
    simp [go_sem, hP, hgl, hn, kind37, takesI, hs3] <;> (try omega)
  by_cases hs4 : k = 7
  · refine t_g @hs4 ?_
    refine t_r ?_
    simp [go_sem, hP, hgl, hn, kind37, takesI, hs4] <;> (try omega)
  by_cases hs5 : k = 8
  · refine t_g @hs5 ?_
    refine t_r ?_
    simp [go_sem, hP, hgl, hn, kind37, takesI, hs5] <;> (try omega)
  by_cases hs6 : k = 9
  · refine t_g @hs6 ?_
    refine t_r ?_
    simp [go_sem, hP, hgl, hn, kind37, takesI, hs6] <;> (try omega)
  by_cases hs7 : k = 10
  · refine t_g @hs7 ?_
    refine t_r ?_
    simp [go_sem, hP, hgl, hn, kind37, takesI, hs7] <;> (try omega)
  by_cases hs8 : k = 11
  · refine t_g @hs8 ?_
    refine t_r ?_
    simp [go_sem, hP, hgl, hn, kind37, takesI, hs8] <;> (try omega)
  by_cases hs9 : k = 12
  · refine t_g @hs9 ?_
    refine t_r ?_
    simp [go_sem, hP, hgl, hn, kind37, takesI, hs9] <;> (try omega)
  by_cases hs10 : k = 13
  · refine t_g @hs10 ?_
    refine t_r ?_
    simp [go_sem, hP, hgl, hn, kind37, takesI, hs10] <;> (try omega)
  have hno : ¬ (3 ≤ k ∧ k ≤ 13) := by omega
  refine t_g (j2 @hs0 (j2 @hs1 (j2 @hs2 (j2 @hs3 (j2 @hs4 (j2 @hs5 (j2 @hs6 (j2 @hs7 (j2 @hs8 (j2 @hs9 @hs10)))))))))) ?_
  refine t_r ?_
  simp [go_sem, hP, hgl, hn, kind37, hno] <;> (try omega)
theorem var37_ok (i : Int) : Con1 Tryd.prog gl 72 [dint i] [] (Tm.mk 1 i (Ty.mk 0 []) []).dv [] := by
  refine t_in Tryd.func72 ?_
  intro X hP hgl hf hfn hn hR hids hfit
  refine t_g0 ?_
  refine t_r ?_
  simp [go_sem, hP, hgl, hn] <;> (try omega)
  all_goals exact t_f
theorem lam37_ok (s : Ty) (t : Tm) : Con1 Tryd.prog gl 73 [s.dv, t.dv] [] (Tm.mk 2 0 s [t]).dv [] := by
  refine t_in Tryd.func73 ?_
  intro X hP hgl hf hfn hn hR hids hfit
  have hfs := Ty.fold s
  have hft := Tm.fold t
  have hct := Tm.cells_eq t
  refine t_g (j2 @hfs @hft) ?_
  refine t_r ?_
  simp [go_sem, hP, hgl, hn, hct] <;> (try omega)
  all_goals exact t_f
theorem begG_take (n : Nat) {c : List Ins} {i : Nat} {x : Ins} (h : c[i]? = some x) : begG n 0 (c.take (i + 1)) = begG n 0 (c.take i) ++ (if x.1 = 14 ∧ i + 1 < n then [((i + 1 : Nat) : Int)] else []) := by
  have hi := (List.getElem?_eq_some_iff.1 h).1
  have e : c.take (i + 1) = c.take i ++ [x] := by rw [List.take_add_one, h]; rfl
  rw [e, begG_append, List.length_take, Nat.min_eq_left (by omega), Nat.zero_add]
  simp [begG]
theorem begG_le (n j : Nat) (c : List Ins) : (begG n j c).length ≤ c.length := by
  induction c generalizing j with
  | nil => simp [begG]
  | cons x r ih =>
    have := ih (j + 1)
    simp only [begG, List.length_append, List.length_cons]
    split <;> simp <;> omega
set_option maxHeartbeats 1000000 in
theorem begins_ok (c : List Ins) (hb : c.length ≤ 1000000000) : Con1 Tryd.prog gl 75 [.sl (rowsI c)] [] (.sl (ints (beginsN c))) [] := by
  refine t_in Tryd.func75 ?_
  intro X hP hgl hf hfn hn hR hids hfit
  have hcl : (rowsI c).length = c.length := by simp [rowsI]
  refine t_rg0 ?_
  refine t_a ?_
  refine W_reg [5] fun K hK => ?_
  simp [go_sem, hP, hgl, hn]
  refine vcK_litO (E := 1) (els := [[dint 0]]) (by simp [go_sem, hP]; rfl) (by simp [go_sem, hP, hgl, hn]) ⟨rfl, by decide, by decide⟩ (by rw [hn]; exact Nat.le_of_ble_eq_true rfl) (by decide) (by rfl) (by rfl) ?_
  simp [go_sem, hP, hgl, hn]
  refine hK _ ?_
  clear hK K
  refine t_rg0 ?_
  refine t_a ?_
  refine W_sub [(1003, 5)] (by simp [go_sem]) (by simp [go_sem, ints] <;> omega) (by simp [go_sem]) (W_rounds (fun x : Nat × List Int => x.1 ≤ c.length ∧ x.2 = 0 :: begG c.length 0 (c.take x.1) ∧ x.2.length ≤ x.1 + 1) (fun x : Nat × List Int => [(.slot 0, .one (.v (.sl (rowsI c)))), (.slot 3, .one (.own 1003 (ints x.2))), (.tok 1003, .tk 1 x.2.length), (.slot 4, .one (.v (dint x.1)))]) (fun x : Nat × List Int => c.length - x.1) (0, [0]) (⟨Nat.zero_le _, rfl, by decide⟩) ?_)
  rintro ⟨i, bl⟩ ⟨i1, i2, i3⟩ ihr
  simp only at i1 i2 i3
  rcases Nat.lt_or_ge i c.length with hlt | hge
  · obtain ⟨o, a, hx⟩ : ∃ o a, c[i]? = some (o, a) := ⟨(c[i]'hlt).1, (c[i]'hlt).2, by rw [List.getElem?_eq_getElem hlt]⟩
    have hg : (rowsI c)[i]? = some [dint o, dint a] := by simp [rowsI, hx, Ins.row]
    have hltI : (i : Int) < (c.length : Int) := by omega
    have ht := begG_take c.length hx
    simp only at ht
    refine t_rg (j2 @hcl @hltI) ?_
    refine t_yes ?_
    by_cases h14 : o = 14
    · by_cases hn1 : i + 1 < c.length
      · rw [if_pos ⟨h14, hn1⟩] at ht
        have hn2 : (i : Int) + 1 < (c.length : Int) := by omega
        repeat (first | (refine W_sub [(1003, 29)] (by simp [go_sem]) (by simp [go_sem, ints] <;> omega) (by simp [go_sem]) (ihr (i + 1, bl ++ [((i + 1 : Nat) : Int)]) ⟨hlt, by simp only; rw [ht, i2]; rfl, by simp; omega⟩ (by simp only; omega))) | refine W_seq ?_ | refine W_skip ?_ | refine W_block ?_ | refine W_inBlock ?_ | refine W_label ?_ | refine W_exit rfl ?_ | ((first | refine W_reg [] fun K hK => ?_ | refine W_regd (by rw [hP]; exact mixed) [] fun K hK => ?_); simp [go_sem, hP, hgl, hn, hg, h14, hn2, hcl, ints]; (repeat (refine ⟨by omega, ?_⟩)); (first | refine hK _ ?_ | refine ⟨by rfl, hK _ ?_⟩); clear hK K) | refine W_cond rfl (fun _ => ?_) (fun hq => False.elim (by first | (simp [hg, h14, hn2, hcl, ints]; done) | (simp [hg, h14, hn2, hcl, ints]; omega) | (simp [hg, h14, hn2, hcl, ints] at hq; done) | (simp [hg, h14, hn2, hcl, ints] at hq; omega))) | refine W_cond rfl (fun hq => False.elim (by first | (simp [hg, h14, hn2, hcl, ints]; done) | (simp [hg, h14, hn2, hcl, ints]; omega) | (simp [hg, h14, hn2, hcl, ints] at hq; done) | (simp [hg, h14, hn2, hcl, ints] at hq; omega))) (fun _ => ?_))
      · rw [if_neg (fun e => hn1 e.2), List.append_nil] at ht
        have hn2 : ¬ (i : Int) + 1 < (c.length : Int) := by omega
        repeat (first | (refine W_sub [] (by simp [go_sem]) (by simp [go_sem, ints] <;> omega) (by simp [go_sem]) (ihr (i + 1, bl) ⟨hlt, by simp only; rw [ht, i2], by simp only; omega⟩ (by simp only; omega))) | refine W_seq ?_ | refine W_skip ?_ | refine W_block ?_ | refine W_inBlock ?_ | refine W_label ?_ | refine W_exit rfl ?_ | ((first | refine W_reg [] fun K hK => ?_ | refine W_regd (by rw [hP]; exact mixed) [] fun K hK => ?_); simp [go_sem, hP, hgl, hn, hg, h14, hn2, hcl]; (repeat (refine ⟨by omega, ?_⟩)); (first | refine hK _ ?_ | refine ⟨by rfl, hK _ ?_⟩); clear hK K) | refine W_cond rfl (fun _ => ?_) (fun hq => False.elim (by first | (simp [hg, h14, hn2, hcl]; done) | (simp [hg, h14, hn2, hcl]; omega) | (simp [hg, h14, hn2, hcl] at hq; done) | (simp [hg, h14, hn2, hcl] at hq; omega))) | refine W_cond rfl (fun hq => False.elim (by first | (simp [hg, h14, hn2, hcl]; done) | (simp [hg, h14, hn2, hcl]; omega) | (simp [hg, h14, hn2, hcl] at hq; done) | (simp [hg, h14, hn2, hcl] at hq; omega))) (fun _ => ?_))
    · rw [if_neg (fun e => h14 e.1), List.append_nil] at ht
      repeat (first | (refine W_sub [] (by simp [go_sem]) (by simp [go_sem, ints] <;> omega) (by simp [go_sem]) (ihr (i + 1, bl) ⟨hlt, by simp only; rw [ht, i2], by simp only; omega⟩ (by simp only; omega))) | refine W_seq ?_ | refine W_skip ?_ | refine W_block ?_ | refine W_inBlock ?_ | refine W_label ?_ | refine W_exit rfl ?_ | ((first | refine W_reg [] fun K hK => ?_ | refine W_regd (by rw [hP]; exact mixed) [] fun K hK => ?_); simp [go_sem, hP, hgl, hn, hg, h14, hcl]; (repeat (refine ⟨by omega, ?_⟩)); (first | refine hK _ ?_ | refine ⟨by rfl, hK _ ?_⟩); clear hK K) | refine W_cond rfl (fun _ => ?_) (fun hq => False.elim (by first | (simp [hg, h14, hcl]; done) | (simp [hg, h14, hcl]; omega) | (simp [hg, h14, hcl] at hq; done) | (simp [hg, h14, hcl] at hq; omega))) | refine W_cond rfl (fun hq => False.elim (by first | (simp [hg, h14, hcl]; done) | (simp [hg, h14, hcl]; omega) | (simp [hg, h14, hcl] at hq; done) | (simp [hg, h14, hcl] at hq; omega))) (fun _ => ?_))
  · have hie : i = c.length := by omega
    rw [hie, List.take_length] at i2
    refine t_rg @hcl ?_
    refine t_no ?_
    refine t_g0 ?_
    refine t_r ?_
    simp [go_sem, hP, hgl, hn, beginsN, i2] <;> (try omega)

set_option maxHeartbeats 2000000 in
set_option maxRecDepth 10000 in
theorem numbers_ok (c : List Ins) (hb : c.length ≤ 1000000000) : Con1 Tryd.prog gl 57 [.sl (rowsI c)] [] (dbool (numbersN c)) [] := by
  have wb := begins_ok (gl := gl) c hb
  refine t_in Tryd.func57 ?_
  intro X hP hgl hf hfn hn hR hids hfit
  have hcl : (rowsI c).length = c.length := by simp [rowsI]
  refine t_rg0 ?_
  by_cases h0 : c = []
  · subst h0
    repeat (first | refine W_seq ?_ | refine W_skip ?_ | refine W_block ?_ | refine W_inBlock ?_ | refine W_label ?_ | refine W_exit rfl ?_ | ((first | refine W_reg [] fun K hK => ?_ | refine W_regd (by rw [hP]; exact mixed) [] fun K hK => ?_); simp [go_sem, hP, hgl, hn, rowsI]; (repeat (refine ⟨by omega, ?_⟩)); (first | refine hK _ ?_ | refine ⟨by rfl, hK _ ?_⟩); clear hK K) | refine W_cond rfl (fun _ => ?_) (fun hq => False.elim (by first | (simp [rowsI]; done) | (simp [rowsI]; omega) | (simp [rowsI] at hq; done) | (simp [rowsI] at hq; omega))) | refine W_cond rfl (fun hq => False.elim (by first | (simp [rowsI]; done) | (simp [rowsI]; omega) | (simp [rowsI] at hq; done) | (simp [rowsI] at hq; omega))) (fun _ => ?_))
    refine t_r ?_
    simp [go_sem, hP, hgl, hn, numbersN] <;> (try omega)
  have hpos : 1 ≤ c.length := by
    cases c with
    | nil => exact absurd rfl h0
    | cons x r => simp
  have hi1 : ¬ ((c.length : Int) < 1) := by omega
  by_cases h1 : 4096 < c.length
  · have hi2 : (4096 : Int) < (c.length : Int) := by omega
    refine t_g (j2 @hcl (j2 @hi1 @hi2)) ?_
    refine t_r ?_
    simp [go_sem, hP, hgl, hn, numbersN, h1] <;> (try omega)
  obtain ⟨o, a, hoa⟩ : ∃ o a, c[c.length - 1]? = some (o, a) := ⟨(c[c.length - 1]'(by omega)).1, (c[c.length - 1]'(by omega)).2, by rw [List.getElem?_eq_getElem]⟩
  have hlo : lastOp c = o := by rw [lastOp, List.getLast?_eq_getElem?, hoa]; rfl
  have hrow : (rowsI c)[c.length - 1]? = some [dint o, dint a] := by simp [rowsI, hoa, Ins.row]
  have hidx : ((c.length : Int) - 1).toNat = c.length - 1 := by omega
  have hi2 : ¬ ((4096 : Int) < (c.length : Int)) := by omega
  by_cases h2 : o = 14
  rotate_left
  · refine t_g (j2 @hcl (j2 @hi1 (j2 @hi2 (j2 @hidx (j2 @hrow @h2))))) ?_
    refine t_r ?_
    simp [go_sem, hP, hgl, hn, numbersN, hlo, h2] <;> (try omega)
  subst h2
  refine t_rg (j2 @hcl (j2 @hi1 (j2 @hi2 (j2 @hidx @hrow)))) ?_
  refine t_no ?_
  refine t_c1 trivial wb ?_
  refine t_rg0 ?_
  have hbl := begG_le c.length 0 c
  have hbb : (beginsN c).length ≤ c.length + 1 := by unfold beginsN; simp only [List.length_cons]; omega
  have hbi : (ints (beginsN c)).length = (beginsN c).length := by simp [ints]
  have hrj : numG (beginsN c) 0 0 c = none → numbersN c = false := by
    intro hq
    unfold numbersN
    rw [hq]
    split <;> rfl
  have hrf : ∀ f, numG (beginsN c) 0 0 c = some f → numbersN c = decide (f + 1 = (beginsN c).length) := by
    intro f hq
    unfold numbersN
    rw [hq, if_neg (by simp only [not_or, Decidable.not_not]; exact ⟨h0, by omega, hlo⟩)]
  generalize beginsN c = bl at *
  refine t_a ?_
  refine t_sub [] trivial (W_rounds (fun x : Nat × Nat => x.1 ≤ c.length ∧ numG bl x.1 x.2 (c.drop x.1) = numG bl 0 0 c ∧ x.2 ≤ x.1) (fun x : Nat × Nat => [(.slot 0, .one (.v (.sl (rowsI c)))), (.slot 3, .one (.v (.sl (ints bl)))), (.slot 4, .one (.v (dint x.2))), (.slot 5, .one (.v (dint x.1)))]) (fun x : Nat × Nat => c.length - x.1) (0, 0) (⟨Nat.zero_le _, rfl, by decide⟩) ?_)
  rintro ⟨i, f⟩ ⟨i1, i2, i3⟩ ihr
  simp only at i1 i2 i3
  rcases Nat.lt_or_ge i c.length with hlt | hge
  · obtain ⟨o, a, hx⟩ : ∃ o a, c[i]? = some (o, a) := ⟨(c[i]'hlt).1, (c[i]'hlt).2, by rw [List.getElem?_eq_getElem hlt]⟩
    have hdr : c.drop i = (o, a) :: c.drop (i + 1) := by
      rw [List.drop_eq_getElem_cons hlt]
      rw [List.getElem?_eq_getElem hlt] at hx
      rw [Option.some.inj hx]
    have hg : (rowsI c)[i]? = some [dint o, dint a] := by simp [rowsI, hx, Ins.row]
    rw [hdr, numG] at i2
    simp only at i2
    have hltI : (i : Int) < (c.length : Int) := by omega
    refine t_rg (j2 @hcl @hltI) ?_
    refine t_yes ?_
    by_cases ho1 : o < 1
    · rw [if_pos (.inl ho1)] at i2
      have hr := hrj i2.symm
      refine t_g (j2 @hg @ho1) ?_
      refine t_r ?_
      simp [go_sem, hP, hgl, hn, hr] <;> (try omega)
    by_cases ho2 : 14 < o
    · rw [if_pos (.inr ho2)] at i2
      have hr := hrj i2.symm
      refine t_g (j2 @hg (j2 @ho1 @ho2)) ?_
      refine t_r ?_
      simp [go_sem, hP, hgl, hn, hr] <;> (try omega)
    rw [if_neg (by omega)] at i2
    by_cases e1 : o = 1
    · subst e1
      rw [if_pos rfl] at i2
      by_cases ha : a < 0
      · rw [if_pos ha] at i2
        have hr := hrj i2.symm
        refine t_g (j2 @hg @ha) ?_
        refine t_r ?_
        simp [go_sem, hP, hgl, hn, hr] <;> (try omega)
      · rw [if_neg ha] at i2
        refine t_gt (wr []) trivial (j2 @hg @ha) (ihr (i + 1, f) ⟨hlt, i2, by simp only; omega⟩ (by simp only; omega))
    rw [if_neg e1] at i2
    by_cases e2 : o = 2
    · subst e2
      rw [if_pos rfl] at i2
      by_cases hf1 : bl.length ≤ f + 1
      · rw [if_pos (.inl hf1)] at i2
        have hr := hrj i2.symm
        have hf2 : (bl.length : Int) ≤ (f : Int) + 1 := by omega
        refine t_g (j2 @hg (j2 @hf2 @hbi)) ?_
        refine t_r ?_
        simp [go_sem, hP, hgl, hn, hr] <;> (try omega)
      have hf2 : ¬ (bl.length : Int) ≤ (f : Int) + 1 := by omega
      obtain ⟨v, hv⟩ : ∃ v, bl[f + 1]? = some v := ⟨_, List.getElem?_eq_getElem (by omega)⟩
      have hgd : bl.getD (f + 1) 0 = v := by rw [List.getD_eq_getElem?_getD, hv]; rfl
      have hvi : (ints bl)[f + 1]? = some [dint v] := by simp [ints, hv]
      have hvx : ((f : Int) + 1).toNat = f + 1 := by omega
      rw [hgd] at i2
      by_cases hav : a = v
      · by_cases hai : a ≤ (i : Int)
        · rw [if_pos (.inr (.inr hai))] at i2
          have hr := hrj i2.symm
          refine t_g (j2 @hg (j2 @hf2 (j2 @hbi (j2 @hvi (j2 @hvx (j2 @hav @hai)))))) ?_
          refine t_r ?_
          simp [go_sem, hP, hgl, hn, hr] <;> (try omega)
        · rw [if_neg (by simp only [not_or, Decidable.not_not]; exact ⟨hf1, hav, hai⟩)] at i2
          refine t_gt (wr []) trivial (j2 @hg (j2 @hf2 (j2 @hbi (j2 @hvi (j2 @hvx (j2 @hav @hai)))))) (ihr (i + 1, f + 1) ⟨hlt, i2, by simp only; omega⟩ (by simp only; omega))
      · rw [if_pos (.inr (.inl hav))] at i2
        have hr := hrj i2.symm
        refine t_g (j2 @hg (j2 @hf2 (j2 @hbi (j2 @hvi (j2 @hvx @hav))))) ?_
        refine t_r ?_
        simp [go_sem, hP, hgl, hn, hr] <;> (try omega)
    rw [if_neg e2] at i2
    by_cases ha : a = 0
    · rw [if_pos ha] at i2
      refine t_gt (wr []) trivial (j2 @hg (j2 @ho1 (j2 @ho2 (j2 @e1 (j2 @e2 @ha))))) (ihr (i + 1, f) ⟨hlt, i2, by simp only; omega⟩ (by simp only; omega))
    · rw [if_neg ha] at i2
      have hr := hrj i2.symm
      refine t_g (j2 @hg (j2 @ho1 (j2 @ho2 (j2 @e1 (j2 @e2 @ha))))) ?_
      refine t_r ?_
      simp [go_sem, hP, hgl, hn, hr] <;> (try omega)
  · have hie : i = c.length := by omega
    rw [hie, List.drop_length] at i2
    have hr := hrf f i2.symm
    refine t_rg @hcl ?_
    refine t_no ?_
    by_cases hfe : f + 1 = bl.length
    · have hfe' : (f : Int) + 1 = (bl.length : Int) := by omega
      refine t_g (j2 @hbi @hfe') ?_
      refine t_r ?_
      simp [go_sem, hP, hgl, hn, hr, hfe] <;> (try omega)
    · have hfe' : ¬ (f : Int) + 1 = (bl.length : Int) := by omega
      refine t_g (j2 @hbi @hfe') ?_
      refine t_r ?_
      simp [go_sem, hP, hgl, hn, hr, hfe] <;> (try omega)
end Go.Proofs.YtmdjiajbnifjpaaDoor.Lift

/-
  The reference's read, walked.
-/
namespace Go.Proofs.YtmdjiajbnifjpaaDoor.Lift
set_option linter.unusedSimpArgs false
set_option linter.unusedVariables false
set_option linter.unnecessarySimpa false
open Go
variable {gl : Globs}

open Classical in
/-- what read returns for block k -/
noncomputable def readR (bs : List (List Ins)) (k : Nat) : DV := if Good bs k then .tup [(termAt bs k).dv, dbool true] else .tup [(Tm.mk 0 0 zTy []).dv, dbool false]
theorem readR_yes {bs : List (List Ins)} {k : Nat} (h : Good bs k) : readR bs k = .tup [(termAt bs k).dv, dbool true] := by unfold readR; rw [if_pos h]
theorem readR_no {bs : List (List Ins)} {k : Nat} (h : ¬ Good bs k) : readR bs k = .tup [(Tm.mk 0 0 zTy []).dv, dbool false] := by unfold readR; rw [if_neg h]
theorem runB_take (body : Int → Tm) {b : List Ins} {j : Nat} {x : Ins} (h : b[j]? = some x) : runB body (b.take (j + 1)) [] = stepB body (runB body (b.take j) []) x := by
  have e : b.take (j + 1) = b.take j ++ [x] := by rw [List.take_add_one, h]; rfl
  rw [e, runB_append]
  rfl
theorem hts_split {b : List Ins} {j : Nat} {x : Ins} (h : b[j]? = some x) : b = b.take j ++ x :: b.drop (j + 1) := by
  have hj := (List.getElem?_eq_some_iff.1 h).1
  have h1 : b.drop j = x :: b.drop (j + 1) := by
    rw [List.drop_eq_getElem_cons hj]
    congr 1
    rw [List.getElem?_eq_getElem hj] at h
    exact Option.some.inj h
  rw [← h1, List.take_append_drop]

set_option maxHeartbeats 2000000 in
set_option maxRecDepth 10000 in
theorem read37_ok {bs : List (List Ins)} (hN : NumP bs) : ∀ (d k : Nat), k + d = bs.length → k < bs.length → Con1 Tryd.prog gl 56 [.sl (rowsI (lay bs)), dint (startAt bs k : Nat)] [] (readR bs k) [] := by
  intro d
  induction d using Nat.strongRecOn with
  | _ d ih =>
  intro k hkd hk
  have ih' : ∀ k', k + 1 ≤ k' → k' < bs.length → Con1 Tryd.prog gl 56 [.sl (rowsI (lay bs)), dint (startAt bs k' : Nat)] [] (readR bs k') [] := fun k' h1 h2 => ih (bs.length - k') (by omega) k' (by omega) h2
  clear ih
  obtain ⟨b, hb⟩ : ∃ b, bs[k]? = some b := ⟨_, List.getElem?_eq_getElem hk⟩
  obtain ⟨la1, la2, la3⟩ := lay_at bs hb
  have hg := good_iff hb
  have hlen := hN.len
  have hbm := hN.no14 b (List.mem_of_getElem? hb)
  have hrl : (rowsI (lay bs)).length = (lay bs).length := by simp [rowsI]
  have htr := termAt_run hb
  have hbody : ∀ k', k + 1 ≤ k' → k' < bs.length → look (decAt bs (k + 1)) ((startAt bs k' : Nat) : Int) = termAt bs k' := fun k' h1 h2 => termAt_look hN.one (bs.length - (k + 1)) (k + 1) k' (by omega) h1 h2
  generalize look (decAt bs (k + 1)) = body at htr hbody
  generalize hS : startAt bs k = S at *
  refine t_in Tryd.func56 ?_
  intro X hP hgl hf hfn hn hR hids hfit
  refine t_rg0 ?_
  refine t_rg0 ?_
  refine t_a ?_
  refine t_sub [(1006, 0)] trivial (W_rounds (fun x : Nat × List Tm => x.1 ≤ b.length ∧ x.2 = runB body (b.take x.1) [] ∧ hts (b.take x.1) 0 = some ((x.2.length : Nat) : Int) ∧ x.2.length ≤ x.1 ∧ (∀ j, j < bs.length → (2, ((startAt bs j : Nat) : Int)) ∈ b.take x.1 → Good bs j)) (fun x : Nat × List Tm => [(.slot 0, .one (.v (.sl (rowsI (lay bs))))), (.slot 1, .one (.v (dint (S + x.1 : Nat)))), (.slot 4, .one (.loc 4 0)), (.loc 4, .row ([.v (dint 0), .v (dint 0), .v (dint 0), .v (.sl []), .v (.sl [])])), (.slot 6, .one (.own 1006 (x.2.map Tm.cells))), (.tok 1006, .tk 5 x.2.length)]) (fun x : Nat × List Tm => b.length - x.1) (0, []) (⟨Nat.zero_le _, rfl, rfl, Nat.zero_le _, fun j _ h => by simp at h⟩) ?_)
  rintro ⟨j, st⟩ ⟨i1, i2, i3, i4, i5⟩ ihr
  simp only at i1 i2 i3 i4 i5
  have hfin : Good bs k → ∃ h : Nat, hts (b.take j) 0 = some (h : Int) := fun _ => ⟨_, i3⟩
  rcases Nat.lt_or_ge j b.length with hlt | hge
  · obtain ⟨o, a, hx⟩ : ∃ o a, b[j]? = some (o, a) := ⟨(b[j]'hlt).1, (b[j]'hlt).2, by rw [List.getElem?_eq_getElem hlt]⟩
    have hat := la1 j hlt
    rw [hx] at hat
    have hrow : (rowsI (lay bs))[S + j]? = some [dint o, dint a] := by simp [rowsI, hat, Ins.row]
    have hix : ((S : Int) + (j : Int)).toNat = S + j := by omega
    have hll : (S : Int) + (j : Int) < ((lay bs).length : Int) := by omega
    have hmem : (o, a) ∈ b := List.mem_of_getElem? hx
    have ho14 := hbm _ hmem
    simp only at ho14
    have hok := okCd_at hN.ok hat ho14
    simp only [okI, Bool.and_eq_true, decide_eq_true_eq, Nat.zero_add] at hok
    obtain ⟨⟨ok1, ok2⟩, ok3⟩ := hok
    have htk : b.take (j + 1) = b.take j ++ [(o, a)] := by rw [List.take_add_one, hx]; rfl
    have hrn := runB_take body hx
    rw [← i2] at hrn
    have hhn : hts (b.take (j + 1)) 0 = if (takesI o : Int) ≤ ((st.length : Nat) : Int) then some ((st.length : Int) + 1 - takesI o) else none := by
      rw [htk, hts_append, i3]
      simp only [Option.bind_some, hts]
    have hsp := hts_split hx
    refine t_rg (j2 @hrow (j2 @hix (j2 @hll @hrl))) ?_
    refine t_yes ?_
    refine t_g (j2 @hrow (j2 @hix (j2 @hll @hrl))) ?_
    by_cases e1 : o = 1
    · subst e1
      have hnext : W X _ _ := ihr (j + 1, st ++ [.mk 1 a (Ty.mk 0 []) []]) ⟨hlt, by simp only; rw [hrn]; simp [stepB, takesI, hasTy, zTy], by simp only; rw [hhn]; simp [takesI], by simp only [List.length_append, List.length_singleton]; omega, fun q hq hm => by
        simp only at hm
        rw [htk] at hm
        rcases List.mem_append.1 hm with hm | hm
        · exact i5 q hq hm
        · simp at hm⟩ (by simp only; omega)
      have hcd := Tm.fold (.mk 1 a (Ty.mk 0 []) [])
      refine t_g0 ?_
      refine t_c1 @hcd (var37_ok a) ?_
      repeat (first | refine W_inBlock ?_ | refine W_skip ?_ | refine W_label ?_ | refine W_exit rfl ?_)
      refine W_sub [(1006, 72)] (by simp [go_sem]) (by simp [go_sem, zTy] <;> omega) (by simp [go_sem]) hnext
    by_cases e2 : o = 2
    · subst e2
      obtain ⟨k', k1, k2, k3⟩ := num_later hN hb hx
      have w := ih' k' k1 k2
      have hbk := hbody k' k1 k2
      subst k3
      by_cases hgk : Good bs k'
      · rw [readR_yes hgk] at w
        have hu := Ty.fold uTy
        have hnext : W X _ _ := ihr (j + 1, st ++ [.mk 2 0 uTy [termAt bs k']]) ⟨hlt, by simp only; rw [hrn]; simp [stepB, takesI, hasTy, hbk], by simp only; rw [hhn]; simp [takesI], by simp only [List.length_append, List.length_singleton]; omega, fun q hq hm => by
          simp only at hm
          rw [htk] at hm
          rcases List.mem_append.1 hm with hm | hm
          · exact i5 q hq hm
          · simp only [List.mem_singleton, Prod.mk.injEq, true_and] at hm
            have : q = k' := startAt_inj bs (by omega) (by omega) (by omega)
            rw [this]; exact hgk⟩ (by simp only; omega)
        generalize termAt bs k' = tt at *
        have hcd := Tm.fold (.mk 2 0 uTy [tt])
        have hct := Tm.fold tt
        have hce := Tm.cells_eq tt
        have hcc : cellsD tt.dv = [dint tt.kind, dint tt.index, dint tt.type.kind, .sl (tt.type.args.map Ty.cells), .sl (tt.args.map Tm.cells)] := by rw [← hct]; rfl
        refine t_g0 ?_
        refine t_c1 (j2 @hct @hcc) w ?_
        refine t_g (j2 @hcc @hct) ?_
        refine t_c2 @hct unit23c_ok (lam37_ok (Ty.mk 5 []) tt) ?_
        repeat (first | refine W_inBlock ?_ | refine W_skip ?_ | refine W_label ?_ | refine W_exit rfl ?_)
        refine W_sub [(1006, 90)] (by simp [go_sem]) (by simp [go_sem, uTy, hct, hce] <;> omega) (by simp [go_sem]) hnext
      · have hng : ¬ Good bs k := fun h => hgk ((hg.1 h).2 k' k2 hmem)
        rw [readR_no hgk] at w
        refine t_g0 ?_
        refine t_c1 trivial w ?_
        refine t_g0 ?_
        refine t_r ?_
        simp [go_sem, hP, hgl, hn, readR_no hng, zTy] <;> (try omega)
        all_goals exact t_f
    have hk1 : 3 ≤ o ∧ o ≤ 13 := by omega
    have wk := kind37_ok (gl := gl) o
    have hkk : kind37 o = (o, (takesI o : Int)) := by unfold kind37; rw [if_pos hk1]
    rw [hkk] at wk
    simp only at wk
    by_cases hle : (takesI o : Int) ≤ ((st.length : Nat) : Int)
    · have hle' : ¬ ((st.length : Nat) : Int) < (takesI o : Int) := by omega
      refine t_g (j2 @e1 @e2) ?_
      refine t_c1 trivial wk ?_
      refine t_g @hle' ?_
      have hsub : (((st.length : Nat) : Int) - (takesI o : Int)).toNat = st.length - takesI o := by omega
      have hsu2 : 0 ≤ ((st.length : Nat) : Int) - (takesI o : Int) := by omega
      have hbb : b.length + 1 ≤ 4096 := by omega
      have htk3 : takesI o ≤ st.length := by omega
      have hnext : W X _ _ := ihr (j + 1, stepB body st (o, a)) ⟨hlt, by simp only; rw [hrn], by simp only; rw [hhn, if_pos hle, stepB_len _ _ _ htk3]; simp only; congr 1; omega, by simp only; rw [stepB_len _ _ _ htk3]; simp only; omega, fun q hq hm => by
          simp only at hm
          rw [htk] at hm
          rcases List.mem_append.1 hm with hm | hm
          · exact i5 q hq hm
          · simp only [List.mem_singleton, Prod.mk.injEq] at hm
            exact absurd hm.1.symm e2⟩ (by simp only; omega)
      have hstep : stepB body st (o, a) = st.take (st.length - takesI o) ++ [.mk o 0 (if hasTy o = true then uTy else zTy) (st.drop (st.length - takesI o))] := by
        unfold stepB
        simp only [if_neg e1, if_neg e2]
      rw [hstep] at hnext
      generalize takesI o = tk at *
      refine t_a ?_
      refine W_reg [] fun K hK => ?_
      simp [go_sem, hP, hgl, hn, hsub, hsu2]
      have hdm : List.drop (st.length - tk) (List.take st.length (List.map Tm.cells st)) = (st.drop (st.length - tk)).map Tm.cells := by
        rw [List.take_of_length_le (by simp), List.map_drop]
      rw [hdm]
      refine ⟨by omega, ⟨by omega, by omega⟩, ⟨by omega, fun e he => ?_⟩, hK _ ?_⟩
      · obtain ⟨z, -, rfl⟩ := List.mem_map.1 he
        rw [Tm.cells_eq]; rfl
      clear hK K
      generalize hAR : st.drop (st.length - tk) = ar at *
      apply W_cutM (fun _ : Unit => True) (fun _ => [(.slot 0, .one (.v (.sl (rowsI (lay bs))))), (.slot 1, .one (.v (dint (S + j + 1)))), (.slot 4, .one (.loc 4 0)), (.loc 4, .row [.v (dint 0), .v (dint 0), .v (dint 0), .v (.sl []), .v (.sl [])]), (.slot 6, .one (.own 1006 (st.map Tm.cells))), (.tok 1006, .tk 5 st.length), (.slot 11, .one (.v (dint tk))), (.slot 12, .one (.loc 12 0)), (.loc 12, .row [.v (dint o), .v (dint 0), .v (dint (if hasTy o = true then uTy else zTy).kind), .v (.sl ((if hasTy o = true then uTy else zTy).args.map Ty.cells)), .v (.sl (ar.map Tm.cells))])])
      · intro hrest
        by_cases h6 : o = 6
        · refine t_g @h6 ?_
          refine t_c1 @h6 unit23c_ok ?_
          refine t_b ?_
          refine W_sub [] (by simp [go_sem]) ?_ (by simp [go_sem]) (hrest () trivial)
          simp [go_sem, hasTy, h6, uTy]
        by_cases h9 : o = 9
        · refine t_g (j2 @h6 @h9) ?_
          refine t_c1 @h9 unit23c_ok ?_
          refine t_b ?_
          refine W_sub [] (by simp [go_sem]) ?_ (by simp [go_sem]) (hrest () trivial)
          simp [go_sem, hasTy, h9, uTy]
        refine t_rg (j2 @h6 @h9) ?_
        refine t_no ?_
        refine t_b ?_
        refine W_sub [] (by simp [go_sem]) ?_ (by simp [go_sem]) (hrest () trivial)
        simp [go_sem, hasTy, h6, h9, e2, zTy]
      · rintro - -
        generalize hTY : (if hasTy o = true then uTy else zTy) = ty at *
        have hcd := Tm.fold (.mk o 0 ty ar)
        have hce := Tm.cells_eq (.mk o 0 ty ar)
        have htm : List.take (st.length - tk) (st.map Tm.cells) = (st.take (st.length - tk)).map Tm.cells := by rw [List.map_take]
        refine t_a ?_
        refine W_regd (by rw [hP]; exact mixed) [] fun K hK => ?_
        have hw5 : ∀ e ∈ List.take (st.length - tk) (st.map Tm.cells), e.length = 5 := by
          intro e he
          obtain ⟨z, -, rfl⟩ := List.mem_map.1 (List.mem_of_mem_take he)
          rw [Tm.cells_eq]; rfl
        simp [go_sem, hP, hgl, hn, hsub, hsu2]
        refine ⟨by omega, ⟨by omega, by omega⟩, ⟨by omega, hw5⟩, ⟨by omega, hw5⟩, by rfl, hK _ ?_⟩
        clear hK K
        have hlt2 : (st.take (st.length - tk)).length = st.length - tk := by rw [List.length_take]; omega
        have hmin : min (st.length - tk) st.length = st.length - tk := by omega
        refine t_b ?_
        refine t_sub [(1006, 64)] (j2 @hlt2 (j2 @hce @hmin)) hnext
    · have hng : ¬ Good bs k := by
        intro h
        have h1 := (hg.1 h).1
        rw [hsp, hts_append, i3] at h1
        simp only [Option.bind_some, hts] at h1
        rw [if_neg hle] at h1
        cases h1
      have hle' : ((st.length : Nat) : Int) < (takesI o : Int) := by omega
      refine t_g (j2 @e1 @e2) ?_
      refine t_c1 trivial wk ?_
      refine t_g @hle' ?_
      refine t_r ?_
      simp [go_sem, hP, hgl, hn, readR_no hng, zTy] <;> (try omega)
      all_goals exact t_f
  · have hjb : j = b.length := by omega
    subst hjb
    rw [List.take_length] at i2 i3 i5
    have hrow : (rowsI (lay bs))[S + b.length]? = some [dint 14, dint 0] := by simp [rowsI, la2, Ins.row]
    have hix : ((S : Int) + (b.length : Int)).toNat = S + b.length := by omega
    have hll : (S : Int) + (b.length : Int) < ((lay bs).length : Int) := by omega
    refine t_rg (j2 @hrow (j2 @hix (j2 @hll @hrl))) ?_
    refine t_no ?_
    by_cases h1 : st.length = 1
    · obtain ⟨tt, rfl⟩ : ∃ tt, st = [tt] := List.length_eq_one_iff.1 h1
      have hgd : Good bs k := hg.2 ⟨by rw [i3]; rfl, i5⟩
      have hta : termAt bs k = tt := by rw [htr, ← i2]; rfl
      have hcd := Tm.fold tt
      have hce := Tm.cells_eq tt
      refine t_g (j2 @hce @hcd) ?_
      refine t_r ?_
      simp [go_sem, hP, hgl, hn, readR_yes hgd, hta, hce, hcd] <;> (try omega)
      all_goals exact t_f
    · have hgd : ¬ Good bs k := by
        intro h
        have h2 := (hg.1 h).1
        rw [i3] at h2
        exact h1 (by have := Option.some.inj h2; omega)
      refine t_g @h1 ?_
      refine t_r ?_
      simp [go_sem, hP, hgl, hn, readR_no hgd, zTy] <;> (try omega)
      all_goals exact t_f
end Go.Proofs.YtmdjiajbnifjpaaDoor.Lift

/-
  The reference's Check and Term, walked.
-/
namespace Go.Proofs.YtmdjiajbnifjpaaDoor.Lift
set_option linter.unusedSimpArgs false
set_option linter.unusedVariables false
set_option linter.unnecessarySimpa false
open Go
variable {gl : Globs}

theorem termOf_at {bs : List (List Ins)} : termOf bs = termAt bs 0 := by
  unfold termOf termAt decAt zipS
  rw [List.drop_zero]
  congr 1
theorem startAt_zero (bs : List (List Ins)) : startAt bs 0 = 0 := rfl

theorem check37_ok (c : List Ins) (hb : c.length ≤ 1000000000) : Con1 Tryd.prog gl 24 [.sl (rowsI c)] [] (dint (if (startsN c).2 = true then 0 else 43)) [] := by
  have w1 := numbers_ok (gl := gl) c hb
  refine t_in Tryd.func24 ?_
  intro X hP hgl hf hfn hn hR hids hfit
  by_cases h1 : numbersN c = true
  · rw [h1] at w1
    obtain ⟨h3, h4⟩ := numbers_of h1
    have w2 := read37_ok (gl := gl) h3 (splitC c).length 0 (by omega) (List.length_pos_iff.2 h3.one)
    rw [h4, startAt_zero] at w2
    by_cases h2 : Good (splitC c) 0
    · have hv := (valid_iff c).2 ⟨h1, h2⟩
      rw [readR_yes h2] at w2
      generalize termAt (splitC c) 0 = t at *
      have hfa := Tm.fold t
      have hcd : cellsD t.dv = [dint t.kind, dint t.index, dint t.type.kind, .sl (t.type.args.map Ty.cells), .sl (t.args.map Tm.cells)] := by rw [← hfa]; rfl
      refine t_g0 ?_
      refine t_c1 trivial w1 ?_
      refine t_g0 ?_
      refine t_c1 @hcd w2 ?_
      refine t_g @hcd ?_
      refine t_r ?_
      simp [go_sem, hP, hgl, hn, hv] <;> (try omega)
    · have hv : ¬ (startsN c).2 = true := fun h => h2 ((valid_iff c).1 h).2
      rw [readR_no h2] at w2
      refine t_g0 ?_
      refine t_c1 trivial w1 ?_
      refine t_g0 ?_
      refine t_c1 trivial w2 ?_
      refine t_g0 ?_
      refine t_r ?_
      simp [go_sem, hP, hgl, hn, hv] <;> (try omega)
  · have hv : ¬ (startsN c).2 = true := fun h => h1 ((valid_iff c).1 h).1
    have h1' : numbersN c = false := by simpa using h1
    rw [h1'] at w1
    refine t_g0 ?_
    refine t_c1 trivial w1 ?_
    refine t_g0 ?_
    refine t_r ?_
    simp [go_sem, hP, hgl, hn, hv] <;> (try omega)
theorem term37_ok (c : List Ins) (hb : c.length ≤ 1000000000) : Con1 Tryd.prog gl 22 [.sl (rowsI c)] [] (.tup [(termC c).1.dv, dint (termC c).2]) [] := by
  have w1 := check37_ok (gl := gl) c hb
  refine t_in Tryd.func22 ?_
  intro X hP hgl hf hfn hn hR hids hfit
  by_cases hv : (startsN c).2 = true
  · obtain ⟨h1, h2⟩ := (valid_iff c).1 hv
    obtain ⟨h3, h4⟩ := numbers_of h1
    have w2 := read37_ok (gl := gl) h3 (splitC c).length 0 (by omega) (List.length_pos_iff.2 h3.one)
    rw [h4, startAt_zero, readR_yes h2] at w2
    rw [if_pos hv] at w1
    have htc : termC c = (termAt (splitC c) 0, 0) := by rw [termC, if_pos hv, termOf_at]
    rw [htc] at hR
    generalize termAt (splitC c) 0 = t at *
    have hfa := Tm.fold t
    have hcd : cellsD t.dv = [dint t.kind, dint t.index, dint t.type.kind, .sl (t.type.args.map Ty.cells), .sl (t.args.map Tm.cells)] := by rw [← hfa]; rfl
    refine t_g0 ?_
    refine t_c1 trivial w1 ?_
    refine t_g0 ?_
    refine t_c1 @hcd w2 ?_
    refine t_g (j2 @hcd @hfa) ?_
    refine t_r ?_
    simp [go_sem, hP, hgl, hn, hfa] <;> (try omega)
    all_goals exact t_f
  · rw [if_neg hv] at w1
    have htc : termC c = (.mk 0 0 zTy [], 43) := by rw [termC, if_neg hv]
    rw [htc] at hR
    refine t_g0 ?_
    refine t_c1 trivial w1 ?_
    refine t_g0 ?_
    refine t_r ?_
    simp [go_sem, hP, hgl, hn, zTy] <;> (try omega)
    all_goals exact t_f
end Go.Proofs.YtmdjiajbnifjpaaDoor.Lift

namespace Go.Proofs.YtmdjiajbnifjpaaDoor.Lift
set_option linter.unusedSimpArgs false
set_option linter.unusedVariables false
set_option linter.unnecessarySimpa false
open Go
variable {gl : Globs}

/-- lengths of a list's numbers, until they are too many -/
def lenL : List Int → Int → Int × Bool
  | [], n => (n, false)
  | x :: r, n => if 4096 < n + (1 + sizeI x) then (n + (1 + sizeI x), true) else lenL r (n + (1 + sizeI x))

/-- no negative numbers -/
def Val.pos (v : Val) : Prop := 0 ≤ v.num ∧ ∀ n ∈ v.list, (0 : Int) ≤ n
/-- the length ahead of the parts -/
def Val.head (v : Val) : Int := if v.kind = 1 then sizeI v.num else if v.kind = 2 then (lenL v.list 1).1 else 1
end Go.Proofs.YtmdjiajbnifjpaaDoor.Lift

namespace Go.Proofs.YtmdjiajbnifjpaaDoor.Lift
set_option linter.unusedSimpArgs false
set_option linter.unusedVariables false
set_option linter.unnecessarySimpa false
open Go
variable {gl : Globs}

def Val.checkN (v : Val) : Int := if v.nodesN.2 = true then if v.nodesN.1 > 64 then 4 else 0 else 2

end Go.Proofs.YtmdjiajbnifjpaaDoor.Lift

/-
  Plain facts: the types of terms.
-/
namespace Go.Proofs.YtmdjiajbnifjpaaDoor.Lift
set_option linter.unusedSimpArgs false
set_option linter.unusedVariables false
set_option linter.unnecessarySimpa false
open Go

def zeroTy : Ty := Ty.mk 0 []
def Ty.arg (t : Ty) (i : Nat) : Ty := t.args.getD i zeroTy
def Ty.ok (t : Ty) : Prop := t.shape = true ∧ t.count ≤ 64

theorem Ty.checkN_iff (t : Ty) : t.checkN = 0 ↔ t.ok := by
  unfold Ty.checkN Ty.ok
  split
  · split
    · rename_i h; simp; omega
    · rename_i h; simp; constructor <;> first | assumption | omega
  · rename_i h; simp [h]

namespace Tm
set_option linter.unusedSimpArgs false
set_option linter.unusedVariables false
set_option linter.unnecessarySimpa false
end Tm

theorem Ty.ok_arg {t : Ty} (h : t.ok) {a : Ty} (ha : a ∈ t.args) : a.ok := by
  obtain ⟨h1, h2⟩ := h
  rw [Ty.shape_eq, Bool.and_eq_true, Ty.shapes_iff] at h1
  have := Ty.count_mem ha
  rw [Ty.count_eq] at h2
  exact ⟨h1.2 a ha, by omega⟩

theorem Ty.ok_two {t : Ty} (h : t.ok) (hk : t.kind = 3 ∨ t.kind = 4) : t.args.length = 2 := by
  obtain ⟨h1, h2⟩ := h
  rw [Ty.shape_eq, Bool.and_eq_true] at h1
  rcases hk with hk | hk <;> simpa [tyKind, hk] using h1.1

theorem Ty.ok_args {t : Ty} (h : t.ok) (hk : t.kind = 3 ∨ t.kind = 4) : ∃ a b, t.args = [a, b] ∧ a.ok ∧ b.ok ∧ t.arg 0 = a ∧ t.arg 1 = b := by
  have h2 := Ty.ok_two h hk
  match ha : t.args, h2 with
  | [a, b], _ => exact ⟨a, b, rfl, Ty.ok_arg h (by rw [ha]; simp), Ty.ok_arg h (by rw [ha]; simp), by simp [Ty.arg, ha], by simp [Ty.arg, ha]⟩

/-- what a valid term says about its node -/
theorem Tm.shape_node {t : Tm} (h : t.shape = true) : ((t.args.length : Int) = arityI t.kind) ∧ 0 ≤ t.index ∧ (t.kind = 1 ∨ t.index = 0) ∧ (if t.kind = 2 ∨ t.kind = 6 ∨ t.kind = 9 then t.type.ok else t.type.zero = true) ∧ ∀ a ∈ t.args, a.shape = true := by
  rw [Tm.shape_eq, Bool.and_eq_true, Tm.shapes_iff] at h
  obtain ⟨h1, h2⟩ := h
  simp only [tmKind, Bool.and_eq_true, Bool.or_eq_true, decide_eq_true_eq, tyOfKind] at h1
  refine ⟨h1.1.1.1, h1.1.1.2, h1.1.2, ?_, h2⟩
  by_cases hk : t.kind = 2 ∨ t.kind = 6 ∨ t.kind = 9
  · rw [if_pos hk] at h1 ⊢; exact (Ty.checkN_iff _).1 (by simpa using h1.2)
  · rw [if_neg hk] at h1 ⊢; exact h1.2

end Go.Proofs.YtmdjiajbnifjpaaDoor.Lift

namespace Go.Proofs.YtmdjiajbnifjpaaDoor.Lift
set_option linter.unusedSimpArgs false
set_option linter.unusedVariables false
set_option linter.unnecessarySimpa false
open Go
variable {gl : Globs}

theorem ref01_fun_ok (a b : Ty) : Con1 Tryd.prog gl 46 [a.dv, b.dv] [] (Ty.mk 4 [a, b]).dv [] := by
  refine t_in Tryd.func46 ?_
  intro X hP hgl hf hfn hn hR hids hfit
  refine t_g0 ?_
  refine t_c2 trivial (ref01_copy_ok a) (ref01_copy_ok b) ?_
  refine t_r ?_
  simp [go_sem, hP, hgl, hn] <;> (try omega)
  all_goals exact t_f

theorem nat_v : (Ty.mk 1 []).dv = .agg [dint 1, .sl []] := rfl
theorem list_v : (Ty.mk 2 []).dv = .agg [dint 2, .sl []] := rfl

end Go.Proofs.YtmdjiajbnifjpaaDoor.Lift

namespace Go.Proofs.YtmdjiajbnifjpaaDoor.Lift
set_option linter.unusedSimpArgs false
set_option linter.unusedVariables false
set_option linter.unnecessarySimpa false
open Go
variable {gl : Globs}

theorem Tm.checkN_iff (t : Tm) : t.checkN = 0 ↔ t.shape = true ∧ t.count ≤ 4096 := by
  unfold Tm.checkN
  split
  · split
    · rename_i h; simp; omega
    · rename_i h; simp; constructor <;> first | assumption | omega
  · rename_i h; simp [h]

end Go.Proofs.YtmdjiajbnifjpaaDoor.Lift

