/-
  Part N of the small logic: a region whose order is drawn. If any two operations that touch the same places are ordered, every order leads where the listed one leads.
-/
import Derived.Test.YtbmnlkfgkdallaaDoorLm
import Derived.Orders
namespace Go.Proofs.YtbmnlkfgkdallaaDoor.Lift
set_option linter.unusedSimpArgs false
set_option linter.unusedVariables false
set_option linter.unnecessarySimpa false
open Go

def leS (s1 s : St) : Prop := ∀ l v, get s1 l = some v → get s l = some v

theorem Rel.weaken {X : Ctx} {G : Gh} {s s1 : St} {a : Act} {w : World} (R : Rel X G s a w) (h : leS s1 s) : Rel X G s1 a w :=
  ⟨R.size, R.defers, R.ext, R.wf, R.nil, fun l v hl => R.holds l v (h l v hl), fun l v l' v' b h1 h2 => R.sep l v l' v' b (h _ _ h1) (h _ _ h2), fun l v b h1 => R.own l v b (h _ _ h1), fun l v b o h1 => R.data l v b o (h _ _ h1)⟩

def Loc.eqB : Loc → Loc → Bool
  | .slot a, .slot b => a == b
  | .loc a, .loc b => a == b
  | .heap a, .heap b => a == b
  | .tok a, .tok b => a == b
  | _, _ => false

theorem Loc.eqB_iff (a b : Loc) : Loc.eqB a b = true ↔ a = b := by
  cases a <;> cases b <;> simp [Loc.eqB]

def memL (l : Loc) : List Loc → Bool
  | [] => false
  | x :: r => l.eqB x || memL l r

theorem memL_iff (l : Loc) (r : List Loc) : memL l r = true ↔ l ∈ r := by
  induction r with
  | nil => simp [memL]
  | cons x r ih => simp [memL, ih, Loc.eqB_iff]

def disL : List Loc → List Loc → Bool
  | [], _ => true
  | l :: r, x => !memL l x && disL r x

theorem disL_iff (x y : List Loc) : disL x y = true ↔ ∀ l ∈ x, l ∉ y := by
  induction x with
  | nil => simp [disL]
  | cons l r ih =>
    simp only [disL, Bool.and_eq_true, Bool.not_eq_true', ih, List.mem_cons, forall_eq_or_imp]
    rw [← Bool.not_eq_true, memL_iff]

def wrL : Eff → List Loc
  | [] => []
  | (l, _) :: r => l :: wrL r

structure Ev where
  fp : List Loc
  e : Eff
  nm : List Nat

def mentV (d : Nat) : LV → Bool
  | .one x => hasLoc d x || hasTok d x
  | .row cs => anyLoc d cs || anyTok d cs
  | .tk _ _ => false
  | .ob _ => false

def mentK (d : Nat) : Loc → Bool
  | .loc k => k == d
  | .tok k => k == d
  | _ => false

def ment (d : Nat) : Eff → Bool
  | [] => false
  | (l, none) :: r => mentK d l || ment d r
  | (l, some v) :: r => mentK d l || mentV d v || ment d r

def fresh (d : Nat) (s : St) : Bool := freshL d s && freshT d s

def allN (p : Nat → Bool) : List Nat → Bool
  | [] => true
  | x :: r => p x && allN p r

theorem allN_iff (p : Nat → Bool) (l : List Nat) : allN p l = true ↔ ∀ x ∈ l, p x = true := by
  induction l with
  | nil => simp [allN]
  | cons x r ih => simp [allN, ih]

theorem says_none {e : Eff} {l : Loc} (h : l ∉ wrL e) : e.says l = none := by
  induction e with
  | nil => rfl
  | cons p r ih =>
    obtain ⟨m, v⟩ := p
    simp only [wrL, List.mem_cons, not_or] at h
    simp only [Eff.says, ih h.2]
    rw [if_neg (fun e => h.1 e.symm)]

theorem says_some {e : Eff} {l : Loc} (h : l ∈ wrL e) : ∃ x, e.says l = some x := by
  induction e with
  | nil => cases h
  | cons p r ih =>
    obtain ⟨m, v⟩ := p
    simp only [Eff.says]
    cases hs : Eff.says r l with
    | some x => exact ⟨x, rfl⟩
    | none =>
      simp only [wrL, List.mem_cons] at h
      rcases h with rfl | h
      · exact ⟨v, by simp⟩
      · obtain ⟨x, hx⟩ := ih h
        rw [hs] at hx; cases hx

theorem get_apply_ne {e : Eff} {s : St} {l : Loc} (h : l ∉ wrL e) : get (apply s e) l = get s l := by rw [get_apply, says_none h]; rfl

theorem fresh_del {d : Nat} {s : St} (l : Loc) (h : fresh d s = true) : fresh d (del s l) = true := by
  induction s with
  | nil => exact h
  | cons p r ih =>
    obtain ⟨m, v⟩ := p
    simp only [fresh, freshL, freshT, Bool.and_eq_true] at h ih ⊢
    have := ih ⟨h.1.2, h.2.2⟩
    simp only [del]
    split
    · exact this
    · simp only [freshL, freshT, Bool.and_eq_true]
      exact ⟨⟨h.1.1, this.1⟩, ⟨h.2.1, this.2⟩⟩

theorem fresh_apply {d : Nat} : ∀ {e : Eff} {s : St}, fresh d s = true → ment d e = false → fresh d (apply s e) = true
  | [], s, h, _ => h
  | (l, none) :: r, s, h, hm => by
    simp only [ment, Bool.or_eq_false_iff] at hm
    show fresh d (apply (del s l) r) = true
    exact fresh_apply (fresh_del l h) hm.2
  | (l, some v) :: r, s, h, hm => by
    simp only [ment, Bool.or_eq_false_iff] at hm
    show fresh d (apply (upd s l v) r) = true
    refine fresh_apply ?_ hm.2
    have hd := fresh_del l h
    simp only [upd, fresh, freshL, freshT, Bool.and_eq_true] at hd ⊢
    have h1 := hm.1.1
    have h2 := hm.1.2
    refine ⟨⟨⟨?_, ?_⟩, hd.1⟩, ⟨⟨?_, ?_⟩, hd.2⟩⟩
    · cases l <;> simp_all [mentK]
    · cases v <;> simp_all [mentV]
    · cases l <;> simp_all [mentK]
    · cases v <;> simp_all [mentV]

/-- the state behind those that L picks -/
def sel (L : Nat → Bool) : Nat → List Ev → St → St
  | _, [], s => s
  | k, ev :: r, s => sel L (k + 1) r (if L k then apply s ev.e else s)

theorem sel_diff {L L' : Nat → Bool} {l : Loc} : ∀ (evs : List Ev) (k : Nat) (s s' : St), get s l = get s' l → (∀ (j : Nat) (ev : Ev), evs[j]? = some ev → L (k + j) ≠ L' (k + j) → l ∉ wrL ev.e) →
    get (sel L k evs s) l = get (sel L' k evs s') l
  | [], _, _, _, h, _ => h
  | ev :: r, k, s, s', h, hd => by
    simp only [sel]
    refine sel_diff r (k + 1) _ _ ?_ fun j ev' hj hne => hd (j + 1) ev' (by simpa using hj) (by rw [show k + (j + 1) = k + 1 + j from by omega]; exact hne)
    by_cases hL : L k = L' k
    · rw [hL]
      split
      · rw [get_apply, get_apply, h]
      · exact h
    · have hn := hd 0 ev rfl (by simpa using hL)
      split <;> split <;> simp only [get_apply_ne hn, h]

theorem sel_none {L : Nat → Bool} : ∀ (evs : List Ev) (k : Nat) (s : St), (∀ j, k ≤ j → L j = false) → sel L k evs s = s
  | [], _, _, _ => rfl
  | ev :: r, k, s, h => by
    simp only [sel, h k (Nat.le_refl _), Bool.false_eq_true, if_false]
    exact sel_none r (k + 1) s fun j hj => h j (by omega)

theorem sel_fresh {L : Nat → Bool} {d : Nat} : ∀ (evs : List Ev) (k : Nat) (s : St), fresh d s = true → (∀ (j : Nat) (ev : Ev), evs[j]? = some ev → L (k + j) = true → ment d ev.e = false) → fresh d (sel L k evs s) = true
  | [], _, _, h, _ => h
  | ev :: r, k, s, h, hm => by
    simp only [sel]
    refine sel_fresh r (k + 1) _ ?_ fun j ev' hj hL => hm (j + 1) ev' (by simpa using hj) (by rw [show k + (j + 1) = k + 1 + j from by omega]; exact hL)
    split
    · rename_i hk; exact fresh_apply h (hm 0 ev rfl (by simpa using hk))
    · exact h

/-- one more -/
theorem sel_add {L : Nat → Bool} {i : Nat} {evi : Ev} {l : Loc} (hLi : L i = false) : ∀ (evs : List Ev) (k : Nat) (s : St), k ≤ i → evs[i - k]? = some evi →
    (∀ (j : Nat) (ev : Ev), evs[j]? = some ev → i < k + j → L (k + j) = true → l ∈ wrL evi.e → l ∉ wrL ev.e) →
    get (sel (fun j => j == i || L j) k evs s) l = get (apply (sel L k evs s) evi.e) l
  | [], k, s, _, h, _ => by cases h
  | ev :: r, k, s, hk, hev, hd => by
    by_cases hki : k = i
    · subst hki
      simp only [Nat.sub_self, List.getElem?_cons_zero, Option.some.injEq] at hev
      subst hev
      simp only [sel, beq_self_eq_true, Bool.true_or, if_true, hLi, Bool.false_eq_true, if_false]
      by_cases hl : l ∈ wrL ev.e
      · obtain ⟨x, hx⟩ := says_some hl
        rw [get_apply _ (sel L (k + 1) r s), hx, Option.getD_some]
        have h1 : get (sel (fun j => j == k || L j) (k + 1) r (apply s ev.e)) l = get (sel (fun _ => false) (k + 1) r (apply s ev.e)) l := by
          refine sel_diff r (k + 1) _ _ rfl fun j ev' hj hne => hd (j + 1) ev' (by simpa using hj) (by omega) ?_ hl
          rw [show k + (j + 1) = k + 1 + j from by omega]
          cases hq : L (k + 1 + j) with
          | true => rfl
          | false =>
            have : ((k + 1 + j == k) || L (k + 1 + j)) = false := by rw [hq]; simp; omega
            exact absurd this hne
        rw [h1, sel_none r (k + 1) _ (fun _ _ => rfl), get_apply, hx, Option.getD_some]
      · rw [get_apply_ne hl]
        refine sel_diff r (k + 1) _ _ (get_apply_ne hl) fun j ev' hj hne => ?_
        exfalso
        apply hne
        have : (k + 1 + j == k) = false := by simp; omega
        simp [this]
    · simp only [sel]
      have hb : ((k == i) || L k) = L k := by
        have : (k == i) = false := by simpa using hki
        rw [this]; rfl
      simp only [hb]
      refine sel_add hLi r (k + 1) _ (by omega) ?_ fun j ev' hj hlt hL => hd (j + 1) ev' (by simpa using hj) (by omega) (by rw [show k + (j + 1) = k + 1 + j from by omega]; exact hL)
      rw [show i - k = (i - (k + 1)) + 1 from by omega] at hev
      simpa using hev

/-- the part of a state that a place's list names -/
def restr (s : St) : List Loc → St
  | [] => []
  | l :: r => match get s l with
    | some v => (l, v) :: restr s r
    | none => restr s r

theorem get_restr {s : St} {fp : List Loc} {l : Loc} {v : LV} (h : get (restr s fp) l = some v) : l ∈ fp ∧ get s l = some v := by
  induction fp with
  | nil => cases h
  | cons m r ih =>
    simp only [restr] at h
    split at h
    · rename_i u hu
      simp only [get] at h
      split at h
      · cases h; subst_vars; exact ⟨by simp, hu⟩
      · have := ih h; exact ⟨List.mem_cons_of_mem _ this.1, this.2⟩
    · have := ih h; exact ⟨List.mem_cons_of_mem _ this.1, this.2⟩

/-- an operation, its guard looked at -/
def OpOK (X : Ctx) (ops : Array Oper) (o : Oper) (s s' : St) : Prop :=
  ∀ (G : Gh) (a : Act) (w : World), Rel X G s a w → ∀ (next : Act → World → Prop) (Q : Exit → Act → World → Prop),
    (∀ G' a' w', Rel X G' s' a' w' → next a' w') → if Region.wanted o (yielded ops a.tmps) then o.wpIn X.F 0 X.P a w next Q else next (a.put o.dst undef) w

def LocStep (X : Ctx) (ops : Array Oper) (o : Oper) (s1 : St) (e : Eff) (nm : List Nat) : Prop :=
  ∀ s, leS s1 s → (∀ d ∈ nm, fresh d s = true) → OpOK X ops o s (apply s e)

def RunL (X : Ctx) (ops : Array Oper) : List Oper → St → List Ev → Prop
  | [], _, [] => True
  | o :: l, s, ev :: evs => LocStep X ops o (restr s ev.fp) ev.e ev.nm ∧ RunL X ops l (apply s ev.e) evs
  | _, _, _ => False

def appAll : St → List Ev → St
  | s, [] => s
  | s, ev :: r => appAll (apply s ev.e) r

theorem sel_all (k : Nat) (evs : List Ev) (s : St) : sel (fun _ => true) k evs s = appAll s evs := by
  induction evs generalizing k s with
  | nil => rfl
  | cons ev r ih => simp only [sel, if_true, appAll, ih]

theorem RunL_length {X : Ctx} {ops : Array Oper} : ∀ {l : List Oper} {s : St} {evs : List Ev}, RunL X ops l s evs → evs.length = l.length
  | [], _, [], _ => rfl
  | [], _, _ :: _, h => h.elim
  | _ :: _, _, [], h => h.elim
  | o :: l, s, ev :: evs, h => by simp [RunL_length h.2]

theorem RunL_at {X : Ctx} {ops : Array Oper} : ∀ {l : List Oper} {s : St} {evs : List Ev} (k : Nat), RunL X ops l s evs → ∀ (i : Nat) (o : Oper) (ev : Ev), l[i]? = some o → evs[i]? = some ev →
    LocStep X ops o (restr (sel (fun j => decide (j < k + i)) k evs s) ev.fp) ev.e ev.nm
  | [], _, [], _, _, _, _, _, h, _ => by cases h
  | [], _, _ :: _, _, h, _, _, _, _, _ => h.elim
  | _ :: _, _, [], _, h, _, _, _, _, _ => h.elim
  | o :: l, s, ev :: evs, k, h, i, o', ev', ho, hev => by
    cases i with
    | zero =>
      simp at ho hev
      subst ho hev
      rw [sel_none _ _ _ (fun j hj => by simp; omega)]
      exact h.1
    | succ i =>
      have := RunL_at (k + 1) h.2 i o' ev' (by simpa using ho) (by simpa using hev)
      simp only [sel]
      rw [if_pos (by simp)]
      rw [show k + (i + 1) = k + 1 + i from by omega]
      exact this

/-- which operations come ahead of one -/
def maskOf (T : List Nat) (o : Oper) : Nat := o.after.toList.foldl (fun s e => if Region.binds .any e then s ||| (2 ^ e.on ||| T.getD e.on 0) else s) 0
def tabGo : List Oper → List Nat → List Nat
  | [], T => T
  | o :: r, T => tabGo r (T ++ [maskOf T o])

def backB : Nat → List Oper → Bool
  | _, [] => true
  | n, o :: r => o.after.toList.all (fun e => !Region.binds .any e || decide (e.on < n)) && backB (n + 1) r
def fixB (T : List Nat) : List Nat → List Oper → Bool
  | [], [] => true
  | t :: ts, o :: r => t == maskOf T o && fixB T ts r
  | _, _ => false

theorem backB_spec : ∀ {ops : List Oper} {n : Nat}, backB n ops = true → ∀ (i : Nat) (o : Oper), ops[i]? = some o → ∀ e ∈ o.after, Region.binds .any e = true → e.on < n + i
  | [], _, _, i, o, h => by cases h
  | o :: r, n, h, i, o', ho => by
    simp only [backB, Bool.and_eq_true] at h
    cases i with
    | zero =>
      simp at ho
      subst ho
      intro e he hb
      have := List.all_eq_true.1 h.1 e (by simpa using he)
      simpa [hb] using this
    | succ i =>
      intro e he hb
      have := backB_spec h.2 i o' (by simpa using ho) e he hb
      omega

theorem fixB_spec {T : List Nat} : ∀ {ts : List Nat} {ops : List Oper}, fixB T ts ops = true → ∀ (i : Nat) (o : Oper), ops[i]? = some o → ts.getD i 0 = maskOf T o
  | [], [], _, i, o, h => by cases h
  | [], _ :: _, h, _, _, _ => by cases h
  | _ :: _, [], h, _, _, _ => by cases h
  | t :: ts, o :: r, h, i, o', ho => by
    simp only [fixB, Bool.and_eq_true, beq_iff_eq] at h
    cases i with
    | zero => simp at ho; subst ho; simpa using h.1
    | succ i => simpa using fixB_spec h.2 i o' (by simpa using ho)

theorem mask_fold {T : List Nat} {i : Nat} : ∀ (es : List Edge) (s : Nat), (es.foldl (fun s e => if Region.binds .any e then s ||| (2 ^ e.on ||| T.getD e.on 0) else s) s).testBit i = true →
    s.testBit i = true ∨ ∃ e ∈ es, Region.binds .any e = true ∧ (e.on = i ∨ (T.getD e.on 0).testBit i = true)
  | [], s, h => .inl h
  | e :: r, s, h => by
    simp only [List.foldl_cons] at h
    rcases mask_fold r _ h with h | ⟨e', h1, h2⟩
    · split at h
      · rename_i hb
        simp only [Nat.testBit_or, Bool.or_eq_true, Nat.testBit_two_pow, decide_eq_true_eq] at h
        rcases h with h | h
        · exact .inl h
        · exact .inr ⟨e, by simp, hb, h⟩
      · exact .inl h
    · exact .inr ⟨e', List.mem_cons_of_mem _ h1, h2⟩

theorem mask_spec {T : List Nat} {o : Oper} {i : Nat} (h : (maskOf T o).testBit i = true) : ∃ e ∈ o.after, Region.binds .any e = true ∧ (e.on = i ∨ (T.getD e.on 0).testBit i = true) := by
  rcases mask_fold _ _ h with h | ⟨e, h1, h2⟩
  · simp at h
  · exact ⟨e, by simpa using h1, h2⟩

def Closed (ops : Array Oper) (L : Nat → Bool) : Prop := ∀ (j : Nat) (o : Oper), L j = true → ops[j]? = some o → ∀ e ∈ o.after, Region.binds .any e = true → L e.on = true

theorem anc_spec {ops : Array Oper} {T : List Nat} (hb : backB 0 ops.toList = true) (hf : fixB T T ops.toList = true) {L : Nat → Bool} (hc : Closed ops L) {i : Nat} : ∀ (j : Nat) (o : Oper), ops[j]? = some o →
    (∀ e ∈ o.after, Region.binds .any e = true → L e.on = true) → (T.getD j 0).testBit i = true → L i = true := by
  intro j
  induction j using Nat.strongRecOn with
  | _ j ih =>
    intro o ho hall ht
    have ho' : ops.toList[j]? = some o := by simpa using ho
    rw [fixB_spec hf j o ho'] at ht
    obtain ⟨e, he, heb, h⟩ := mask_spec ht
    have hL := hall e he heb
    rcases h with rfl | h
    · exact hL
    · have hlt := backB_spec hb j o ho' e he heb
      have hj : j < ops.size := (Array.getElem?_eq_some_iff.1 ho).1
      have hlt' : e.on < ops.size := by omega
      exact ih e.on (by omega) _ (Array.getElem?_eq_getElem hlt') (fun e' he' hb' => hc e.on _ hL (Array.getElem?_eq_getElem hlt') e' he' hb') h

def apart (x y : Ev) : Bool := disL (wrL x.e) y.fp && disL (wrL y.e) x.fp && disL (wrL x.e) (wrL y.e) && allN (fun d => !ment d y.e) x.nm

def chkAt (T : List Nat) (x : Ev) (i : Nat) : Nat → List Ev → Bool
  | _, [] => true
  | j, y :: r => allN (fun d => !ment d x.e) y.nm && ((T.getD j 0).testBit i || apart x y) && chkAt T x i (j + 1) r
def chkP (T : List Nat) : Nat → List Ev → Bool
  | _, [] => true
  | i, x :: r => chkAt T x i (i + 1) r && chkP T (i + 1) r
def chkF (s : St) : List Ev → Bool
  | [] => true
  | x :: r => allN (fun d => fresh d s) x.nm && chkF s r

def chkB (ops : List Oper) (s : St) (evs : List Ev) : Bool :=
  let T := tabGo ops []
  backB 0 ops && fixB T T ops && chkF s evs && chkP T 0 evs

theorem chkF_spec {s : St} : ∀ {evs : List Ev}, chkF s evs = true → ∀ (i : Nat) (x : Ev), evs[i]? = some x → ∀ d ∈ x.nm, fresh d s = true
  | [], _, _, _, h => by cases h
  | y :: r, h, i, x, hx => by
    simp only [chkF, Bool.and_eq_true] at h
    cases i with
    | zero => simp at hx; subst hx; exact (allN_iff _ _).1 h.1
    | succ i => exact chkF_spec h.2 i x (by simpa using hx)

theorem chkAt_spec {T : List Nat} {x : Ev} {i : Nat} : ∀ {evs : List Ev} {j : Nat}, chkAt T x i j evs = true → ∀ (k : Nat) (y : Ev), evs[k]? = some y → (∀ d ∈ y.nm, ment d x.e = false) ∧ ((T.getD (j + k) 0).testBit i = true ∨ apart x y = true)
  | [], _, _, _, _, h => by cases h
  | z :: r, j, h, k, y, hy => by
    simp only [chkAt, Bool.and_eq_true, Bool.or_eq_true] at h
    cases k with
    | zero =>
      simp at hy
      subst hy
      exact ⟨fun d hd => by simpa using (allN_iff _ _).1 h.1.1 d hd, h.1.2⟩
    | succ k =>
      have := chkAt_spec h.2 k y (by simpa using hy)
      rw [show j + (k + 1) = j + 1 + k from by omega]
      exact this

theorem chkP_spec {T : List Nat} : ∀ {evs : List Ev} {n : Nat}, chkP T n evs = true → ∀ (i j : Nat) (x y : Ev), i < j → evs[i]? = some x → evs[j]? = some y → (∀ d ∈ y.nm, ment d x.e = false) ∧ ((T.getD (n + j) 0).testBit (n + i) = true ∨ apart x y = true)
  | [], _, _, _, _, _, _, _, h, _ => by cases h
  | z :: r, n, h, i, j, x, y, hij, hx, hy => by
    simp only [chkP, Bool.and_eq_true] at h
    cases i with
    | zero =>
      simp at hx
      subst hx
      obtain ⟨j, rfl⟩ : ∃ k, j = k + 1 := ⟨j - 1, by omega⟩
      have := chkAt_spec h.1 j y (by simpa using hy)
      rw [show n + (j + 1) = n + 1 + j from by omega]
      exact this
    | succ i =>
      obtain ⟨j, rfl⟩ : ∃ k, j = k + 1 := ⟨j - 1, by omega⟩
      have := chkP_spec h.2 i j x y (by omega) (by simpa using hx) (by simpa using hy)
      rw [show n + (j + 1) = n + 1 + j from by omega, show n + (i + 1) = n + 1 + i from by omega]
      exact this

section
variable {X : Ctx} {s0 : St} {k : List Item}

def Lof (listed : Array Bool) : Nat → Bool := fun j => listed.getD j false

theorem Lof_set {listed : Array Bool} {i : Nat} (hi : i < listed.size) : Lof (listed.setIfInBounds i true) = fun j => j == i || Lof listed j := by
  funext j
  simp only [Lof, Array.getD_eq_getD_getElem?, Array.getElem?_setIfInBounds]
  by_cases h : i = j
  · subst h; simp [hi]
  · have : (j == i) = false := by simpa using fun e => h e.symm
    simp [h, this]

theorem getD_tf {listed : Array Bool} {i : Nat} (hi : i < listed.size) : listed.getD i true = Lof listed i := by
  simp [Lof, hi]

def left (n : Nat) (listed : Array Bool) : List Nat := (List.range n).filter fun j => !Lof listed j

theorem left_set {n : Nat} {listed : Array Bool} {i : Nat} (hi : i < listed.size) (hn : i < n) (hl : Lof listed i = false) : (left n (listed.setIfInBounds i true)).length + 1 = (left n listed).length := by
  have hmem : i ∈ left n listed := by simp [left, hn, hl]
  have hnd : (left n listed).Nodup := List.Nodup.sublist List.filter_sublist List.nodup_range
  have he : left n (listed.setIfInBounds i true) = (left n listed).erase i := by
    rw [hnd.erase_eq_filter]
    simp only [left, Lof_set hi, List.filter_filter]
    congr 1
    funext j
    cases Lof listed j <;> cases h : (j == i) <;> simp_all
  rw [he, List.length_erase_of_mem hmem]
  have : 0 < (left n listed).length := List.length_pos_of_mem hmem
  omega

theorem draw_any {ops : Array Oper} {evs : List Ev} {K : St → Prop} (hrun : RunL X ops ops.toList s0 evs) (hchk : chkB ops.toList s0 evs = true) (hK : K (appAll s0 evs)) :
    ∀ (fuel : Nat) (listed : Array Bool) (G : Gh) (a : Act) (w : World), listed.size = ops.size → Closed ops (Lof listed) → (left ops.size listed).length ≤ fuel → Rel X G (sel (Lof listed) 0 evs s0) a w →
      wpAnyIn X.F 0 X.P .any ops (Nrm X K) fuel listed a w := by
  simp only [chkB, Bool.and_eq_true] at hchk
  obtain ⟨⟨⟨hback, hfix⟩, hfr⟩, hp⟩ := hchk
  generalize tabGo ops.toList [] = T at *
  have hlen : evs.length = ops.size := by simpa using RunL_length hrun
  have hdone : ∀ (listed : Array Bool) (G : Gh) (a : Act) (w : World), (∀ j, j < ops.size → Lof listed j = true) → Rel X G (sel (Lof listed) 0 evs s0) a w → Nrm X K .normal a w := by
    intro listed G a w hall R
    refine ⟨rfl, G, _, hK, R.congr fun l => ?_⟩
    rw [← sel_all 0]
    refine sel_diff evs 0 _ _ rfl fun j ev hj hne => ?_
    have hj' : j < ops.size := by rw [← hlen]; exact (List.getElem?_eq_some_iff.1 hj).1
    exact absurd (hall j hj').symm (by simpa using hne)
  have hstuck : ∀ (listed : Array Bool), listed.size = ops.size → Region.ready .any ops listed = [] → ∀ j, j < ops.size → Lof listed j = true := by
    intro listed hsz hr j
    induction j using Nat.strongRecOn with
    | _ j ih =>
      intro hj
      cases hq : Lof listed j with
      | true => rfl
      | false =>
        have : j ∈ Region.ready .any ops listed := by
          rw [mem_ready]
          refine ⟨by rw [getD_tf (by omega)]; exact hq, ops[j], Array.getElem?_eq_getElem hj, fun e he hb => ?_⟩
          have hlt := backB_spec hback j ops[j] (by simp [hj]) e he hb
          exact ih e.on (by omega) (by omega)
        rw [hr] at this
        cases this
  intro fuel
  induction fuel with
  | zero =>
    intro listed G a w hsz hcl hle R
    have hall : ∀ j, j < ops.size → Lof listed j = true := by
      intro j hj
      cases hq : Lof listed j with
      | true => rfl
      | false =>
        have hm : j ∈ left ops.size listed := by simp [left, hj, hq]
        have := List.length_pos_of_mem hm
        omega
    refine ⟨?_, hdone listed G a w hall R⟩
    cases hr : Region.ready .any ops listed with
    | nil => rfl
    | cons j r =>
      have hm : j ∈ Region.ready .any ops listed := by rw [hr]; simp
      obtain ⟨h1, o, h2, -⟩ := mem_ready.1 hm
      have hj : j < ops.size := (Array.getElem?_eq_some_iff.1 h2).1
      rw [getD_tf (by omega), hall j hj] at h1
      cases h1
  | succ fuel ih =>
    intro listed G a w hsz hcl hle R
    refine ⟨fun hr => hdone listed G a w (hstuck listed hsz hr) R, fun i hi => ?_⟩
    obtain ⟨h1, o, ho, hall⟩ := mem_ready.1 hi
    have hio : i < ops.size := (Array.getElem?_eq_some_iff.1 ho).1
    have hil : i < listed.size := by omega
    rw [getD_tf hil] at h1
    have hall' : ∀ e ∈ o.after, Region.binds .any e = true → Lof listed e.on = true := hall
    have hie : i < evs.length := by omega
    have hev : evs[i]? = some evs[i] := List.getElem?_eq_getElem hie
    have hstep := RunL_at 0 hrun i o evs[i] (by simpa using ho) hev
    -- what is listed does not wait for i; what i waits for is listed
    have hind1 : ∀ (j : Nat) (ev : Ev), evs[j]? = some ev → i < j → Lof listed j = true → apart evs[i] ev = true := by
      intro j ev hj hij hL
      have hjo : j < ops.size := by rw [← hlen]; exact (List.getElem?_eq_some_iff.1 hj).1
      rcases (chkP_spec hp i j _ ev hij hev hj).2 with h | h
      · have := anc_spec hback hfix hcl j ops[j] (Array.getElem?_eq_getElem hjo) (fun e he hb => hcl j _ hL (Array.getElem?_eq_getElem hjo) e he hb) (by simpa using h)
        rw [h1] at this; cases this
      · exact h
    have hind2 : ∀ (j : Nat) (ev : Ev), evs[j]? = some ev → j < i → Lof listed j = false → apart ev evs[i] = true := by
      intro j ev hj hij hL
      rcases (chkP_spec hp j i ev _ hij hj hev).2 with h | h
      · have := anc_spec hback hfix hcl i o ho hall' (by simpa using h)
        rw [hL] at this; cases this
      · exact h
    have hop : OpOK X ops o (sel (Lof listed) 0 evs s0) (apply (sel (Lof listed) 0 evs s0) evs[i].e) := by
      refine hstep _ (fun l v hl => ?_) (fun d hd => ?_)
      · obtain ⟨hfp, hg⟩ := get_restr hl
        rw [← hg]
        refine sel_diff evs 0 _ _ rfl fun j ev hj hne hw => ?_
        simp only [Nat.zero_add] at hne
        by_cases hij : j < i
        · cases hq : Lof listed j with
          | true => rw [hq] at hne; simp [hij] at hne
          | false =>
            have := hind2 j ev hj hij hq
            simp only [apart, Bool.and_eq_true, disL_iff] at this
            exact this.1.1.1 l hw hfp
        · cases hq : Lof listed j with
          | false => rw [hq] at hne; simp [hij] at hne
          | true =>
            have hne' : j ≠ i := fun e => by rw [e, h1] at hq; cases hq
            have := hind1 j ev hj (by omega) hq
            simp only [apart, Bool.and_eq_true, disL_iff] at this
            exact this.1.1.2 l hw hfp
      · refine sel_fresh evs 0 s0 (chkF_spec hfr i _ hev d hd) fun j ev hj hL => ?_
        simp only [Nat.zero_add] at hL
        have hne' : j ≠ i := fun e => by rw [e, h1] at hL; cases hL
        by_cases hij : j < i
        · exact (chkP_spec hp j i ev _ hij hj hev).1 d hd
        · have := hind1 j ev hj (by omega) hL
          simp only [apart, Bool.and_eq_true, allN_iff] at this
          simpa using this.2 d hd
    have hnext : ∀ G' a' w', Rel X G' (apply (sel (Lof listed) 0 evs s0) evs[i].e) a' w' → wpAnyIn X.F 0 X.P .any ops (Nrm X K) fuel (listed.setIfInBounds i true) a' w' := by
      intro G' a' w' R'
      refine ih _ G' a' w' (by simpa using hsz) ?_ ?_ ?_
      · rw [Lof_set hil]
        intro j o' hL ho' e he hb
        simp only [Bool.or_eq_true, beq_iff_eq] at hL ⊢
        rcases hL with rfl | hL
        · rw [ho] at ho'; cases ho'
          exact .inr (hall' e he hb)
        · exact .inr (hcl j o' hL ho' e he hb)
      · have := left_set (n := ops.size) hil hio h1
        omega
      · rw [Lof_set hil]
        refine R'.congr fun l => sel_add h1 evs 0 s0 (Nat.zero_le _) hev fun j ev hj hlt hL hw => ?_
        simp only [Nat.zero_add] at hlt hL
        have := hind1 j ev hj hlt hL
        simp only [apart, Bool.and_eq_true, disL_iff] at this
        exact this.1.2 l hw
    have := hop G a w R _ (Nrm X K) hnext
    unfold wpOpIn
    simp only [ho]
    split
    · rename_i hw; simp only [hw, if_true] at this; exact this
    · rename_i hw; simp only [hw] at this; exact ⟨fun _ _ => trivial, this⟩

/-- the operations of a drawn region that are left, in the listed order -/
def VD (X : Ctx) (ops : Array Oper) (s0 : St) (l : List Oper) (s : St) (evR : List Ev) (K : St → Prop) : Prop :=
  ∃ evs, RunL X ops l s evs ∧ chkB ops.toList s0 (evR.reverse ++ evs) = true ∧ K (appAll s evs)

theorem VD_nil {ops : Array Oper} {s : St} {evR : List Ev} {K : St → Prop} (h : chkB ops.toList s0 evR.reverse = true) (hK : K s) : VD X ops s0 [] s evR K := ⟨[], trivial, by simpa using h, hK⟩

theorem VD_step {ops : Array Oper} {o : Oper} {l : List Oper} {s : St} {evR : List Ev} {K : St → Prop} (ev : Ev) (h : LocStep X ops o (restr s ev.fp) ev.e ev.nm) (hl : VD X ops s0 l (apply s ev.e) (ev :: evR) K) : VD X ops s0 (o :: l) s evR K := by
  obtain ⟨evs, h1, h2, h3⟩ := hl
  exact ⟨ev :: evs, ⟨h, h1⟩, by simpa using h2, h3⟩

theorem Rel.drawn {G : Gh} {s : St} {a : Act} {w : World} (R : Rel X G s a w) (n : Nat) : Rel X G s a { w with drawn := n } := by
  have hc : ∀ ad, ({ w with drawn := n } : World).cell? ad = w.cell? ad := fun _ => rfl
  have g : Grow G.D w G.D { w with drawn := n } := fun b o h => ⟨h, rfl⟩
  have T0 := Trans.refl X G a w R.nil
  have T : Trans X G a w G a { w with drawn := n } (fun _ => False) := ⟨T0.tmps, T0.defers, rfl, rfl, rfl, Nat.le_refl _, fun _ _ _ => rfl, fun _ h => h.elim, g, fun _ _ h k => absurd h k, R.nil⟩
  exact R.step T (fun _ _ => False) (fun l v h => .inr ⟨h, fun _ _ => rfl, fun _ _ h => h, fun _ _ => rfl, fun _ _ => rfl⟩) (fun _ _ h => h.elim) (fun _ _ _ _ _ h => h.elim)

theorem W_drawn {id : Nat} {ops : Array Oper} {s : St} (hm : X.P.follows .mixedOrders = true) (h : ∀ K : St → Prop, (∀ s', W X k s' → K s') → VD X ops s ops.toList s [] K) : W X (.code (.region id ops true) :: k) s := by
  intro G a w b cs hf hk hr R
  obtain ⟨evs, h1, h2, h3⟩ := h (fun s' => W X k s') (fun _ h => h)
  have hany := draw_any h1 (by simpa using h2) h3 ops.size (Array.replicate ops.size false) G a { w with drawn := w.drawn + 1 } (by simp) (fun j o hL => by simp [Lof, Array.getElem?_replicate] at hL; split at hL <;> simp at hL) (Nat.le_trans (List.length_filter_le _ _) (by simp)) (by
    rw [sel_none _ _ _ (fun j _ => by simp only [Lof, Array.getD_eq_getD_getElem?, Array.getElem?_replicate]; split <;> rfl)]
    exact R.drawn _)
  obtain ⟨e', a', w', ⟨rfl, G', s', hK, R'⟩, harr⟩ := wpIn_region_any (F := X.F) (n := 0) hm hany b k cs hr trivial (roomF _)
  obtain ⟨w'', fr, q1, q2⟩ := hK G' a' w' b cs hf hk hr R'
  exact ⟨w'', fr, q1, Steps.trans (StepsIn.steps harr) q2⟩

end
end Go.Proofs.YtbmnlkfgkdallaaDoor.Lift
