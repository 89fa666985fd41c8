import Derived.Test.YtmdjiajbnifjpaaDoorY2
import Derived.Test.YtmdjiajbnifjpaaDoorProg
/-
  Part Y of the small logic: a drawn region one of whose operations has several outcomes; appends to slices that are raw, or nil.
-/
namespace Go.Proofs.YtmdjiajbnifjpaaDoor.Lift
set_option linter.unusedSimpArgs false
set_option linter.unusedVariables false
set_option linter.unnecessarySimpa false
open Go
section
variable {X : Ctx} {s s0 : St} {k : List Item}

/-! a drawn region with one free operation -/
def vcdE (X : Ctx) (esc : List Nat) (ops : Array Oper) (s0 : St) (K : St → List Ev → Prop) : List Oper → St → List Ev → Prop
  | [], s, ev => chkB ops.toList s0 ev.reverse = true ∧ K s ev.reverse
  | o :: l, s, ev => o.guard = none ∧ vcdA X esc ops s0 l (fun _ => False) (vcdE X esc ops s0 K l) o ev s (fpOf X (get s) o.op)
theorem vcdE_nil {esc : List Nat} {ops : Array Oper} {K : St → List Ev → Prop} {ev : List Ev} : vcdE X esc ops s0 K [] s ev = (chkB ops.toList s0 ev.reverse = true ∧ K s ev.reverse) := by rw [vcdE]
theorem vcdE_op {esc : List Nat} {ops : Array Oper} {K : St → List Ev → Prop} {ev : List Ev} {l : List Oper} (d : Option Tmp) (op : Op) (ty : TypeId) (pos : String) (af : Array Edge) :
    vcdE X esc ops s0 K (⟨d, op, ty, pos, af, none⟩ :: l) s ev = vcdA X esc ops s0 l (fun _ => False) (vcdE X esc ops s0 K l) ⟨d, op, ty, pos, af, none⟩ ev s (fpOf X (get s) op) := by rw [vcdE]; simp
attribute [go_sem] vcdE_nil vcdE_op
/-- a place that the free operation leaves alone: what is read, what is written -/
def freeR (d : Nat) (a : Option Nat) : Loc → Prop
  | .slot n => n ≠ d
  | .heap h => a ≠ some h
  | _ => True
def freeW (d : Nat) : Loc → Prop
  | .slot n => n ≠ d
  | .heap _ => False
  | _ => True
def allL (p : Loc → Prop) : List Loc → Prop
  | [] => True
  | l :: r => p l ∧ allL p r
theorem allL_mem {p : Loc → Prop} {l : List Loc} (h : allL p l) : ∀ x ∈ l, p x := by
  induction l with
  | nil => intro x hx; cases hx
  | cons y r ih =>
    intro x hx
    rcases List.mem_cons.1 hx with rfl | hx
    · exact h.1
    · exact ih h.2 x hx
/-- all events but one leave the free operation alone -/
def evFree (d : Nat) (a : Option Nat) : Nat → List Ev → Prop
  | _, [] => True
  | 0, _ :: r => evFree' d a r
  | q + 1, x :: r => allL (freeR d a) x.fp ∧ allL (freeW d) (wrL x.e) ∧ evFree d a q r
where
  evFree' (d : Nat) (a : Option Nat) : List Ev → Prop
    | [] => True
    | x :: r => allL (freeR d a) x.fp ∧ allL (freeW d) (wrL x.e) ∧ evFree' d a r
theorem evFree_at {d : Nat} {a : Option Nat} : ∀ {q : Nat} {evs : List Ev}, evFree d a q evs → ∀ (j : Nat) (x : Ev), evs[j]? = some x → j ≠ q → (∀ l ∈ x.fp, freeR d a l) ∧ ∀ l ∈ wrL x.e, freeW d l
  | _, [], _, j, x, hx, _ => by simp at hx
  | 0, y :: r, h, j, x, hx, hne => by
    have key : ∀ {evs : List Ev}, evFree.evFree' d a evs → ∀ (j : Nat) (x : Ev), evs[j]? = some x → (∀ l ∈ x.fp, freeR d a l) ∧ ∀ l ∈ wrL x.e, freeW d l := by
      intro evs
      induction evs with
      | nil => intro _ j x hx; simp at hx
      | cons z t ih =>
        intro h j x hx
        cases j with
        | zero => simp at hx; subst hx; exact ⟨allL_mem h.1, allL_mem h.2.1⟩
        | succ j => exact ih h.2.2 j x (by simpa using hx)
    cases j with
    | zero => exact absurd rfl hne
    | succ j => exact key h j x (by simpa using hx)
  | q + 1, y :: r, h, j, x, hx, hne => by
    cases j with
    | zero => simp at hx; subst hx; exact ⟨allL_mem h.1, allL_mem h.2.1⟩
    | succ j => exact evFree_at h.2.2 j x (by simpa using hx) (by omega)

/-- what the free operation does: a slot, an object that goes, an object that comes -/
def delO (a : Option Nat) (s : St) : St := match a with | none => s | some b => del s (.heap b)
def effO (d : Nat) (a : Option Nat) (y : SV) (b : Nat) (cs : List SV) (s : St) : St := upd (upd (delO a s) (.slot d) (.one y)) (.heap b) (.row cs)
theorem get_delO (a : Option Nat) (s : St) (l : Loc) (h : ∀ b, a = some b → l ≠ .heap b) : get (delO a s) l = get s l := by
  cases a with
  | none => rfl
  | some b =>
    show get (del s (.heap b)) l = _
    rw [get_del, if_neg fun e => h b rfl e.symm]
theorem effO_ne {d : Nat} {a : Option Nat} {y : SV} {b : Nat} {cs : List SV} {s : St} {l : Loc} (h1 : l ≠ .slot d) (h2 : l ≠ .heap b) (h3 : ∀ b', a = some b' → l ≠ .heap b') : get (effO d a y b cs s) l = get s l := by
  unfold effO
  rw [get_upd, if_neg fun e => h2 e.symm, get_upd, if_neg fun e => h1 e.symm, get_delO _ _ _ h3]
theorem effO_eq {d : Nat} {a : Option Nat} {y : SV} {b : Nat} {cs : List SV} {s s' : St} {l : Loc} (h : get s l = get s' l ∨ l = .slot d ∨ l = .heap b ∨ ∃ b', a = some b' ∧ l = .heap b') : get (effO d a y b cs s) l = get (effO d a y b cs s') l := by
  unfold effO
  rw [get_upd, get_upd, get_upd, get_upd]
  by_cases h1 : Loc.heap b = l
  · rw [if_pos h1, if_pos h1]
  · rw [if_neg h1, if_neg h1]
    by_cases h2 : Loc.slot d = l
    · rw [if_pos h2, if_pos h2]
    · rw [if_neg h2, if_neg h2]
      cases a with
      | none =>
        rcases h with h | h | h | ⟨b', h, -⟩
        · exact h
        · exact absurd h.symm h2
        · exact absurd h.symm h1
        · cases h
      | some b0 =>
        show get (del s (.heap b0)) l = get (del s' (.heap b0)) l
        rw [get_del, get_del]
        by_cases h3 : Loc.heap b0 = l
        · rw [if_pos h3, if_pos h3]
        · rw [if_neg h3, if_neg h3]
          rcases h with h | h | h | ⟨b', h, h4⟩
          · exact h
          · exact absurd h.symm h2
          · exact absurd h.symm h1
          · cases h; exact absurd h4.symm h3

/-- a new object's block: no other object's -/
def newA (b : Nat) (a : Option Nat) (s : St) : Prop := ∀ h, a ≠ some h → get s (.heap h) ≠ none → b ≠ h

/-- the step of the free operation, wherever its places are as told -/
def FreeStep (X : Ctx) (o : Oper) (s1 : St) (d : Nat) (a : Option Nat) (P : SV → Nat → List SV → Prop) : Prop :=
  ∀ s, leS s1 s → ∀ (G : Gh) (ac : Act) (w : World), Rel X G s ac w → ∀ (next : Act → World → Prop) (Q : Exit → Act → World → Prop),
    (∀ y b cs, P y b cs → newA b a s → ∀ G' a' w', Rel X G' (effO d a y b cs s) a' w' → next a' w') → o.wpIn X.F 0 X.P ac w next Q

section
variable {ops ops' : Array Oper} {m q : Nat} {T0 : List Nat} {evs : List Ev} {K : St → Prop} {d : Nat} {a0 : Option Nat}

theorem heaps_sel (hw : ∀ (j : Nat) (x : Ev), evs[j]? = some x → ∀ l ∈ wrL x.e, ∀ h, l ≠ .heap h) (L : Nat → Bool) (h : Nat) : get (sel L 0 evs s0) (.heap h) = get s0 (.heap h) := by
  rw [← sel_none (L := fun _ => false) evs 0 s0 fun _ _ => rfl]
  refine sel_diff evs 0 _ _ ?_ fun j x hj _ hm => hw j x hj _ hm h rfl
  rw [sel_none _ _ _ fun _ _ => rfl]

/-- behind the free operation -/
theorem draw_F2 (hsz' : ops'.size = m) (hget : ∀ i, i < m → i ≠ q → ops'[i]? = ops[i]?) (haf : ∀ o o' : Oper, ops[q]? = some o → ops'[q]? = some o' → o'.after = o.after) (hqm : q < m) (hmn : m ≤ ops.size) (hrun : RunL X ops' ops'.toList s0 evs) (hg : ∀ i o, i < m → i ≠ q → ops[i]? = some o → o.guard = none) (hchk : chkB ops'.toList s0 evs = true)
    (hback0 : backB 0 ops.toList = true) (hfix0 : fixB T0 T0 ops.toList = true) (htail : ∀ j, m ≤ j → j < ops.size → ∀ i, i < j → (T0.getD j 0).testBit i = true)
    (hfree : evFree d a0 q evs) (hqe : ∀ x, evs[q]? = some x → ∀ l ∈ wrL x.e, l = .slot d) {y : SV} {b : Nat} {cs : List SV} (hnew : newA b a0 s0) (hfr0 : ∀ n s, fresh n s = true → fresh n (effO d a0 y b cs s) = true) (hK : VL X ops (ops.toList.drop m) (effO d a0 y b cs (appAll s0 evs)) K) :
    ∀ (fuel : Nat) (listed : Array Bool) (G : Gh) (a : Act) (w : World), listed.size = ops.size → Closed ops (Lof listed) → (∀ j, m ≤ j → Lof listed j = false) → Lof listed q = true → (left m listed).length + (ops.size - m) ≤ fuel → Rel X G (effO d a0 y b cs (sel (Lof listed) 0 evs s0)) a w →
      wpAnyIn X.F 0 X.P .any ops (Nrm X K) fuel listed a w := by
  simp only [chkB, Bool.and_eq_true] at hchk
  obtain ⟨⟨⟨hback, hfix⟩, hfr⟩, hp⟩ := hchk
  generalize tabGo ops'.toList [] = T at *
  have hlen : evs.length = m := by have := RunL_length hrun; simp at this; omega
  have hw : ∀ (j : Nat) (x : Ev), evs[j]? = some x → ∀ l ∈ wrL x.e, ∀ h, l ≠ .heap h := by
    intro j x hj l hl h e
    by_cases hjq : j = q
    · subst hjq
      have := hqe x hj l hl
      rw [this] at e
      cases e
    · have := (evFree_at hfree j x hj hjq).2 l hl
      rw [e] at this
      exact this
  have hdone : ∀ (listed : Array Bool) (G : Gh) (a : Act) (w : World), (∀ j, j < m → Lof listed j = true) → Rel X G (effO d a0 y b cs (sel (Lof listed) 0 evs s0)) a w → Rel X G (effO d a0 y b cs (appAll s0 evs)) a w := by
    intro listed G a w hall R
    refine R.congr fun l => effO_eq (.inl ?_)
    rw [← sel_all 0]
    refine sel_diff evs 0 _ _ rfl fun j ev hj hne => ?_
    have hj' : j < m := by rw [← hlen]; exact (List.getElem?_eq_some_iff.1 hj).1
    exact absurd (hall j hj').symm (by simpa using hne)
  intro fuel
  induction fuel with
  | zero =>
    intro listed G a w hsz hcl htl hLq hle R
    have hm0 : m = ops.size := by omega
    have hall : ∀ j, j < m → Lof listed j = true := by
      intro j hj
      cases hq : Lof listed j with
      | true => rfl
      | false =>
        have hm : j ∈ left m listed := by simp [left, hj, hq]
        have := List.length_pos_of_mem hm
        omega
    refine seq_any hback0 hfix0 htail 0 m 0 listed a w (by omega) (Nat.le_refl _) hsz (fun i hi => by rw [hall i (by omega)]; exact (decide_eq_true (by omega)).symm) (Nat.le_refl _) ?_
    have := hK m rfl G a w (hdone listed G a w hall R)
    have hd : (ops.toList.drop m).length = 0 := by simp; omega
    rw [hd] at this
    exact this
  | succ fuel ih =>
    intro listed G a w hsz hcl htl hLq hle R
    by_cases hall : ∀ j, j < m → Lof listed j = true
    · have hw := hK m rfl G a w (hdone listed G a w hall R)
      have hd : (ops.toList.drop m).length = ops.size - m := by simp
      rw [hd] at hw
      refine seq_any hback0 hfix0 htail (ops.size - m) m (fuel + 1) listed a w (by omega) (Nat.le_refl _) hsz (fun i hi => ?_) (by omega) hw
      by_cases him : i < m
      · rw [hall i him]; exact (decide_eq_true him).symm
      · rw [htl i (by omega)]; exact (decide_eq_false him).symm
    have hex : ∃ j, j < m ∧ Lof listed j = false := by
      by_cases h : ∃ j, j < m ∧ Lof listed j = false
      · exact h
      · exact absurd (fun j hj => by
          cases hq : Lof listed j with
          | true => rfl
          | false => exact absurd ⟨j, hj, hq⟩ h) hall
    have hstuck : Region.ready .any ops listed = [] → ∀ j, j < m → Lof listed j = true := by
      intro hr j
      induction j using Nat.strongRecOn with
      | _ j ihj =>
        intro hj
        cases hq : Lof listed j with
        | true => rfl
        | false =>
          have hjo : j < ops.size := by omega
          have : j ∈ Region.ready .any ops listed := by
            rw [mem_ready]
            refine ⟨by rw [getD_tf (by omega)]; exact hq, ops[j], Array.getElem?_eq_getElem hjo, fun e he hb => ?_⟩
            have hlt := backB_spec hback0 j ops[j] (by simp [hjo]) e he hb
            exact ihj e.on (by omega) (by omega)
          rw [hr] at this
          cases this
    refine ⟨fun hr => absurd (hstuck hr) hall, fun i hi => ?_⟩
    obtain ⟨h1, o, ho, hall1⟩ := mem_ready.1 hi
    have hio : i < ops.size := (Array.getElem?_eq_some_iff.1 ho).1
    have hil : i < listed.size := by omega
    rw [getD_tf hil] at h1
    have hall' : ∀ e ∈ o.after, Region.binds .any e = true → Lof listed e.on = true := hall1
    have him : i < m := by
      rcases Nat.lt_or_ge i m with h | h
      · exact h
      · exact absurd (fun j hj => anc_spec hback0 hfix0 hcl i o ho hall' (htail i h hio j (by omega))) hall
    have hiq : i ≠ q := fun e => by subst e; rw [hLq] at h1; cases h1
    have hcl' : Closed ops' (Lof listed) := by
      intro j o' hL ho' e he hb
      have hj : j < m := by have := (Array.getElem?_eq_some_iff.1 ho').1; omega
      by_cases hjq : j = q
      · subst hjq
        have h2 : ops[j]? = some ops[j] := Array.getElem?_eq_getElem (by omega)
        rw [haf _ _ h2 ho'] at he
        exact hcl j _ hL h2 e he hb
      · exact hcl j o' hL (by rw [← hget j hj hjq]; exact ho') e he hb
    have ho' : ops'[i]? = some o := by rw [hget i him hiq]; exact ho
    have hie : i < evs.length := by omega
    have hev : evs[i]? = some evs[i] := List.getElem?_eq_getElem hie
    have hstep := RunL_at 0 hrun i o evs[i] (by simpa using ho') hev
    have hfi := evFree_at hfree i _ hev hiq
    have hind1 : ∀ (j : Nat) (ev : Ev), evs[j]? = some ev → i < j → Lof listed j = true → apart evs[i] ev = true := by
      intro j ev hj hij hL
      have hjm : j < m := by rw [← hlen]; exact (List.getElem?_eq_some_iff.1 hj).1
      have hjo : j < ops'.size := by omega
      rcases (chkP_spec hp i j _ ev hij hev hj).2 with h | h
      · have := anc_spec hback hfix hcl' j ops'[j] (Array.getElem?_eq_getElem hjo) (fun e he hb => hcl' j _ hL (Array.getElem?_eq_getElem hjo) e he hb) (by simpa using h)
        rw [h1] at this; cases this
      · exact h
    have hind2 : ∀ (j : Nat) (ev : Ev), evs[j]? = some ev → j < i → Lof listed j = false → apart ev evs[i] = true := by
      intro j ev hj hij hL
      rcases (chkP_spec hp j i ev _ hij hj hev).2 with h | h
      · have := anc_spec hback hfix hcl' i o ho' hall' (by simpa using h)
        rw [hL] at this; cases this
      · exact h
    have hop : OpOK X ops' o (effO d a0 y b cs (sel (Lof listed) 0 evs s0)) (apply (effO d a0 y b cs (sel (Lof listed) 0 evs s0)) evs[i].e) := by
      refine hstep _ (fun l v hl => ?_) (fun n hn => ?_)
      · obtain ⟨hfp, hg⟩ := get_restr hl
        have hfl := hfi.1 l hfp
        rw [effO_ne (fun e => by subst e; exact hfl rfl) (fun e => by
          subst e
          rw [heaps_sel hw] at hg
          exact hnew b hfl (by rw [hg]; simp) rfl) (fun b' hb' e => by subst e; exact hfl hb')]
        rw [← hg]
        refine sel_diff evs 0 _ _ rfl fun j ev hj hne hw => ?_
        simp only [Nat.zero_add] at hne
        by_cases hij : j < i
        · cases hq : Lof listed j with
          | true => rw [hq] at hne; simp [hij] at hne
          | false =>
            have := hind2 j ev hj hij hq
            simp only [apart, Bool.and_eq_true, disL_iff] at this
            exact this.1.1.1 l hw hfp
        · cases hq : Lof listed j with
          | false => rw [hq] at hne; simp [hij] at hne
          | true =>
            have hne' : j ≠ i := fun e => by rw [e, h1] at hq; cases hq
            have := hind1 j ev hj (by omega) hq
            simp only [apart, Bool.and_eq_true, disL_iff] at this
            exact this.1.1.2 l hw hfp
      · refine hfr0 n _ (sel_fresh evs 0 s0 (chkF_spec hfr i _ hev n hn) fun j ev hj hL => ?_)
        simp only [Nat.zero_add] at hL
        have hne' : j ≠ i := fun e => by rw [e, h1] at hL; cases hL
        by_cases hij : j < i
        · exact (chkP_spec hp j i ev _ hij hj hev).1 n hn
        · have := hind1 j ev hj (by omega) hL
          simp only [apart, Bool.and_eq_true, allN_iff] at this
          simpa using this.2 n hn
    have hnext : ∀ G' a' w', Rel X G' (apply (effO d a0 y b cs (sel (Lof listed) 0 evs s0)) evs[i].e) a' w' → wpAnyIn X.F 0 X.P .any ops (Nrm X K) fuel (listed.setIfInBounds i true) a' w' := by
      intro G' a' w' R'
      refine ih _ G' a' w' (by simpa using hsz) ?_ ?_ ?_ ?_ ?_
      · rw [Lof_set hil]
        intro j o' hL hoj e he hb
        simp only [Bool.or_eq_true, beq_iff_eq] at hL ⊢
        rcases hL with rfl | hL
        · rw [ho] at hoj; cases hoj
          exact .inr (hall' e he hb)
        · exact .inr (hcl j o' hL hoj e he hb)
      · intro j hj
        rw [Lof_set hil]
        show (j == i || Lof listed j) = false
        rw [htl j hj, Bool.or_false]
        simp; omega
      · rw [Lof_set hil]
        show (q == i || Lof listed q) = true
        rw [hLq, Bool.or_true]
      · have := left_set (n := m) hil him h1
        omega
      · rw [Lof_set hil]
        refine R'.congr fun l => ?_
        have hadd : get (sel (fun j => j == i || Lof listed j) 0 evs s0) l = get (apply (sel (Lof listed) 0 evs s0) evs[i].e) l := sel_add h1 evs 0 s0 (Nat.zero_le _) hev fun j ev hj hlt hL hw => by
          simp only [Nat.zero_add] at hlt hL
          have := hind1 j ev hj hlt hL
          simp only [apart, Bool.and_eq_true, disL_iff] at this
          exact this.1.2 l hw
        by_cases hl : l = .slot d ∨ l = .heap b ∨ ∃ b', a0 = some b' ∧ l = .heap b'
        · have hnw : l ∉ wrL evs[i].e := by
            intro hm
            have hfw := hfi.2 l hm
            rcases hl with rfl | rfl | ⟨b', -, rfl⟩
            · exact hfw rfl
            · exact hfw
            · exact hfw
          rw [get_apply_ne hnw]
          exact effO_eq (.inr hl)
        · have h3 := not_or.1 hl
          have h4 := not_or.1 h3.2
          have h5 : ∀ s : St, get (effO d a0 y b cs s) l = get s l := fun s => effO_ne h3.1 h4.1 fun b' hb' e => h4.2 ⟨b', hb', e⟩
          rw [h5, hadd, get_apply, get_apply, h5]
    have hgn : o.guard = none := hg i o him hiq ho
    have := hop G a w R _ (Nrm X K) hnext
    unfold wpOpIn
    simp only [ho]
    have hw : ∀ y, Region.wanted o y = true := fun y => by simp [Region.wanted, hgn]
    simp only [hw, if_true] at this ⊢
    exact this

/-- up to the free operation -/
theorem draw_F1 (hsz' : ops'.size = m) (hget : ∀ i, i < m → i ≠ q → ops'[i]? = ops[i]?) (haf : ∀ o o' : Oper, ops[q]? = some o → ops'[q]? = some o' → o'.after = o.after) (hqm : q < m) (hmn : m ≤ ops.size) (hrun : RunL X ops' ops'.toList s0 evs) (hg : ∀ i o, i < m → ops[i]? = some o → o.guard = none) (hchk : chkB ops'.toList s0 evs = true)
    (hback0 : backB 0 ops.toList = true) (hfix0 : fixB T0 T0 ops.toList = true) (htail : ∀ j, m ≤ j → j < ops.size → ∀ i, i < j → (T0.getD j 0).testBit i = true)
    (hfree : evFree d a0 q evs) (hqe : ∀ x, evs[q]? = some x → ∀ l ∈ wrL x.e, l = .slot d) {oq : Oper} (hoq : ops[q]? = some oq) {evq : Ev} (hevq : evs[q]? = some evq) {P : SV → Nat → List SV → Prop} (hstepq : FreeStep X oq (restr (sel (fun j => decide (j < 0 + q)) 0 evs s0) evq.fp) d a0 P)
    (hP : ∀ y b cs, P y b cs → newA b a0 s0 → (∀ n s, fresh n s = true → fresh n (effO d a0 y b cs s) = true) ∧ VL X ops (ops.toList.drop m) (effO d a0 y b cs (appAll s0 evs)) K) :
    ∀ (fuel : Nat) (listed : Array Bool) (G : Gh) (a : Act) (w : World), listed.size = ops.size → Closed ops (Lof listed) → (∀ j, m ≤ j → Lof listed j = false) → Lof listed q = false → (left m listed).length + (ops.size - m) ≤ fuel → Rel X G (sel (Lof listed) 0 evs s0) a w →
      wpAnyIn X.F 0 X.P .any ops (Nrm X K) fuel listed a w := by
  have hF2 := fun (y : SV) (b : Nat) (cs : List SV) (hp : P y b cs) (hn : newA b a0 s0) => draw_F2 (y := y) (b := b) (cs := cs) (K := K) hsz' hget haf hqm hmn hrun (fun i o h1 h2 h3 => hg i o h1 h3) hchk hback0 hfix0 htail hfree hqe hn (hP y b cs hp hn).1 (hP y b cs hp hn).2
  simp only [chkB, Bool.and_eq_true] at hchk
  obtain ⟨⟨⟨hback, hfix⟩, hfr⟩, hp⟩ := hchk
  generalize tabGo ops'.toList [] = T at *
  have hlen : evs.length = m := by have := RunL_length hrun; simp at this; omega
  have hw : ∀ (j : Nat) (x : Ev), evs[j]? = some x → ∀ l ∈ wrL x.e, ∀ h, l ≠ .heap h := by
    intro j x hj l hl h e
    by_cases hjq : j = q
    · subst hjq
      have := hqe x hj l hl
      rw [this] at e
      cases e
    · have := (evFree_at hfree j x hj hjq).2 l hl
      rw [e] at this
      exact this
  intro fuel
  induction fuel with
  | zero =>
    intro listed G a w hsz hcl htl hLq hle R
    have hm : q ∈ left m listed := by simp [left, hqm, hLq]
    have := List.length_pos_of_mem hm
    omega
  | succ fuel ih =>
    intro listed G a w hsz hcl htl hLq hle R
    have hall : ¬ ∀ j, j < m → Lof listed j = true := fun h => by have := h q hqm; rw [hLq] at this; cases this
    have hstuck : Region.ready .any ops listed = [] → ∀ j, j < m → Lof listed j = true := by
      intro hr j
      induction j using Nat.strongRecOn with
      | _ j ihj =>
        intro hj
        cases hq : Lof listed j with
        | true => rfl
        | false =>
          have hjo : j < ops.size := by omega
          have : j ∈ Region.ready .any ops listed := by
            rw [mem_ready]
            refine ⟨by rw [getD_tf (by omega)]; exact hq, ops[j], Array.getElem?_eq_getElem hjo, fun e he hb => ?_⟩
            have hlt := backB_spec hback0 j ops[j] (by simp [hjo]) e he hb
            exact ihj e.on (by omega) (by omega)
          rw [hr] at this
          cases this
    refine ⟨fun hr => absurd (hstuck hr) hall, fun i hi => ?_⟩
    obtain ⟨h1, o, ho, hall1⟩ := mem_ready.1 hi
    have hio : i < ops.size := (Array.getElem?_eq_some_iff.1 ho).1
    have hil : i < listed.size := by omega
    rw [getD_tf hil] at h1
    have hall' : ∀ e ∈ o.after, Region.binds .any e = true → Lof listed e.on = true := hall1
    have him : i < m := by
      rcases Nat.lt_or_ge i m with h | h
      · exact h
      · exact absurd (fun j hj => anc_spec hback0 hfix0 hcl i o ho hall' (htail i h hio j (by omega))) hall
    have hcl' : Closed ops' (Lof listed) := by
      intro j o' hL ho' e he hb
      have hj : j < m := by have := (Array.getElem?_eq_some_iff.1 ho').1; omega
      by_cases hjq : j = q
      · subst hjq
        rw [hLq] at hL; cases hL
      · exact hcl j o' hL (by rw [← hget j hj hjq]; exact ho') e he hb
    have hclu : Closed ops (Lof (listed.setIfInBounds i true)) := by
      rw [Lof_set hil]
      intro j o' hL hoj e he hb
      simp only [Bool.or_eq_true, beq_iff_eq] at hL ⊢
      rcases hL with rfl | hL
      · rw [ho] at hoj; cases hoj
        exact .inr (hall' e he hb)
      · exact .inr (hcl j o' hL hoj e he hb)
    have htlu : ∀ j, m ≤ j → Lof (listed.setIfInBounds i true) j = false := by
      intro j hj
      rw [Lof_set hil]
      show (j == i || Lof listed j) = false
      rw [htl j hj, Bool.or_false]
      simp; omega
    have hie : i < evs.length := by omega
    obtain ⟨o', ho', hae⟩ : ∃ o', ops'[i]? = some o' ∧ o'.after = o.after := by
      by_cases hiq : i = q
      · subst hiq
        have h2 : ops'[i]? = some ops'[i] := Array.getElem?_eq_getElem (by omega)
        exact ⟨_, h2, haf _ _ ho h2⟩
      · exact ⟨o, by rw [hget i him hiq]; exact ho, rfl⟩
    have hind1 : ∀ (j : Nat) (ev : Ev), evs[j]? = some ev → i < j → Lof listed j = true → apart evs[i] ev = true := by
      intro j ev hj hij hL
      have hjm : j < m := by rw [← hlen]; exact (List.getElem?_eq_some_iff.1 hj).1
      have hjo : j < ops'.size := by omega
      rcases (chkP_spec hp i j _ ev hij (List.getElem?_eq_getElem hie) hj).2 with h | h
      · have := anc_spec hback hfix hcl' j ops'[j] (Array.getElem?_eq_getElem hjo) (fun e he hb => hcl' j _ hL (Array.getElem?_eq_getElem hjo) e he hb) (by simpa using h)
        rw [h1] at this; cases this
      · exact h
    have hind2 : ∀ (j : Nat) (ev : Ev), evs[j]? = some ev → j < i → Lof listed j = false → apart ev evs[i] = true := by
      intro j ev hj hij hL
      rcases (chkP_spec hp j i ev _ hij hj (List.getElem?_eq_getElem hie)).2 with h | h
      · have := anc_spec hback hfix hcl' i o' ho' (by rw [hae]; exact hall') (by simpa using h)
        rw [hL] at this; cases this
      · exact h
    have hfpk : ∀ l v, get (restr (sel (fun j => decide (j < 0 + i)) 0 evs s0) evs[i].fp) l = some v → get (sel (Lof listed) 0 evs s0) l = some v := by
      intro l v hl
      obtain ⟨hfp, hg⟩ := get_restr hl
      rw [← hg]
      refine sel_diff evs 0 _ _ rfl fun j ev hj hne hw => ?_
      simp only [Nat.zero_add] at hne
      by_cases hij : j < i
      · cases hq : Lof listed j with
        | true => rw [hq] at hne; simp [hij] at hne
        | false =>
          have := hind2 j ev hj hij hq
          simp only [apart, Bool.and_eq_true, disL_iff] at this
          exact this.1.1.1 l hw hfp
      · cases hq : Lof listed j with
        | false => rw [hq] at hne; simp [hij] at hne
        | true =>
          have hne' : j ≠ i := fun e => by rw [e, h1] at hq; cases hq
          have := hind1 j ev hj (by omega) hq
          simp only [apart, Bool.and_eq_true, disL_iff] at this
          exact this.1.1.2 l hw hfp
    have hadd : ∀ l, get (sel (fun j => j == i || Lof listed j) 0 evs s0) l = get (apply (sel (Lof listed) 0 evs s0) evs[i].e) l := fun l => sel_add h1 evs 0 s0 (Nat.zero_le _) (List.getElem?_eq_getElem hie) fun j ev hj hlt hL hw => by
      simp only [Nat.zero_add] at hlt hL
      have := hind1 j ev hj hlt hL
      simp only [apart, Bool.and_eq_true, disL_iff] at this
      exact this.1.2 l hw
    have hgn : o.guard = none := hg i o him ho
    have hwt : ∀ y, Region.wanted o y = true := fun y => by simp [Region.wanted, hgn]
    have hlft := left_set (n := m) hil him h1
    unfold wpOpIn
    simp only [ho, hwt, if_true]
    by_cases hiq : i = q
    · subst hiq
      rw [ho] at hoq
      cases hoq
      rw [List.getElem?_eq_getElem hie] at hevq
      cases hevq
      refine hstepq _ hfpk G a w R _ (Nrm X K) fun y b cs hpb hn G' a' w' R' => ?_
      have hn0 : newA b a0 s0 := fun h hne hg => hn h hne (by rw [heaps_sel hw]; exact hg)
      refine hF2 y b cs hpb hn0 fuel _ G' a' w' (by simpa using hsz) hclu htlu (by rw [Lof_set hil]; simp) (by omega) ?_
      rw [Lof_set hil]
      refine R'.congr fun l => effO_eq ?_
      rw [hadd]
      by_cases hl : l ∈ wrL evs[i].e
      · exact .inr (.inl (hqe _ (List.getElem?_eq_getElem hie) l hl))
      · exact .inl (get_apply_ne hl)
    · have ho2 : ops'[i]? = some o := by rw [hget i him hiq]; exact ho
      have hstep := RunL_at 0 hrun i o evs[i] (by simpa using ho2) (List.getElem?_eq_getElem hie)
      have hop : OpOK X ops' o (sel (Lof listed) 0 evs s0) (apply (sel (Lof listed) 0 evs s0) evs[i].e) := by
        refine hstep _ hfpk (fun n hn => ?_)
        refine sel_fresh evs 0 s0 (chkF_spec hfr i _ (List.getElem?_eq_getElem hie) n hn) fun j ev hj hL => ?_
        simp only [Nat.zero_add] at hL
        have hne' : j ≠ i := fun e => by rw [e, h1] at hL; cases hL
        by_cases hij : j < i
        · exact (chkP_spec hp j i ev _ hij hj (List.getElem?_eq_getElem hie)).1 n hn
        · have := hind1 j ev hj (by omega) hL
          simp only [apart, Bool.and_eq_true, allN_iff] at this
          simpa using this.2 n hn
      have hnext : ∀ G' a' w', Rel X G' (apply (sel (Lof listed) 0 evs s0) evs[i].e) a' w' → wpAnyIn X.F 0 X.P .any ops (Nrm X K) fuel (listed.setIfInBounds i true) a' w' := by
        intro G' a' w' R'
        refine ih _ G' a' w' (by simpa using hsz) hclu htlu ?_ (by omega) ?_
        · rw [Lof_set hil]
          show (q == i || Lof listed q) = false
          rw [hLq, Bool.or_false]
          simpa using fun e => hiq e.symm
        · rw [Lof_set hil]
          exact R'.congr hadd
      have := hop G a w R _ (Nrm X K) hnext
      simp only [hwt, if_true] at this
      exact this
end

/-- what stands for the free operation while the others are told -/
def dumOp (d : Nat) (o : Oper) : Oper := ⟨some d, .assign (.const (.bool false)), o.type, o.pos, o.after, none⟩
def dumE (d : Nat) : Eff := [(.slot d, some (.one (.v (.prim (.bool false)))))]
def vcdF (X : Ctx) (esc : List Nat) (ops : Array Oper) (s0 : St) (oq : Oper) (d : Nat) (a0 : Option Nat) (P : SV → Nat → List SV → Prop) (K : St → List Ev → Prop) : List (Option Oper) → St → List Ev → Prop
  | [], s, ev => chkB ops.toList s0 ev.reverse = true ∧ K s ev.reverse
  | some o :: l, s, ev => o.guard = none ∧ vcdA X esc ops s0 [] (fun _ => False) (vcdF X esc ops s0 oq d a0 P K l) o ev s (fpOf X (get s) o.op)
  | none :: l, s, ev => ∃ fp, FreeStep X oq (restr s fp) d a0 P ∧ vcdF X esc ops s0 oq d a0 P K l (upd s (.slot d) (.one (.v (.prim (.bool false))))) (⟨fp, dumE d, []⟩ :: ev)
theorem vcdF_nil {esc : List Nat} {ops : Array Oper} {oq : Oper} {d : Nat} {a0 : Option Nat} {P : SV → Nat → List SV → Prop} {K : St → List Ev → Prop} {ev : List Ev} : vcdF X esc ops s0 oq d a0 P K [] s ev = (chkB ops.toList s0 ev.reverse = true ∧ K s ev.reverse) := by rw [vcdF]
theorem vcdF_op {esc : List Nat} {ops : Array Oper} {oq : Oper} {d0 : Nat} {a0 : Option Nat} {P : SV → Nat → List SV → Prop} {K : St → List Ev → Prop} {ev : List Ev} {l : List (Option Oper)} (d : Option Tmp) (op : Op) (ty : TypeId) (pos : String) (af : Array Edge) :
    vcdF X esc ops s0 oq d0 a0 P K (some ⟨d, op, ty, pos, af, none⟩ :: l) s ev = vcdA X esc ops s0 [] (fun _ => False) (vcdF X esc ops s0 oq d0 a0 P K l) ⟨d, op, ty, pos, af, none⟩ ev s (fpOf X (get s) op) := by rw [vcdF]; simp
attribute [go_sem] vcdF_nil vcdF_op
theorem vcdF_free {esc : List Nat} {ops : Array Oper} {oq : Oper} {d : Nat} {a0 : Option Nat} {P : SV → Nat → List SV → Prop} {K : St → List Ev → Prop} {ev : List Ev} {l : List (Option Oper)} (fp : List Loc) (h1 : FreeStep X oq (restr s fp) d a0 P)
    (h2 : vcdF X esc ops s0 oq d a0 P K l (upd s (.slot d) (.one (.v (.prim (.bool false))))) (⟨fp, dumE d, []⟩ :: ev)) : vcdF X esc ops s0 oq d a0 P K (none :: l) s ev := by rw [vcdF]; exact ⟨fp, h1, h2⟩
theorem dum_step {ops : Array Oper} {d : Nat} (hd : d < X.n) (o : Oper) (s1 : St) : LocStep X ops (dumOp d o) s1 (dumE d) [] := fun s hs _ => opOK_of (.inl rfl) (step_pval (o := dumOp d o) (c := True) (y := .v (.prim (.bool false))) rfl trivial rfl hd)
theorem vcdF_sound {esc : List Nat} {ops : Array Oper} {oq : Oper} {d : Nat} {a0 : Option Nat} {P : SV → Nat → List SV → Prop} {K : St → List Ev → Prop} (hd : d < X.n) : ∀ {l : List (Option Oper)} {s : St} {ev : List Ev}, vcdF X esc ops s0 oq d a0 P K l s ev →
    ∃ evs, RunL X ops (l.map fun o => o.getD (dumOp d oq)) s evs ∧ chkB ops.toList s0 (ev.reverse ++ evs) = true ∧ K (appAll s evs) (ev.reverse ++ evs) ∧
      ∀ (q : Nat) (x : Ev) (k : Nat), l[q]? = some none → evs[q]? = some x → x.e = dumE d ∧ FreeStep X oq (restr (sel (fun j => decide (j < k + q)) k evs s) x.fp) d a0 P
  | [], s, ev, h => ⟨[], trivial, by rw [List.append_nil]; exact h.1, by rw [List.append_nil]; exact h.2, fun q x k h => by simp at h⟩
  | some o :: l, s, ev, h => by
    unfold vcdF vcdA vcdB vcdC at h
    obtain ⟨hg, h⟩ := h
    split at h
    · rename_i c s1' hs
      obtain ⟨evs, h1, h2, h3, h4⟩ := vcdF_sound hd h.2
      refine ⟨⟨fpOf X (get s) o.op, effOf s1' (wrOp X (get (restr s (fpOf X (get s) o.op))) o.dst o.op), nmOf o.dst o.op⟩ :: evs, ⟨locStep_of hs h.1 (.inl hg), h1⟩, ?_, ?_, ?_⟩
      · simpa using h2
      · simpa [appAll] using h3
      · intro q x k hq hx
        cases q with
        | zero => simp at hq
        | succ q =>
          have := h4 q x (k + 1) (by simpa using hq) (by simpa using hx)
          refine ⟨this.1, ?_⟩
          simp only [sel]
          rw [if_pos (decide_eq_true (by omega)), show k + (q + 1) = k + 1 + q from by omega]
          exact this.2
    · obtain ⟨evs, -, -, h⟩ := h
      exact h.elim
  | none :: l, s, ev, h => by
    rw [vcdF] at h
    obtain ⟨fp, hf, h⟩ := h
    obtain ⟨evs, h1, h2, h3, h4⟩ := vcdF_sound hd h
    refine ⟨⟨fp, dumE d, []⟩ :: evs, ⟨dum_step hd oq _, h1⟩, ?_, ?_, ?_⟩
    · simpa using h2
    · have e : apply s (dumE d) = upd s (.slot d) (.one (.v (.prim (.bool false)))) := rfl
      simpa [appAll, e] using h3
    · intro q x k hq hx
      cases q with
      | zero =>
        simp at hx
        subst hx
        refine ⟨rfl, ?_⟩
        rw [sel_none _ _ _ fun j hj => decide_eq_false (by omega)]
        exact hf
      | succ q =>
        have := h4 q x (k + 1) (by simpa using hq) (by simpa using hx)
        refine ⟨this.1, ?_⟩
        simp only [sel]
        rw [if_pos (decide_eq_true (by omega)), show k + (q + 1) = k + 1 + q from by omega]
        exact this.2

def markO (q : Nat) : List Oper → List (Option Oper)
  | [] => []
  | o :: r => match q with
    | 0 => none :: r.map some
    | q + 1 => some o :: markO q r
theorem markO_spec (d : Nat) (oq : Oper) : ∀ (q : Nat) (l : List Oper), l[q]? = some oq → (markO q l)[q]? = some none ∧ ((markO q l).map fun o => o.getD (dumOp d oq)) = l.set q (dumOp d oq)
  | _, [], h => by simp at h
  | 0, o :: r, h => by simp [markO, Function.comp_def]
  | q + 1, o :: r, h => by
    have := markO_spec d oq q r (by simpa using h)
    simp [markO, this.1, this.2]

/-- A DRAWN REGION, ONE OF WHOSE OPERATIONS (q) HAS SEVERAL OUTCOMES; from place m on each operation waits for all others -/
theorem W_regF {id : Nat} {ops : Array Oper} {s : St} (hm : X.P.follows .mixedOrders = true) (m q : Nat) (oq : Oper) (hmn : m ≤ ops.size) (hqm : q < m) (hoq : ops[q]? = some oq) (hfull : tailOK ops.toList m = true) {d : Nat} (hd : d < X.n) (a0 : Option Nat) (P : SV → Nat → List SV → Prop)
    (hfr : ∀ y b cs, P y b cs → ∀ n s, fresh n s = true → fresh n (effO d a0 y b cs s) = true) (esc : List Nat)
    (h : ∀ K : St → Prop, (∀ s', W X k s' → K s') → vcdF X esc ((ops.toList.take m).set q (dumOp d oq)).toArray s oq d a0 P (fun s' evs => evFree d a0 q evs ∧ ∀ y b cs, P y b cs → newA b a0 s → VL X ops (ops.toList.drop m) (effO d a0 y b cs s') K) (markO q (ops.toList.take m)) s []) : W X (.code (.region id ops true) :: k) s := by
  intro G a w b cs hf hk hr R
  simp only [tailOK, Bool.and_eq_true, List.all_eq_true] at hfull
  obtain ⟨⟨⟨t1, t2⟩, t3⟩, t4⟩ := hfull
  obtain ⟨evs, h1, h2, ⟨h3, h5⟩, h4⟩ := vcdF_sound hd (h (fun s' => W X k s') (fun _ h => h))
  have htq : (ops.toList.take m)[q]? = some oq := by rw [List.getElem?_take_of_lt hqm]; simpa using hoq
  obtain ⟨m1, m2⟩ := markO_spec d oq q _ htq
  rw [m2] at h1
  rw [List.reverse_nil, List.nil_append] at h2 h3
  have hlen : evs.length = m := by
    have := RunL_length h1
    simp at this
    omega
  have hqe : evs[q]? = some (evs[q]'(by omega)) := List.getElem?_eq_getElem (by omega)
  obtain ⟨k1, k2⟩ := h4 q _ 0 m1 hqe
  have hany := draw_F1 (ops := ops) (ops' := ((ops.toList.take m).set q (dumOp d oq)).toArray) (s0 := s) (K := fun s' => W X k s') (m := m) (q := q) (T0 := tabGo ops.toList []) (evs := evs) (d := d) (a0 := a0) (by simp; omega)
    (fun i hi hne => by simp [List.getElem?_set, hne.symm, List.getElem?_take_of_lt hi])
    (fun o o' ho ho' => by
      rw [hoq] at ho; cases ho
      have hlt : q < (ops.toList.take m).length := by simp; omega
      simp only [List.getElem?_toArray, List.getElem?_set_self hlt, Option.some.injEq] at ho'
      rw [← ho']; rfl)
    hqm hmn h1
    (fun i o hi ho => by
      have := t4 o (by
        apply List.mem_of_getElem? (i := i)
        rw [List.getElem?_take_of_lt hi]; simpa using ho)
      cases hq : o.guard with
      | none => rfl
      | some _ => rw [hq] at this; cases this)
    h2 t1 t2 (tailB_spec (by simpa using t3)) h3 (fun x hx l hl => by
      rw [hqe] at hx; cases hx
      rw [k1] at hl
      simpa [dumE, wrL] using hl) hoq hqe k2 (fun y b cs hp hn => ⟨hfr y b cs hp, h5 y b cs hp hn⟩) ops.size (Array.replicate ops.size false) G a { w with drawn := w.drawn + 1 } (by simp) (fun j o hL => by simp [Lof, Array.getElem?_replicate] at hL; split at hL <;> simp at hL) (fun j _ => by simp only [Lof, Array.getD_eq_getD_getElem?, Array.getElem?_replicate]; split <;> rfl)
    (by simp only [Lof, Array.getD_eq_getD_getElem?, Array.getElem?_replicate]; split <;> rfl) (by
      have : (left m (Array.replicate ops.size false)).length ≤ m := Nat.le_trans (List.length_filter_le _ _) (by simp)
      omega) (by
      rw [sel_none _ _ _ (fun j _ => by simp only [Lof, Array.getD_eq_getD_getElem?, Array.getElem?_replicate]; split <;> rfl)]
      exact R.drawn _)
  obtain ⟨e', a', w', ⟨rfl, G', s', hK, R'⟩, harr⟩ := wpIn_region_any (F := X.F) (n := 0) hm hany b k cs hr trivial (roomF _)
  obtain ⟨w'', fr, q1, q2⟩ := hK G' a' w' b cs hf hk hr R'
  exact ⟨w'', fr, q1, Steps.trans (StepsIn.steps harr) q2⟩
end
end Go.Proofs.YtmdjiajbnifjpaaDoor.Lift

/-
  Part Z of the small logic: appends to slices that are raw or nil, told in one way; pieces of raw slices copied into data; maps from numbers.
-/
namespace Go.Proofs.YtmdjiajbnifjpaaDoor.Lift
set_option linter.unusedSimpArgs false
set_option linter.unusedVariables false
set_option linter.unnecessarySimpa false
open Go
section
variable {X : Ctx} {s s0 : St} {k : List Item}

/-! nil, told as a raw slice -/
def nlzSV : SV → SV
  | .own 0 [] => .v (.prim (.slice none 0 0))
  | x => x
def nlzRow : List SV → List SV
  | [] => []
  | x :: r => nlzSV x :: nlzRow r
def nlzLV : LV → LV
  | .one x => .one (nlzSV x)
  | .row cs => .row (nlzRow cs)
  | .tk E n => .tk E n
  | .ob r => .ob r
  | .mp l => .mp l
def nlz : St → St
  | [] => []
  | (l, v) :: r => (l, nlzLV v) :: nlz r
theorem get_nlz (s : St) (l : Loc) : get (nlz s) l = (get s l).map nlzLV := by
  induction s with
  | nil => rfl
  | cons p r ih =>
    obtain ⟨m, v⟩ := p
    simp only [nlz, get]
    split
    · rfl
    · exact ih
theorem nlzRow_get (cs : List SV) : (nlzRow cs).length = cs.length ∧ ∀ i : Nat, (nlzRow cs)[i]? = cs[i]?.map nlzSV := by
  induction cs with
  | nil => simp [nlzRow]
  | cons x r ih =>
    refine ⟨by simp [nlzRow, ih.1], fun i => ?_⟩
    cases i with
    | zero => simp [nlzRow]
    | succ i => simp [nlzRow, ih.2]
theorem nlzSV_sound {G : Gh} {w : World} (h0 : G.τ 0 = (none, 0)) {x : SV} {v : Value} (h : RSV G w x v) : RSV G w (nlzSV x) v := by
  unfold nlzSV
  split
  · obtain ⟨h1, -⟩ := h
    rw [h0] at h1
    rw [h1]
    exact .prim _ ⟨rfl, rfl⟩
  · exact h
theorem nlzSV_cell {x : SV} (h : x.isCell = true) : (nlzSV x).isCell = true := by
  unfold nlzSV
  split
  · rfl
  · exact h
theorem Rel.nlz {G : Gh} {a : Act} {w : World} (R : Rel X G s a w) : Rel X G (nlz s) a w := by
  have hblk : ∀ l v, blkOf G l (nlzLV v) = blkOf G l v := by
    intro l v
    cases v <;> cases l <;> rfl
  have hget : ∀ l v, get (Lift.nlz s) l = some v → ∃ v0, get s l = some v0 ∧ v = nlzLV v0 := by
    intro l v h
    rw [get_nlz] at h
    obtain ⟨v0, h1, h2⟩ := Option.map_eq_some_iff.1 h
    exact ⟨v0, h1, h2.symm⟩
  have hrow : ∀ k cs, BlkAt G w k cs → BlkAt G w k (nlzRow cs) := by
    rintro k cs ⟨c, e, h1, h2, h3⟩
    obtain ⟨f1, f2⟩ := nlzRow_get cs
    refine ⟨c, e, h1, by omega, fun i x hx => ?_⟩
    rw [f2] at hx
    obtain ⟨x0, h4, rfl⟩ := Option.map_eq_some_iff.1 hx
    obtain ⟨k1, v, k2, k3⟩ := h3 i x0 h4
    exact ⟨nlzSV_cell k1, v, k2, nlzSV_sound R.nil k3⟩
  refine ⟨R.size, R.defers, R.ext, R.wf, R.nil, fun l v hg => ?_, fun l v l' v' b' hg hg' hb hb' => ?_, fun l v b' hg hb => ?_, fun l v b' o hg hb ht => ?_⟩
  · obtain ⟨v0, h1, rfl⟩ := hget l v hg
    have hh := R.holds l v0 h1
    cases l <;> cases v0 <;> first | exact hh.elim | exact nlzSV_sound R.nil hh | exact hrow _ _ hh | exact hh
  · obtain ⟨v0, h1, rfl⟩ := hget l v hg
    obtain ⟨v1, h2, rfl⟩ := hget l' v' hg'
    rw [hblk] at hb hb'
    exact R.sep l v0 l' v1 b' h1 h2 hb hb'
  · obtain ⟨v0, h1, rfl⟩ := hget l v hg
    rw [hblk] at hb
    exact R.own l v0 b' h1 hb
  · obtain ⟨v0, h1, rfl⟩ := hget l v hg
    rw [hblk] at hb
    exact R.data l v0 b' o h1 hb ht
theorem W_nilraw {kk : List Item} (h : W X kk (nlz s)) : W X kk s := fun G a w b cs hf hk hr R => h G a w b cs hf hk hr R.nlz
/-! a slice that may be nil, raw -/
abbrev rawQ (q : Option Nat) (n cap : Nat) : DV := .prim (.slice (q.map fun b => ⟨b, 0, none⟩) n cap)

/-- what append makes of it -/
def AppP (X : Ctx) (q : Option Nat) (E n : Nat) (old zs : List (List DV)) : SV → Nat → List SV → Prop := fun y b cs =>
  ∃ cap full, y = .v (rawS b (n + zs.length) cap) ∧ cs = arrRow full ∧ full.length = cap ∧ (∀ e ∈ full, e.length = E) ∧ n + zs.length ≤ cap ∧ full.take (n + zs.length) = old.take n ++ zs ∧ (q = some b ∨ (X.w0.heap.size ≤ b ∧ ∀ b', q = some b' → b ≠ b'))

/-- append to a new block -/
theorem step_appendQ {o : Oper} {x y : Operand} {T T2 : TypeId} (ho : o.op = .call { callee := .builtin .append, args := #[x, y], argTypes := #[T, T2] }) {d : Nat} (hd : o.dst = some d) (hn : d < X.n)
    {E B : Nat} (he : elemZ X.P T = some (E, B)) (hB : 0 < B ∧ B ≤ 1024) (h2 : (elemT X.P T2).isSome = true) {q : Option Nat} {n cap : Nat} {full zs : List (List DV)} {zd : List DV} (hx : evl X (get s) x = some (.v (rawQ q n cap))) (hy : (evl X (get s) y).bind slOf = some zs)
    (hrow : ∀ b, q = some b → get s (.heap b) = some (.row (arrRow full))) (hq0 : q = none → n = 0) (hfl : full.length = cap) (hnc : n ≤ cap) (hnf : cap < n + zs.length) (hbig : n + zs.length ≤ BIG) (hE1 : ∀ e ∈ full, e.length = E) (hE2 : ∀ e ∈ zs, e.length = E) (hz : zeroE X.P T = some zd) (hzc : cellB zd = true)
    {G : Gh} {a : Act} {w : World} (R : Rel X G s a w) (next : Act → World → Prop) (Q : Exit → Act → World → Prop)
    (hK : ∀ b' cap', n + zs.length ≤ cap' → newB b' s → X.w0.heap.size ≤ b' → zd.length = E → ∀ G' a' w', Rel X G' (upd (upd s (.slot d) (.one (.v (rawS b' (n + zs.length) cap')))) (.heap b') (.row (arrRow (full.take n ++ zs ++ List.replicate (cap' - (n + zs.length)) zd)))) a' w' → next a' w') :
    o.wpIn X.F 0 X.P a w next Q := by
  have hv := (prim_of (evl_sound R hx)).1
  obtain ⟨qq, hqq, hq'⟩ := Option.bind_eq_some_iff.1 hy
  obtain ⟨yb, ycap, hyv, hyr, -⟩ := slOf_sound hq' (evl_sound R hqq)
  obtain ⟨c2, g, g1, g2, g3⟩ := sl_laid hyr hE2
  have hnE : n * E ≤ full.length * E := Nat.mul_le_mul_right _ (by omega)
  have hdr : ∀ w' : World, w'.heap = w.heap → (Builtin.firstCells E zs.length (a.eval y)).run X.P w' = .ok (arr g (zs.length * E)) w' := fun w' hw => by
    refine run_firstCells (D := G.D) ?_
    rcases g3 with h | ⟨b, o', cap, h, hc⟩
    · exact .inl h
    · exact .inr ⟨b, o', cap, h, fun k hk => by rw [cell_of_heap hw]; exact hc k hk⟩
  obtain ⟨g0, hdo, hold⟩ : ∃ g0 : Nat → Value, (∀ w' : World, w'.heap = w.heap → (Builtin.firstCells E n (.slice (q.map fun b => ⟨b, 0, none⟩) n cap)).run X.P w' = .ok (arr g0 (n * E)) w') ∧
      ∀ i j e dd, i < n → full[i]? = some e → e[j]? = some dd → dd.isCell = true ∧ RV G.D w dd (g0 (i * E + j)) := by
    cases q with
    | none =>
      have h0 := hq0 rfl
      subst h0
      refine ⟨fun _ => undef, fun w' _ => ?_, fun i j e dd hi => absurd hi (Nat.not_lt_zero _)⟩
      simp [Builtin.firstCells, arr]
    | some b =>
      obtain ⟨c0, e0, k1, k2, k3⟩ : BlkAt G w b (arrRow full) := R.holds _ _ (hrow b rfl)
      rw [arrRow_len hE1] at k2
      refine ⟨fun k => (c0[k]?).getD undef, fun w' hw => ?_, fun i j e dd hi h1 h2 => ?_⟩
      · simp only [Builtin.firstCells, Option.map_some]
        refine run_loadCells_f b 0 (n * E) _ (fun k hk => ?_)
        have hlt : k < c0.size := by omega
        rw [cell_of_heap hw, Nat.zero_add]
        simp [World.cell?, k1, hlt]
      · obtain ⟨q0, v, q1, q2⟩ := k3 (i * E + j) (.v dd) (by simp only [arrRow, List.getElem?_map, flatten_at hE1 h1 h2, Option.map_some])
        exact ⟨q0, by show RV G.D w dd ((c0[i * E + j]?).getD undef); rw [q1]; exact q2⟩
  obtain ⟨hzl, c, e, nc, r1, r2, r3, r4, r5, r6⟩ := run_append_newZ (P := X.P) (t := T) (ty := o.type) (t2 := T2) (w := w) he hB h2 (base := q.map fun b => ⟨b, 0, none⟩) (len := n) (cap := cap) (fun w' _ => lenOf_sl (P := X.P) hyr w') hdr hdo (by omega) hbig (arr_size _ _) (arr_size _ _) hz
  rw [← hv] at r1
  have hexec : (execOp a.eval o).run X.P w = .ok (.value (.slice (some ⟨w.heap.size, 0, none⟩) (n + zs.length) nc)) (w.drew.alloc (.cells c e)) := by
    simp [execOp, ho, resolve, invoke, builtin, r1]
  refine opIn (by intro c e; rw [ho] at e; cases e) ?_
  rw [hexec, upn_value, hd]
  have hp := put_tmps a (some d) (.slice (some ⟨w.heap.size, 0, none⟩) (n + zs.length) nc)
  have T' : Trans X G a w G (a.put (some d) (.slice (some ⟨w.heap.size, 0, none⟩) (n + zs.length) nc)) (w.drew.alloc (.cells c e)) (fun _ => False) := by
    refine ⟨hp.1, fun h => (h.heap fun b hb => alloc_old w.drew _ b hb).put hp.2, rfl, rfl, rfl, by simp, fun b hb _ => alloc_old w.drew _ b hb, fun _ h => h.elim, fun b k hD => ⟨hD, World.cell?_alloc_lt w.drew _ _ (R.wf.lt hD)⟩, fun b k hD hnD => absurd hD hnD, R.nil⟩
  refine hK w.heap.size nc r2 (newB_size R) R.ext.size hzl G _ _ (R.newArr hn (w1 := w.drew) rfl T' (E := E) ?_ ?_ ?_ ?_)
  · intro e he
    rcases List.mem_append.1 he with he | he
    · rcases List.mem_append.1 he with he | he
      · exact hE1 e (List.mem_of_mem_take he)
      · exact hE2 e he
    · rw [(List.mem_replicate.1 he).2]; exact hzl
  · intro e he d hd
    rcases List.mem_append.1 he with he | he
    · rcases List.mem_append.1 he with he | he
      · obtain ⟨i, hi⟩ := List.mem_iff_getElem?.1 he
        obtain ⟨j, hj⟩ := List.mem_iff_getElem?.1 hd
        have hin : i < n := by
          have := (List.getElem?_eq_some_iff.1 hi).1
          rw [List.length_take] at this; omega
        rw [List.getElem?_take_of_lt hin] at hi
        exact (hold i j e d hin hi hj).1
      · exact c2 e he d hd
    · rw [(List.mem_replicate.1 he).2] at hd
      exact (cellB_iff zd).1 hzc d hd
  · rw [r3]
    simp only [List.length_append, List.length_take, List.length_replicate]
    exact Nat.mul_le_mul_right _ (by omega)
  · intro i j e dd hi hj
    have hl1 : (full.take n).length = n := by rw [List.length_take, Nat.min_eq_left (by omega)]
    rw [List.append_assoc] at hi
    rcases Nat.lt_or_ge i n with h | h
    · rw [List.getElem?_append_left (by omega), List.getElem?_take_of_lt h] at hi
      have hjE : j < E := by rw [← hE1 e (List.mem_of_getElem? hi)]; exact (List.getElem?_eq_some_iff.1 hj).1
      have hlt := lt_mul h hjE
      refine ⟨_, ?_, (hold i j e dd h hi hj).2⟩
      rw [r4 _ hlt, arr_get _ _ _ hlt]
    · rw [List.getElem?_append_right (by omega), hl1] at hi
      rcases Nat.lt_or_ge (i - n) zs.length with h' | h'
      · rw [List.getElem?_append_left h'] at hi
        have hjE : j < E := by rw [← hE2 e (List.mem_of_getElem? hi)]; exact (List.getElem?_eq_some_iff.1 hj).1
        have hlt := lt_mul h' hjE
        refine ⟨_, ?_, g1 _ _ _ _ hi hj⟩
        have e1 : i * E + j = n * E + ((i - n) * E + j) := by rw [← Nat.add_assoc, ← Nat.add_mul]; congr 2; omega
        rw [e1, r5 _ hlt, arr_get _ _ _ hlt]
      · rw [List.getElem?_append_right h'] at hi
        obtain ⟨hi1, hi2⟩ : e = zd ∧ i - n - zs.length < nc - (n + zs.length) := by
          have hm := List.mem_of_getElem? hi
          have hlt := (List.getElem?_eq_some_iff.1 hi).1
          simp only [List.length_replicate] at hlt
          exact ⟨(List.mem_replicate.1 hm).2, hlt⟩
        subst hi1
        obtain ⟨v, q1, q2⟩ := r6 G w R.nil (i - n - zs.length) j dd hi2 hj
        refine ⟨v, ?_, q2⟩
        rw [show n + zs.length + (i - n - zs.length) = i from by omega] at q1
        exact q1

theorem newB_ne {b : Nat} : ∀ {s : St}, newB b s → ∀ h v, get s (.heap h) = some v → h ≠ b
  | [], _, h, v, hg => by cases hg
  | (.heap b', u) :: r, hn, h, v, hg => by
    simp only [get] at hg
    split at hg
    · rename_i e
      cases e
      exact hn.1
    · exact newB_ne hn.2 h v hg
  | (.slot n, u) :: r, hn, h, v, hg => by
    simp only [get] at hg
    rw [if_neg (by intro e; cases e)] at hg
    exact newB_ne (s := r) hn h v hg
  | (.loc n, u) :: r, hn, h, v, hg => by
    simp only [get] at hg
    rw [if_neg (by intro e; cases e)] at hg
    exact newB_ne (s := r) hn h v hg
  | (.tok n, u) :: r, hn, h, v, hg => by
    simp only [get] at hg
    rw [if_neg (by intro e; cases e)] at hg
    exact newB_ne (s := r) hn h v hg

/-- APPEND TO A SLICE THAT IS RAW OR NIL -/
theorem free_append {o : Oper} {x y : Operand} {T T2 : TypeId} (ho : o.op = .call { callee := .builtin .append, args := #[x, y], argTypes := #[T, T2] }) {d : Nat} (hd : o.dst = some d) (hn : d < X.n)
    {E B : Nat} (he : elemZ X.P T = some (E, B)) (hB : 0 < B ∧ B ≤ 1024) (h2 : (elemT X.P T2).isSome = true) {q : Option Nat} {n cap : Nat} {full zs : List (List DV)} {zd : List DV} (hx : evl X (get s) x = some (.v (rawQ q n cap))) (hy : (evl X (get s) y).bind slOf = some zs)
    (hrow : ∀ b, q = some b → get s (.heap b) = some (.row (arrRow full))) (hq0 : q = none → n = 0 ∧ cap = 0) (hfl : full.length = cap) (hnc : n ≤ cap) (hpos : 0 < zs.length) (hbig : n + zs.length ≤ BIG) (hE1 : ∀ e ∈ full, e.length = E) (hE2 : ∀ e ∈ zs, e.length = E) (hz : zeroE X.P T = some zd) (hzc : cellB zd = true) :
    FreeStep X o s d q (AppP X q E n full zs) := by
  intro s' hs G a w R next Q hK
  have hx' := evl_mono hs hx
  have hy' := bind_mono hs hy
  have hrow' : ∀ b, q = some b → get s' (.heap b) = some (.row (arrRow full)) := fun b hb => hs _ _ (hrow b hb)
  rcases Nat.lt_or_ge cap (n + zs.length) with h | h
  · refine step_appendQ ho hd hn he hB h2 hx' hy' hrow' (fun hq => (hq0 hq).1) hfl hnc h hbig hE1 hE2 hz hzc R next Q fun b' cap' hc hb hw hzl G' a' w' R' => ?_
    have hl : (full.take n).length = n := by rw [List.length_take]; omega
    have hnb : newB b' s' := hb
    refine hK _ b' _ ⟨cap', full.take n ++ zs ++ List.replicate (cap' - (n + zs.length)) zd, rfl, rfl, ?_, ?_, hc, ?_, .inr ⟨hw, fun b'' hq => (newB_ne hnb b'' _ (hrow' b'' hq)).symm⟩⟩ ?_ G' a' w' ?_
    · simp only [List.length_append, List.length_replicate, hl]; omega
    · intro e he
      rcases List.mem_append.1 he with he | he
      · rcases List.mem_append.1 he with he | he
        · exact hE1 e (List.mem_of_mem_take he)
        · exact hE2 e he
      · rw [(List.mem_replicate.1 he).2]; exact hzl
    · rw [List.take_append_of_le_length (by rw [List.length_append, hl]; exact Nat.le_refl _), List.take_of_length_le (by rw [List.length_append, hl]; exact Nat.le_refl _)]
    · intro h1 _ hg e
      subst e
      cases hg' : get s' (.heap b') with
      | none => exact hg hg'
      | some v => exact newB_ne hnb b' v hg' rfl
    · refine R'.weaken fun l v hl => ?_
      unfold effO at hl
      rw [get_upd] at hl ⊢
      by_cases h1 : Loc.heap b' = l
      · rw [if_pos h1] at hl ⊢; exact hl
      · rw [if_neg h1] at hl ⊢
        rw [get_upd] at hl ⊢
        by_cases h3 : Loc.slot d = l
        · rw [if_pos h3] at hl ⊢; exact hl
        · rw [if_neg h3] at hl ⊢
          cases q with
          | none => exact hl
          | some b0 =>
            simp only [delO] at hl
            rw [get_del] at hl
            split at hl
            · cases hl
            · exact hl
  · cases q with
    | none => have := (hq0 rfl); omega
    | some b =>
      have hstep := step_appendF (s := s') ho hd hn he h2 (b := b) hx' hy' (hrow' b rfl) hfl h hE1 hE2
      refine hstep G a w R next Q fun G' a' w' R' => ?_
      have hl : (full.take n).length = n := by rw [List.length_take]; omega
      refine hK _ b _ ⟨cap, full.take n ++ zs ++ full.drop (n + zs.length), rfl, rfl, ?_, ?_, h, ?_, .inl rfl⟩ (fun h' hne hg e => hne (by rw [e])) G' a' w' (R'.congr fun l => ?_)
      · simp only [List.length_append, List.length_drop, hl]; omega
      · intro e he
        rcases List.mem_append.1 he with he | he
        · rcases List.mem_append.1 he with he | he
          · exact hE1 e (List.mem_of_mem_take he)
          · exact hE2 e he
        · exact hE1 e (List.mem_of_mem_drop he)
      · rw [List.take_append_of_le_length (by rw [List.length_append, hl]; exact Nat.le_refl _), List.take_of_length_le (by rw [List.length_append, hl]; exact Nat.le_refl _)]
      · unfold effO delO
        rw [get_upd, get_upd, get_upd, get_upd, get_del]
        by_cases h1 : Loc.slot d = l
        · subst h1
          rw [if_neg (by intro e; cases e), if_pos rfl, if_pos rfl]
        · by_cases h3 : Loc.heap b = l
          · rw [if_pos h3, if_neg h1, if_pos h3]
          · rw [if_neg h3, if_neg h1, if_neg h1, if_neg h3, if_neg h3]
theorem fresh_vs {n : Nat} {l : List (List DV)} : anyLoc n (arrRow l) = false ∧ anyTok n (arrRow l) = false := ⟨anyLoc_vs n _, anyTok_vs n _⟩
theorem fresh_app {q : Option Nat} {E n d : Nat} {old zs : List (List DV)} : ∀ y b cs, AppP X q E n old zs y b cs → ∀ m s, fresh m s = true → fresh m (effO d q y b cs s) = true := by
  rintro y b cs ⟨cap, full, rfl, rfl, -⟩ m s h
  have hd1 : ∀ (s : St) (l : Loc), freshL m s = true → freshL m (del s l) = true := by
    intro s l
    induction s with
    | nil => exact id
    | cons p r ih =>
      obtain ⟨l', v⟩ := p
      intro h
      simp only [del]
      split
      · cases l' <;> cases v <;> simp_all [freshL]
      · cases l' <;> cases v <;> simp_all [freshL]
  have hd2 : ∀ (s : St) (l : Loc), freshT m s = true → freshT m (del s l) = true := by
    intro s l
    induction s with
    | nil => exact id
    | cons p r ih =>
      obtain ⟨l', v⟩ := p
      intro h
      simp only [del]
      split
      · cases l' <;> cases v <;> simp_all [freshT]
      · cases l' <;> cases v <;> simp_all [freshT]
  simp only [fresh, Bool.and_eq_true] at h ⊢
  have h0 : freshL m (delO q s) = true ∧ freshT m (delO q s) = true := by
    cases q with
    | none => exact h
    | some b => exact ⟨hd1 _ _ h.1, hd2 _ _ h.2⟩
  unfold effO upd
  constructor
  · simp only [freshL, fresh_vs.1, Bool.not_false, Bool.true_and]
    refine hd1 _ _ ?_
    simp only [freshL, hasLoc, Bool.not_false, Bool.true_and]
    exact hd1 _ _ h0.1
  · simp only [freshT, fresh_vs.2, Bool.not_false, Bool.true_and]
    refine hd2 _ _ ?_
    simp only [freshT, hasTok, Bool.not_false, Bool.true_and]
    exact hd2 _ _ h0.2

theorem VL_le {ops : Array Oper} {l : List Oper} {K : St → Prop} {s1 : St} (h : leS s1 s) (hv : VL X ops l s1 K) : VL X ops l s K := fun n hn G a w R => hv n hn G a w (R.weaken h)
/-- the same, where the state behind it is told -/
theorem vcK_freeW {esc : List Nat} {ops : Array Oper} {l : List Oper} {K : St → Prop} {o : Oper} {q : Option (Prop × St)} {d : Nat} {a0 : Option Nat} {P : SV → Nat → List SV → Prop} (hg : o.guard = none) (hf : FreeStep X o s d a0 P) (hq : q = none)
    (h : ∀ y b cs, P y b cs → newA b a0 s → ∃ s1, leS s1 (effO d a0 y b cs s) ∧ VL X ops l s1 K) : vcK X esc ops l K o s q := by
  subst hq
  intro m hm G a w R0
  obtain ⟨p1, p3⟩ := drop_cons hm
  have hw : ∀ y, Region.wanted o y = true := fun y => by simp [Region.wanted, hg]
  simp only [List.length_cons, List.range'_succ, wpOpsIn, p1, hw, if_true]
  exact hf s (fun _ _ h => h) G a w R0 _ _ fun y b cs hp hn G' a' w' R' => by
    obtain ⟨s1, h1, h2⟩ := h y b cs hp hn
    exact h2 (m + 1) p3 G' a' w' (R'.weaken h1)

def qL : Option Nat → List Loc
  | none => []
  | some b => [.heap b]
theorem vcdF_append {esc : List Nat} {ops : Array Oper} {d : Nat} {K : St → List Ev → Prop} {ev : List Ev} {l : List (Option Oper)} {x y : Operand} {T T2 ty : TypeId} {pos : String} {af : Array Edge}
    {E B : Nat} {q : Option Nat} {n cap : Nat} {full zs : List (List DV)} {zd : List DV} (hx : evl X (get s) x = some (.v (rawQ q n cap))) (hy : evl X (get s) y = some (.v (.sl zs)))
    (he : elemZ X.P T = some (E, B)) (hz : zeroE X.P T = some zd) (hzc : cellB zd = true) (hB : 0 < B ∧ B ≤ 1024) (h2 : (elemT X.P T2).isSome = true) (hn : d < X.n)
    (hrow : ∀ b, q = some b → get s (.heap b) = some (.row (arrRow full))) (hq0 : q = none → n = 0 ∧ cap = 0) (hfl : full.length = cap) (hnc : n ≤ cap) (hpos : 0 < zs.length) (hbig : n + zs.length ≤ BIG) (hE1 : ∀ e ∈ full, e.length = E) (hE2 : ∀ e ∈ zs, e.length = E)
    (h : vcdF X esc ops s0 ⟨some d, .call { callee := .builtin .append, args := #[x, y], argTypes := #[T, T2] }, ty, pos, af, none⟩ d q (AppP X q E n full zs) K l (upd s (.slot d) (.one (.v (.prim (.bool false))))) (⟨slotsOf [x, y] ++ qL q, dumE d, []⟩ :: ev)) :
    vcdF X esc ops s0 ⟨some d, .call { callee := .builtin .append, args := #[x, y], argTypes := #[T, T2] }, ty, pos, af, none⟩ d q (AppP X q E n full zs) K (none :: l) s ev := by
  have hsl : ∀ z : Operand, z = x ∨ z = y → ∀ t, z = .tmp t → Loc.slot t ∈ slotsOf [x, y] ++ qL q := by
    intro z hz t ht
    subst ht
    refine List.mem_append.2 (.inl ?_)
    rcases hz with rfl | rfl
    · simp [slotsOf]
    · cases x <;> simp [slotsOf]
  have hy' : evl X (get (restr s (slotsOf [x, y] ++ qL q))) y = some (.v (.sl zs)) := evl_restr (hsl y (.inr rfl)) (fun _ _ h => h) hy
  refine vcdF_free (slotsOf [x, y] ++ qL q) (free_append (o := ⟨some d, .call { callee := .builtin .append, args := #[x, y], argTypes := #[T, T2] }, ty, pos, af, none⟩) rfl rfl hn he hB h2 (evl_restr (hsl x (.inl rfl)) (fun _ _ h => h) hx) (by rw [hy']; rfl) (fun b hb => ?_) hq0 hfl hnc hpos hbig hE1 hE2 hz hzc) h
  refine get_restr_mem (List.mem_append.2 (.inr ?_)) (hrow b hb)
  rw [hb]
  exact List.mem_singleton.2 rfl

/-! a state that ends in objects -/
def noHeap : St → Bool
  | [] => true
  | (.heap _, _) :: _ => false
  | _ :: r => noHeap r
theorem noHeap_get : ∀ {l : St}, noHeap l = true → ∀ b, get l (.heap b) = none
  | [], _, _ => rfl
  | (.heap _, _) :: _, h, _ => by cases h
  | (.slot n, v) :: r, h, b => by
    simp only [get, reduceCtorEq, if_false]
    exact noHeap_get (l := r) h b
  | (.loc n, v) :: r, h, b => by
    simp only [get, reduceCtorEq, if_false]
    exact noHeap_get (l := r) h b
  | (.tok n, v) :: r, h, b => by
    simp only [get, reduceCtorEq, if_false]
    exact noHeap_get (l := r) h b
theorem get_heapSt_of {φ : Objs} (hn : (φ.map (·.1)).Nodup) {b : Nat} {cs : List DV} (h : (b, cs) ∈ φ) : get (heapSt φ) (.heap b) = some (.row (cs.map SV.v)) := objsIn_self hn b cs h
theorem get_tail {l : St} (hl : noHeap l = true) (φ : Objs) (b : Nat) : get (l ++ heapSt φ) (.heap b) = get (heapSt φ) (.heap b) := by
  rw [get_append, noHeap_get hl]; rfl
theorem get_tail_no {l : St} (φ : Objs) {m : Loc} (hm : ∀ b, m ≠ .heap b) : get (l ++ heapSt φ) m = get l m := by
  rw [get_append]
  cases h : get l m with
  | some v => rfl
  | none =>
    cases h' : get (heapSt φ) m with
    | none => rfl
    | some v => obtain ⟨b, cs, e, -⟩ := get_heapSt h'; exact absurd e (hm b)
/-- what a state must say to say what one says that ends in objects -/
theorem leS_tail {l s' : St} {ψ : Objs} (hl : ∀ m v, (∀ b, m ≠ .heap b) → get l m = some v → get s' m = some v) (hnh : noHeap l = true) (ho : objsIn (get s') ψ) : leS (l ++ heapSt ψ) s' := by
  intro m v hm
  by_cases hb : ∃ b, m = .heap b
  · obtain ⟨b, rfl⟩ := hb
    rw [get_tail hnh] at hm
    obtain ⟨b', cs, e, rfl, hmem⟩ := get_heapSt hm
    cases e
    exact ho _ _ hmem
  · have hb' : ∀ b, m ≠ .heap b := fun b e => hb ⟨b, e⟩
    rw [get_tail_no _ hb'] at hm
    exact hl m v hb' hm
theorem get_addObjs_no (s : St) {m : Loc} (hm : ∀ b, m ≠ .heap b) : ∀ φ : Objs, get (addObjs s φ) m = get s m
  | [] => rfl
  | (b, cs) :: r => by rw [addObjs, get_upd, if_neg (fun e => hm b e.symm), get_addObjs_no s hm r]
theorem get_delObjs_no {m : Loc} (hm : ∀ b, m ≠ .heap b) : ∀ (φ : Objs) (s : St), get (delObjs s φ) m = get s m
  | [], s => rfl
  | (b, cs) :: r, s => by rw [delObjs, get_delObjs_no hm r, get_del, if_neg (fun e => hm b e.symm)]
theorem objsIn_addObjs {φ : Objs} (hn : (φ.map (·.1)).Nodup) (s : St) : objsIn (get (addObjs s φ)) φ := by
  induction φ with
  | nil => intro b cs h; cases h
  | cons p r ih =>
    obtain ⟨b0, c0⟩ := p
    simp only [List.map_cons, List.nodup_cons] at hn
    intro b cs h
    rw [addObjs, get_upd]
    rcases List.mem_cons.1 h with e | h
    · cases e; rw [if_pos rfl]
    · rw [if_neg (fun e => by cases e; exact hn.1 (List.mem_map.2 ⟨_, h, rfl⟩))]
      exact ih hn.2 b cs h
theorem noHeap_del : ∀ {l : St}, noHeap l = true → ∀ m, noHeap (del l m) = true
  | [], _, _ => rfl
  | (.heap _, _) :: _, h, _ => by cases h
  | (.slot n, v) :: r, h, m => by
    have := noHeap_del (l := r) h m
    simp only [del]; split <;> simpa [noHeap] using this
  | (.loc n, v) :: r, h, m => by
    have := noHeap_del (l := r) h m
    simp only [del]; split <;> simpa [noHeap] using this
  | (.tok n, v) :: r, h, m => by
    have := noHeap_del (l := r) h m
    simp only [del]; split <;> simpa [noHeap] using this
theorem noHeap_upd {l : St} (h : noHeap l = true) (d : Nat) (y : LV) : noHeap (upd l (.slot d) y) = true := by
  show noHeap ((.slot d, y) :: del l (.slot d)) = true
  simp only [noHeap]
  exact noHeap_del h _

/-- a state's end is objects -/
inductive Tail : St → St → Objs → Prop
  | nil (φ : Objs) : Tail (heapSt φ) [] φ
  | slot {s l : St} {φ : Objs} (n : Nat) (v : LV) (h : Tail s l φ) : Tail ((.slot n, v) :: s) ((.slot n, v) :: l) φ
  | loc {s l : St} {φ : Objs} (n : Nat) (v : LV) (h : Tail s l φ) : Tail ((.loc n, v) :: s) ((.loc n, v) :: l) φ
  | tok {s l : St} {φ : Objs} (n : Nat) (v : LV) (h : Tail s l φ) : Tail ((.tok n, v) :: s) ((.tok n, v) :: l) φ
theorem Tail.spec {s l : St} {φ : Objs} (h : Tail s l φ) : s = l ++ heapSt φ ∧ noHeap l = true := by
  induction h with
  | nil φ => exact ⟨rfl, rfl⟩
  | slot n v h ih => exact ⟨by rw [ih.1]; rfl, ih.2⟩
  | loc n v h ih => exact ⟨by rw [ih.1]; rfl, ih.2⟩
  | tok n v h ih => exact ⟨by rw [ih.1]; rfl, ih.2⟩

/-- a call of a function value whose outcome a relation tells; the objects stand at the state's end -/
theorem vcK_callVT {esc : List Nat} {ops : Array Oper} {l : List Oper} {K : St → Prop} {d : Tmp} {x : Operand} {f : FuncId} {fi ca : Array Value} {args : Array Operand} {ats : Array TypeId} {ty : TypeId} {pos : String} {af : Array Edge} {P : Program} {gl : Globs} (hP : X.P = P) (hgl : X.gl = gl)
    (hx : evl X (get s) x = some (.v (.prim (.func (.func f) fi ca)))) (hprim : ∀ v ∈ fi.toList ++ ca.toList, primOK v)
    {ds ds' : List DV} {φ : Objs} {R : DV → Objs → Prop} (hc : Con P gl f ds' φ R) (hargs : evlDs X (get s) args.toList = some ds) (hds : fi.toList.map DV.prim ++ ds ++ ca.toList.map DV.prim = ds') {sl : St} (ht : Tail s sl φ) (hnd : (φ.map (·.1)).Nodup) (hdn : d < X.n) {q : Option (Prop × St)} (hq : q = none)
    (h : ∀ r φ', R r φ' → (φ'.map (·.1)).Nodup ∧ vc X esc ops l (upd sl (.slot d) (.one (.v r)) ++ heapSt φ') K) :
    vcK X esc ops l K ⟨some d, .call { callee := .value x, args := args, argTypes := ats }, ty, pos, af, none⟩ s q := by
  subst hds hq
  obtain ⟨hs, hl⟩ := ht.spec
  intro n hn G a w R0
  obtain ⟨h1, h2⟩ := drop_cons hn
  simp only [List.length_cons, List.range'_succ, wpOpsIn, h1, Region.wanted, if_true]
  have hφ : objsIn (get s) φ := by
    intro b cs hm
    rw [hs, get_tail hl]
    exact get_heapSt_of hnd hm
  refine StepCall (o := ⟨some d, .call { callee := .value x, args := args, argTypes := ats }, ty, pos, af, none⟩) (ds := fi.toList.map DV.prim ++ ds ++ ca.toList.map DV.prim) rfl hx ⟨ds, hargs, rfl⟩ hprim (by rw [hP, hgl]; exact hc) hφ hnd rfl hdn R0 _ _ fun r φ' G' a' w' hR hids R' => ?_
  obtain ⟨k1, k2⟩ := h r φ' hR
  refine vc_sound k2 (n + 1) h2 G' a' w' (R'.weaken (leS_tail (fun m v hm hg => ?_) (noHeap_upd hl _ _) (objsIn_addObjs k1 _)))
  rw [get_addObjs_no _ hm, get_delObjs_no hm, get_upd]
  rw [get_upd] at hg
  split
  · rename_i e; rw [if_pos e] at hg; exact hg
  · rename_i e
    rw [if_neg e] at hg
    rw [hs, get_tail_no _ hm]
    exact hg

theorem subLe_hs_slot (σ : Nat → Nat) (n : Nat) (v : LV) (s : St) (ψ : Objs) : subLe σ ((.slot n, v) :: s) (heapSt ψ) = subLe σ s (heapSt ψ) := by
  induction ψ with
  | nil => rfl
  | cons p r ih => obtain ⟨b, cs⟩ := p; simp only [heapSt, subLe, ih, factLe, get, reduceCtorEq, if_false]
theorem subLe_hs_loc (σ : Nat → Nat) (n : Nat) (v : LV) (s : St) (ψ : Objs) : subLe σ ((.loc n, v) :: s) (heapSt ψ) = subLe σ s (heapSt ψ) := by
  induction ψ with
  | nil => rfl
  | cons p r ih => obtain ⟨b, cs⟩ := p; simp only [heapSt, subLe, ih, factLe, get, reduceCtorEq, if_false]
theorem subLe_hs_tok (σ : Nat → Nat) (n : Nat) (v : LV) (s : St) (ψ : Objs) : subLe σ ((.tok n, v) :: s) (heapSt ψ) = subLe σ s (heapSt ψ) := by
  induction ψ with
  | nil => rfl
  | cons p r ih => obtain ⟨b, cs⟩ := p; simp only [heapSt, subLe, ih, factLe, get, reduceCtorEq, if_false]
theorem rowLe_dv (σ : Nat → Nat) (l : List DV) : rowLe σ (l.map SV.v) (l.map SV.v) := by
  induction l with
  | nil => simp [rowLe]
  | cons x r ih => simp [rowLe, svLe, ih]
theorem subLe_objs (σ : Nat → Nat) {s : St} : ∀ {ψ : Objs}, objsIn (get s) ψ → subLe σ s (heapSt ψ)
  | [], _ => trivial
  | (b, cs) :: r, h => by
    refine ⟨?_, subLe_objs σ fun b' cs' hm => h b' cs' (List.mem_cons_of_mem _ hm)⟩
    simp only [factLe]
    rw [h b cs (by simp)]
    exact rowLe_dv σ cs
theorem subLe_hs_self (σ : Nat → Nat) {ψ : Objs} (hn : (ψ.map (·.1)).Nodup) : subLe σ (heapSt ψ) (heapSt ψ) = True := by
  rw [eq_iff_iff, iff_true]
  exact subLe_objs σ (objsIn_self hn)
attribute [go_sem] subLe_hs_slot subLe_hs_loc subLe_hs_tok

/-- a raw slice, or nil, with its block -/
structure RS where
  q : Option Nat
  n : Nat
  cap : Nat
  full : List (List DV)
abbrev RS.v (x : RS) : DV := rawQ x.q x.n x.cap
def RS.objs (x : RS) : Objs := match x.q with
  | none => []
  | some b => [(b, x.full.flatten)]
theorem RS.mem_objs {x : RS} {b : Nat} {cs : List DV} : (b, cs) ∈ x.objs ↔ x.q = some b ∧ cs = x.full.flatten := by
  unfold RS.objs
  cases x.q with
  | none => simp
  | some b0 => simp [eq_comm]
/-- it holds these elements -/
structure RS.is (x : RS) (E : Nat) (ys : List (List DV)) : Prop where
  nil : x.q = none → x.n = 0 ∧ x.cap = 0
  len : x.full.length = x.cap
  wid : ∀ e ∈ x.full, e.length = E
  le : x.n ≤ x.cap
  els : x.full.take x.n = ys
theorem RS.is.n_eq {x : RS} {E : Nat} {ys : List (List DV)} (h : x.is E ys) : x.n = ys.length := by
  rw [← h.els, List.length_take, h.len, Nat.min_eq_left h.le]
theorem RS.is.app {x : RS} {E : Nat} {ys zs : List (List DV)} (h : x.is E ys) {y : SV} {b : Nat} {cs : List SV} (ha : AppP X x.q E x.n x.full zs y b cs) : ∃ x' : RS, x'.q = some b ∧ y = .v x'.v ∧ cs = arrRow x'.full ∧ x'.is E (ys ++ zs) := by
  obtain ⟨cap, full, rfl, rfl, h3, h4, h5, h6, -⟩ := ha
  refine ⟨⟨some b, x.n + zs.length, cap, full⟩, rfl, rfl, rfl, ⟨(fun h => nomatch h), h3, h4, h5, ?_⟩⟩
  show full.take (x.n + zs.length) = _
  rw [h6, h.els]
/-- an array of a state that ends in objects is appended to -/
theorem eff_objs {l : St} {A B : Objs} {x x' : RS} {b d : Nat} {y : SV} (hl : noHeap l = true) (hnd : ((A ++ (x.objs ++ B)).map (·.1)).Nodup) (hx : x'.q = some b) (hnew : ∀ h, x.q ≠ some h → (∃ cs, (h, cs) ∈ A ++ (x.objs ++ B)) → b ≠ h) :
    leS (upd l (.slot d) (.one y) ++ heapSt (A ++ (x'.objs ++ B))) (effO d x.q y b (arrRow x'.full) (l ++ heapSt (A ++ (x.objs ++ B)))) ∧ ((A ++ (x'.objs ++ B)).map (·.1)).Nodup := by
  have hob : x'.objs = [(b, x'.full.flatten)] := by unfold RS.objs; rw [hx]
  have hne : ∀ p ∈ A ++ B, b ≠ p.1 ∧ x.q ≠ some p.1 := by
    rintro ⟨h, cs⟩ hp
    have hin : (h, cs) ∈ A ++ (x.objs ++ B) := by
      rcases List.mem_append.1 hp with h | h
      · exact List.mem_append.2 (.inl h)
      · exact List.mem_append.2 (.inr (List.mem_append.2 (.inr h)))
    have hq : x.q ≠ some h := by
      intro e
      have hx1 : (h, x.full.flatten) ∈ x.objs := RS.mem_objs.2 ⟨e, rfl⟩
      simp only [List.map_append, List.nodup_append, List.mem_append, List.mem_map] at hnd
      obtain ⟨-, ⟨-, -, n3⟩, n4⟩ := hnd
      rcases List.mem_append.1 hp with h1 | h1
      · exact n4 h ⟨_, h1, rfl⟩ h (.inl ⟨_, hx1, rfl⟩) rfl
      · exact n3 h ⟨_, hx1, rfl⟩ h ⟨_, h1, rfl⟩ rfl
    exact ⟨hnew h hq ⟨cs, hin⟩, hq⟩
  constructor
  · refine leS_tail (fun m v hm hg => ?_) (noHeap_upd hl _ _) ?_
    · rw [get_upd] at hg
      unfold effO
      rw [get_upd, if_neg (fun e => hm b e.symm), get_upd]
      split
      · rename_i e; rw [if_pos e] at hg; exact hg
      · rename_i e
        rw [if_neg e] at hg
        rw [get_delO _ _ _ (fun b' _ => hm b'), get_tail_no _ hm]
        exact hg
    · intro h cs hm
      rw [hob] at hm
      have hcase : (h, cs) = (b, x'.full.flatten) ∨ (h, cs) ∈ A ++ B := by
        rcases List.mem_append.1 hm with h1 | h1
        · exact .inr (List.mem_append.2 (.inl h1))
        · rcases List.mem_append.1 h1 with h1 | h1
          · exact .inl (List.mem_singleton.1 h1)
          · exact .inr (List.mem_append.2 (.inr h1))
      rcases hcase with e | h1
      · cases e
        unfold effO
        rw [get_upd, if_pos rfl]
        rfl
      · obtain ⟨k1, k2⟩ := hne _ h1
        rw [effO_ne (by simp) (fun e => by cases e; exact k1 rfl) (fun b' hb e => by cases e; exact k2 hb), get_tail hl]
        refine get_heapSt_of hnd ?_
        rcases List.mem_append.1 h1 with h | h
        · exact List.mem_append.2 (.inl h)
        · exact List.mem_append.2 (.inr (List.mem_append.2 (.inr h)))
  · rw [hob]
    simp only [List.map_append, List.map_cons, List.map_nil, List.nodup_append, List.mem_append, List.mem_map] at hnd ⊢
    obtain ⟨n1, ⟨-, n2, -⟩, n4⟩ := hnd
    refine ⟨n1, ⟨by simp, n2, ?_⟩, ?_⟩
    · intro a ha c ⟨p, hp, hc⟩ e
      have := (hne p (List.mem_append.2 (.inr hp))).1
      simp only [List.mem_singleton] at ha
      exact this (by rw [hc, ← e, ha])
    · rintro a ⟨p, hp, hc⟩ c hcc e
      rcases hcc with h | h
      · have := (hne p (List.mem_append.2 (.inl hp))).1
        simp only [List.mem_singleton] at h
        exact this (by rw [hc, e, h])
      · exact n4 a ⟨p, hp, hc⟩ c (.inr h) e
theorem newA_objs {l : St} {φ : Objs} {b : Nat} {q : Option Nat} (ht : Tail s l φ) (hnd : (φ.map (·.1)).Nodup) (hnew : newA b q s) : ∀ h, q ≠ some h → (∃ cs, (h, cs) ∈ φ) → b ≠ h := by
  obtain ⟨hs, hl⟩ := ht.spec
  rintro h hq ⟨cs, hin⟩
  refine hnew h hq ?_
  rw [hs, get_tail hl, get_heapSt_of hnd hin]
  simp
theorem VL_eff {ops : Array Oper} {lst : List Oper} {K : St → Prop} {l : St} {φ A B : Objs} {x : RS} {b d : Nat} {y : SV} (x' : RS) (ψ : Objs) (ht : Tail s l φ) (hφ : φ = A ++ (x.objs ++ B)) (hψ : ψ = A ++ (x'.objs ++ B)) (hnd : (φ.map (·.1)).Nodup) (hx : x'.q = some b) (hnew : ∀ h, x.q ≠ some h → (∃ cs, (h, cs) ∈ φ) → b ≠ h)
    (h : (ψ.map (·.1)).Nodup → VL X ops lst (upd l (.slot d) (.one y) ++ heapSt ψ) K) : VL X ops lst (effO d x.q y b (arrRow x'.full) s) K := by
  subst hφ hψ
  obtain ⟨hs, hl⟩ := ht.spec
  subst hs
  obtain ⟨h1, h2⟩ := eff_objs (d := d) (y := y) hl hnd hx hnew
  exact VL_le h1 (h h2)
theorem vcK_eff {esc : List Nat} {ops : Array Oper} {lst : List Oper} {K : St → Prop} {o : Oper} {q : Option (Prop × St)} {d : Nat} {l : St} {φ A B : Objs} {x : RS} {E : Nat} {ys zs : List (List DV)} (ψ : RS → Objs) (hg : o.guard = none) (ht : Tail s l φ) (hφ : φ = A ++ (x.objs ++ B)) (hψ : ∀ x', ψ x' = A ++ (x'.objs ++ B)) (hnd : (φ.map (·.1)).Nodup) (hi : x.is E ys)
    (hf : FreeStep X o s d x.q (AppP X x.q E x.n x.full zs)) (hq : q = none) (h : ∀ x' : RS, x'.is E (ys ++ zs) → (∃ b, x'.q = some b) → ((ψ x').map (·.1)).Nodup → VL X ops lst (upd l (.slot d) (.one (.v x'.v)) ++ heapSt (ψ x')) K) : vcK X esc ops lst K o s q := by
  refine vcK_freeW hg hf hq fun y b cs hap hnew => ?_
  obtain ⟨x', hq', rfl, rfl, hx'⟩ := hi.app hap
  have h0 := newA_objs ht hnd hnew
  subst hφ
  obtain ⟨hs, hl⟩ := ht.spec
  subst hs
  obtain ⟨h1, h2⟩ := eff_objs (d := d) (y := .v x'.v) hl hnd hq' h0
  have h3 := h x' hx' ⟨b, hq'⟩ (by rw [hψ]; exact h2)
  rw [hψ] at h3
  exact ⟨_, h1, h3⟩
/-- a box of a state that ends in objects is written -/
theorem upd_objs {l : St} {A B : Objs} {b : Nat} {c c' : List DV} (hl : noHeap l = true) (hnd : ((A ++ (b, c) :: B).map (·.1)).Nodup) :
    leS (l ++ heapSt (A ++ (b, c') :: B)) (upd (l ++ heapSt (A ++ (b, c) :: B)) (.heap b) (.row (c'.map SV.v))) ∧ ((A ++ (b, c') :: B).map (·.1)).Nodup := by
  refine ⟨leS_tail (fun m v hm hg => ?_) hl ?_, by simpa using hnd⟩
  · rw [get_upd, if_neg (fun e => hm b e.symm), get_tail_no _ hm]
    exact hg
  · intro h cs hm
    rw [get_upd]
    have hcase : (h, cs) = (b, c') ∨ (h, cs) ∈ A ++ B := by
      rcases List.mem_append.1 hm with h1 | h1
      · exact .inr (List.mem_append.2 (.inl h1))
      · rcases List.mem_cons.1 h1 with h1 | h1
        · exact .inl h1
        · exact .inr (List.mem_append.2 (.inr h1))
    rcases hcase with e | h1
    · cases e; rw [if_pos rfl]
    · have hne : b ≠ h := by
        intro e
        subst e
        simp only [List.map_append, List.map_cons, List.nodup_append, List.nodup_cons, List.mem_cons, List.mem_map] at hnd
        obtain ⟨-, ⟨n2, -⟩, n4⟩ := hnd
        rcases List.mem_append.1 h1 with h2 | h2
        · exact n4 b ⟨_, h2, rfl⟩ b (.inl rfl) rfl
        · exact n2 ⟨_, h2, rfl⟩
      rw [if_neg (fun e => by cases e; exact hne rfl), get_tail hl]
      refine get_heapSt_of hnd ?_
      rcases List.mem_append.1 h1 with h | h
      · exact List.mem_append.2 (.inl h)
      · exact List.mem_append.2 (.inr (List.mem_cons_of_mem _ h))
theorem VL_boxT {ops : Array Oper} {lst : List Oper} {K : St → Prop} {T ty : TypeId} {p x : Operand} {pos : String} {af : Array Edge} {l : St} {φ A B : Objs} {b : Nat} {c d : DV} {agg : Bool} (ψ : Objs)
    (ht : Tail s l φ) (hφ : φ = A ++ (b, [c]) :: B) (hψ : ψ = A ++ (b, [d]) :: B) (hnd : (φ.map (·.1)).Nodup) (hp : evl X (get s) p = some (.v (.prim (.pointer (some ⟨b, 0, none⟩))))) (hx : evl X (get s) x = some (.v d)) (hl : layT X.P T = some (agg, 1)) (hc : cellsS (.v d) = [.v d]) (hd : d.isCell = true)
    (h : (ψ.map (·.1)).Nodup → VL X ops lst (l ++ heapSt ψ) K) : VL X ops (⟨none, .store T p x, ty, pos, af, none⟩ :: lst) s K := by
  subst hφ hψ
  obtain ⟨hs, hh⟩ := ht.spec
  obtain ⟨k1, k2⟩ := upd_objs (c' := [d]) hh hnd
  have hg : get s (.heap b) = some (.row [.v c]) := by rw [hs, get_tail hh]; exact get_heapSt_of hnd (cs := [c]) (List.mem_append.2 (.inr (List.mem_cons_self ..)))
  have hstep := step_store_heap (s := s) (X := X) (o := ⟨none, .store T p x, ty, pos, af, none⟩) (t := T) (p := p) (x := x) rfl rfl hp hg hl (y := .v d) hx (ys := [.v d]) (by rw [hc]; rfl) ⟨rfl, by simp⟩ (by simp [cellBS, SV.isCell, hd])
  refine VL_step rfl hstep (VL_le ?_ (h k2))
  have e : put [SV.v c] 0 [SV.v d] = [SV.v d] := rfl
  rw [e, hs]
  exact k1
/-- the first elements of an array become data -/
theorem W_freezeN {b E : Nat} {full : List (List DV)} {kk : List Item} (n : Nat) (hrow : get s (.heap b) = some (.row (arrRow full))) (hE : ∀ e ∈ full, e.length = E) (hn : n ≤ full.length) (hbig : n ≤ BIG) (hids : X.ids = []) (h : W X kk (frz b (full.take n) (del s (.heap b)))) : W X kk s := by
  intro G a w b' cs hf hkk hr R
  have hw : X.w0.heap.size ≤ b := by
    rcases R.own _ _ b hrow rfl with h | ⟨h, -⟩
    · exact h
    · rw [hids] at h; cases h
  have hpre : arrRow full = arrRow (full.take n) ++ arrRow (full.drop n) := by rw [← arrRow_append, List.take_append_drop]
  have R1 : Rel X G (upd s (.heap b) (.row (arrRow (full.take n)))) a w := by
    have hb : BlkAt G w b (arrRow (full.take n)) := by
      obtain ⟨c, e, h1, h2, h3⟩ := R.holds _ _ hrow
      rw [hpre, List.length_append] at h2
      refine ⟨c, e, h1, by omega, fun i x hx => ?_⟩
      have hlt := (List.getElem?_eq_some_iff.1 hx).1
      exact h3 i x (by rw [hpre, List.getElem?_append_left hlt]; exact hx)
    refine ⟨R.size, R.defers, R.ext, R.wf, R.nil, fun l v hl => ?_, fun l v l' v' b' hl hl' hb1 hb2 => ?_, fun l v b' hl hb1 => ?_, fun l v b' o hl hb1 ht => ?_⟩
    · rw [get_upd] at hl
      split at hl
      · subst_vars; cases hl; exact hb
      · exact R.holds _ _ hl
    · have key : ∀ l v, get (upd s (.heap b) (.row (arrRow (full.take n)))) l = some v → ∃ v0, get s l = some v0 ∧ blkOf G l v = blkOf G l v0 := by
        intro l v hl
        rw [get_upd] at hl
        split at hl
        · subst_vars; cases hl; exact ⟨_, hrow, rfl⟩
        · exact ⟨v, hl, rfl⟩
      obtain ⟨v0, k1, k2⟩ := key _ _ hl
      obtain ⟨v1, k3, k4⟩ := key _ _ hl'
      rw [k2] at hb1
      rw [k4] at hb2
      exact R.sep _ _ _ _ _ k1 k3 hb1 hb2
    · rw [get_upd] at hl
      split at hl
      · subst_vars; cases hl; exact R.own _ _ _ hrow hb1
      · exact R.own _ _ _ hl hb1
    · rw [get_upd] at hl
      split at hl
      · subst_vars; cases hl; exact R.data _ _ _ o hrow hb1 ht
      · exact R.data _ _ _ o hl hb1 ht
  obtain ⟨G', R'⟩ := R1.freeze (ys := full.take n) (fun e he => hE e (List.mem_of_mem_take he)) (by rw [List.length_take]; omega) hw (by rw [get_upd, if_pos rfl])
  refine h G' a w b' cs hf hkk hr (R'.congr fun l => ?_)
  rw [get_frz, get_frz, get_del, get_del, get_upd]
  by_cases h1 : Loc.heap b = l
  · rw [if_pos h1, if_pos h1]
  · rw [if_neg h1, if_neg h1, if_neg h1]
theorem anyLoc_arrZ (d : Nat) (ys : List (List DV)) : anyLoc d (arrRow ys) = false := anyLoc_vs d _
theorem anyTok_arrZ (d : Nat) (ys : List (List DV)) : anyTok d (arrRow ys) = false := anyTok_vs d _
theorem rowLe_arrZ (σ : Nat → Nat) (ys : List (List DV)) : rowLe σ (arrRow ys) (arrRow ys) := rowLe_dv σ _
theorem exRow_arrZ (k b : Nat) (ys : List (List DV)) : exRow k b (arrRow ys) = arrRow ys := by
  unfold arrRow
  generalize ys.flatten = l
  induction l with
  | nil => rfl
  | cons x r ih => simp only [List.map_cons, exRow, ih]; rfl
attribute [go_sem] anyLoc_arrZ anyTok_arrZ exRow_arrZ
theorem nlzRow_arr (ys : List (List DV)) : nlzRow (arrRow ys) = arrRow ys := by
  unfold arrRow
  generalize ys.flatten = l
  induction l with
  | nil => rfl
  | cons x r ih => simp only [List.map_cons, nlzRow, ih]; rfl
theorem arrRow_rd {E : Nat} {full : List (List DV)} (hE : ∀ e ∈ full, e.length = E) {i : Nat} {e : List DV} (h : full[i]? = some e) : toDs (((arrRow full).drop (i * E)).take E) = some e := by
  have he := hE e (List.mem_of_getElem? h)
  have h1 : ((arrRow full).drop (i * E)).take E = e.map SV.v := by
    apply List.ext_getElem?
    intro j
    by_cases hj : j < E
    · rw [List.getElem?_take_of_lt hj, List.getElem?_drop]
      have hje : e[j]? = some (e[j]'(by omega)) := List.getElem?_eq_getElem (by omega)
      simp only [arrRow, List.getElem?_map, flatten_at hE h hje, hje]
    · rw [List.getElem?_eq_none (by simp; omega), List.getElem?_eq_none (by simp; omega)]
  rw [h1]
  exact toDs_map e
theorem arrRow_cell {E : Nat} {full : List (List DV)} (hE : ∀ e ∈ full, e.length = E) {i j : Nat} {e : List DV} {d : DV} (h : full[i]? = some e) (hd : e[j]? = some d) : (arrRow full)[i * E + j]? = some (.v d) := by
  simp only [arrRow, List.getElem?_map, flatten_at hE h hd, Option.map_some]
theorem RS.is.at {x : RS} {E : Nat} {ys : List (List DV)} (h : x.is E ys) {i : Nat} {e : List DV} (he : ys[i]? = some e) : x.full[i]? = some e := by
  have hi := (List.getElem?_eq_some_iff.1 he).1
  have hn := h.n_eq
  rw [← h.els, List.getElem?_take_of_lt (by omega)] at he
  exact he
theorem RS.is.there {x : RS} {E : Nat} {ys : List (List DV)} (h : x.is E ys) (hy : ys ≠ []) : ∃ b, x.q = some b := by
  cases hq : x.q with
  | some b => exact ⟨b, rfl⟩
  | none =>
    have h1 := (h.nil hq).1
    rw [h.n_eq] at h1
    exact absurd (List.length_eq_zero_iff.1 h1) hy
/-- an element is written -/
theorem RS.is.set {x : RS} {E : Nat} {ys : List (List DV)} (h : x.is E ys) {i : Nat} {e : List DV} (hi : i < ys.length) (he : e.length = E) : RS.is ⟨x.q, x.n, x.cap, x.full.set i e⟩ E (ys.set i e) := by
  have hn := h.n_eq
  refine ⟨h.nil, by simpa using h.len, fun z hz => ?_, h.le, ?_⟩
  · rcases List.mem_or_eq_of_mem_set hz with hz | rfl
    · exact h.wid z hz
    · exact he
  · show (x.full.set i e).take x.n = _
    rw [List.take_set, h.els]
theorem put_cell {E : Nat} {ys : List (List DV)} (hE : ∀ e ∈ ys, e.length = E) {i j : Nat} {e : List DV} (hi : ys[i]? = some e) (hj : j < E) (d : DV) : put (arrRow ys) (i * E + j) [.v d] = arrRow (ys.set i (e.set j d)) := by
  have he := hE e (List.mem_of_getElem? hi)
  have hlt := (List.getElem?_eq_some_iff.1 hi).1
  have hmul : i * E + E ≤ ys.length * E := by
    calc i * E + E = (i + 1) * E := by rw [Nat.add_mul, Nat.one_mul]
      _ ≤ ys.length * E := Nat.mul_le_mul_right _ hlt
  have hal := arrRow_len hE
  rw [← put_arr hE hlt (z := e.set j d) (by rw [List.length_set, he])]
  apply List.ext_getElem?
  intro k
  rw [get_put _ _ _ _ (by simp only [List.length_singleton]; omega), get_put _ _ _ _ (by rw [List.length_map, List.length_set, he]; omega)]
  simp only [List.length_singleton, List.length_map, List.length_set, he]
  by_cases h1 : i * E + j ≤ k ∧ k < i * E + j + 1
  · have hk : k = i * E + j := by omega
    subst hk
    rw [if_pos h1, if_pos (by omega), Nat.sub_self, Nat.add_sub_cancel_left, List.getElem?_map, List.getElem?_set_self (by omega)]
    rfl
  · rw [if_neg h1]
    by_cases h2 : i * E ≤ k ∧ k < i * E + E
    · rw [if_pos h2]
      obtain ⟨k', rfl⟩ := Nat.exists_eq_add_of_le h2.1
      rw [Nat.add_sub_cancel_left, List.getElem?_map, List.getElem?_set_ne (by omega)]
      have hk' : e[k']? = some (e[k']'(by omega)) := List.getElem?_eq_getElem (by omega)
      rw [arrRow_cell hE hi hk', hk']
      rfl
    · rw [if_neg h2]
theorem W_le {kk : List Item} {s1 : St} (h : leS s1 s) (hw : W X kk s1) : W X kk s := fun G a w b cs hf hk hr R => hw G a w b cs hf hk hr (R.weaken h)
/-- a state's end is objects but one -/
inductive TailD : St → St → Objs → Nat → Prop
  | nil (φ : Objs) (b : Nat) : TailD (del (heapSt φ) (.heap b)) [] φ b
  | slot {s l : St} {φ : Objs} {b : Nat} (n : Nat) (v : LV) (h : TailD s l φ b) : TailD ((.slot n, v) :: s) ((.slot n, v) :: l) φ b
  | loc {s l : St} {φ : Objs} {b : Nat} (n : Nat) (v : LV) (h : TailD s l φ b) : TailD ((.loc n, v) :: s) ((.loc n, v) :: l) φ b
  | tok {s l : St} {φ : Objs} {b : Nat} (n : Nat) (v : LV) (h : TailD s l φ b) : TailD ((.tok n, v) :: s) ((.tok n, v) :: l) φ b
theorem TailD.spec {s l : St} {φ : Objs} {b : Nat} (h : TailD s l φ b) : s = l ++ del (heapSt φ) (.heap b) ∧ noHeap l = true := by
  induction h with
  | nil φ => exact ⟨rfl, rfl⟩
  | slot n v h ih => exact ⟨by rw [ih.1]; rfl, ih.2⟩
  | loc n v h ih => exact ⟨by rw [ih.1]; rfl, ih.2⟩
  | tok n v h ih => exact ⟨by rw [ih.1]; rfl, ih.2⟩
theorem W_putT {rest l : St} {φ A B : Objs} {b : Nat} {c c' : List DV} {row : List SV} {kk : List Item} (ψ : Objs) (ht : TailD rest l φ b) (hφ : φ = A ++ (b, c) :: B) (hψ : ψ = A ++ (b, c') :: B) (hnd : (φ.map (·.1)).Nodup) (hrow : row = c'.map SV.v)
    (h : (ψ.map (·.1)).Nodup → W X kk (l ++ heapSt ψ)) : W X kk ((.heap b, .row row) :: rest) := by
  subst hφ hψ hrow
  obtain ⟨hs, hh⟩ := ht.spec
  obtain ⟨k1, k2⟩ := upd_objs (c' := c') hh hnd
  refine W_le (fun m v hm => ?_) (h k2)
  have h1 := k1 m v hm
  rw [get_upd] at h1
  rw [hs]
  simp only [get]
  split
  · rename_i e; rw [if_pos e] at h1; exact h1
  · rename_i e
    rw [if_neg e, get_append] at h1
    rw [get_append, get_del, if_neg e]
    exact h1
end
end Go.Proofs.YtmdjiajbnifjpaaDoor.Lift

/-
  Plain data of the program: types, terms and values as trees, and how they read as data (printed by a program of ours).
-/
namespace Go.Proofs.YtmdjiajbnifjpaaDoor.Lift
set_option linter.unusedSimpArgs false
set_option linter.unusedVariables false
set_option linter.unnecessarySimpa false
open Go

/-- a list of numbers as a slice's elements -/
def ints (l : List Int) : List (List DV) := l.map fun n => [dint n]

theorem slFit {α : Type} (f : α → List DV) (g : α → DV) (hg : ∀ a, g a = .agg (f a)) (l : List α) : DV.fit (.sl (l.map f)) ↔ l.length ≤ BIG ∧ ∀ a ∈ l, (g a).fit := by
  simp only [DV.fit, List.length_map]
  refine and_congr Iff.rfl ?_
  rw [fitss_iff]
  constructor
  · intro h a ha
    obtain ⟨i, hi, rfl⟩ := List.mem_iff_getElem.1 ha
    rw [hg]
    show DV.fit.fits _
    rw [fits_iff]
    intro j c hc
    exact h i j _ c (by simp [hi]) hc
  · intro h i j e c he hc
    rw [List.getElem?_map] at he
    cases hq : l[i]? with
    | none => simp [hq] at he
    | some a =>
      simp [hq] at he
      subst he
      have := h a (List.mem_of_getElem? hq)
      rw [hg] at this
      exact (fits_iff _).1 this j c hc

theorem slFit' {α : Type} (f : α → List DV) (g : α → DV) (hg : ∀ a, g a = .agg (f a)) {p : α → Prop} (hp : ∀ a, (g a).fit ↔ p a) (l : List α) : DV.fit (.sl (l.map f)) ↔ l.length ≤ BIG ∧ ∀ a ∈ l, p a := by
  rw [slFit f g hg]
  simp only [hp]

theorem ints_fit (l : List Int) : DV.fit (.sl (ints l)) ↔ l.length ≤ BIG ∧ ∀ n ∈ l, intOK .i64 n := by
  unfold ints
  rw [slFit' (fun n => [dint n]) (fun n => .agg [dint n]) (fun _ => rfl) (p := fun n => intOK .i64 n) (fun n => by simp [DV.fit, DV.fit.fits, primOK, intOK])]

theorem samesIff {α : Type} (f : α → α → Bool) (g : List α → List α → Bool) (h0 : g [] [] = true) (h1 : ∀ a r, g (a :: r) [] = false) (h2 : ∀ a r, g [] (a :: r) = false) (h3 : ∀ a r b t, g (a :: r) (b :: t) = (f a b && g r t)) (az bs : List α) :
    g az bs = true ↔ az.length = bs.length ∧ ∀ (i : Nat) (a b : α), az[i]? = some a → bs[i]? = some b → f a b = true := by
  induction az generalizing bs with
  | nil => cases bs <;> simp [h0, h2]
  | cons a r ih =>
    cases bs with
    | nil => simp [h1]
    | cons b t =>
      simp only [h3, Bool.and_eq_true, ih, List.length_cons, Nat.add_right_cancel_iff]
      constructor
      · rintro ⟨h1, h2, h3⟩
        refine ⟨h2, fun i x y hx hy => ?_⟩
        cases i with
        | zero => simp at hx hy; subst hx hy; exact h1
        | succ i => exact h3 i x y (by simpa using hx) (by simpa using hy)
      · rintro ⟨h1, h2⟩
        exact ⟨h2 0 a b rfl rfl, h1, fun i x y hx hy => h2 (i + 1) x y (by simpa using hx) (by simpa using hy)⟩

theorem listSame {α : Type} {f : α → α → Bool} {b : Bool} {az bs : List α} (h : b = true ↔ az.length = bs.length ∧ ∀ (i : Nat) (a b : α), az[i]? = some a → bs[i]? = some b → f a b = true) (ih : ∀ a ∈ az, ∀ b, f a b = true ↔ a = b) : b = true ↔ az = bs := by
  rw [h]
  constructor
  · rintro ⟨h2, h3⟩
    apply List.ext_getElem h2
    intro i hi hj
    exact (ih _ (List.getElem_mem hi) _).1 (h3 i _ _ (List.getElem?_eq_getElem hi) (List.getElem?_eq_getElem hj))
  · rintro rfl
    exact ⟨rfl, fun i x y hx hy => by rw [hx] at hy; cases hy; exact (ih x (List.mem_of_getElem? hx) x).2 rfl⟩

theorem ints_length (l : List Int) : (ints l).length = l.length := by simp [ints]
theorem ints_get {l : List Int} {i : Nat} {n : Int} (h : l[i]? = some n) : (ints l)[i]? = some [dint n] := by simp [ints, h]
theorem ints_nil : ints [] = [] := rfl
theorem ints_append (l m : List Int) : ints (l ++ m) = ints l ++ ints m := by simp [ints]
theorem ints_cons (n : Int) (m : List Int) : ints (n :: m) = [dint n] :: ints m := rfl
theorem ints_wide (l : List Int) : (∀ e ∈ ints l, e.length = 1) = True := by simp [ints]
attribute [go_sem] ints_length ints_wide ints_append

/-! Ty -/
inductive Ty where
  | mk (kind : Int) (args : List Ty)
namespace Ty
set_option linter.unusedSimpArgs false
set_option linter.unusedVariables false
set_option linter.unnecessarySimpa false
def kind : Ty → Int | .mk x _ => x
def args : Ty → List Ty | .mk _ x => x
theorem ind {p : Ty → Prop} (h : ∀ t : Ty, (∀ a ∈ t.args, p a) → p t) (t : Ty) : p t :=
  Ty.rec (motive_1 := p) (motive_2 := fun az => ∀ a ∈ az, p a) (fun v0 v1 ih => h (.mk v0 v1) ih) (fun a ha => by cases ha)
    (fun a r ha hr b hb => by
      rcases List.mem_cons.1 hb with rfl | hb
      · exact ha
      · exact hr b hb) t
def cells : Ty → List DV
  | .mk v0 v1 => [dint v0, .sl (all v1)]
where
  all : List Ty → List (List DV)
    | [] => []
    | a :: r => cells a :: all r
theorem all_map (az : List Ty) : cells.all az = az.map cells := by
  induction az with
  | nil => rfl
  | cons a r ih => simp [cells.all, ih]
theorem cells_eq (t : Ty) : t.cells = [dint t.kind, .sl (List.map cells t.args)] := by
  cases t with
  | mk v0 v1 => simp [cells, kind, args, all_map]
def dv (t : Ty) : DV := .agg t.cells
theorem fold (t : Ty) : DV.agg [dint t.kind, .sl (List.map Ty.cells t.args)] = t.dv := by rw [Ty.dv, Ty.cells_eq]
theorem cellsD_dv (t : Ty) : cellsD t.dv = [dint t.kind, .sl (List.map Ty.cells t.args)] := by rw [Ty.dv, cellsD, Ty.cells_eq]
theorem isCell_dv (t : Ty) : t.dv.isCell = false := rfl
theorem isAgg_dv (t : Ty) : t.dv.isAgg = true := rfl
theorem kind_mk (kind : Int) (args : List Ty) : (mk kind args).kind = kind := rfl
theorem args_mk (kind : Int) (args : List Ty) : (mk kind args).args = args := rfl
def fit : Ty → Prop
  | .mk v0 v1 => intOK .i64 v0 ∧ v1.length ≤ BIG ∧ fits v1
where
  fits : List Ty → Prop
    | [] => True
    | a :: r => fit a ∧ fits r
theorem fits_iff (az : List Ty) : fit.fits az ↔ ∀ a ∈ az, a.fit := by
  induction az with
  | nil => simp [fit.fits]
  | cons a r ih => simp [fit.fits, ih]
theorem fit_eq (t : Ty) : t.fit ↔ intOK .i64 t.kind ∧ t.args.length ≤ BIG ∧ ∀ a ∈ t.args, a.fit := by
  cases t with
  | mk v0 v1 => simp only [fit, fits_iff, kind, args]
theorem dv_fit (t : Ty) : t.dv.fit ↔ t.fit := by
  induction t using Ty.ind with
  | h t ih =>
    rw [fit_eq, ← fold]
    have hs : DV.fit (.sl (t.args.map cells)) ↔ t.args.length ≤ BIG ∧ ∀ a ∈ t.args, a.fit := by
      rw [slFit cells dv (fun _ => rfl)]
      exact and_congr Iff.rfl ⟨fun h a ha => (ih a ha).1 (h a ha), fun h a ha => (ih a ha).2 (h a ha)⟩
    rw [← hs]
    simp only [DV.fit, DV.fit.fits, primOK, intOK, and_true, and_assoc]
def same : Ty → Ty → Bool
  | .mk v0 v1, .mk w0 w1 => v0 == w0 && sames v1 w1
where
  sames : List Ty → List Ty → Bool
    | [], [] => true
    | a :: r, b :: t => same a b && sames r t
    | _, _ => false
theorem sames_iff (az bs : List Ty) : same.sames az bs = true ↔ az.length = bs.length ∧ ∀ (i : Nat) (a b : Ty), az[i]? = some a → bs[i]? = some b → a.same b = true :=
  samesIff same same.sames rfl (fun _ _ => rfl) (fun _ _ => rfl) (fun _ _ _ _ => rfl) az bs
theorem same_eq (a b : Ty) : a.same b = (a.kind == b.kind && same.sames a.args b.args) := by
  cases a; cases b; rfl
theorem same_iff (a b : Ty) : a.same b = true ↔ a = b := by
  induction a using Ty.ind generalizing b with
  | h a ih =>
    have hs : same.sames a.args b.args = true ↔ a.args = b.args := listSame (sames_iff _ _) ih
    rw [same_eq]
    simp only [Bool.and_eq_true, beq_iff_eq, hs]
    constructor
    · intro h
      cases a; cases b
      simp only [kind, args] at h
      simp_all
    · rintro rfl
      simp
end Ty
attribute [go_sem] Ty.cells_eq Ty.fold Ty.cellsD_dv Ty.isCell_dv Ty.isAgg_dv Ty.kind_mk Ty.args_mk

/-! Tm -/
inductive Tm where
  | mk (kind : Int) (index : Int) (type : Ty) (args : List Tm)
namespace Tm
set_option linter.unusedSimpArgs false
set_option linter.unusedVariables false
set_option linter.unnecessarySimpa false
def kind : Tm → Int | .mk x _ _ _ => x
def index : Tm → Int | .mk _ x _ _ => x
def type : Tm → Ty | .mk _ _ x _ => x
def args : Tm → List Tm | .mk _ _ _ x => x
theorem ind {p : Tm → Prop} (h : ∀ t : Tm, (∀ a ∈ t.args, p a) → p t) (t : Tm) : p t :=
  Tm.rec (motive_1 := p) (motive_2 := fun az => ∀ a ∈ az, p a) (fun v0 v1 v2 v3 ih => h (.mk v0 v1 v2 v3) ih) (fun a ha => by cases ha)
    (fun a r ha hr b hb => by
      rcases List.mem_cons.1 hb with rfl | hb
      · exact ha
      · exact hr b hb) t
def cells : Tm → List DV
  | .mk v0 v1 v2 v3 => [dint v0, dint v1, dint v2.kind, .sl (List.map Ty.cells v2.args), .sl (all v3)]
where
  all : List Tm → List (List DV)
    | [] => []
    | a :: r => cells a :: all r
theorem all_map (az : List Tm) : cells.all az = az.map cells := by
  induction az with
  | nil => rfl
  | cons a r ih => simp [cells.all, ih]
theorem cells_eq (t : Tm) : t.cells = [dint t.kind, dint t.index, dint t.type.kind, .sl (List.map Ty.cells t.type.args), .sl (List.map cells t.args)] := by
  cases t with
  | mk v0 v1 v2 v3 => simp [cells, kind, index, type, args, all_map]
def dv (t : Tm) : DV := .agg t.cells
theorem fold (t : Tm) : DV.agg [dint t.kind, dint t.index, dint t.type.kind, .sl (List.map Ty.cells t.type.args), .sl (List.map Tm.cells t.args)] = t.dv := by rw [Tm.dv, Tm.cells_eq]
theorem cellsD_dv (t : Tm) : cellsD t.dv = [dint t.kind, dint t.index, dint t.type.kind, .sl (List.map Ty.cells t.type.args), .sl (List.map Tm.cells t.args)] := by rw [Tm.dv, cellsD, Tm.cells_eq]
theorem isCell_dv (t : Tm) : t.dv.isCell = false := rfl
theorem isAgg_dv (t : Tm) : t.dv.isAgg = true := rfl
theorem kind_mk (kind : Int) (index : Int) (type : Ty) (args : List Tm) : (mk kind index type args).kind = kind := rfl
theorem index_mk (kind : Int) (index : Int) (type : Ty) (args : List Tm) : (mk kind index type args).index = index := rfl
theorem type_mk (kind : Int) (index : Int) (type : Ty) (args : List Tm) : (mk kind index type args).type = type := rfl
theorem args_mk (kind : Int) (index : Int) (type : Ty) (args : List Tm) : (mk kind index type args).args = args := rfl
def fit : Tm → Prop
  | .mk v0 v1 v2 v3 => intOK .i64 v0 ∧ intOK .i64 v1 ∧ v2.fit ∧ v3.length ≤ BIG ∧ fits v3
where
  fits : List Tm → Prop
    | [] => True
    | a :: r => fit a ∧ fits r
theorem fits_iff (az : List Tm) : fit.fits az ↔ ∀ a ∈ az, a.fit := by
  induction az with
  | nil => simp [fit.fits]
  | cons a r ih => simp [fit.fits, ih]
theorem fit_eq (t : Tm) : t.fit ↔ intOK .i64 t.kind ∧ intOK .i64 t.index ∧ t.type.fit ∧ t.args.length ≤ BIG ∧ ∀ a ∈ t.args, a.fit := by
  cases t with
  | mk v0 v1 v2 v3 => simp only [fit, fits_iff, kind, index, type, args]
theorem dv_fit (t : Tm) : t.dv.fit ↔ t.fit := by
  induction t using Tm.ind with
  | h t ih =>
    rw [fit_eq, ← fold]
    have hs : DV.fit (.sl (t.args.map cells)) ↔ t.args.length ≤ BIG ∧ ∀ a ∈ t.args, a.fit := by
      rw [slFit cells dv (fun _ => rfl)]
      exact and_congr Iff.rfl ⟨fun h a ha => (ih a ha).1 (h a ha), fun h a ha => (ih a ha).2 (h a ha)⟩
    have htype : DV.fit (dint t.type.kind) ∧ DV.fit (.sl (List.map Ty.cells t.type.args)) ↔ t.type.fit := by
      rw [← Ty.dv_fit, ← Ty.fold]
      simp only [DV.fit, DV.fit.fits, and_true, and_assoc]
    rw [← hs, ← htype]
    simp only [DV.fit, DV.fit.fits, primOK, intOK, and_true, and_assoc]
def same : Tm → Tm → Bool
  | .mk v0 v1 v2 v3, .mk w0 w1 w2 w3 => v0 == w0 && v1 == w1 && v2.same w2 && sames v3 w3
where
  sames : List Tm → List Tm → Bool
    | [], [] => true
    | a :: r, b :: t => same a b && sames r t
    | _, _ => false
theorem sames_iff (az bs : List Tm) : same.sames az bs = true ↔ az.length = bs.length ∧ ∀ (i : Nat) (a b : Tm), az[i]? = some a → bs[i]? = some b → a.same b = true :=
  samesIff same same.sames rfl (fun _ _ => rfl) (fun _ _ => rfl) (fun _ _ _ _ => rfl) az bs
theorem same_eq (a b : Tm) : a.same b = (a.kind == b.kind && a.index == b.index && a.type.same b.type && same.sames a.args b.args) := by
  cases a; cases b; rfl
theorem same_iff (a b : Tm) : a.same b = true ↔ a = b := by
  induction a using Tm.ind generalizing b with
  | h a ih =>
    have hs : same.sames a.args b.args = true ↔ a.args = b.args := listSame (sames_iff _ _) ih
    rw [same_eq]
    simp only [Bool.and_eq_true, beq_iff_eq, hs, Ty.same_iff]
    constructor
    · intro h
      cases a; cases b
      simp only [kind, index, type, args] at h
      simp_all
    · rintro rfl
      simp
end Tm
attribute [go_sem] Tm.cells_eq Tm.fold Tm.cellsD_dv Tm.isCell_dv Tm.isAgg_dv Tm.kind_mk Tm.index_mk Tm.type_mk Tm.args_mk

/-! Val -/
inductive Val where
  | mk (kind : Int) (num : Int) (list : List Int) (args : List Val)
namespace Val
set_option linter.unusedSimpArgs false
set_option linter.unusedVariables false
set_option linter.unnecessarySimpa false
def kind : Val → Int | .mk x _ _ _ => x
def num : Val → Int | .mk _ x _ _ => x
def list : Val → List Int | .mk _ _ x _ => x
def args : Val → List Val | .mk _ _ _ x => x
theorem ind {p : Val → Prop} (h : ∀ t : Val, (∀ a ∈ t.args, p a) → p t) (t : Val) : p t :=
  Val.rec (motive_1 := p) (motive_2 := fun az => ∀ a ∈ az, p a) (fun v0 v1 v2 v3 ih => h (.mk v0 v1 v2 v3) ih) (fun a ha => by cases ha)
    (fun a r ha hr b hb => by
      rcases List.mem_cons.1 hb with rfl | hb
      · exact ha
      · exact hr b hb) t
def cells : Val → List DV
  | .mk v0 v1 v2 v3 => [dint v0, dint v1, .sl (ints v2), .sl (all v3)]
where
  all : List Val → List (List DV)
    | [] => []
    | a :: r => cells a :: all r
theorem all_map (az : List Val) : cells.all az = az.map cells := by
  induction az with
  | nil => rfl
  | cons a r ih => simp [cells.all, ih]
theorem cells_eq (t : Val) : t.cells = [dint t.kind, dint t.num, .sl (ints t.list), .sl (List.map cells t.args)] := by
  cases t with
  | mk v0 v1 v2 v3 => simp [cells, kind, num, list, args, all_map]
def dv (t : Val) : DV := .agg t.cells
theorem fold (t : Val) : DV.agg [dint t.kind, dint t.num, .sl (ints t.list), .sl (List.map Val.cells t.args)] = t.dv := by rw [Val.dv, Val.cells_eq]
theorem cellsD_dv (t : Val) : cellsD t.dv = [dint t.kind, dint t.num, .sl (ints t.list), .sl (List.map Val.cells t.args)] := by rw [Val.dv, cellsD, Val.cells_eq]
theorem isCell_dv (t : Val) : t.dv.isCell = false := rfl
theorem isAgg_dv (t : Val) : t.dv.isAgg = true := rfl
theorem kind_mk (kind : Int) (num : Int) (list : List Int) (args : List Val) : (mk kind num list args).kind = kind := rfl
theorem num_mk (kind : Int) (num : Int) (list : List Int) (args : List Val) : (mk kind num list args).num = num := rfl
theorem list_mk (kind : Int) (num : Int) (list : List Int) (args : List Val) : (mk kind num list args).list = list := rfl
theorem args_mk (kind : Int) (num : Int) (list : List Int) (args : List Val) : (mk kind num list args).args = args := rfl
def fit : Val → Prop
  | .mk v0 v1 v2 v3 => intOK .i64 v0 ∧ intOK .i64 v1 ∧ (v2.length ≤ BIG ∧ ∀ n ∈ v2, intOK .i64 n) ∧ v3.length ≤ BIG ∧ fits v3
where
  fits : List Val → Prop
    | [] => True
    | a :: r => fit a ∧ fits r
theorem fits_iff (az : List Val) : fit.fits az ↔ ∀ a ∈ az, a.fit := by
  induction az with
  | nil => simp [fit.fits]
  | cons a r ih => simp [fit.fits, ih]
theorem fit_eq (t : Val) : t.fit ↔ intOK .i64 t.kind ∧ intOK .i64 t.num ∧ (t.list.length ≤ BIG ∧ ∀ n ∈ t.list, intOK .i64 n) ∧ t.args.length ≤ BIG ∧ ∀ a ∈ t.args, a.fit := by
  cases t with
  | mk v0 v1 v2 v3 => simp only [fit, fits_iff, kind, num, list, args]
theorem dv_fit (t : Val) : t.dv.fit ↔ t.fit := by
  induction t using Val.ind with
  | h t ih =>
    rw [fit_eq, ← fold]
    have hs : DV.fit (.sl (t.args.map cells)) ↔ t.args.length ≤ BIG ∧ ∀ a ∈ t.args, a.fit := by
      rw [slFit cells dv (fun _ => rfl)]
      exact and_congr Iff.rfl ⟨fun h a ha => (ih a ha).1 (h a ha), fun h a ha => (ih a ha).2 (h a ha)⟩
    rw [← hs]
    rw [← ints_fit t.list]
    simp only [DV.fit, DV.fit.fits, primOK, intOK, and_true, and_assoc]
def same : Val → Val → Bool
  | .mk v0 v1 v2 v3, .mk w0 w1 w2 w3 => v0 == w0 && v1 == w1 && v2 == w2 && sames v3 w3
where
  sames : List Val → List Val → Bool
    | [], [] => true
    | a :: r, b :: t => same a b && sames r t
    | _, _ => false
theorem sames_iff (az bs : List Val) : same.sames az bs = true ↔ az.length = bs.length ∧ ∀ (i : Nat) (a b : Val), az[i]? = some a → bs[i]? = some b → a.same b = true :=
  samesIff same same.sames rfl (fun _ _ => rfl) (fun _ _ => rfl) (fun _ _ _ _ => rfl) az bs
theorem same_eq (a b : Val) : a.same b = (a.kind == b.kind && a.num == b.num && a.list == b.list && same.sames a.args b.args) := by
  cases a; cases b; rfl
theorem same_iff (a b : Val) : a.same b = true ↔ a = b := by
  induction a using Val.ind generalizing b with
  | h a ih =>
    have hs : same.sames a.args b.args = true ↔ a.args = b.args := listSame (sames_iff _ _) ih
    rw [same_eq]
    simp only [Bool.and_eq_true, beq_iff_eq, hs]
    constructor
    · intro h
      cases a; cases b
      simp only [kind, num, list, args] at h
      simp_all
    · rintro rfl
      simp
end Val
attribute [go_sem] Val.cells_eq Val.fold Val.cellsD_dv Val.isCell_dv Val.isAgg_dv Val.kind_mk Val.num_mk Val.list_mk Val.args_mk

end Go.Proofs.YtmdjiajbnifjpaaDoor.Lift

/-
  Facts of the seat's types, printed by a program: each is proved by reckoning.
-/
namespace Go.Proofs.YtmdjiajbnifjpaaDoor.Lift
set_option linter.unusedVariables false
open Go

theorem mixed : Tryd.prog.follows .mixedOrders = true := by kernel_rfl
-- 0: ()
theorem lay0 : layT Tryd.prog 0 = some (false, 1) := by kernel_rfl
theorem con0 : concT Tryd.prog 0 = true := by kernel_rfl
-- 1: func()
theorem lay1 : layT Tryd.prog 1 = some (false, 1) := by kernel_rfl
theorem zer1 : zeroT Tryd.prog 1 = some [.v (.prim .nilFunc)] := by kernel_rfl
theorem con1 : concT Tryd.prog 1 = true := by kernel_rfl
-- 2: int64
theorem lay2 : layT Tryd.prog 2 = some (false, 1) := by kernel_rfl
theorem zer2 : zeroT Tryd.prog 2 = some [.v (.prim (.int .i64 (0)))] := by kernel_rfl
theorem zrp2 : zeroP Tryd.prog 2 = some (.int .i64 (0)) := by kernel_rfl
theorem con2 : concT Tryd.prog 2 = true := by kernel_rfl
theorem int2 : intT Tryd.prog 2 = some .i64 := by kernel_rfl
-- 3: int
theorem lay3 : layT Tryd.prog 3 = some (false, 1) := by kernel_rfl
theorem zer3 : zeroT Tryd.prog 3 = some [.v (.prim (.int .i64 (0)))] := by kernel_rfl
theorem zrp3 : zeroP Tryd.prog 3 = some (.int .i64 (0)) := by kernel_rfl
theorem con3 : concT Tryd.prog 3 = true := by kernel_rfl
theorem int3 : intT Tryd.prog 3 = some .i64 := by kernel_rfl
-- 4: bool
theorem lay4 : layT Tryd.prog 4 = some (false, 1) := by kernel_rfl
theorem zer4 : zeroT Tryd.prog 4 = some [.v (.prim (.bool false))] := by kernel_rfl
theorem boo4 : boolT Tryd.prog 4 = true := by kernel_rfl
theorem con4 : concT Tryd.prog 4 = true := by kernel_rfl
-- 5: uint8
theorem lay5 : layT Tryd.prog 5 = some (false, 1) := by kernel_rfl
theorem zer5 : zeroT Tryd.prog 5 = some [.v (.prim (.int .u8 (0)))] := by kernel_rfl
theorem zrp5 : zeroP Tryd.prog 5 = some (.int .u8 (0)) := by kernel_rfl
theorem con5 : concT Tryd.prog 5 = true := by kernel_rfl
theorem int5 : intT Tryd.prog 5 = some .u8 := by kernel_rfl
-- 6: abi.BoundsErrorCode
theorem lay6 : layT Tryd.prog 6 = some (false, 1) := by kernel_rfl
theorem zer6 : zeroT Tryd.prog 6 = some [.v (.prim (.int .u8 (0)))] := by kernel_rfl
theorem zrp6 : zeroP Tryd.prog 6 = some (.int .u8 (0)) := by kernel_rfl
theorem con6 : concT Tryd.prog 6 = true := by kernel_rfl
theorem int6 : intT Tryd.prog 6 = some .u8 := by kernel_rfl
-- 7: struct { x int64; y int; signed bool; code abi.BoundsErrorCode }
theorem lay7 : layT Tryd.prog 7 = some (true, 4) := by kernel_rfl
theorem zer7 : zeroT Tryd.prog 7 = some [.v (.prim (.int .i64 (0))), .v (.prim (.int .i64 (0))), .v (.prim (.bool false)), .v (.prim (.int .u8 (0)))] := by kernel_rfl
theorem pla7 : placesT Tryd.prog 7 = some [(0, 1), (1, 1), (2, 1), (3, 1)] := by kernel_rfl
theorem con7 : concT Tryd.prog 7 = true := by kernel_rfl
theorem fld7_0 : fieldT Tryd.prog 7 0 = some (false, 0, 1) := by kernel_rfl
theorem fld7_1 : fieldT Tryd.prog 7 1 = some (false, 1, 1) := by kernel_rfl
theorem fld7_2 : fieldT Tryd.prog 7 2 = some (false, 2, 1) := by kernel_rfl
theorem fld7_3 : fieldT Tryd.prog 7 3 = some (false, 3, 1) := by kernel_rfl
-- 8: runtime.boundsError
theorem lay8 : layT Tryd.prog 8 = some (true, 4) := by kernel_rfl
theorem zer8 : zeroT Tryd.prog 8 = some [.v (.prim (.int .i64 (0))), .v (.prim (.int .i64 (0))), .v (.prim (.bool false)), .v (.prim (.int .u8 (0)))] := by kernel_rfl
theorem pla8 : placesT Tryd.prog 8 = some [(0, 1), (1, 1), (2, 1), (3, 1)] := by kernel_rfl
theorem con8 : concT Tryd.prog 8 = true := by kernel_rfl
theorem fld8_0 : fieldT Tryd.prog 8 0 = some (false, 0, 1) := by kernel_rfl
theorem fld8_1 : fieldT Tryd.prog 8 1 = some (false, 1, 1) := by kernel_rfl
theorem fld8_2 : fieldT Tryd.prog 8 2 = some (false, 2, 1) := by kernel_rfl
theorem fld8_3 : fieldT Tryd.prog 8 3 = some (false, 3, 1) := by kernel_rfl
-- 9: string
theorem lay9 : layT Tryd.prog 9 = some (false, 1) := by kernel_rfl
theorem zer9 : zeroT Tryd.prog 9 = some [.v (.prim (.string ByteArray.empty))] := by kernel_rfl
theorem con9 : concT Tryd.prog 9 = true := by kernel_rfl
-- 10: runtime.errorString
theorem lay10 : layT Tryd.prog 10 = some (false, 1) := by kernel_rfl
theorem zer10 : zeroT Tryd.prog 10 = some [.v (.prim (.string ByteArray.empty))] := by kernel_rfl
theorem con10 : concT Tryd.prog 10 = true := by kernel_rfl
-- 11: runtime.plainError
theorem lay11 : layT Tryd.prog 11 = some (false, 1) := by kernel_rfl
theorem zer11 : zeroT Tryd.prog 11 = some [.v (.prim (.string ByteArray.empty))] := by kernel_rfl
theorem con11 : concT Tryd.prog 11 = true := by kernel_rfl
-- 12: uintptr
theorem lay12 : layT Tryd.prog 12 = some (false, 1) := by kernel_rfl
theorem zer12 : zeroT Tryd.prog 12 = some [.v (.prim (.int .u64 (0)))] := by kernel_rfl
theorem zrp12 : zeroP Tryd.prog 12 = some (.int .u64 (0)) := by kernel_rfl
theorem con12 : concT Tryd.prog 12 = true := by kernel_rfl
theorem int12 : intT Tryd.prog 12 = some .u64 := by kernel_rfl
-- 13: struct { msg string; addr uintptr }
theorem lay13 : layT Tryd.prog 13 = some (true, 2) := by kernel_rfl
theorem zer13 : zeroT Tryd.prog 13 = some [.v (.prim (.string ByteArray.empty)), .v (.prim (.int .u64 (0)))] := by kernel_rfl
theorem pla13 : placesT Tryd.prog 13 = some [(0, 1), (1, 1)] := by kernel_rfl
theorem con13 : concT Tryd.prog 13 = true := by kernel_rfl
theorem fld13_0 : fieldT Tryd.prog 13 0 = some (false, 0, 1) := by kernel_rfl
theorem fld13_1 : fieldT Tryd.prog 13 1 = some (false, 1, 1) := by kernel_rfl
-- 14: runtime.errorAddressString
theorem lay14 : layT Tryd.prog 14 = some (true, 2) := by kernel_rfl
theorem zer14 : zeroT Tryd.prog 14 = some [.v (.prim (.string ByteArray.empty)), .v (.prim (.int .u64 (0)))] := by kernel_rfl
theorem pla14 : placesT Tryd.prog 14 = some [(0, 1), (1, 1)] := by kernel_rfl
theorem con14 : concT Tryd.prog 14 = true := by kernel_rfl
theorem fld14_0 : fieldT Tryd.prog 14 0 = some (false, 0, 1) := by kernel_rfl
theorem fld14_1 : fieldT Tryd.prog 14 1 = some (false, 1, 1) := by kernel_rfl
-- 15: *runtime.TypeAssertionError
theorem lay15 : layT Tryd.prog 15 = some (false, 1) := by kernel_rfl
theorem zer15 : zeroT Tryd.prog 15 = some [.v (.prim (.pointer none))] := by kernel_rfl
theorem ptr15 : ptrT Tryd.prog 15 = true := by kernel_rfl
theorem zrp15 : zeroP Tryd.prog 15 = some (.pointer none) := by kernel_rfl
theorem con15 : concT Tryd.prog 15 = true := by kernel_rfl
-- 16: *runtime.PanicNilError
theorem lay16 : layT Tryd.prog 16 = some (false, 1) := by kernel_rfl
theorem zer16 : zeroT Tryd.prog 16 = some [.v (.prim (.pointer none))] := by kernel_rfl
theorem ptr16 : ptrT Tryd.prog 16 = true := by kernel_rfl
theorem zrp16 : zeroP Tryd.prog 16 = some (.pointer none) := by kernel_rfl
theorem con16 : concT Tryd.prog 16 = true := by kernel_rfl
-- 17: *abi.Type
theorem lay17 : layT Tryd.prog 17 = some (false, 1) := by kernel_rfl
theorem zer17 : zeroT Tryd.prog 17 = some [.v (.prim (.pointer none))] := by kernel_rfl
theorem ptr17 : ptrT Tryd.prog 17 = true := by kernel_rfl
theorem zrp17 : zeroP Tryd.prog 17 = some (.pointer none) := by kernel_rfl
theorem con17 : concT Tryd.prog 17 = true := by kernel_rfl
-- 18: struct { typ *abi.Type }
theorem lay18 : layT Tryd.prog 18 = some (true, 1) := by kernel_rfl
theorem zer18 : zeroT Tryd.prog 18 = some [.v (.prim (.pointer none))] := by kernel_rfl
theorem pla18 : placesT Tryd.prog 18 = some [(0, 1)] := by kernel_rfl
theorem con18 : concT Tryd.prog 18 = true := by kernel_rfl
theorem fld18_0 : fieldT Tryd.prog 18 0 = some (false, 0, 1) := by kernel_rfl
-- 19: maps.unhashableTypeError
theorem lay19 : layT Tryd.prog 19 = some (true, 1) := by kernel_rfl
theorem zer19 : zeroT Tryd.prog 19 = some [.v (.prim (.pointer none))] := by kernel_rfl
theorem pla19 : placesT Tryd.prog 19 = some [(0, 1)] := by kernel_rfl
theorem con19 : concT Tryd.prog 19 = true := by kernel_rfl
theorem fld19_0 : fieldT Tryd.prog 19 0 = some (false, 0, 1) := by kernel_rfl
-- 20: interface {}
theorem lay20 : layT Tryd.prog 20 = some (false, 1) := by kernel_rfl
theorem zer20 : zeroT Tryd.prog 20 = some [.v (.prim .nilIface)] := by kernel_rfl
-- 21: int32
theorem lay21 : layT Tryd.prog 21 = some (false, 1) := by kernel_rfl
theorem zer21 : zeroT Tryd.prog 21 = some [.v (.prim (.int .i32 (0)))] := by kernel_rfl
theorem zrp21 : zeroP Tryd.prog 21 = some (.int .i32 (0)) := by kernel_rfl
theorem con21 : concT Tryd.prog 21 = true := by kernel_rfl
theorem int21 : intT Tryd.prog 21 = some .i32 := by kernel_rfl
-- 22: []int
theorem lay22 : layT Tryd.prog 22 = some (false, 1) := by kernel_rfl
theorem zer22 : zeroT Tryd.prog 22 = some [.own 0 []] := by kernel_rfl
theorem ele22 : elemT Tryd.prog 22 = some 1 := by kernel_rfl
theorem elz22 : elemZ Tryd.prog 22 = some (1, 8) := by kernel_rfl
theorem con22 : concT Tryd.prog 22 = true := by kernel_rfl
-- 23: []api.Type
theorem lay23 : layT Tryd.prog 23 = some (false, 1) := by kernel_rfl
theorem zer23 : zeroT Tryd.prog 23 = some [.own 0 []] := by kernel_rfl
theorem ele23 : elemT Tryd.prog 23 = some 2 := by kernel_rfl
theorem elz23 : elemZ Tryd.prog 23 = some (2, 32) := by kernel_rfl
theorem con23 : concT Tryd.prog 23 = true := by kernel_rfl
-- 24: struct { Kind int; Args []api.Type }
theorem lay24 : layT Tryd.prog 24 = some (true, 2) := by kernel_rfl
theorem zer24 : zeroT Tryd.prog 24 = some [.v (.prim (.int .i64 (0))), .own 0 []] := by kernel_rfl
theorem pla24 : placesT Tryd.prog 24 = some [(0, 1), (1, 1)] := by kernel_rfl
theorem con24 : concT Tryd.prog 24 = true := by kernel_rfl
theorem fld24_0 : fieldT Tryd.prog 24 0 = some (false, 0, 1) := by kernel_rfl
theorem fld24_1 : fieldT Tryd.prog 24 1 = some (false, 1, 1) := by kernel_rfl
-- 25: api.Type
theorem lay25 : layT Tryd.prog 25 = some (true, 2) := by kernel_rfl
theorem zer25 : zeroT Tryd.prog 25 = some [.v (.prim (.int .i64 (0))), .own 0 []] := by kernel_rfl
theorem pla25 : placesT Tryd.prog 25 = some [(0, 1), (1, 1)] := by kernel_rfl
theorem con25 : concT Tryd.prog 25 = true := by kernel_rfl
theorem fld25_0 : fieldT Tryd.prog 25 0 = some (false, 0, 1) := by kernel_rfl
theorem fld25_1 : fieldT Tryd.prog 25 1 = some (false, 1, 1) := by kernel_rfl
-- 26: []api.Term
theorem lay26 : layT Tryd.prog 26 = some (false, 1) := by kernel_rfl
theorem zer26 : zeroT Tryd.prog 26 = some [.own 0 []] := by kernel_rfl
theorem ele26 : elemT Tryd.prog 26 = some 5 := by kernel_rfl
theorem elz26 : elemZ Tryd.prog 26 = some (5, 72) := by kernel_rfl
theorem con26 : concT Tryd.prog 26 = true := by kernel_rfl
-- 27: struct { Kind int; Index int; Type api.Type; Args []api.Term }
theorem lay27 : layT Tryd.prog 27 = some (true, 5) := by kernel_rfl
theorem zer27 : zeroT Tryd.prog 27 = some [.v (.prim (.int .i64 (0))), .v (.prim (.int .i64 (0))), .v (.prim (.int .i64 (0))), .own 0 [], .own 0 []] := by kernel_rfl
theorem pla27 : placesT Tryd.prog 27 = some [(0, 1), (1, 1), (2, 2), (4, 1)] := by kernel_rfl
theorem con27 : concT Tryd.prog 27 = true := by kernel_rfl
theorem fld27_0 : fieldT Tryd.prog 27 0 = some (false, 0, 1) := by kernel_rfl
theorem fld27_1 : fieldT Tryd.prog 27 1 = some (false, 1, 1) := by kernel_rfl
theorem fld27_2 : fieldT Tryd.prog 27 2 = some (true, 2, 2) := by kernel_rfl
theorem fld27_3 : fieldT Tryd.prog 27 3 = some (false, 4, 1) := by kernel_rfl
-- 28: api.Term
theorem lay28 : layT Tryd.prog 28 = some (true, 5) := by kernel_rfl
theorem zer28 : zeroT Tryd.prog 28 = some [.v (.prim (.int .i64 (0))), .v (.prim (.int .i64 (0))), .v (.prim (.int .i64 (0))), .own 0 [], .own 0 []] := by kernel_rfl
theorem pla28 : placesT Tryd.prog 28 = some [(0, 1), (1, 1), (2, 2), (4, 1)] := by kernel_rfl
theorem con28 : concT Tryd.prog 28 = true := by kernel_rfl
theorem fld28_0 : fieldT Tryd.prog 28 0 = some (false, 0, 1) := by kernel_rfl
theorem fld28_1 : fieldT Tryd.prog 28 1 = some (false, 1, 1) := by kernel_rfl
theorem fld28_2 : fieldT Tryd.prog 28 2 = some (true, 2, 2) := by kernel_rfl
theorem fld28_3 : fieldT Tryd.prog 28 3 = some (false, 4, 1) := by kernel_rfl
-- 29: []api.Instr
theorem lay29 : layT Tryd.prog 29 = some (false, 1) := by kernel_rfl
theorem zer29 : zeroT Tryd.prog 29 = some [.own 0 []] := by kernel_rfl
theorem ele29 : elemT Tryd.prog 29 = some 2 := by kernel_rfl
theorem elz29 : elemZ Tryd.prog 29 = some (2, 16) := by kernel_rfl
theorem con29 : concT Tryd.prog 29 = true := by kernel_rfl
-- 30: func() bool
theorem lay30 : layT Tryd.prog 30 = some (false, 1) := by kernel_rfl
theorem zer30 : zeroT Tryd.prog 30 = some [.v (.prim .nilFunc)] := by kernel_rfl
theorem con30 : concT Tryd.prog 30 = true := by kernel_rfl
-- 31: func([]int) bool
theorem lay31 : layT Tryd.prog 31 = some (false, 1) := by kernel_rfl
theorem zer31 : zeroT Tryd.prog 31 = some [.v (.prim .nilFunc)] := by kernel_rfl
theorem con31 : concT Tryd.prog 31 = true := by kernel_rfl
-- 32: struct { N int }
theorem lay32 : layT Tryd.prog 32 = some (true, 1) := by kernel_rfl
theorem zer32 : zeroT Tryd.prog 32 = some [.v (.prim (.int .i64 (0)))] := by kernel_rfl
theorem pla32 : placesT Tryd.prog 32 = some [(0, 1)] := by kernel_rfl
theorem con32 : concT Tryd.prog 32 = true := by kernel_rfl
theorem fld32_0 : fieldT Tryd.prog 32 0 = some (false, 0, 1) := by kernel_rfl
-- 33: proofprogramsplay.Sum
theorem lay33 : layT Tryd.prog 33 = some (true, 1) := by kernel_rfl
theorem zer33 : zeroT Tryd.prog 33 = some [.v (.prim (.int .i64 (0)))] := by kernel_rfl
theorem pla33 : placesT Tryd.prog 33 = some [(0, 1)] := by kernel_rfl
theorem con33 : concT Tryd.prog 33 = true := by kernel_rfl
theorem fld33_0 : fieldT Tryd.prog 33 0 = some (false, 0, 1) := by kernel_rfl
-- 34: func() proofprogramsplay.Sum
theorem lay34 : layT Tryd.prog 34 = some (false, 1) := by kernel_rfl
theorem zer34 : zeroT Tryd.prog 34 = some [.v (.prim .nilFunc)] := by kernel_rfl
theorem con34 : concT Tryd.prog 34 = true := by kernel_rfl
-- 35: func(...api.Term) proofprogramsplay.Sum
theorem lay35 : layT Tryd.prog 35 = some (false, 1) := by kernel_rfl
theorem zer35 : zeroT Tryd.prog 35 = some [.v (.prim .nilFunc)] := by kernel_rfl
theorem con35 : concT Tryd.prog 35 = true := by kernel_rfl
-- 36: *proofprogramsmake.Deck
theorem lay36 : layT Tryd.prog 36 = some (false, 1) := by kernel_rfl
theorem zer36 : zeroT Tryd.prog 36 = some [.v (.prim (.pointer none))] := by kernel_rfl
theorem ptr36 : ptrT Tryd.prog 36 = true := by kernel_rfl
theorem zrp36 : zeroP Tryd.prog 36 = some (.pointer none) := by kernel_rfl
theorem con36 : concT Tryd.prog 36 = true := by kernel_rfl
-- 37: func([]int) *proofprogramsmake.Deck
theorem lay37 : layT Tryd.prog 37 = some (false, 1) := by kernel_rfl
theorem zer37 : zeroT Tryd.prog 37 = some [.v (.prim .nilFunc)] := by kernel_rfl
theorem con37 : concT Tryd.prog 37 = true := by kernel_rfl
-- 38: func(*proofprogramsmake.Deck, []api.Type, api.Type, int) api.Term
theorem lay38 : layT Tryd.prog 38 = some (false, 1) := by kernel_rfl
theorem zer38 : zeroT Tryd.prog 38 = some [.v (.prim .nilFunc)] := by kernel_rfl
theorem con38 : concT Tryd.prog 38 = true := by kernel_rfl
-- 39: func(*proofprogramsmake.Deck) []api.Type
theorem lay39 : layT Tryd.prog 39 = some (false, 1) := by kernel_rfl
theorem zer39 : zeroT Tryd.prog 39 = some [.v (.prim .nilFunc)] := by kernel_rfl
theorem con39 : concT Tryd.prog 39 = true := by kernel_rfl
-- 40: func(*proofprogramsmake.Deck, int) api.Type
theorem lay40 : layT Tryd.prog 40 = some (false, 1) := by kernel_rfl
theorem zer40 : zeroT Tryd.prog 40 = some [.v (.prim .nilFunc)] := by kernel_rfl
theorem con40 : concT Tryd.prog 40 = true := by kernel_rfl
-- 41: api.Errno
theorem lay41 : layT Tryd.prog 41 = some (false, 1) := by kernel_rfl
theorem zer41 : zeroT Tryd.prog 41 = some [.v (.prim (.int .i64 (0)))] := by kernel_rfl
theorem zrp41 : zeroP Tryd.prog 41 = some (.int .i64 (0)) := by kernel_rfl
theorem con41 : concT Tryd.prog 41 = true := by kernel_rfl
theorem int41 : intT Tryd.prog 41 = some .i64 := by kernel_rfl
-- 42: ([]api.Instr, api.Errno)
theorem lay42 : layT Tryd.prog 42 = some (false, 1) := by kernel_rfl
theorem con42 : concT Tryd.prog 42 = true := by kernel_rfl
-- 43: func(api.Term) ([]api.Instr, api.Errno)
theorem lay43 : layT Tryd.prog 43 = some (false, 1) := by kernel_rfl
theorem zer43 : zeroT Tryd.prog 43 = some [.v (.prim .nilFunc)] := by kernel_rfl
theorem con43 : concT Tryd.prog 43 = true := by kernel_rfl
-- 44: func([]api.Instr, []api.Instr) bool
theorem lay44 : layT Tryd.prog 44 = some (false, 1) := by kernel_rfl
theorem zer44 : zeroT Tryd.prog 44 = some [.v (.prim .nilFunc)] := by kernel_rfl
theorem con44 : concT Tryd.prog 44 = true := by kernel_rfl
-- 45: struct { Op int; A int }
theorem lay45 : layT Tryd.prog 45 = some (true, 2) := by kernel_rfl
theorem zer45 : zeroT Tryd.prog 45 = some [.v (.prim (.int .i64 (0))), .v (.prim (.int .i64 (0)))] := by kernel_rfl
theorem pla45 : placesT Tryd.prog 45 = some [(0, 1), (1, 1)] := by kernel_rfl
theorem con45 : concT Tryd.prog 45 = true := by kernel_rfl
theorem fld45_0 : fieldT Tryd.prog 45 0 = some (false, 0, 1) := by kernel_rfl
theorem fld45_1 : fieldT Tryd.prog 45 1 = some (false, 1, 1) := by kernel_rfl
-- 46: api.Instr
theorem lay46 : layT Tryd.prog 46 = some (true, 2) := by kernel_rfl
theorem zer46 : zeroT Tryd.prog 46 = some [.v (.prim (.int .i64 (0))), .v (.prim (.int .i64 (0)))] := by kernel_rfl
theorem pla46 : placesT Tryd.prog 46 = some [(0, 1), (1, 1)] := by kernel_rfl
theorem con46 : concT Tryd.prog 46 = true := by kernel_rfl
theorem fld46_0 : fieldT Tryd.prog 46 0 = some (false, 0, 1) := by kernel_rfl
theorem fld46_1 : fieldT Tryd.prog 46 1 = some (false, 1, 1) := by kernel_rfl
-- 47: func(*proofprogramsmake.Deck) []api.Instr
theorem lay47 : layT Tryd.prog 47 = some (false, 1) := by kernel_rfl
theorem zer47 : zeroT Tryd.prog 47 = some [.v (.prim .nilFunc)] := by kernel_rfl
theorem con47 : concT Tryd.prog 47 = true := by kernel_rfl
-- 48: [][]api.Instr
theorem lay48 : layT Tryd.prog 48 = some (false, 1) := by kernel_rfl
theorem zer48 : zeroT Tryd.prog 48 = some [.own 0 []] := by kernel_rfl
theorem ele48 : elemT Tryd.prog 48 = some 1 := by kernel_rfl
theorem elz48 : elemZ Tryd.prog 48 = some (1, 24) := by kernel_rfl
theorem con48 : concT Tryd.prog 48 = true := by kernel_rfl
-- 49: (api.Term, api.Errno)
theorem lay49 : layT Tryd.prog 49 = some (false, 1) := by kernel_rfl
theorem con49 : concT Tryd.prog 49 = true := by kernel_rfl
-- 50: func([]api.Instr) (api.Term, api.Errno)
theorem lay50 : layT Tryd.prog 50 = some (false, 1) := by kernel_rfl
theorem zer50 : zeroT Tryd.prog 50 = some [.v (.prim .nilFunc)] := by kernel_rfl
theorem con50 : concT Tryd.prog 50 = true := by kernel_rfl
-- 51: func([]api.Instr) api.Errno
theorem lay51 : layT Tryd.prog 51 = some (false, 1) := by kernel_rfl
theorem zer51 : zeroT Tryd.prog 51 = some [.v (.prim .nilFunc)] := by kernel_rfl
theorem con51 : concT Tryd.prog 51 = true := by kernel_rfl
-- 52: func(api.Term, api.Term) bool
theorem lay52 : layT Tryd.prog 52 = some (false, 1) := by kernel_rfl
theorem zer52 : zeroT Tryd.prog 52 = some [.v (.prim .nilFunc)] := by kernel_rfl
theorem con52 : concT Tryd.prog 52 = true := by kernel_rfl
-- 53: func([]int, api.Term, []api.Instr) bool
theorem lay53 : layT Tryd.prog 53 = some (false, 1) := by kernel_rfl
theorem zer53 : zeroT Tryd.prog 53 = some [.v (.prim .nilFunc)] := by kernel_rfl
theorem con53 : concT Tryd.prog 53 = true := by kernel_rfl
-- 54: (int, api.Errno)
theorem lay54 : layT Tryd.prog 54 = some (false, 1) := by kernel_rfl
theorem con54 : concT Tryd.prog 54 = true := by kernel_rfl
-- 55: func(api.Term) (int, api.Errno)
theorem lay55 : layT Tryd.prog 55 = some (false, 1) := by kernel_rfl
theorem zer55 : zeroT Tryd.prog 55 = some [.v (.prim .nilFunc)] := by kernel_rfl
theorem con55 : concT Tryd.prog 55 = true := by kernel_rfl
-- 56: func(api.Term) api.Term
theorem lay56 : layT Tryd.prog 56 = some (false, 1) := by kernel_rfl
theorem zer56 : zeroT Tryd.prog 56 = some [.v (.prim .nilFunc)] := by kernel_rfl
theorem con56 : concT Tryd.prog 56 = true := by kernel_rfl
-- 57: func(int) int
theorem lay57 : layT Tryd.prog 57 = some (false, 1) := by kernel_rfl
theorem zer57 : zeroT Tryd.prog 57 = some [.v (.prim .nilFunc)] := by kernel_rfl
theorem con57 : concT Tryd.prog 57 = true := by kernel_rfl
-- 58: func(api.Errno) bool
theorem lay58 : layT Tryd.prog 58 = some (false, 1) := by kernel_rfl
theorem zer58 : zeroT Tryd.prog 58 = some [.v (.prim .nilFunc)] := by kernel_rfl
theorem con58 : concT Tryd.prog 58 = true := by kernel_rfl
-- 59: func(int, ...api.Term) api.Term
theorem lay59 : layT Tryd.prog 59 = some (false, 1) := by kernel_rfl
theorem zer59 : zeroT Tryd.prog 59 = some [.v (.prim .nilFunc)] := by kernel_rfl
theorem con59 : concT Tryd.prog 59 = true := by kernel_rfl
-- 60: func(api.Term, int) int
theorem lay60 : layT Tryd.prog 60 = some (false, 1) := by kernel_rfl
theorem zer60 : zeroT Tryd.prog 60 = some [.v (.prim .nilFunc)] := by kernel_rfl
theorem con60 : concT Tryd.prog 60 = true := by kernel_rfl
-- 61: struct { L []int; At int }
theorem lay61 : layT Tryd.prog 61 = some (true, 2) := by kernel_rfl
theorem zer61 : zeroT Tryd.prog 61 = some [.own 0 [], .v (.prim (.int .i64 (0)))] := by kernel_rfl
theorem pla61 : placesT Tryd.prog 61 = some [(0, 1), (1, 1)] := by kernel_rfl
theorem con61 : concT Tryd.prog 61 = true := by kernel_rfl
theorem fld61_0 : fieldT Tryd.prog 61 0 = some (false, 0, 1) := by kernel_rfl
theorem fld61_1 : fieldT Tryd.prog 61 1 = some (false, 1, 1) := by kernel_rfl
-- 62: proofprogramsmake.Deck
theorem lay62 : layT Tryd.prog 62 = some (true, 2) := by kernel_rfl
theorem zer62 : zeroT Tryd.prog 62 = some [.own 0 [], .v (.prim (.int .i64 (0)))] := by kernel_rfl
theorem pla62 : placesT Tryd.prog 62 = some [(0, 1), (1, 1)] := by kernel_rfl
theorem con62 : concT Tryd.prog 62 = true := by kernel_rfl
theorem fld62_0 : fieldT Tryd.prog 62 0 = some (false, 0, 1) := by kernel_rfl
theorem fld62_1 : fieldT Tryd.prog 62 1 = some (false, 1, 1) := by kernel_rfl
-- 63: func([]api.Type, api.Type) []int
theorem lay63 : layT Tryd.prog 63 = some (false, 1) := by kernel_rfl
theorem zer63 : zeroT Tryd.prog 63 = some [.v (.prim .nilFunc)] := by kernel_rfl
theorem con63 : concT Tryd.prog 63 = true := by kernel_rfl
-- 64: func(int) api.Term
theorem lay64 : layT Tryd.prog 64 = some (false, 1) := by kernel_rfl
theorem zer64 : zeroT Tryd.prog 64 = some [.v (.prim .nilFunc)] := by kernel_rfl
theorem con64 : concT Tryd.prog 64 = true := by kernel_rfl
-- 65: func(int, api.Type, ...api.Term) api.Term
theorem lay65 : layT Tryd.prog 65 = some (false, 1) := by kernel_rfl
theorem zer65 : zeroT Tryd.prog 65 = some [.v (.prim .nilFunc)] := by kernel_rfl
theorem con65 : concT Tryd.prog 65 = true := by kernel_rfl
-- 66: func([]api.Type, ...api.Type) []api.Type
theorem lay66 : layT Tryd.prog 66 = some (false, 1) := by kernel_rfl
theorem zer66 : zeroT Tryd.prog 66 = some [.v (.prim .nilFunc)] := by kernel_rfl
theorem con66 : concT Tryd.prog 66 = true := by kernel_rfl
-- 67: func() api.Type
theorem lay67 : layT Tryd.prog 67 = some (false, 1) := by kernel_rfl
theorem zer67 : zeroT Tryd.prog 67 = some [.v (.prim .nilFunc)] := by kernel_rfl
theorem con67 : concT Tryd.prog 67 = true := by kernel_rfl
-- 68: func(api.Type, api.Type) bool
theorem lay68 : layT Tryd.prog 68 = some (false, 1) := by kernel_rfl
theorem zer68 : zeroT Tryd.prog 68 = some [.v (.prim .nilFunc)] := by kernel_rfl
theorem con68 : concT Tryd.prog 68 = true := by kernel_rfl
-- 69: func(api.Term, ...api.Term) api.Term
theorem lay69 : layT Tryd.prog 69 = some (false, 1) := by kernel_rfl
theorem zer69 : zeroT Tryd.prog 69 = some [.v (.prim .nilFunc)] := by kernel_rfl
theorem con69 : concT Tryd.prog 69 = true := by kernel_rfl
-- 70: func() api.Term
theorem lay70 : layT Tryd.prog 70 = some (false, 1) := by kernel_rfl
theorem zer70 : zeroT Tryd.prog 70 = some [.v (.prim .nilFunc)] := by kernel_rfl
theorem con70 : concT Tryd.prog 70 = true := by kernel_rfl
-- 71: func(api.Type, api.Type) api.Type
theorem lay71 : layT Tryd.prog 71 = some (false, 1) := by kernel_rfl
theorem zer71 : zeroT Tryd.prog 71 = some [.v (.prim .nilFunc)] := by kernel_rfl
theorem con71 : concT Tryd.prog 71 = true := by kernel_rfl
-- 72: func(api.Term) api.Errno
theorem lay72 : layT Tryd.prog 72 = some (false, 1) := by kernel_rfl
theorem zer72 : zeroT Tryd.prog 72 = some [.v (.prim .nilFunc)] := by kernel_rfl
theorem con72 : concT Tryd.prog 72 = true := by kernel_rfl
-- 73: func(api.Term)
theorem lay73 : layT Tryd.prog 73 = some (false, 1) := by kernel_rfl
theorem zer73 : zeroT Tryd.prog 73 = some [.v (.prim .nilFunc)] := by kernel_rfl
theorem con73 : concT Tryd.prog 73 = true := by kernel_rfl
-- 74: *proofprogramsref37.maker
theorem lay74 : layT Tryd.prog 74 = some (false, 1) := by kernel_rfl
theorem zer74 : zeroT Tryd.prog 74 = some [.v (.prim (.pointer none))] := by kernel_rfl
theorem ptr74 : ptrT Tryd.prog 74 = true := by kernel_rfl
theorem zrp74 : zeroP Tryd.prog 74 = some (.pointer none) := by kernel_rfl
theorem con74 : concT Tryd.prog 74 = true := by kernel_rfl
-- 75: struct { code []api.Instr; bodies []api.Term; places []int }
theorem lay75 : layT Tryd.prog 75 = some (true, 3) := by kernel_rfl
theorem zer75 : zeroT Tryd.prog 75 = some [.own 0 [], .own 0 [], .own 0 []] := by kernel_rfl
theorem pla75 : placesT Tryd.prog 75 = some [(0, 1), (1, 1), (2, 1)] := by kernel_rfl
theorem con75 : concT Tryd.prog 75 = true := by kernel_rfl
theorem fld75_0 : fieldT Tryd.prog 75 0 = some (false, 0, 1) := by kernel_rfl
theorem fld75_1 : fieldT Tryd.prog 75 1 = some (false, 1, 1) := by kernel_rfl
theorem fld75_2 : fieldT Tryd.prog 75 2 = some (false, 2, 1) := by kernel_rfl
-- 76: proofprogramsref37.maker
theorem lay76 : layT Tryd.prog 76 = some (true, 3) := by kernel_rfl
theorem zer76 : zeroT Tryd.prog 76 = some [.own 0 [], .own 0 [], .own 0 []] := by kernel_rfl
theorem pla76 : placesT Tryd.prog 76 = some [(0, 1), (1, 1), (2, 1)] := by kernel_rfl
theorem con76 : concT Tryd.prog 76 = true := by kernel_rfl
theorem fld76_0 : fieldT Tryd.prog 76 0 = some (false, 0, 1) := by kernel_rfl
theorem fld76_1 : fieldT Tryd.prog 76 1 = some (false, 1, 1) := by kernel_rfl
theorem fld76_2 : fieldT Tryd.prog 76 2 = some (false, 2, 1) := by kernel_rfl
-- 77: func(int, int)
theorem lay77 : layT Tryd.prog 77 = some (false, 1) := by kernel_rfl
theorem zer77 : zeroT Tryd.prog 77 = some [.v (.prim .nilFunc)] := by kernel_rfl
theorem con77 : concT Tryd.prog 77 = true := by kernel_rfl
-- 78: (api.Term, api.Type)
theorem lay78 : layT Tryd.prog 78 = some (false, 1) := by kernel_rfl
theorem con78 : concT Tryd.prog 78 = true := by kernel_rfl
-- 79: func(*proofprogramsmake.Deck) (api.Term, api.Type)
theorem lay79 : layT Tryd.prog 79 = some (false, 1) := by kernel_rfl
theorem zer79 : zeroT Tryd.prog 79 = some [.v (.prim .nilFunc)] := by kernel_rfl
theorem con79 : concT Tryd.prog 79 = true := by kernel_rfl
-- 80: ([]int, bool)
theorem lay80 : layT Tryd.prog 80 = some (false, 1) := by kernel_rfl
theorem con80 : concT Tryd.prog 80 = true := by kernel_rfl
-- 81: func([]api.Instr) ([]int, bool)
theorem lay81 : layT Tryd.prog 81 = some (false, 1) := by kernel_rfl
theorem zer81 : zeroT Tryd.prog 81 = some [.v (.prim .nilFunc)] := by kernel_rfl
theorem con81 : concT Tryd.prog 81 = true := by kernel_rfl
-- 82: map[int]api.Term
theorem lay82 : layT Tryd.prog 82 = some (false, 1) := by kernel_rfl
theorem zer82 : zeroT Tryd.prog 82 = some [.v (.prim (.map none))] := by kernel_rfl
theorem con82 : concT Tryd.prog 82 = true := by kernel_rfl
-- 83: struct { takes int; term int }
theorem lay83 : layT Tryd.prog 83 = some (true, 2) := by kernel_rfl
theorem zer83 : zeroT Tryd.prog 83 = some [.v (.prim (.int .i64 (0))), .v (.prim (.int .i64 (0)))] := by kernel_rfl
theorem pla83 : placesT Tryd.prog 83 = some [(0, 1), (1, 1)] := by kernel_rfl
theorem con83 : concT Tryd.prog 83 = true := by kernel_rfl
theorem fld83_0 : fieldT Tryd.prog 83 0 = some (false, 0, 1) := by kernel_rfl
theorem fld83_1 : fieldT Tryd.prog 83 1 = some (false, 1, 1) := by kernel_rfl
-- 84: code.op
theorem lay84 : layT Tryd.prog 84 = some (true, 2) := by kernel_rfl
theorem zer84 : zeroT Tryd.prog 84 = some [.v (.prim (.int .i64 (0))), .v (.prim (.int .i64 (0)))] := by kernel_rfl
theorem pla84 : placesT Tryd.prog 84 = some [(0, 1), (1, 1)] := by kernel_rfl
theorem con84 : concT Tryd.prog 84 = true := by kernel_rfl
theorem fld84_0 : fieldT Tryd.prog 84 0 = some (false, 0, 1) := by kernel_rfl
theorem fld84_1 : fieldT Tryd.prog 84 1 = some (false, 1, 1) := by kernel_rfl
-- 85: [14]code.op
theorem lay85 : layT Tryd.prog 85 = some (true, 28) := by kernel_rfl
theorem zer85 : zeroT Tryd.prog 85 = some [.v (.prim (.int .i64 (0))), .v (.prim (.int .i64 (0))), .v (.prim (.int .i64 (0))), .v (.prim (.int .i64 (0))), .v (.prim (.int .i64 (0))), .v (.prim (.int .i64 (0))), .v (.prim (.int .i64 (0))), .v (.prim (.int .i64 (0))), .v (.prim (.int .i64 (0))), .v (.prim (.int .i64 (0))), .v (.prim (.int .i64 (0))), .v (.prim (.int .i64 (0))), .v (.prim (.int .i64 (0))), .v (.prim (.int .i64 (0))), .v (.prim (.int .i64 (0))), .v (.prim (.int .i64 (0))), .v (.prim (.int .i64 (0))), .v (.prim (.int .i64 (0))), .v (.prim (.int .i64 (0))), .v (.prim (.int .i64 (0))), .v (.prim (.int .i64 (0))), .v (.prim (.int .i64 (0))), .v (.prim (.int .i64 (0))), .v (.prim (.int .i64 (0))), .v (.prim (.int .i64 (0))), .v (.prim (.int .i64 (0))), .v (.prim (.int .i64 (0))), .v (.prim (.int .i64 (0)))] := by kernel_rfl
theorem eln85 : elemT Tryd.prog 85 = none := by kernel_rfl
theorem arr85 : arrT Tryd.prog 85 = some (14, 2) := by kernel_rfl
theorem pla85 : placesT Tryd.prog 85 = some [(0, 2), (2, 2), (4, 2), (6, 2), (8, 2), (10, 2), (12, 2), (14, 2), (16, 2), (18, 2), (20, 2), (22, 2), (24, 2), (26, 2)] := by kernel_rfl
theorem con85 : concT Tryd.prog 85 = true := by kernel_rfl
-- 86: (api.Term, bool)
theorem lay86 : layT Tryd.prog 86 = some (false, 1) := by kernel_rfl
theorem con86 : concT Tryd.prog 86 = true := by kernel_rfl
-- 87: func([]api.Instr, int) (api.Term, bool)
theorem lay87 : layT Tryd.prog 87 = some (false, 1) := by kernel_rfl
theorem zer87 : zeroT Tryd.prog 87 = some [.v (.prim .nilFunc)] := by kernel_rfl
theorem con87 : concT Tryd.prog 87 = true := by kernel_rfl
-- 88: func([]api.Instr) bool
theorem lay88 : layT Tryd.prog 88 = some (false, 1) := by kernel_rfl
theorem zer88 : zeroT Tryd.prog 88 = some [.v (.prim .nilFunc)] := by kernel_rfl
theorem con88 : concT Tryd.prog 88 = true := by kernel_rfl
-- 89: func(api.Term) int
theorem lay89 : layT Tryd.prog 89 = some (false, 1) := by kernel_rfl
theorem zer89 : zeroT Tryd.prog 89 = some [.v (.prim .nilFunc)] := by kernel_rfl
theorem con89 : concT Tryd.prog 89 = true := by kernel_rfl
-- 90: func(int, int) int
theorem lay90 : layT Tryd.prog 90 = some (false, 1) := by kernel_rfl
theorem zer90 : zeroT Tryd.prog 90 = some [.v (.prim .nilFunc)] := by kernel_rfl
theorem con90 : concT Tryd.prog 90 = true := by kernel_rfl
-- 91: func(api.Type, int) int
theorem lay91 : layT Tryd.prog 91 = some (false, 1) := by kernel_rfl
theorem zer91 : zeroT Tryd.prog 91 = some [.v (.prim .nilFunc)] := by kernel_rfl
theorem con91 : concT Tryd.prog 91 = true := by kernel_rfl
-- 92: func(api.Type) api.Type
theorem lay92 : layT Tryd.prog 92 = some (false, 1) := by kernel_rfl
theorem zer92 : zeroT Tryd.prog 92 = some [.v (.prim .nilFunc)] := by kernel_rfl
theorem con92 : concT Tryd.prog 92 = true := by kernel_rfl
-- 93: func(int) (api.Term, api.Errno)
theorem lay93 : layT Tryd.prog 93 = some (false, 1) := by kernel_rfl
theorem zer93 : zeroT Tryd.prog 93 = some [.v (.prim .nilFunc)] := by kernel_rfl
theorem con93 : concT Tryd.prog 93 = true := by kernel_rfl
-- 94: func(api.Term, api.Term, api.Term) api.Term
theorem lay94 : layT Tryd.prog 94 = some (false, 1) := by kernel_rfl
theorem zer94 : zeroT Tryd.prog 94 = some [.v (.prim .nilFunc)] := by kernel_rfl
theorem con94 : concT Tryd.prog 94 = true := by kernel_rfl
-- 95: func(api.Term) bool
theorem lay95 : layT Tryd.prog 95 = some (false, 1) := by kernel_rfl
theorem zer95 : zeroT Tryd.prog 95 = some [.v (.prim .nilFunc)] := by kernel_rfl
theorem con95 : concT Tryd.prog 95 = true := by kernel_rfl
-- 96: func(*proofprogramsmake.Deck) api.Type
theorem lay96 : layT Tryd.prog 96 = some (false, 1) := by kernel_rfl
theorem zer96 : zeroT Tryd.prog 96 = some [.v (.prim .nilFunc)] := by kernel_rfl
theorem con96 : concT Tryd.prog 96 = true := by kernel_rfl
-- 97: func(api.Type, api.Term) api.Term
theorem lay97 : layT Tryd.prog 97 = some (false, 1) := by kernel_rfl
theorem zer97 : zeroT Tryd.prog 97 = some [.v (.prim .nilFunc)] := by kernel_rfl
theorem con97 : concT Tryd.prog 97 = true := by kernel_rfl
-- 98: (int, int)
theorem lay98 : layT Tryd.prog 98 = some (false, 1) := by kernel_rfl
theorem con98 : concT Tryd.prog 98 = true := by kernel_rfl
-- 99: func(int) (int, int)
theorem lay99 : layT Tryd.prog 99 = some (false, 1) := by kernel_rfl
theorem zer99 : zeroT Tryd.prog 99 = some [.v (.prim .nilFunc)] := by kernel_rfl
theorem con99 : concT Tryd.prog 99 = true := by kernel_rfl
-- 100: func([]api.Instr) []int
theorem lay100 : layT Tryd.prog 100 = some (false, 1) := by kernel_rfl
theorem zer100 : zeroT Tryd.prog 100 = some [.v (.prim .nilFunc)] := by kernel_rfl
theorem con100 : concT Tryd.prog 100 = true := by kernel_rfl
-- 101: (int, bool)
theorem lay101 : layT Tryd.prog 101 = some (false, 1) := by kernel_rfl
theorem con101 : concT Tryd.prog 101 = true := by kernel_rfl
-- 102: func(api.Term) (int, bool)
theorem lay102 : layT Tryd.prog 102 = some (false, 1) := by kernel_rfl
theorem zer102 : zeroT Tryd.prog 102 = some [.v (.prim .nilFunc)] := by kernel_rfl
theorem con102 : concT Tryd.prog 102 = true := by kernel_rfl
-- 103: func(api.Type) api.Errno
theorem lay103 : layT Tryd.prog 103 = some (false, 1) := by kernel_rfl
theorem zer103 : zeroT Tryd.prog 103 = some [.v (.prim .nilFunc)] := by kernel_rfl
theorem con103 : concT Tryd.prog 103 = true := by kernel_rfl
-- 104: func(api.Type) bool
theorem lay104 : layT Tryd.prog 104 = some (false, 1) := by kernel_rfl
theorem zer104 : zeroT Tryd.prog 104 = some [.v (.prim .nilFunc)] := by kernel_rfl
theorem con104 : concT Tryd.prog 104 = true := by kernel_rfl
-- 105: func(int) (int, bool)
theorem lay105 : layT Tryd.prog 105 = some (false, 1) := by kernel_rfl
theorem zer105 : zeroT Tryd.prog 105 = some [.v (.prim .nilFunc)] := by kernel_rfl
theorem con105 : concT Tryd.prog 105 = true := by kernel_rfl
-- 106: func(int) bool
theorem lay106 : layT Tryd.prog 106 = some (false, 1) := by kernel_rfl
theorem zer106 : zeroT Tryd.prog 106 = some [.v (.prim .nilFunc)] := by kernel_rfl
theorem con106 : concT Tryd.prog 106 = true := by kernel_rfl
-- 107: func(api.Type) (int, api.Errno)
theorem lay107 : layT Tryd.prog 107 = some (false, 1) := by kernel_rfl
theorem zer107 : zeroT Tryd.prog 107 = some [.v (.prim .nilFunc)] := by kernel_rfl
theorem con107 : concT Tryd.prog 107 = true := by kernel_rfl
-- 108: func(api.Type) int
theorem lay108 : layT Tryd.prog 108 = some (false, 1) := by kernel_rfl
theorem zer108 : zeroT Tryd.prog 108 = some [.v (.prim .nilFunc)] := by kernel_rfl
theorem con108 : concT Tryd.prog 108 = true := by kernel_rfl
-- 109: [14]int
theorem lay109 : layT Tryd.prog 109 = some (true, 14) := by kernel_rfl
theorem zer109 : zeroT Tryd.prog 109 = some [.v (.prim (.int .i64 (0))), .v (.prim (.int .i64 (0))), .v (.prim (.int .i64 (0))), .v (.prim (.int .i64 (0))), .v (.prim (.int .i64 (0))), .v (.prim (.int .i64 (0))), .v (.prim (.int .i64 (0))), .v (.prim (.int .i64 (0))), .v (.prim (.int .i64 (0))), .v (.prim (.int .i64 (0))), .v (.prim (.int .i64 (0))), .v (.prim (.int .i64 (0))), .v (.prim (.int .i64 (0))), .v (.prim (.int .i64 (0)))] := by kernel_rfl
theorem eln109 : elemT Tryd.prog 109 = none := by kernel_rfl
theorem arr109 : arrT Tryd.prog 109 = some (14, 1) := by kernel_rfl
theorem pla109 : placesT Tryd.prog 109 = some [(0, 1), (1, 1), (2, 1), (3, 1), (4, 1), (5, 1), (6, 1), (7, 1), (8, 1), (9, 1), (10, 1), (11, 1), (12, 1), (13, 1)] := by kernel_rfl
theorem con109 : concT Tryd.prog 109 = true := by kernel_rfl
-- 110: func(api.Type) (int, bool)
theorem lay110 : layT Tryd.prog 110 = some (false, 1) := by kernel_rfl
theorem zer110 : zeroT Tryd.prog 110 = some [.v (.prim .nilFunc)] := by kernel_rfl
theorem con110 : concT Tryd.prog 110 = true := by kernel_rfl
-- 111: func() string
theorem lay111 : layT Tryd.prog 111 = some (false, 1) := by kernel_rfl
theorem zer111 : zeroT Tryd.prog 111 = some [.v (.prim .nilFunc)] := by kernel_rfl
theorem con111 : concT Tryd.prog 111 = true := by kernel_rfl
-- 112: struct { _interface *abi.Type; concrete *abi.Type; asserted *abi.Type; missingMethod string }
theorem lay112 : layT Tryd.prog 112 = some (true, 4) := by kernel_rfl
theorem zer112 : zeroT Tryd.prog 112 = some [.v (.prim (.pointer none)), .v (.prim (.pointer none)), .v (.prim (.pointer none)), .v (.prim (.string ByteArray.empty))] := by kernel_rfl
theorem pla112 : placesT Tryd.prog 112 = some [(0, 1), (1, 1), (2, 1), (3, 1)] := by kernel_rfl
theorem con112 : concT Tryd.prog 112 = true := by kernel_rfl
theorem fld112_0 : fieldT Tryd.prog 112 0 = some (false, 0, 1) := by kernel_rfl
theorem fld112_1 : fieldT Tryd.prog 112 1 = some (false, 1, 1) := by kernel_rfl
theorem fld112_2 : fieldT Tryd.prog 112 2 = some (false, 2, 1) := by kernel_rfl
theorem fld112_3 : fieldT Tryd.prog 112 3 = some (false, 3, 1) := by kernel_rfl
-- 113: runtime.TypeAssertionError
theorem lay113 : layT Tryd.prog 113 = some (true, 4) := by kernel_rfl
theorem zer113 : zeroT Tryd.prog 113 = some [.v (.prim (.pointer none)), .v (.prim (.pointer none)), .v (.prim (.pointer none)), .v (.prim (.string ByteArray.empty))] := by kernel_rfl
theorem pla113 : placesT Tryd.prog 113 = some [(0, 1), (1, 1), (2, 1), (3, 1)] := by kernel_rfl
theorem con113 : concT Tryd.prog 113 = true := by kernel_rfl
theorem fld113_0 : fieldT Tryd.prog 113 0 = some (false, 0, 1) := by kernel_rfl
theorem fld113_1 : fieldT Tryd.prog 113 1 = some (false, 1, 1) := by kernel_rfl
theorem fld113_2 : fieldT Tryd.prog 113 2 = some (false, 2, 1) := by kernel_rfl
theorem fld113_3 : fieldT Tryd.prog 113 3 = some (false, 3, 1) := by kernel_rfl
-- 114: [0]*runtime.PanicNilError
theorem lay114 : layT Tryd.prog 114 = some (true, 0) := by kernel_rfl
theorem zer114 : zeroT Tryd.prog 114 = some [] := by kernel_rfl
theorem eln114 : elemT Tryd.prog 114 = none := by kernel_rfl
theorem arr114 : arrT Tryd.prog 114 = some (0, 1) := by kernel_rfl
theorem pla114 : placesT Tryd.prog 114 = some [] := by kernel_rfl
theorem con114 : concT Tryd.prog 114 = true := by kernel_rfl
-- 115: struct { _ [0]*runtime.PanicNilError }
theorem lay115 : layT Tryd.prog 115 = some (true, 0) := by kernel_rfl
theorem zer115 : zeroT Tryd.prog 115 = some [] := by kernel_rfl
theorem pla115 : placesT Tryd.prog 115 = some [(0, 0)] := by kernel_rfl
theorem con115 : concT Tryd.prog 115 = true := by kernel_rfl
-- 116: runtime.PanicNilError
theorem lay116 : layT Tryd.prog 116 = some (true, 0) := by kernel_rfl
theorem zer116 : zeroT Tryd.prog 116 = some [] := by kernel_rfl
theorem pla116 : placesT Tryd.prog 116 = some [(0, 0)] := by kernel_rfl
theorem con116 : concT Tryd.prog 116 = true := by kernel_rfl
-- 117: func() int
theorem lay117 : layT Tryd.prog 117 = some (false, 1) := by kernel_rfl
theorem zer117 : zeroT Tryd.prog 117 = some [.v (.prim .nilFunc)] := by kernel_rfl
theorem con117 : concT Tryd.prog 117 = true := by kernel_rfl
-- 118: uint32
theorem lay118 : layT Tryd.prog 118 = some (false, 1) := by kernel_rfl
theorem zer118 : zeroT Tryd.prog 118 = some [.v (.prim (.int .u32 (0)))] := by kernel_rfl
theorem zrp118 : zeroP Tryd.prog 118 = some (.int .u32 (0)) := by kernel_rfl
theorem con118 : concT Tryd.prog 118 = true := by kernel_rfl
theorem int118 : intT Tryd.prog 118 = some .u32 := by kernel_rfl
-- 119: abi.TFlag
theorem lay119 : layT Tryd.prog 119 = some (false, 1) := by kernel_rfl
theorem zer119 : zeroT Tryd.prog 119 = some [.v (.prim (.int .u8 (0)))] := by kernel_rfl
theorem zrp119 : zeroP Tryd.prog 119 = some (.int .u8 (0)) := by kernel_rfl
theorem con119 : concT Tryd.prog 119 = true := by kernel_rfl
theorem int119 : intT Tryd.prog 119 = some .u8 := by kernel_rfl
-- 120: abi.Kind
theorem lay120 : layT Tryd.prog 120 = some (false, 1) := by kernel_rfl
theorem zer120 : zeroT Tryd.prog 120 = some [.v (.prim (.int .u8 (0)))] := by kernel_rfl
theorem zrp120 : zeroP Tryd.prog 120 = some (.int .u8 (0)) := by kernel_rfl
theorem con120 : concT Tryd.prog 120 = true := by kernel_rfl
theorem int120 : intT Tryd.prog 120 = some .u8 := by kernel_rfl
-- 121: func(unsafe.Pointer, unsafe.Pointer) bool
theorem lay121 : layT Tryd.prog 121 = some (false, 1) := by kernel_rfl
theorem zer121 : zeroT Tryd.prog 121 = some [.v (.prim .nilFunc)] := by kernel_rfl
theorem con121 : concT Tryd.prog 121 = true := by kernel_rfl
-- 122: *uint8
theorem lay122 : layT Tryd.prog 122 = some (false, 1) := by kernel_rfl
theorem zer122 : zeroT Tryd.prog 122 = some [.v (.prim (.pointer none))] := by kernel_rfl
theorem ptr122 : ptrT Tryd.prog 122 = true := by kernel_rfl
theorem zrp122 : zeroP Tryd.prog 122 = some (.pointer none) := by kernel_rfl
theorem con122 : concT Tryd.prog 122 = true := by kernel_rfl
-- 123: abi.NameOff
theorem lay123 : layT Tryd.prog 123 = some (false, 1) := by kernel_rfl
theorem zer123 : zeroT Tryd.prog 123 = some [.v (.prim (.int .i32 (0)))] := by kernel_rfl
theorem zrp123 : zeroP Tryd.prog 123 = some (.int .i32 (0)) := by kernel_rfl
theorem con123 : concT Tryd.prog 123 = true := by kernel_rfl
theorem int123 : intT Tryd.prog 123 = some .i32 := by kernel_rfl
-- 124: abi.TypeOff
theorem lay124 : layT Tryd.prog 124 = some (false, 1) := by kernel_rfl
theorem zer124 : zeroT Tryd.prog 124 = some [.v (.prim (.int .i32 (0)))] := by kernel_rfl
theorem zrp124 : zeroP Tryd.prog 124 = some (.int .i32 (0)) := by kernel_rfl
theorem con124 : concT Tryd.prog 124 = true := by kernel_rfl
theorem int124 : intT Tryd.prog 124 = some .i32 := by kernel_rfl
-- 125: struct { Size_ uintptr; PtrBytes uintptr; Hash uint32; TFlag abi.TFlag; Align_ uint8; FieldAlign_ uint8; Kind_ abi.Kind; Equal func(unsafe.Pointer, unsafe.Pointer) bool; GCData *uint8; Str abi.NameOff; PtrToThis abi.TypeOff }
theorem lay125 : layT Tryd.prog 125 = some (true, 11) := by kernel_rfl
theorem zer125 : zeroT Tryd.prog 125 = some [.v (.prim (.int .u64 (0))), .v (.prim (.int .u64 (0))), .v (.prim (.int .u32 (0))), .v (.prim (.int .u8 (0))), .v (.prim (.int .u8 (0))), .v (.prim (.int .u8 (0))), .v (.prim (.int .u8 (0))), .v (.prim .nilFunc), .v (.prim (.pointer none)), .v (.prim (.int .i32 (0))), .v (.prim (.int .i32 (0)))] := by kernel_rfl
theorem pla125 : placesT Tryd.prog 125 = some [(0, 1), (1, 1), (2, 1), (3, 1), (4, 1), (5, 1), (6, 1), (7, 1), (8, 1), (9, 1), (10, 1)] := by kernel_rfl
theorem con125 : concT Tryd.prog 125 = true := by kernel_rfl
theorem fld125_0 : fieldT Tryd.prog 125 0 = some (false, 0, 1) := by kernel_rfl
theorem fld125_1 : fieldT Tryd.prog 125 1 = some (false, 1, 1) := by kernel_rfl
theorem fld125_2 : fieldT Tryd.prog 125 2 = some (false, 2, 1) := by kernel_rfl
theorem fld125_3 : fieldT Tryd.prog 125 3 = some (false, 3, 1) := by kernel_rfl
theorem fld125_4 : fieldT Tryd.prog 125 4 = some (false, 4, 1) := by kernel_rfl
theorem fld125_5 : fieldT Tryd.prog 125 5 = some (false, 5, 1) := by kernel_rfl
theorem fld125_6 : fieldT Tryd.prog 125 6 = some (false, 6, 1) := by kernel_rfl
theorem fld125_7 : fieldT Tryd.prog 125 7 = some (false, 7, 1) := by kernel_rfl
theorem fld125_8 : fieldT Tryd.prog 125 8 = some (false, 8, 1) := by kernel_rfl
theorem fld125_9 : fieldT Tryd.prog 125 9 = some (false, 9, 1) := by kernel_rfl
theorem fld125_10 : fieldT Tryd.prog 125 10 = some (false, 10, 1) := by kernel_rfl
-- 126: abi.Type
theorem lay126 : layT Tryd.prog 126 = some (true, 11) := by kernel_rfl
theorem zer126 : zeroT Tryd.prog 126 = some [.v (.prim (.int .u64 (0))), .v (.prim (.int .u64 (0))), .v (.prim (.int .u32 (0))), .v (.prim (.int .u8 (0))), .v (.prim (.int .u8 (0))), .v (.prim (.int .u8 (0))), .v (.prim (.int .u8 (0))), .v (.prim .nilFunc), .v (.prim (.pointer none)), .v (.prim (.int .i32 (0))), .v (.prim (.int .i32 (0)))] := by kernel_rfl
theorem pla126 : placesT Tryd.prog 126 = some [(0, 1), (1, 1), (2, 1), (3, 1), (4, 1), (5, 1), (6, 1), (7, 1), (8, 1), (9, 1), (10, 1)] := by kernel_rfl
theorem con126 : concT Tryd.prog 126 = true := by kernel_rfl
theorem fld126_0 : fieldT Tryd.prog 126 0 = some (false, 0, 1) := by kernel_rfl
theorem fld126_1 : fieldT Tryd.prog 126 1 = some (false, 1, 1) := by kernel_rfl
theorem fld126_2 : fieldT Tryd.prog 126 2 = some (false, 2, 1) := by kernel_rfl
theorem fld126_3 : fieldT Tryd.prog 126 3 = some (false, 3, 1) := by kernel_rfl
theorem fld126_4 : fieldT Tryd.prog 126 4 = some (false, 4, 1) := by kernel_rfl
theorem fld126_5 : fieldT Tryd.prog 126 5 = some (false, 5, 1) := by kernel_rfl
theorem fld126_6 : fieldT Tryd.prog 126 6 = some (false, 6, 1) := by kernel_rfl
theorem fld126_7 : fieldT Tryd.prog 126 7 = some (false, 7, 1) := by kernel_rfl
theorem fld126_8 : fieldT Tryd.prog 126 8 = some (false, 8, 1) := by kernel_rfl
theorem fld126_9 : fieldT Tryd.prog 126 9 = some (false, 9, 1) := by kernel_rfl
theorem fld126_10 : fieldT Tryd.prog 126 10 = some (false, 10, 1) := by kernel_rfl
-- 127: unsafe.Pointer
theorem lay127 : layT Tryd.prog 127 = some (false, 1) := by kernel_rfl
theorem zer127 : zeroT Tryd.prog 127 = some [.v (.prim (.pointer none))] := by kernel_rfl
theorem zrp127 : zeroP Tryd.prog 127 = some (.pointer none) := by kernel_rfl
theorem con127 : concT Tryd.prog 127 = true := by kernel_rfl

attribute [go_sem] lay0 con0 lay1 zer1 con1 lay2 zer2 zrp2 con2 int2 lay3 zer3 zrp3 con3 int3 lay4 zer4 boo4 con4 lay5 zer5 zrp5 con5 int5 lay6 zer6 zrp6 con6 int6 lay7 zer7 pla7 con7 fld7_0 fld7_1 fld7_2 fld7_3 lay8 zer8 pla8 con8 fld8_0 fld8_1 fld8_2 fld8_3 lay9 zer9 con9 lay10 zer10 con10 lay11 zer11 con11 lay12 zer12 zrp12 con12 int12 lay13 zer13 pla13 con13 fld13_0 fld13_1 lay14 zer14 pla14 con14 fld14_0 fld14_1 lay15 zer15 ptr15 zrp15 con15 lay16 zer16 ptr16 zrp16 con16 lay17 zer17 ptr17 zrp17 con17 lay18 zer18 pla18 con18 fld18_0 lay19 zer19 pla19 con19 fld19_0 lay20 zer20 lay21 zer21 zrp21 con21 int21 lay22 zer22 ele22 elz22 con22 lay23 zer23 ele23 elz23 con23 lay24 zer24 pla24 con24 fld24_0 fld24_1 lay25 zer25 pla25 con25 fld25_0 fld25_1 lay26 zer26 ele26 elz26 con26 lay27 zer27 pla27 con27 fld27_0 fld27_1 fld27_2 fld27_3 lay28 zer28 pla28 con28 fld28_0 fld28_1 fld28_2 fld28_3 lay29 zer29 ele29 elz29 con29 lay30 zer30 con30 lay31 zer31 con31 lay32 zer32 pla32 con32 fld32_0 lay33 zer33 pla33 con33 fld33_0 lay34 zer34 con34 lay35 zer35 con35 lay36 zer36 ptr36 zrp36 con36 lay37 zer37 con37 lay38 zer38 con38 lay39 zer39 con39 lay40 zer40 con40 lay41 zer41 zrp41 con41 int41 lay42 con42 lay43 zer43 con43 lay44 zer44 con44 lay45 zer45 pla45 con45 fld45_0 fld45_1 lay46 zer46 pla46 con46 fld46_0 fld46_1 lay47 zer47 con47 lay48 zer48 ele48 elz48 con48 lay49 con49 lay50 zer50 con50 lay51 zer51 con51 lay52 zer52 con52 lay53 zer53 con53 lay54 con54 lay55 zer55 con55 lay56 zer56 con56 lay57 zer57 con57 lay58 zer58 con58 lay59 zer59 con59 lay60 zer60 con60 lay61 zer61 pla61 con61 fld61_0 fld61_1 lay62 zer62 pla62 con62 fld62_0 fld62_1 lay63 zer63 con63 lay64 zer64 con64 lay65 zer65 con65 lay66 zer66 con66 lay67 zer67 con67 lay68 zer68 con68 lay69 zer69 con69 lay70 zer70 con70 lay71 zer71 con71 lay72 zer72 con72 lay73 zer73 con73 lay74 zer74 ptr74 zrp74 con74 lay75 zer75 pla75 con75 fld75_0 fld75_1 fld75_2 lay76 zer76 pla76 con76 fld76_0 fld76_1 fld76_2 lay77 zer77 con77 lay78 con78 lay79 zer79 con79 lay80 con80 lay81 zer81 con81 lay82 zer82 con82 lay83 zer83 pla83 con83 fld83_0 fld83_1 lay84 zer84 pla84 con84 fld84_0 fld84_1 lay85 zer85 eln85 arr85 pla85 con85 lay86 con86 lay87 zer87 con87 lay88 zer88 con88 lay89 zer89 con89 lay90 zer90 con90 lay91 zer91 con91 lay92 zer92 con92 lay93 zer93 con93 lay94 zer94 con94 lay95 zer95 con95 lay96 zer96 con96 lay97 zer97 con97 lay98 con98 lay99 zer99 con99 lay100 zer100 con100 lay101 con101 lay102 zer102 con102 lay103 zer103 con103 lay104 zer104 con104 lay105 zer105 con105 lay106 zer106 con106 lay107 zer107 con107 lay108 zer108 con108 lay109 zer109 eln109 arr109 pla109 con109 lay110 zer110 con110 lay111 zer111 con111 lay112 zer112 pla112 con112 fld112_0 fld112_1 fld112_2 fld112_3 lay113 zer113 pla113 con113 fld113_0 fld113_1 fld113_2 fld113_3 lay114 zer114 eln114 arr114 pla114 con114 lay115 zer115 pla115 con115 lay116 zer116 pla116 con116 lay117 zer117 con117 lay118 zer118 zrp118 con118 int118 lay119 zer119 zrp119 con119 int119 lay120 zer120 zrp120 con120 int120 lay121 zer121 con121 lay122 zer122 ptr122 zrp122 con122 lay123 zer123 zrp123 con123 int123 lay124 zer124 zrp124 con124 int124 lay125 zer125 pla125 con125 fld125_0 fld125_1 fld125_2 fld125_3 fld125_4 fld125_5 fld125_6 fld125_7 fld125_8 fld125_9 fld125_10 lay126 zer126 pla126 con126 fld126_0 fld126_1 fld126_2 fld126_3 fld126_4 fld126_5 fld126_6 fld126_7 fld126_8 fld126_9 fld126_10 lay127 zer127 zrp127 con127
end Go.Proofs.YtmdjiajbnifjpaaDoor.Lift

namespace Go.Proofs.YtmdjiajbnifjpaaDoor.Lift
set_option linter.unusedSimpArgs false
set_option linter.unusedVariables false
set_option linter.unnecessarySimpa false
open Go
variable {gl : Globs}

theorem ref01_copy_ok (t : Ty) : Con1 Tryd.prog gl 63 [t.dv] [] t.dv [] := by
  induction t using Ty.ind with
  | h t ih =>
  refine t_in Tryd.func63 ?_
  intro X hP hgl hf hfn hn hR hids hfit
  have htf : t.fit := (Ty.dv_fit t).1 (hfit _ (by simp))
  have hlen : t.args.length ≤ 2147483648 := ((Ty.fit_eq t).1 htf).2.1
  refine t_rg0 ?_
  refine t_rg0 ?_
  refine t_rg0 ?_
  refine t_a ?_
  refine W_sub [(1003, 0)] ?_ ?_ ?_ (W_list t.args (fun done rest => [(.slot 2, .one (.loc 2 0)), (.loc 2, .row [.v (dint 0), .own 0 []]), (.slot 1, .one (.loc 1 0)), (.loc 1, .row [.v (dint t.kind), .v (.sl (t.args.map Ty.cells))]),
      (.slot 3, .one (.own 1003 (done.map Ty.cells))), (.tok 1003, .tk 2 done.length), (.slot 7, .one (.v (.sl (t.args.map Ty.cells)))), (.slot 8, .one (.v (dint t.args.length))), (.slot 9, .one (.v (dint done.length)))]) ?_ ?_)
  · simp [go_sem]
  · simp [go_sem]
  · simp [go_sem]
  · intro done x rest hL hg hnext
    have hlt : done.length < t.args.length := by rw [hL]; simp
    refine t_rg0 ?_
    refine t_yes ?_
    refine t_rg @hg ?_
    refine t_a ?_
    first | refine W_reg [] fun K hK => ?_ | refine W_regd (by rw [hP]; exact mixed) [] fun K hK => ?_
    refine t_s0 ?_
    refine t_c trivial (ih x (List.mem_of_getElem? hg)) ?_
    refine t_e ?_
    clear hK K
    refine t_rg0 ?_
    refine t_b ?_
    refine t_sub [(1003, 17)] trivial hnext
  · refine t_rg0 ?_
    refine t_no ?_
    refine t_rg0 ?_
    refine t_r ?_
    simp [go_sem, hP, hgl, hn] <;> (try omega)

theorem ref01_same_ok (a b : Ty) : Con1 Tryd.prog gl 40 [a.dv, b.dv] [] (dbool (a.same b)) [] := by
  induction a using Ty.ind generalizing b with
  | h a ih =>
  refine t_in Tryd.func40 ?_
  intro X hP hgl hf hfn hn hR hids hfit
  have hfa : a.fit := (Ty.dv_fit a).1 (hfit _ (by simp))
  have hfb : b.fit := (Ty.dv_fit b).1 (hfit _ (by simp))
  have hla : a.args.length ≤ 2147483648 := ((Ty.fit_eq a).1 hfa).2.1
  have hlb : b.args.length ≤ 2147483648 := ((Ty.fit_eq b).1 hfb).2.1
  refine t_rg0 ?_
  by_cases hk : a.kind = b.kind
  · refine t_rg @hk ?_
    by_cases hl : a.args.length = b.args.length
    · refine t_a ?_
      refine W_cond rfl ?_ ?_
      · intro h; simp [hl] at h
      intro _
      refine t_rg0 ?_
      refine t_a ?_
      refine W_sub [] ?_ ?_ ?_ (W_upto a.args.length (fun i => ∀ (j : Nat) (x y : Ty), j < i → a.args[j]? = some x → b.args[j]? = some y → x.same y = true)
        (fun i => [(.slot 2, .one (.loc 2 0)), (.loc 2, .row [.v (dint a.kind), .v (.sl (a.args.map Ty.cells))]), (.slot 3, .one (.loc 3 0)), (.loc 3, .row [.v (dint b.kind), .v (.sl (b.args.map Ty.cells))]), (.slot 22, .one (.v (dint a.args.length))), (.slot 23, .one (.v (dint i)))]) (by intro j x y h; omega) ?_ ?_)
      · simp [go_sem]
      · simp [go_sem, hk, hl]
      · simp [go_sem]
      · intro i hi hI hnext
        obtain ⟨x, hx⟩ : ∃ x, a.args[i]? = some x := ⟨_, List.getElem?_eq_getElem hi⟩
        obtain ⟨y, hy⟩ : ∃ y, b.args[i]? = some y := ⟨_, List.getElem?_eq_getElem (by omega)⟩
        refine t_rg0 ?_
        refine t_yes ?_
        refine t_rg0 ?_
        refine t_a ?_
        first | refine W_reg [] fun K hK => ?_ | refine W_regd (by rw [hP]; exact mixed) [] fun K hK => ?_
        refine t_s (j2 @hx @hy) ?_
        refine t_c trivial (ih x (List.mem_of_getElem? hx) y) ?_
        refine t_e ?_
        clear hK K
        by_cases hs : x.same y = true
        · refine t_a ?_
          refine W_cond rfl ?_ ?_
          · intro h; simp [hs] at h
          intro _
          refine t_rg0 ?_
          refine t_b ?_
          refine t_sub [] trivial (hnext ?_)
          intro j x' y' hj hx' hy'
          by_cases hji : j = i
          · subst hji; rw [hx] at hx'; rw [hy] at hy'; cases hx'; cases hy'; exact hs
          · exact hI j x' y' (by omega) hx' hy'
        · refine t_a ?_
          refine W_cond rfl ?_ ?_
          rotate_left
          · intro h; simp [hs] at h
          intro _
          refine t_rg0 ?_
          refine t_r ?_
          simp [go_sem, hP, hgl, hn] <;> (try omega)
          refine Bool.eq_false_iff.2 ?_
          intro h
          rw [Ty.same_eq, Bool.and_eq_true, Ty.sames_iff] at h
          exact hs (h.2.2 i x y hx hy)
      · intro hI
        refine t_rg0 ?_
        refine t_no ?_
        refine t_rg0 ?_
        refine t_r ?_
        simp [go_sem, hP, hgl, hn] <;> (try omega)
        rw [Ty.same_eq, Bool.and_eq_true, Ty.sames_iff]
        exact ⟨by simp [hk], hl, fun i x y hx hy => hI i x y (List.getElem?_eq_some_iff.1 hx).1 hx hy⟩
    · refine t_a ?_
      refine W_cond rfl ?_ ?_
      rotate_left
      · intro h; simp at h; omega
      intro _
      refine t_rg0 ?_
      refine t_r ?_
      simp [go_sem, hP, hgl, hn] <;> (try omega)
      refine Bool.eq_false_iff.2 ?_
      intro h
      rw [Ty.same_eq, Bool.and_eq_true, Ty.sames_iff] at h
      exact hl h.2.1
  · refine t_rg @hk ?_
    refine t_a ?_
    refine W_cond rfl ?_ ?_
    rotate_left
    · intro h; simp at h
    intro _
    refine t_rg0 ?_
    refine t_r ?_
    simp [go_sem, hP, hgl, hn] <;> (try omega)
    simp [Ty.same_eq, hk]

theorem ref01_nat_ok : Con1 Tryd.prog gl 37 [] [] (Ty.mk 1 []).dv [] := by
  refine t_in Tryd.func37 ?_
  intro X hP hgl hf hfn hn hR hids hfit
  refine t_rg0 ?_
  refine t_rg0 ?_
  refine t_r ?_
  simp [go_sem, hP, hgl, hn] <;> (try omega)
  all_goals exact t_f

theorem ref01_list_ok : Con1 Tryd.prog gl 39 [] [] (Ty.mk 2 []).dv [] := by
  refine t_in Tryd.func39 ?_
  intro X hP hgl hf hfn hn hR hids hfit
  refine t_rg0 ?_
  refine t_rg0 ?_
  refine t_r ?_
  simp [go_sem, hP, hgl, hn] <;> (try omega)
  all_goals exact t_f

theorem ref01_unit_ok : Con1 Tryd.prog gl 44 [] [] (Ty.mk 5 []).dv [] := by
  refine t_in Tryd.func44 ?_
  intro X hP hgl hf hfn hn hR hids hfit
  refine t_rg0 ?_
  refine t_rg0 ?_
  refine t_r ?_
  simp [go_sem, hP, hgl, hn] <;> (try omega)
  all_goals exact t_f

theorem ref01_two_ok (a b : Ty) : Con1 Tryd.prog gl 45 [a.dv, b.dv] [] (Ty.mk 3 [a, b]).dv [] := by
  refine t_in Tryd.func45 ?_
  intro X hP hgl hf hfn hn hR hids hfit
  refine t_rg0 ?_
  refine t_a ?_
  first | refine W_reg [] fun K hK => ?_ | refine W_regd (by rw [hP]; exact mixed) [] fun K hK => ?_
  refine t_s0 ?_
  refine t_c trivial (ref01_copy_ok a) ?_
  refine t_c trivial (ref01_copy_ok b) ?_
  refine t_e ?_
  clear hK K
  refine t_r ?_
  simp [go_sem, hP, hgl, hn] <;> (try omega)
  all_goals exact t_f
end Go.Proofs.YtmdjiajbnifjpaaDoor.Lift

namespace Go.Proofs.YtmdjiajbnifjpaaDoor.Lift
set_option linter.unusedSimpArgs false
set_option linter.unusedVariables false
set_option linter.unnecessarySimpa false
open Go
variable {gl : Globs}

theorem Tm.fit_len {t : Tm} (h : t.dv.fit) : t.args.length ≤ 2147483648 := ((Tm.fit_eq t).1 ((Tm.dv_fit t).1 h)).2.2.2.1
theorem sl_len {l : List (List DV)} (h : DV.fit (.sl l)) : l.length ≤ 2147483648 := by simp [DV.fit, BIG] at h; exact h.1

theorem ref02_copy_ok (t : Tm) : Con1 Tryd.prog gl 62 [t.dv] [] t.dv [] := by
  induction t using Tm.ind with
  | h t ih =>
  refine t_in Tryd.func62 ?_
  intro X hP hgl hf hfn hn hR hids hfit
  have hlen := Tm.fit_len (hfit t.dv (by simp))
  refine t_rg0 ?_
  refine t_rg0 ?_
  refine t_rg0 ?_
  refine t_a ?_
  refine t_sub [(1003, 0)] trivial (W_list (t.args) (fun done rest => [(.slot 9, .one (.v (dint done.length))), (.slot 8, .one (.v (dint t.args.length))), (.slot 7, .one (.v (.sl (t.args.map Tm.cells)))), (.slot 3, .one (.own 1003 (done.map Tm.cells))), (.tok 1003, .tk 5 done.length), (.loc 2, .row ([.v (dint 0), .v (dint 0), .v (dint 0), .own 0 [], .own 0 []])), (.slot 2, .one (.loc 2 0)), (.loc 1, .row ([.v (dint t.kind), .v (dint t.index), .v (dint t.type.kind), .v (.sl (t.type.args.map Ty.cells)), .v (.sl (t.args.map Tm.cells))])), (.slot 1, .one (.loc 1 0))]) ?_ ?_)
  · intro done x rest hL hg hnext
    have hlt : done.length < t.args.length := by rw [hL]; simp
    refine t_rg0 ?_
    refine t_yes ?_
    refine t_rg @hg ?_
    refine t_a ?_
    first | refine W_reg [] fun K hK => ?_ | refine W_regd (by rw [hP]; exact mixed) [] fun K hK => ?_
    refine t_s0 ?_
    refine t_c trivial (ih x (List.mem_of_getElem? hg)) ?_
    refine t_e ?_
    clear hK K
    refine t_rg0 ?_
    refine t_b ?_
    refine t_sub [(1003, 17)] trivial hnext
  · refine t_rg0 ?_
    refine t_no ?_
    refine t_a ?_
    first | refine W_reg [] fun K hK => ?_ | refine W_regd (by rw [hP]; exact mixed) [] fun K hK => ?_
    refine t_s0 ?_
    refine t_c trivial (ref01_copy_ok t.type) ?_
    refine t_e ?_
    clear hK K
    refine t_r ?_
    simp [go_sem, hP, hgl, hn] <;> (try omega)

/-- the number of nodes -/
def Tm.count : Tm → Nat
  | .mk _ _ _ l => 1 + counts l
where
  counts : List Tm → Nat
    | [] => 0
    | a :: r => a.count + counts r
theorem Tm.count_eq (t : Tm) : t.count = 1 + Tm.count.counts t.args := by cases t; rfl
theorem Tm.counts_append (l m : List Tm) : Tm.count.counts (l ++ m) = Tm.count.counts l + Tm.count.counts m := by
  induction l with
  | nil => simp [Tm.count.counts]
  | cons a r ih => simp [Tm.count.counts, ih]; omega

theorem ref02_count_ok (t : Tm) (hc : t.count ≤ 2147483648) : Con1 Tryd.prog gl 58 [t.dv] [] (dint t.count) [] := by
  induction t using Tm.ind with
  | h t ih =>
  refine t_in Tryd.func58 ?_
  intro X hP hgl hf hfn hn hR hids hfit
  have hlen := Tm.fit_len (hfit t.dv (by simp))
  rw [Tm.count_eq] at hc
  refine t_rg0 ?_
  refine t_rg0 ?_
  refine t_rg0 ?_
  refine t_a ?_
  refine W_sub [] (by simp [go_sem]) (by simp [go_sem, Tm.count.counts] <;> omega) (by simp [go_sem]) (W_list (t.args) (fun done rest => [(.slot 9, .one (.v (dint done.length))), (.slot 8, .one (.v (dint t.args.length))), (.slot 7, .one (.v (.sl (t.args.map Tm.cells)))), (.slot 3, .one (.v (dint (1 + Tm.count.counts done : Nat))))]) ?_ ?_)
  · intro done x rest hL hg hnext
    have hlt : done.length < t.args.length := by rw [hL]; simp
    have hcx : Tm.count.counts t.args = Tm.count.counts done + (x.count + Tm.count.counts rest) := by rw [hL, Tm.counts_append]; rfl
    refine t_rg0 ?_
    refine t_yes ?_
    refine t_rg @hg ?_
    refine t_a ?_
    first | refine W_reg [] fun K hK => ?_ | refine W_regd (by rw [hP]; exact mixed) [] fun K hK => ?_
    refine t_s0 ?_
    refine t_c trivial (ih x (List.mem_of_getElem? hg) (by omega)) ?_
    refine t_e ?_
    clear hK K
    refine t_rg0 ?_
    repeat (first | refine W_inBlock ?_ | refine W_skip ?_ | refine W_label ?_ | refine W_exit rfl ?_)
    refine W_sub [] (by simp [go_sem]) (by simp [go_sem, Tm.counts_append, Tm.count.counts] <;> omega) (by simp [go_sem]) hnext
  · refine t_rg0 ?_
    refine t_no ?_
    refine t_rg0 ?_
    refine t_r ?_
    simp [go_sem, hP, hgl, hn, Tm.count_eq] <;> (try omega)

theorem ref02_n_ok (k : Int) (l : List Tm) : Con1 Tryd.prog gl 34 [dint k, .sl (l.map Tm.cells)] [] (Tm.mk k 0 (Ty.mk 0 []) l).dv [] := by
  refine t_in Tryd.func34 ?_
  intro X hP hgl hf hfn hn hR hids hfit
  have hlen : l.length ≤ 2147483648 := by simpa using sl_len (hfit (.sl (l.map Tm.cells)) (by simp))
  refine t_rg0 ?_
  refine t_rg0 ?_
  refine t_rg0 ?_
  refine t_a ?_
  refine t_sub [(1005, 0)] trivial (W_list (l) (fun done rest => [(.slot 10, .one (.v (dint done.length))), (.slot 9, .one (.v (dint l.length))), (.slot 8, .one (.v (.sl (l.map Tm.cells)))), (.slot 5, .one (.own 1005 (done.map Tm.cells))), (.tok 1005, .tk 5 done.length), (.loc 4, .row ([.v (dint 0), .v (dint 0), .v (dint 0), .own 0 [], .own 0 []])), (.slot 4, .one (.loc 4 0)), (.slot 0, .one (.v (dint k)))]) ?_ ?_)
  · intro done x rest hL hg hnext
    have hlt : done.length < l.length := by rw [hL]; simp
    refine t_rg0 ?_
    refine t_yes ?_
    refine t_rg @hg ?_
    refine t_a ?_
    first | refine W_reg [] fun K hK => ?_ | refine W_regd (by rw [hP]; exact mixed) [] fun K hK => ?_
    refine t_s0 ?_
    refine t_c trivial (ref02_copy_ok x) ?_
    refine t_e ?_
    clear hK K
    refine t_rg0 ?_
    refine t_b ?_
    refine t_sub [(1005, 18)] trivial hnext
  · refine t_rg0 ?_
    refine t_no ?_
    refine t_rg0 ?_
    refine t_r ?_
    simp [go_sem, hP, hgl, hn] <;> (try omega)
    all_goals exact t_f

end Go.Proofs.YtmdjiajbnifjpaaDoor.Lift

/-
  Plain facts: forms and sizes of types and terms.
-/
namespace Go.Proofs.YtmdjiajbnifjpaaDoor.Lift
set_option linter.unusedSimpArgs false
set_option linter.unusedVariables false
set_option linter.unnecessarySimpa false
open Go

def tyKind (k : Int) (n : Nat) : Bool := (decide (k = 1 ∨ k = 2 ∨ k = 5) && n == 0) || (decide (k = 3 ∨ k = 4) && n == 2)

namespace Ty
set_option linter.unusedSimpArgs false
set_option linter.unusedVariables false
set_option linter.unnecessarySimpa false
def shape : Ty → Bool
  | .mk k a => tyKind k a.length && shapes a
where
  shapes : List Ty → Bool
    | [] => true
    | a :: r => a.shape && shapes r
theorem shape_eq (t : Ty) : t.shape = (tyKind t.kind t.args.length && shape.shapes t.args) := by cases t; rfl
theorem shapes_append (l m : List Ty) : shape.shapes (l ++ m) = (shape.shapes l && shape.shapes m) := by
  induction l with
  | nil => simp [shape.shapes]
  | cons a r ih => simp [shape.shapes, ih, Bool.and_assoc]
theorem shapes_iff (l : List Ty) : shape.shapes l = true ↔ ∀ a ∈ l, a.shape = true := by
  induction l with
  | nil => simp [shape.shapes]
  | cons a r ih => simp [shape.shapes, ih]
def count : Ty → Nat
  | .mk _ a => 1 + counts a
where
  counts : List Ty → Nat
    | [] => 0
    | a :: r => a.count + counts r
theorem count_eq (t : Ty) : t.count = 1 + count.counts t.args := by cases t; rfl
theorem counts_append (l m : List Ty) : count.counts (l ++ m) = count.counts l + count.counts m := by
  induction l with
  | nil => simp [count.counts]
  | cons a r ih => simp [count.counts, ih]; omega
theorem count_mem {l : List Ty} {a : Ty} (h : a ∈ l) : a.count ≤ count.counts l := by
  induction l with
  | nil => cases h
  | cons b r ih =>
    simp only [count.counts]
    rcases List.mem_cons.1 h with rfl | h
    · omega
    · have := ih h; omega
/-- the first error of a type -/
def checkN (t : Ty) : Int := if t.shape = true then if 64 < t.count then 4 else 0 else 2
def zero (t : Ty) : Bool := decide (t.kind = 0) && decide (t.args.length = 0)
end Ty

/-- how many parts a kind of terms has -/
def arityI (k : Int) : Int :=
  if k = 1 ∨ k = 4 ∨ k = 7 ∨ k = 13 then 0 else if k = 2 ∨ k = 5 ∨ k = 11 ∨ k = 12 then 1 else if k = 3 ∨ k = 8 ∨ k = 10 then 2 else if k = 6 ∨ k = 9 then 3 else -1

def tyOfKind (k : Int) (t : Ty) : Bool := if k = 2 ∨ k = 6 ∨ k = 9 then decide (t.checkN = 0) else t.zero

def tmKind (k i : Int) (t : Ty) (n : Nat) : Bool := decide ((n : Int) = arityI k) && decide (0 ≤ i) && (decide (k = 1) || decide (i = 0)) && tyOfKind k t

namespace Tm
set_option linter.unusedSimpArgs false
set_option linter.unusedVariables false
set_option linter.unnecessarySimpa false
def shape : Tm → Bool
  | .mk k i t a => tmKind k i t a.length && shapes a
where
  shapes : List Tm → Bool
    | [] => true
    | a :: r => a.shape && shapes r
theorem shape_eq (t : Tm) : t.shape = (tmKind t.kind t.index t.type t.args.length && shape.shapes t.args) := by cases t; rfl
theorem shapes_append (l m : List Tm) : shape.shapes (l ++ m) = (shape.shapes l && shape.shapes m) := by
  induction l with
  | nil => simp [shape.shapes]
  | cons a r ih => simp [shape.shapes, ih, Bool.and_assoc]
theorem shapes_iff (l : List Tm) : shape.shapes l = true ↔ ∀ a ∈ l, a.shape = true := by
  induction l with
  | nil => simp [shape.shapes]
  | cons a r ih => simp [shape.shapes, ih]
theorem count_mem {l : List Tm} {a : Tm} (h : a ∈ l) : a.count ≤ count.counts l := by
  induction l with
  | nil => cases h
  | cons b r ih =>
    simp only [count.counts]
    rcases List.mem_cons.1 h with rfl | h
    · omega
    · have := ih h; omega
/-- all types of a term are small enough to be counted -/
def tys : Tm → Prop
  | .mk _ _ t a => t.count ≤ 1073741824 ∧ tyss a
where
  tyss : List Tm → Prop
    | [] => True
    | a :: r => a.tys ∧ tyss r
theorem tyss_iff (l : List Tm) : tys.tyss l ↔ ∀ a ∈ l, a.tys := by
  induction l with
  | nil => simp [tys.tyss]
  | cons a r ih => simp [tys.tyss, ih]
theorem tys_eq (t : Tm) : t.tys ↔ t.type.count ≤ 1073741824 ∧ ∀ a ∈ t.args, a.tys := by cases t; simp only [tys, tyss_iff, type, args]
/-- the first error of a term -/
def checkN (t : Tm) : Int := if t.shape = true then if 4096 < t.count then 4 else 0 else 2
end Tm
theorem Ty.fit_len {t : Ty} (h : t.dv.fit) : t.args.length ≤ 2147483648 := ((Ty.fit_eq t).1 ((Ty.dv_fit t).1 h)).2.1
end Go.Proofs.YtmdjiajbnifjpaaDoor.Lift

/-
  Integer programs, plainly: the code of a term, block by block; the blocks in the order in which they are met; the program of blocks; reading a block back.
-/
namespace Go.Proofs.YtmdjiajbnifjpaaDoor.Lift
set_option linter.unusedSimpArgs false
set_option linter.unusedVariables false
set_option linter.unnecessarySimpa false
open Go

/-- an instruction: its operation and its number -/
abbrev Ins := Int × Int

def uTy : Ty := .mk 5 []
def zTy : Ty := .mk 0 []
def hasTy (k : Int) : Bool := decide (k = 2) || (decide (k = 6) || decide (k = 9))

namespace Tm
set_option linter.unusedSimpArgs false
set_option linter.unusedVariables false
set_option linter.unnecessarySimpa false
/-- the code of a term in its own block -/
def skel : Tm → List Ins
  | .mk k i _ a => if k = 2 then [(2, i)] else skels a ++ [(k, i)]
where
  skels : List Tm → List Ins
    | [] => []
    | a :: r => a.skel ++ skels r
/-- the bodies of its functions -/
def subs : Tm → List Tm
  | .mk k _ _ a => if k = 2 then a else subss a
where
  subss : List Tm → List Tm
    | [] => []
    | a :: r => a.subs ++ subss r
def untyped : Tm → Tm
  | .mk k i _ a => .mk k i (if hasTy k = true then uTy else zTy) (untypeds a)
where
  untypeds : List Tm → List Tm
    | [] => []
    | a :: r => a.untyped :: untypeds r
theorem skel_eq (t : Tm) : t.skel = if t.kind = 2 then [(2, t.index)] else skel.skels t.args ++ [(t.kind, t.index)] := by cases t; rfl
theorem subs_eq (t : Tm) : t.subs = if t.kind = 2 then t.args else subs.subss t.args := by cases t; rfl
theorem untypeds_map (l : List Tm) : untyped.untypeds l = l.map untyped := by
  induction l with
  | nil => rfl
  | cons a r ih => simp [untyped.untypeds, ih]
theorem untyped_eq (t : Tm) : t.untyped = .mk t.kind t.index (if hasTy t.kind = true then uTy else zTy) (t.args.map untyped) := by
  cases t
  show Tm.mk _ _ _ (untyped.untypeds _) = _
  rw [untypeds_map]
  rfl
theorem skels_append (l m : List Tm) : skel.skels (l ++ m) = skel.skels l ++ skel.skels m := by
  induction l with
  | nil => rfl
  | cons a r ih => simp [skel.skels, ih]
theorem subss_append (l m : List Tm) : subs.subss (l ++ m) = subs.subss l ++ subs.subss m := by
  induction l with
  | nil => rfl
  | cons a r ih => simp [subs.subss, ih]
theorem skel_count (t : Tm) : t.skel.length + count.counts t.subs = t.count := by
  induction t using Tm.ind with
  | h t ih =>
    have hl : ∀ l : List Tm, (∀ a ∈ l, a.skel.length + count.counts a.subs = a.count) → (skel.skels l).length + count.counts (subs.subss l) = count.counts l := by
      intro l
      induction l with
      | nil => intro _; rfl
      | cons a r ihr =>
        intro h
        have h1 := h a (by simp)
        have h2 := ihr fun b hb => h b (by simp [hb])
        have happ : ∀ l m : List Tm, count.counts (l ++ m) = count.counts l + count.counts m := by
          intro l m
          induction l with
          | nil => simp [count.counts]
          | cons a r ih => simp [count.counts, ih]; omega
        simp only [skel.skels, subs.subss, List.length_append, happ, count.counts]
        omega
    rw [skel_eq, subs_eq, count_eq]
    by_cases hk : t.kind = 2
    · rw [if_pos hk, if_pos hk]
      simp
    · rw [if_neg hk, if_neg hk]
      have := hl t.args ih
      simp only [List.length_append, List.length_singleton]
      omega
theorem skel_pos (t : Tm) : 1 ≤ t.skel.length := by
  rw [skel_eq]
  split <;> simp
theorem counts_app (l m : List Tm) : count.counts (l ++ m) = count.counts l + count.counts m := by
  induction l with
  | nil => simp [count.counts]
  | cons a r ih => simp [count.counts, ih]; omega
/-- the bodies in the order in which their blocks are laid -/
def bfs : List Tm → List Tm
  | [] => []
  | t :: r => t :: bfs (r ++ t.subs)
termination_by q => count.counts q
decreasing_by
  have := skel_count t
  have := skel_pos t
  simp only [counts_app, count.counts]
  omega
theorem bfs_nil : bfs [] = [] := by rw [bfs]
theorem bfs_cons (t : Tm) (r : List Tm) : bfs (t :: r) = t :: bfs (r ++ t.subs) := by rw [bfs]
theorem bfs_eq : ∀ q : List Tm, bfs q = q ++ (bfs q).flatMap subs
  | [] => by rw [bfs_nil]; rfl
  | t :: r => by
    have ih := bfs_eq (r ++ t.subs)
    rw [bfs_cons, List.flatMap_cons]
    rw [ih]
    simp only [List.flatMap_append, List.cons_append, List.append_assoc]
    congr 2
    have h2 : (bfs (r ++ t.subs)).flatMap subs = (r.flatMap subs ++ (t.subs.flatMap subs ++ ((bfs (r ++ t.subs)).flatMap subs).flatMap subs)) := by
      conv => lhs; rw [ih]
      simp
    congr 1
termination_by q => count.counts q
decreasing_by
  have := skel_count t
  have := skel_pos t
  simp only [counts_app, count.counts]
  omega
theorem bfs_count : ∀ q : List Tm, (((bfs q).map skel).flatten).length = count.counts q
  | [] => by rw [bfs_nil]; rfl
  | t :: r => by
    have ih := bfs_count (r ++ t.subs)
    have := skel_count t
    rw [bfs_cons, List.map_cons, List.flatten_cons, List.length_append, ih, counts_app]
    simp only [count.counts]
    omega
termination_by q => count.counts q
decreasing_by
  have := skel_count t
  have := skel_pos t
  simp only [counts_app, count.counts]
  omega
end Tm

/-- the blocks, each with its end -/
def lay (bs : List (List Ins)) : List Ins := bs.flatMap fun b => b ++ [(14, 0)]
theorem lay_append (l m : List (List Ins)) : lay (l ++ m) = lay l ++ lay m := List.flatMap_append
theorem lay_nil : lay [] = [] := rfl
theorem lay_one (b : List Ins) : lay [b] = b ++ [(14, 0)] := by simp [lay]
theorem lay_cons (b : List Ins) (r : List (List Ins)) : lay (b :: r) = b ++ [(14, 0)] ++ lay r := by simp [lay]
/-- how many functions code has -/
def funs (c : List Ins) : Nat := (c.filter fun x => decide (x.1 = 2)).length
theorem funs_append (c d : List Ins) : funs (c ++ d) = funs c + funs d := by simp [funs]
theorem funs_nil : funs [] = 0 := rfl
theorem funs_cons (x : Ins) (c : List Ins) : funs (x :: c) = (if x.1 = 2 then 1 else 0) + funs c := by
  by_cases h : x.1 = 2 <;> simp [funs, h] <;> omega
/-- the numbers of functions are put in -/
def fillF (p : Nat → Int) : Nat → List Ins → List Ins
  | _, [] => []
  | j, (o, a) :: r => if o = 2 then (2, p j) :: fillF p (j + 1) r else (o, a) :: fillF p j r
theorem fillF_append (p : Nat → Int) (j : Nat) (c d : List Ins) : fillF p j (c ++ d) = fillF p j c ++ fillF p (j + funs c) d := by
  induction c generalizing j with
  | nil => simp [fillF, funs]
  | cons x r ih =>
    obtain ⟨o, a⟩ := x
    simp only [List.cons_append, fillF, funs_cons]
    split
    · rw [ih, List.cons_append]; congr 2; congr 1; omega
    · rw [ih, List.cons_append]; congr 2; congr 1; omega
theorem fillF_length (p : Nat → Int) (j : Nat) (c : List Ins) : (fillF p j c).length = c.length := by
  induction c generalizing j with
  | nil => rfl
  | cons x r ih =>
    obtain ⟨o, a⟩ := x
    simp only [fillF]
    split <;> simp [ih]
theorem fillF_congr {p q : Nat → Int} {j : Nat} {c : List Ins} (h : ∀ i, i < funs c → p (j + i) = q (j + i)) : fillF p j c = fillF q j c := by
  induction c generalizing j with
  | nil => rfl
  | cons x r ih =>
    obtain ⟨o, a⟩ := x
    simp only [funs_cons] at h
    simp only [fillF]
    split
    · rename_i ho
      rw [if_pos ho] at h
      have h0 := h 0 (by omega)
      rw [Nat.add_zero] at h0
      rw [h0, ih fun i hi => ?_]
      have := h (i + 1) (by omega)
      rwa [show j + (i + 1) = j + 1 + i from by omega] at this
    · rename_i ho
      rw [if_neg ho] at h
      rw [ih fun i hi => h i (by omega)]
/-- where functions stand -/
def funPos : Nat → List Ins → List Int
  | _, [] => []
  | n, (o, _) :: r => if o = 2 then (n : Int) :: funPos (n + 1) r else funPos (n + 1) r
theorem funPos_append (n : Nat) (c d : List Ins) : funPos n (c ++ d) = funPos n c ++ funPos (n + c.length) d := by
  induction c generalizing n with
  | nil => simp [funPos]
  | cons x r ih =>
    obtain ⟨o, a⟩ := x
    simp only [List.cons_append, funPos, List.length_cons]
    have e : n + (r.length + 1) = n + 1 + r.length := by omega
    split <;> rw [ih, e] <;> rfl
theorem funPos_length (n : Nat) (c : List Ins) : (funPos n c).length = funs c := by
  induction c generalizing n with
  | nil => rfl
  | cons x r ih =>
    obtain ⟨o, a⟩ := x
    simp only [funPos, funs_cons]
    split <;> simp [ih]; omega
/-- the place of a function, and its number put in -/
theorem funPos_set (p : Nat → Int) : ∀ (c : List Ins) (n j m : Nat), m < funs c → ∃ i : Nat, (funPos n c)[m]? = some ((n + i : Nat) : Int) ∧ i < c.length ∧ (fillF p j c)[i]? = some (2, p (j + m)) ∧
    ∀ v : Int, (fillF p j c).set i (2, v) = fillF (fun x => if x = j + m then v else p x) j c
  | [], _, _, m, h => by simp [funs] at h
  | (o, a) :: r, n, j, m, h => by
    simp only [funs_cons] at h
    simp only [funPos, fillF]
    by_cases ho : o = 2
    · rw [if_pos ho, if_pos ho]
      rw [if_pos ho] at h
      cases m with
      | zero =>
        refine ⟨0, by simp, by simp, by simp, fun v => ?_⟩
        rw [List.set_cons_zero, if_pos ho]
        simp only [Nat.add_zero, if_true]
        congr 1
        exact fillF_congr fun i _ => by rw [if_neg (by omega)]
      | succ m =>
        obtain ⟨i, h1, h2, h3, h4⟩ := funPos_set p r (n + 1) (j + 1) m (by omega)
        refine ⟨i + 1, ?_, by simpa using h2, ?_, fun v => ?_⟩
        · rw [List.getElem?_cons_succ, h1]; congr 2; omega
        · rw [List.getElem?_cons_succ, h3]; congr 3; omega
        · rw [List.set_cons_succ, h4, if_pos ho, if_neg (by omega)]
          congr 1
          exact fillF_congr fun i _ => by congr 1; exact propext ⟨fun h => by omega, fun h => by omega⟩
    · rw [if_neg ho, if_neg ho]
      rw [if_neg ho] at h
      obtain ⟨i, h1, h2, h3, h4⟩ := funPos_set p r (n + 1) j m (by omega)
      refine ⟨i + 1, ?_, by simpa using h2, by rw [List.getElem?_cons_succ, h3], fun v => ?_⟩
      · rw [h1]; congr 2; omega
      · rw [List.set_cons_succ, h4, if_neg ho]

/-- where a block begins -/
def startAt (bs : List (List Ins)) (k : Nat) : Nat := (lay (bs.take k)).length
/-- the program of blocks: each function has the place of its block -/
def prog (bs : List (List Ins)) : List Ins := fillF (fun j => (startAt bs (j + 1) : Nat)) 0 (lay bs)
def Tm.blocks (t : Tm) : List (List Ins) := (Tm.bfs [t]).map Tm.skel
def Tm.codeN (t : Tm) : List Ins := prog t.blocks
/-- what Compile returns -/
def Tm.compN (t : Tm) : List Ins × Int := if t.checkN = 0 then if 4096 < t.codeN.length then ([], 4) else (t.codeN, 0) else ([], t.checkN)

/-- the program while its blocks are laid: functions whose block is not begun have 0 -/
def partC (bs : List (List Ins)) : List Ins := fillF (fun j => if j + 1 < bs.length then ((startAt bs (j + 1) : Nat) : Int) else 0) 0 (lay bs)
def Ins.row (x : Ins) : List DV := [dint x.1, dint x.2]
theorem lay_length (bs : List (List Ins)) : (lay bs).length = bs.flatten.length + bs.length := by
  induction bs with
  | nil => rfl
  | cons b r ih => rw [lay_cons]; simp [ih]; omega
theorem startAt_app (bs : List (List Ins)) (b : List Ins) {k : Nat} (h : k ≤ bs.length) : startAt (bs ++ [b]) k = startAt bs k := by
  unfold startAt
  rw [List.take_append_of_le_length h]
theorem startAt_all (bs : List (List Ins)) : startAt bs bs.length = (lay bs).length := by unfold startAt; rw [List.take_length]
theorem funs_skels (l : List Tm) (h : ∀ a ∈ l, funs a.skel = a.subs.length) : funs (Tm.skel.skels l) = (Tm.subs.subss l).length := by
  induction l with
  | nil => rfl
  | cons a r ih => simp only [Tm.skel.skels, Tm.subs.subss, funs_append, List.length_append]; rw [h a (by simp), ih fun b hb => h b (by simp [hb])]
theorem funs_skel (t : Tm) (h : t.shape = true) : funs t.skel = t.subs.length := by
  induction t using Tm.ind with
  | h t ih =>
    rw [Tm.shape_eq, Bool.and_eq_true] at h
    have hs := (Tm.shapes_iff _).1 h.2
    rw [Tm.skel_eq, Tm.subs_eq]
    by_cases hk : t.kind = 2
    · rw [if_pos hk, if_pos hk]
      have h1 := h.1
      simp only [tmKind, hk, Bool.and_eq_true, decide_eq_true_eq, arityI] at h1
      have : t.args.length = 1 := by have := h1.1.1.1; simp at this; omega
      rw [this]; rfl
    · rw [if_neg hk, if_neg hk, funs_append, funs_skels t.args fun a ha => ih a ha (hs a ha)]
      simp [funs, hk]
theorem subs_shape (t : Tm) (h : t.shape = true) : ∀ s ∈ t.subs, s.shape = true := by
  induction t using Tm.ind with
  | h t ih =>
    rw [Tm.shape_eq, Bool.and_eq_true] at h
    have hs := (Tm.shapes_iff _).1 h.2
    rw [Tm.subs_eq]
    by_cases hk : t.kind = 2
    · rw [if_pos hk]; exact hs
    · rw [if_neg hk]
      have hl : ∀ l : List Tm, (∀ a ∈ l, ∀ s ∈ a.subs, s.shape = true) → ∀ s ∈ Tm.subs.subss l, s.shape = true := by
        intro l
        induction l with
        | nil => intro _ s hs; cases hs
        | cons a r ihr =>
          intro h s hm
          rcases List.mem_append.1 hm with hm | hm
          · exact h a (by simp) s hm
          · exact ihr (fun b hb => h b (by simp [hb])) s hm
      exact hl _ fun a ha => ih a ha (hs a ha)
theorem bfs_shape : ∀ q : List Tm, (∀ t ∈ q, t.shape = true) → ∀ t ∈ Tm.bfs q, t.shape = true
  | [], _ => by rw [Tm.bfs_nil]; intro t ht; cases ht
  | t :: r, h => by
    rw [Tm.bfs_cons]
    intro s hs
    rcases List.mem_cons.1 hs with rfl | hs
    · exact h _ (by simp)
    · refine bfs_shape (r ++ t.subs) (fun x hx => ?_) s hs
      rcases List.mem_append.1 hx with hx | hx
      · exact h x (by simp [hx])
      · exact subs_shape t (h t (by simp)) x hx
termination_by q => Tm.count.counts q
decreasing_by
  have := Tm.skel_count t
  have := Tm.skel_pos t
  simp only [Tm.counts_app, Tm.count.counts]
  omega

/-- how many terms an operation takes -/
def takesI (o : Int) : Nat := if o = 5 ∨ o = 11 ∨ o = 12 then 1 else if o = 3 ∨ o = 8 ∨ o = 10 then 2 else if o = 6 ∨ o = 9 then 3 else 0
/-- one instruction on a stack of terms, the last one on top -/
def stepB (body : Int → Tm) (st : List Tm) (x : Ins) : List Tm :=
  st.take (st.length - takesI x.1) ++ [.mk x.1 (if x.1 = 1 then x.2 else 0) (if hasTy x.1 = true then uTy else zTy) (if x.1 = 2 then [body x.2] else st.drop (st.length - takesI x.1))]
def runB (body : Int → Tm) (c : List Ins) (st : List Tm) : List Tm := c.foldl (stepB body) st
theorem runB_append (body : Int → Tm) (c d : List Ins) (st : List Tm) : runB body (c ++ d) st = runB body d (runB body c st) := List.foldl_append
theorem tm_takes {t : Tm} (h : t.shape = true) (hk : ¬ t.kind = 2) : takesI t.kind = t.args.length := by
  rw [Tm.shape_eq, Bool.and_eq_true] at h
  have h1 := h.1
  simp only [tmKind, Bool.and_eq_true, decide_eq_true_eq] at h1
  have h2 := h1.1.1.1
  unfold arityI at h2
  unfold takesI
  repeat' split at h2
  all_goals first
    | omega
    | (split <;> first | omega | (split <;> first | omega | (split <;> omega)))
theorem tm_index {t : Tm} (h : t.shape = true) (hk : ¬ t.kind = 1) : t.index = 0 := by
  rw [Tm.shape_eq, Bool.and_eq_true] at h
  have h1 := h.1
  simp only [tmKind, Bool.and_eq_true, Bool.or_eq_true, decide_eq_true_eq] at h1
  exact h1.1.2.resolve_left hk
/-- a block of a term, run, leads to the term without types -/
theorem run_skel (body : Int → Tm) (p : Nat → Int) (t : Tm) (h : t.shape = true) (j : Nat) (hb : ∀ (i : Nat) (s : Tm), t.subs[i]? = some s → body (p (j + i)) = s.untyped) (st : List Tm) : runB body (fillF p j t.skel) st = st ++ [t.untyped] := by
  induction t using Tm.ind generalizing j st with
  | h t ih =>
    have h0 := h
    rw [Tm.shape_eq, Bool.and_eq_true] at h
    have hs := (Tm.shapes_iff _).1 h.2
    by_cases hk : t.kind = 2
    · rw [Tm.subs_eq, if_pos hk] at hb
      have h1 := h.1
      simp only [tmKind, hk, Bool.and_eq_true, decide_eq_true_eq, arityI] at h1
      have hlen : t.args.length = 1 := by have := h1.1.1.1; simp at this; omega
      obtain ⟨b, hab⟩ := List.length_eq_one_iff.1 hlen
      have hb0 := hb 0 b (by rw [hab]; rfl)
      rw [Nat.add_zero] at hb0
      rw [Tm.skel_eq, if_pos hk, Tm.untyped_eq, hab, tm_index h0 (by omega), hk]
      simp [fillF, runB, stepB, hb0, takesI]
    · have hl : ∀ (l : List Tm), (∀ a ∈ l, ∀ (j : Nat), (∀ (i : Nat) (s : Tm), a.subs[i]? = some s → body (p (j + i)) = s.untyped) → ∀ st, runB body (fillF p j a.skel) st = st ++ [a.untyped]) → (∀ a ∈ l, a.shape = true) →
          ∀ (j : Nat), (∀ (i : Nat) (s : Tm), (Tm.subs.subss l)[i]? = some s → body (p (j + i)) = s.untyped) → ∀ st, runB body (fillF p j (Tm.skel.skels l)) st = st ++ l.map Tm.untyped := by
        intro l
        induction l with
        | nil => intro _ _ j _ st; simp [Tm.skel.skels, fillF, runB]
        | cons a r ihr =>
          intro h1 h2 j hb st
          simp only [Tm.subs.subss] at hb
          simp only [Tm.skel.skels, fillF_append, runB_append, funs_skel a (h2 a (by simp))]
          rw [h1 a (by simp) j (fun i s hi => hb i s (by rw [List.getElem?_append_left (List.getElem?_eq_some_iff.1 hi).1]; exact hi)) st]
          rw [ihr (fun b hb => h1 b (by simp [hb])) (fun b hb => h2 b (by simp [hb])) (j + a.subs.length) (fun i s hi => by
            have := hb (a.subs.length + i) s (by rw [List.getElem?_append_right (by omega)]; rw [show a.subs.length + i - a.subs.length = i from by omega]; exact hi)
            rwa [← Nat.add_assoc] at this)]
          simp
      rw [Tm.subs_eq, if_neg hk] at hb
      rw [Tm.skel_eq, if_neg hk, fillF_append, runB_append, hl t.args (fun a ha j hb st => ih a ha (hs a ha) j hb st) hs j hb]
      have htk := tm_takes h0 hk
      rw [Tm.untyped_eq]
      have hi : (if t.kind = 1 then t.index else 0) = t.index := by
        by_cases h1 : t.kind = 1
        · rw [if_pos h1]
        · rw [if_neg h1, tm_index h0 h1]
      simp only [fillF, if_neg hk, runB, List.foldl_cons, List.foldl_nil, stepB, htk, List.length_append, List.length_map, Nat.add_sub_cancel, List.take_left', List.drop_left', hi]
end Go.Proofs.YtmdjiajbnifjpaaDoor.Lift

/-
  Valid programs, plainly: what Starts sees, and the blocks of what it accepts; the terms of the blocks, from the last one on.
-/
namespace Go.Proofs.YtmdjiajbnifjpaaDoor.Lift
set_option linter.unusedSimpArgs false
set_option linter.unusedVariables false
set_option linter.unnecessarySimpa false
open Go

/-- the number of an instruction is right at its place -/
def okI (n : Nat) (x : Ins) : Bool := decide (1 ≤ x.1) && decide (x.1 ≤ 13) && (if x.1 = 2 then decide ((n : Int) < x.2) else if x.1 = 1 then decide (0 ≤ x.2) else decide (x.2 = 0))
/-- the loop of Starts -/
def scanS : List Ins → Nat → Int → List Int → List Int → Option (List Int × List Int)
  | [], _, _, st, fs => some (st, fs)
  | x :: r, n, h, st, fs =>
    if x.1 = 14 then if x.2 = 0 ∧ h = 1 then scanS r (n + 1) 0 (st ++ [((n + 1 : Nat) : Int)]) fs else none
    else if okI n x = true ∧ (takesI x.1 : Int) ≤ h then scanS r (n + 1) (h + 1 - takesI x.1) st (if x.1 = 2 then fs ++ [x.2] else fs) else none
def lastOp (c : List Ins) : Int := (c.getLast?.getD (0, 0)).1
/-- what Starts returns -/
def startsN (c : List Ins) : List Int × Bool :=
  if c = [] ∨ 4096 < c.length ∨ ¬ lastOp c = 14 then ([], false) else
  match scanS c 0 0 [0] [] with
  | none => ([], false)
  | some (st, fs) => if st.dropLast.tail = fs then (st.dropLast, true) else ([], false)

/-- how high the stack is behind some instructions -/
def hts : List Ins → Int → Option Int
  | [], h => some h
  | x :: r, h => if (takesI x.1 : Int) ≤ h then hts r (h + 1 - takesI x.1) else none
def ends (n : Nat) : List (List Ins) → List Int
  | [] => []
  | b :: r => ((n + b.length + 1 : Nat) : Int) :: ends (n + b.length + 1) r
def funA : List Ins → List Int
  | [] => []
  | x :: r => if x.1 = 2 then x.2 :: funA r else funA r
theorem funA_append (c d : List Ins) : funA (c ++ d) = funA c ++ funA d := by
  induction c with
  | nil => rfl
  | cons x r ih =>
    simp only [List.cons_append, funA]
    split <;> simp [ih]
theorem funA_length (c : List Ins) : (funA c).length = funs c := by
  induction c with
  | nil => rfl
  | cons x r ih =>
    simp only [funA, funs_cons]
    split <;> simp [ih]; omega
def okCd : Nat → List Ins → Prop
  | _, [] => True
  | n, x :: r => (¬ x.1 = 14 → okI n x = true) ∧ okCd (n + 1) r
theorem okCd_append (n : Nat) (c d : List Ins) : okCd n (c ++ d) ↔ okCd n c ∧ okCd (n + c.length) d := by
  induction c generalizing n with
  | nil => simp [okCd]
  | cons x r ih =>
    simp only [List.cons_append, okCd, ih, List.length_cons, and_assoc]
    rw [show n + (r.length + 1) = n + 1 + r.length from by omega]
theorem okCd_at {n : Nat} {c : List Ins} (h : okCd n c) {i : Nat} {x : Ins} (hi : c[i]? = some x) (hx : ¬ x.1 = 14) : okI (n + i) x = true := by
  induction c generalizing n i with
  | nil => cases hi
  | cons y r ih =>
    cases i with
    | zero => simp at hi; subst hi; exact h.1 hx
    | succ i =>
      rw [List.getElem?_cons_succ] at hi
      have := ih h.2 hi
      rwa [show n + 1 + i = n + (i + 1) from by omega] at this
theorem lastOp_cons (x : Ins) {r : List Ins} (h : r ≠ []) : lastOp (x :: r) = lastOp r := by
  unfold lastOp
  cases r with
  | nil => exact absurd rfl h
  | cons y t => simp [List.getLast?_cons]

theorem scan_inv : ∀ (c : List Ins) (n : Nat) (h : Int) (st fs : List Int) (q : List Int × List Int), scanS c n h st fs = some q → c ≠ [] → lastOp c = 14 →
    ∃ b bs, c = lay (b :: bs) ∧ hts b h = some 1 ∧ (∀ d ∈ bs, hts d 0 = some 1) ∧ okCd n c ∧ (∀ d ∈ b :: bs, ∀ x ∈ d, ¬ x.1 = 14) ∧ q = (st ++ ends n (b :: bs), fs ++ funA c)
  | [], _, _, _, _, _, _, h, _ => absurd rfl h
  | x :: r, n, h, st, fs, q, hs, _, hl => by
    simp only [scanS] at hs
    by_cases hx : x.1 = 14
    · rw [if_pos hx] at hs
      split at hs
      · rename_i hc
        obtain ⟨h1, h2⟩ := hc
        have hxe : x = (14, 0) := by cases x; simp only at hx h1; rw [hx, h1]
        subst hxe
        by_cases hr : r = []
        · subst hr
          simp only [scanS, Option.some.injEq] at hs
          refine ⟨[], [], by simp [lay], by rw [h2]; rfl, by simp, ⟨by simp, trivial⟩, by simp, ?_⟩
          rw [← hs]
          simp [ends, funA]
        · obtain ⟨b, bs, i1, i2, i3, i4, i5, i6⟩ := scan_inv r (n + 1) 0 _ fs q hs hr (by rw [← lastOp_cons _ hr]; exact hl)
          refine ⟨[], b :: bs, by rw [lay_cons, ← i1]; rfl, by rw [h2]; rfl, ?_, ⟨by simp, i4⟩, ?_, ?_⟩
          · intro d hd
            rcases List.mem_cons.1 hd with rfl | hd
            · exact i2
            · exact i3 d hd
          · intro d hd
            rcases List.mem_cons.1 hd with rfl | hd
            · intro x hx; cases hx
            · exact i5 d hd
          · rw [i6]
            simp [ends, funA]
      · cases hs
    · rw [if_neg hx] at hs
      split at hs
      · rename_i hc
        have hr : r ≠ [] := by
          rintro rfl
          simp [lastOp] at hl
          exact hx hl
        obtain ⟨b, bs, i1, i2, i3, i4, i5, i6⟩ := scan_inv r (n + 1) _ st _ q hs hr (by rw [← lastOp_cons _ hr]; exact hl)
        refine ⟨x :: b, bs, by rw [i1]; simp [lay], by rw [hts, if_pos hc.2]; exact i2, i3, ⟨fun _ => hc.1, i4⟩, ?_, ?_⟩
        · intro d hd
          rcases List.mem_cons.1 hd with rfl | hd
          · intro y hy
            rcases List.mem_cons.1 hy with rfl | hy
            · exact hx
            · exact i5 b (by simp) y hy
          · exact i5 d (by simp [hd])
        · rw [i6]
          congr 1
          · simp only [ends, List.length_cons]
            rw [show n + 1 + b.length + 1 = n + (b.length + 1) + 1 from by omega]
          · simp only [funA]
            split <;> simp
      · cases hs

theorem scan_fwd : ∀ (b : List Ins) (bs : List (List Ins)) (n : Nat) (h : Int) (st fs : List Int), hts b h = some 1 → (∀ d ∈ bs, hts d 0 = some 1) → okCd n (lay (b :: bs)) → (∀ d ∈ b :: bs, ∀ x ∈ d, ¬ x.1 = 14) →
    scanS (lay (b :: bs)) n h st fs = some (st ++ ends n (b :: bs), fs ++ funA (lay (b :: bs)))
  | [], bs, n, h, st, fs, h1, h2, h3, h4 => by
    obtain rfl : h = 1 := by simpa [hts] using h1
    rw [lay_cons] at h3 ⊢
    simp only [List.nil_append, List.cons_append, scanS, if_true, and_self, okCd] at h3 ⊢
    cases bs with
    | nil => simp [lay, scanS, ends, funA]
    | cons d r =>
      rw [scan_fwd d r (n + 1) 0 _ fs (h2 d (by simp)) (fun x hx => h2 x (by simp [hx])) h3.2 fun x hx => h4 x (by simp [hx])]
      simp [ends, funA]
  | x :: b, bs, n, h, st, fs, h1, h2, h3, h4 => by
    have hx : ¬ x.1 = 14 := h4 (x :: b) (by simp) x (by simp)
    have he : lay ((x :: b) :: bs) = x :: lay (b :: bs) := by simp [lay]
    rw [he] at h3 ⊢
    simp only [hts] at h1
    split at h1
    · rename_i hc
      simp only [scanS, if_neg hx]
      rw [if_pos ⟨h3.1 hx, hc⟩]
      rw [scan_fwd b bs (n + 1) _ st _ h1 h2 h3.2 fun d hd y hy => by
        rcases List.mem_cons.1 hd with rfl | hd
        · exact h4 (x :: d) (by simp) y (by simp [hy])
        · exact h4 d (by simp [hd]) y hy]
      congr 2
      · simp only [ends, List.length_cons]
        rw [show n + 1 + b.length + 1 = n + (b.length + 1) + 1 from by omega]
      · simp only [funA]
        split <;> simp
    · cases h1
termination_by b bs => (lay (b :: bs)).length
decreasing_by
  all_goals (subst_vars; simp [lay])

/-- a valid program, by its blocks -/
structure Prg (bs : List (List Ins)) : Prop where
  one : bs ≠ []
  len : (lay bs).length ≤ 4096
  high : ∀ d ∈ bs, hts d 0 = some 1
  ok : okCd 0 (lay bs)
  no14 : ∀ d ∈ bs, ∀ x ∈ d, ¬ x.1 = 14
  at' : funA (lay bs) = (ends 0 bs).dropLast
theorem lay_last (b : List Ins) (bs : List (List Ins)) : lastOp (lay (b :: bs)) = 14 := by
  have : ∃ c, lay (b :: bs) = c ++ [(14, 0)] := by
    induction bs generalizing b with
    | nil => exact ⟨b, by simp [lay]⟩
    | cons d r ih =>
      obtain ⟨c, hc⟩ := ih d
      exact ⟨b ++ [(14, 0)] ++ c, by rw [lay_cons, hc]; simp⟩
  obtain ⟨c, hc⟩ := this
  rw [hc]
  simp [lastOp]
theorem ends_length (n : Nat) (bs : List (List Ins)) : (ends n bs).length = bs.length := by
  induction bs generalizing n with
  | nil => rfl
  | cons b r ih => simp [ends, ih]
theorem starts_of {c : List Ins} {s : List Int} (h : startsN c = (s, true)) : ∃ bs, c = lay bs ∧ Prg bs ∧ s = 0 :: (ends 0 bs).dropLast := by
  unfold startsN at h
  split at h
  · cases h
  · rename_i h0
    simp only [not_or, Decidable.not_not] at h0
    split at h
    · cases h
    · rename_i st fs hs
      obtain ⟨b, bs, i1, i2, i3, i4, i5, i6⟩ := scan_inv c 0 0 _ _ _ hs h0.1 h0.2.2
      simp only [Prod.mk.injEq, List.nil_append, List.cons_append] at i6
      have hne : ends 0 (b :: bs) ≠ [] := by simp [ends]
      split at h
      · rename_i hd
        rw [i6.1, i6.2, List.dropLast_cons_of_ne_nil hne, List.tail_cons] at hd
        simp only [Prod.mk.injEq, and_true] at h
        refine ⟨b :: bs, i1, ⟨by simp, by rw [← i1]; omega, ?_, by rw [← i1]; exact i4, i5, by rw [← i1]; exact hd.symm⟩, ?_⟩
        · intro d hd
          rcases List.mem_cons.1 hd with rfl | hd
          · exact i2
          · exact i3 d hd
        · rw [← h, i6.1, List.dropLast_cons_of_ne_nil hne]
      · cases h
theorem starts_to {bs : List (List Ins)} (h : Prg bs) : startsN (lay bs) = (0 :: (ends 0 bs).dropLast, true) := by
  obtain ⟨h1, h2, h3, h4, h5, h6⟩ := h
  cases bs with
  | nil => exact absurd rfl h1
  | cons b r =>
    unfold startsN
    have hne : ends 0 (b :: r) ≠ [] := by simp [ends]
    rw [if_neg (by
      simp only [not_or, Decidable.not_not]
      exact ⟨by simp [lay], by omega, lay_last b r⟩)]
    rw [scan_fwd b r 0 0 [0] [] (h3 b (by simp)) (fun d hd => h3 d (by simp [hd])) h4 h5]
    simp only [List.nil_append, List.cons_append]
    rw [List.dropLast_cons_of_ne_nil hne, List.tail_cons, h6, if_pos rfl]
theorem starts_snd {c : List Ins} : (startsN c).2 = true → startsN c = ((startsN c).1, true) := fun h => by rw [← h]

/-- what a map holds at a number -/
def look (m : List (Int × Tm)) (a : Int) : Tm := ((m.find? fun e => decide (e.1 = a)).map (·.2)).getD (.mk 0 0 zTy [])
theorem look_of {m : List (Int × Tm)} {a : Int} {v : Tm} (h : (a, v) ∈ m) (hu : ∀ v', (a, v') ∈ m → v' = v) : look m a = v := by
  unfold look
  induction m with
  | nil => cases h
  | cons e r ih =>
    rw [List.find?_cons]
    by_cases he : e.1 = a
    · simp only [he, decide_true]
      have := hu e.2 (by rw [← he]; simp)
      simpa using this
    · simp only [he, decide_false]
      rcases List.mem_cons.1 h with h | h
      · exact absurd (by rw [← h]) he
      · exact ih h fun v' hv => hu v' (by simp [hv])
/-- the terms of blocks, from the last one on -/
def decs : List (Int × List Ins) → List (Int × Tm)
  | [] => []
  | (s, b) :: r => decs r ++ [(s, (runB (look (decs r)) b []).headD (.mk 0 0 zTy []))]
/-- what Term returns -/
def termOf (bs : List (List Ins)) : Tm := look (decs ((0 :: (ends 0 bs).dropLast).zip bs)) 0
def splitC : List Ins → List (List Ins)
  | [] => []
  | x :: r => if x.1 = 14 then [] :: splitC r else match splitC r with
    | [] => [[x]]
    | b :: bs => (x :: b) :: bs
theorem split_block (b c : List Ins) (h : ∀ x ∈ b, ¬ x.1 = 14) : splitC (b ++ (14, 0) :: c) = b :: splitC c := by
  induction b with
  | nil => simp [splitC]
  | cons x r ih =>
    have hx := h x (by simp)
    rw [List.cons_append, splitC, if_neg hx, ih fun y hy => h y (by simp [hy])]
theorem split_lay (bs : List (List Ins)) (h : ∀ d ∈ bs, ∀ x ∈ d, ¬ x.1 = 14) : splitC (lay bs) = bs := by
  induction bs with
  | nil => rfl
  | cons b r ih =>
    rw [lay_cons, List.append_assoc, List.cons_append, List.nil_append, split_block b _ (h b (by simp)), ih fun d hd => h d (by simp [hd])]
def termC (c : List Ins) : Tm × Int := if (startsN c).2 = true then (termOf (splitC c), 0) else (.mk 0 0 zTy [], 43)

/-! the program of a term is valid, and leads back -/
theorem ends_get (n : Nat) (bs : List (List Ins)) (k : Nat) (h : k < bs.length) : (ends n bs)[k]? = some ((n + startAt bs (k + 1) : Nat) : Int) := by
  induction bs generalizing n k with
  | nil => simp at h
  | cons b r ih =>
    cases k with
    | zero => simp [ends, startAt, lay]; omega
    | succ k =>
      rw [ends, List.getElem?_cons_succ, ih _ _ (by simpa using h)]
      simp only [startAt, List.take_succ_cons, lay_cons, List.length_append, List.length_singleton]
      congr 2
      omega
/-- the starts of the blocks -/
theorem starts_eq (bs : List (List Ins)) (h : bs ≠ []) : (0 :: (ends 0 bs).dropLast) = (List.range bs.length).map fun k => ((startAt bs k : Nat) : Int) := by
  have hp : 0 < bs.length := List.length_pos_iff.2 h
  apply List.ext_getElem?
  intro i
  cases i with
  | zero =>
    rw [List.getElem?_cons_zero, List.getElem?_map, List.getElem?_range hp]
    simp [startAt, lay]
  | succ i =>
    rw [List.getElem?_cons_succ]
    by_cases hi : i + 1 < bs.length
    · rw [List.getElem?_map, List.getElem?_range hi, List.getElem?_dropLast, if_pos (by rw [ends_length]; omega), ends_get 0 bs i (by omega)]
      simp
    · rw [List.getElem?_eq_none (by simp [ends_length]; omega), List.getElem?_eq_none (by simp; omega)]
theorem funA_fill (p : Nat → Int) (j : Nat) (c : List Ins) : funA (fillF p j c) = (List.range' j (funs c)).map p := by
  induction c generalizing j with
  | nil => simp [fillF, funA, funs]
  | cons x r ih =>
    obtain ⟨o, a⟩ := x
    simp only [fillF, funs_cons]
    by_cases ho : o = 2
    · rw [if_pos ho, if_pos ho, funA, if_pos rfl, ih, show 1 + funs r = funs r + 1 from by omega, List.range'_succ, List.map_cons]
    · rw [if_neg ho, if_neg ho, funA, if_neg ho, ih, Nat.zero_add]
/-- blocks with the numbers put in -/
def fillB (p : Nat → Int) : Nat → List (List Ins) → List (List Ins)
  | _, [] => []
  | j, b :: r => fillF p j b :: fillB p (j + funs b) r
theorem lay_fill (p : Nat → Int) (j : Nat) (bs : List (List Ins)) : fillF p j (lay bs) = lay (fillB p j bs) := by
  induction bs generalizing j with
  | nil => rfl
  | cons b r ih =>
    rw [lay_cons, fillF_append, fillF_append, fillB, lay_cons, ih, funs_append]
    simp [fillF, funs]
theorem fillB_length (p : Nat → Int) (j : Nat) (bs : List (List Ins)) : (fillB p j bs).length = bs.length := by
  induction bs generalizing j with
  | nil => rfl
  | cons b r ih => simp [fillB, ih]
theorem startAt_fill (p : Nat → Int) (j : Nat) (bs : List (List Ins)) (k : Nat) : startAt (fillB p j bs) k = startAt bs k := by
  unfold startAt
  have : ∀ (bs : List (List Ins)) (j k : Nat), (lay ((fillB p j bs).take k)).length = (lay (bs.take k)).length := by
    intro bs
    induction bs with
    | nil => intro j k; rfl
    | cons b r ih =>
      intro j k
      cases k with
      | zero => rfl
      | succ k =>
        rw [fillB, List.take_succ_cons, List.take_succ_cons, lay_cons, lay_cons]
        simp only [List.length_append, fillF_length, ih]
  exact this bs j k
theorem hts_append (c d : List Ins) (h : Int) : hts (c ++ d) h = (hts c h).bind (hts d) := by
  induction c generalizing h with
  | nil => rfl
  | cons x r ih =>
    simp only [List.cons_append, hts]
    split
    · exact ih _
    · rfl
theorem hts_fill (p : Nat → Int) (j : Nat) (c : List Ins) (h : Int) : hts (fillF p j c) h = hts c h := by
  induction c generalizing j h with
  | nil => rfl
  | cons x r ih =>
    obtain ⟨o, a⟩ := x
    simp only [fillF]
    split
    · rename_i ho
      simp only [hts, ho, ih]
    · simp only [hts, ih]
theorem hts_skel (t : Tm) (hs : t.shape = true) (h : Int) (h0 : 0 ≤ h) : hts t.skel h = some (h + 1) := by
  induction t using Tm.ind generalizing h with
  | h t ih =>
    have hs0 := hs
    rw [Tm.shape_eq, Bool.and_eq_true] at hs
    have hss := (Tm.shapes_iff _).1 hs.2
    rw [Tm.skel_eq]
    by_cases hk : t.kind = 2
    · rw [if_pos hk]
      simp [hts, takesI, h0]
    · rw [if_neg hk, hts_append]
      have hl : ∀ l : List Tm, (∀ a ∈ l, ∀ h : Int, 0 ≤ h → hts a.skel h = some (h + 1)) → ∀ h : Int, 0 ≤ h → hts (Tm.skel.skels l) h = some (h + l.length) := by
        intro l
        induction l with
        | nil => intro _ h _; simp [Tm.skel.skels, hts]
        | cons a r ihr =>
          intro h1 h hh
          rw [Tm.skel.skels, hts_append, h1 a (by simp) h hh, Option.bind_some, ihr (fun b hb => h1 b (by simp [hb])) _ (by omega)]
          simp only [List.length_cons]
          congr 1
          push_cast
          omega
      rw [hl t.args (fun a ha h hh => ih a ha (hss a ha) h hh) h h0, Option.bind_some]
      have := tm_takes hs0 hk
      simp only [hts]
      rw [this, if_pos (by omega)]
      congr 1
      omega
theorem skel_ok (t : Tm) (hs : t.shape = true) : ∀ x ∈ t.skel, 1 ≤ x.1 ∧ x.1 ≤ 13 ∧ (if x.1 = 1 then 0 ≤ x.2 else x.2 = 0) := by
  induction t using Tm.ind with
  | h t ih =>
    have hs0 := hs
    rw [Tm.shape_eq, Bool.and_eq_true] at hs
    have hss := (Tm.shapes_iff _).1 hs.2
    have h1 := hs.1
    simp only [tmKind, Bool.and_eq_true, decide_eq_true_eq] at h1
    have hi := h1.1.1.2
    have hk : 1 ≤ t.kind ∧ t.kind ≤ 13 := by
      have h2 := h1.1.1.1
      unfold arityI at h2
      repeat' split at h2
      all_goals omega
    have hz := fun h => tm_index hs0 h
    rw [Tm.skel_eq]
    by_cases h2 : t.kind = 2
    · rw [if_pos h2]
      intro x hx
      obtain rfl := List.mem_singleton.1 hx
      refine ⟨(by decide : (1 : Int) ≤ 2), (by decide : (2 : Int) ≤ 13), ?_⟩
      rw [if_neg (by decide : ¬ (2 : Int) = 1)]
      exact hz (by omega)
    · rw [if_neg h2]
      intro x hx
      rcases List.mem_append.1 hx with hx | hx
      · have hl : ∀ l : List Tm, (∀ a ∈ l, ∀ x ∈ a.skel, 1 ≤ x.1 ∧ x.1 ≤ 13 ∧ (if x.1 = 1 then 0 ≤ x.2 else x.2 = 0)) → ∀ x ∈ Tm.skel.skels l, 1 ≤ x.1 ∧ x.1 ≤ 13 ∧ (if x.1 = 1 then 0 ≤ x.2 else x.2 = 0) := by
          intro l
          induction l with
          | nil => intro _ x hx; cases hx
          | cons a r ihr =>
            intro h x hx
            rcases List.mem_append.1 hx with hx | hx
            · exact h a (by simp) x hx
            · exact ihr (fun b hb => h b (by simp [hb])) x hx
        exact hl t.args (fun a ha => ih a ha (hss a ha)) x hx
      · obtain rfl := List.mem_singleton.1 hx
        refine ⟨hk.1, hk.2, ?_⟩
        by_cases h3 : t.kind = 1
        · rw [if_pos h3]; exact hi
        · rw [if_neg h3]; exact hz h3
end Go.Proofs.YtmdjiajbnifjpaaDoor.Lift

/-
  The program of a term is valid, leads back to the term without types, and tells it.
-/
namespace Go.Proofs.YtmdjiajbnifjpaaDoor.Lift
set_option linter.unusedSimpArgs false
set_option linter.unusedVariables false
set_option linter.unnecessarySimpa false
open Go

theorem bfs_take : ∀ (i : Nat) (q : List Tm), i ≤ (Tm.bfs q).length → ∃ r, (Tm.bfs q).take i ++ r = q ++ ((Tm.bfs q).take i).flatMap Tm.subs ∧ Tm.bfs q = (Tm.bfs q).take i ++ Tm.bfs r
  | 0, q, _ => ⟨q, by simp, by simp⟩
  | i + 1, [], h => by rw [Tm.bfs_nil] at h; simp at h
  | i + 1, t :: q, h => by
    rw [Tm.bfs_cons] at h ⊢
    obtain ⟨r, h1, h2⟩ := bfs_take i (q ++ t.subs) (by simpa using h)
    refine ⟨r, ?_, ?_⟩
    · rw [List.take_succ_cons, List.cons_append, h1, List.flatMap_cons]
      simp
    · rw [List.take_succ_cons, List.cons_append, ← h2]
/-- how many functions stand before a block -/
def funsB (bs : List (List Ins)) (i : Nat) : Nat := funs (lay (bs.take i))
theorem funs_lay_skel (l : List Tm) (h : ∀ t ∈ l, t.shape = true) : funs (lay (l.map Tm.skel)) = (l.flatMap Tm.subs).length := by
  induction l with
  | nil => rfl
  | cons t r ih =>
    rw [List.map_cons, lay_cons, funs_append, funs_append, List.flatMap_cons, List.length_append, ih fun x hx => h x (by simp [hx]), funs_skel t (h t (by simp))]
    simp [funs]
theorem blocks_funs (t : Tm) (h : t.shape = true) : funs (lay t.blocks) + 1 = t.blocks.length := by
  unfold Tm.blocks
  rw [funs_lay_skel _ (bfs_shape _ (by simpa using h)), List.length_map]
  have := congrArg List.length (Tm.bfs_eq [t])
  rw [List.length_append, List.length_singleton] at this
  omega
theorem blocks_before (t : Tm) (h : t.shape = true) (i : Nat) (hi : i < t.blocks.length) : i ≤ funsB t.blocks i := by
  unfold funsB
  unfold Tm.blocks at hi ⊢
  rw [List.length_map] at hi
  have hsh := bfs_shape [t] (by simpa using h)
  rw [← List.map_take, funs_lay_skel _ fun x hx => hsh x (List.mem_of_mem_take hx)]
  obtain ⟨r, h1, h2⟩ := bfs_take i [t] (by omega)
  have hr : r ≠ [] := by
    rintro rfl
    rw [Tm.bfs_nil, List.append_nil] at h2
    have := congrArg List.length h2
    rw [List.length_take] at this
    omega
  have h3 := congrArg List.length h1
  have h4 : 0 < r.length := List.length_pos_iff.2 hr
  simp only [List.length_append, List.length_take, List.length_singleton] at h3
  omega

theorem startAt_mono (bs : List (List Ins)) {i k : Nat} (h : i ≤ k) : startAt bs i ≤ startAt bs k := by
  unfold startAt
  obtain ⟨d, rfl⟩ := Nat.exists_eq_add_of_le h
  rw [List.take_add, lay_append, List.length_append]
  exact Nat.le_add_right _ _
theorem startAt_succ (bs : List (List Ins)) {i : Nat} {b : List Ins} (h : bs[i]? = some b) : startAt bs (i + 1) = startAt bs i + b.length + 1 := by
  unfold startAt
  rw [List.take_add_one, h, lay_append, List.length_append, Option.toList_some, lay_one, List.length_append, List.length_singleton]
  omega
theorem startAt_lt (bs : List (List Ins)) {i k : Nat} (h : i < k) (hk : k ≤ bs.length) : startAt bs i < startAt bs k := by
  obtain ⟨b, hb⟩ : ∃ b, bs[i]? = some b := ⟨_, List.getElem?_eq_getElem (by omega)⟩
  have h1 := startAt_succ bs hb
  have h2 := startAt_mono bs (show i + 1 ≤ k from h)
  omega
theorem startAt_inj (bs : List (List Ins)) {i k : Nat} (hi : i ≤ bs.length) (hk : k ≤ bs.length) (h : startAt bs i = startAt bs k) : i = k := by
  rcases Nat.lt_trichotomy i k with h1 | h1 | h1
  · have := startAt_lt bs h1 hk; omega
  · exact h1
  · have := startAt_lt bs h1 hi; omega

def insOK (x : Ins) : Prop := 1 ≤ x.1 ∧ x.1 ≤ 13 ∧ (if x.1 = 1 then 0 ≤ x.2 else x.2 = 0)
theorem okCd_fill (p : Nat → Int) : ∀ (c : List Ins) (n j : Nat), (∀ x ∈ c, x.1 = 14 ∨ insOK x) → (∀ m, m < funs c → ((n + c.length : Nat) : Int) ≤ p (j + m)) → okCd n (fillF p j c)
  | [], _, _, _, _ => trivial
  | (o, a) :: r, n, j, h1, h2 => by
    simp only [funs_cons, List.length_cons] at h2
    simp only [fillF]
    by_cases ho : o = 2
    · rw [if_pos ho]
      rw [if_pos ho] at h2
      refine ⟨fun _ => ?_, okCd_fill p r (n + 1) (j + 1) (fun x hx => h1 x (by simp [hx])) fun m hm => ?_⟩
      · have := h2 0 (by omega)
        simp only [Nat.add_zero] at this
        simp only [okI, if_true, Bool.and_eq_true, decide_eq_true_eq]
        refine ⟨⟨by decide, by decide⟩, by omega⟩
      · have := h2 (m + 1) (by omega)
        rw [show j + (m + 1) = j + 1 + m from by omega] at this
        omega
    · rw [if_neg ho]
      rw [if_neg ho] at h2
      refine ⟨fun h14 => ?_, okCd_fill p r (n + 1) j (fun x hx => h1 x (by simp [hx])) fun m hm => ?_⟩
      · rcases h1 (o, a) (by simp) with h | ⟨k1, k2, k3⟩
        · exact absurd h h14
        · simp only at k1 k2 k3
          simp only [okI, if_neg ho, Bool.and_eq_true, decide_eq_true_eq]
          refine ⟨⟨k1, k2⟩, ?_⟩
          by_cases h : o = 1
          · rw [if_pos h] at k3 ⊢; exact decide_eq_true k3
          · rw [if_neg h] at k3 ⊢; exact decide_eq_true k3
      · have := h2 m (by omega)
        omega
theorem okCd_lay (p : Nat → Int) : ∀ (bs : List (List Ins)) (n j : Nat), (∀ d ∈ bs, ∀ x ∈ d, insOK x) → (∀ i m (d : List Ins), bs[i]? = some d → m < funs d → ((n + startAt bs (i + 1) : Nat) : Int) ≤ p (j + funsB bs i + m)) → okCd n (fillF p j (lay bs))
  | [], _, _, _, _ => trivial
  | b :: r, n, j, h1, h2 => by
    rw [lay_cons, fillF_append, okCd_append, fillF_length]
    have hfb : funs (b ++ [(14, 0)]) = funs b := by rw [funs_append]; simp [funs]
    constructor
    · refine okCd_fill p _ n j (fun x hx => ?_) fun m hm => ?_
      · rcases List.mem_append.1 hx with hx | hx
        · exact .inr (h1 b (by simp) x hx)
        · obtain rfl := List.mem_singleton.1 hx; exact .inl rfl
      · rw [hfb] at hm
        have := h2 0 m b rfl hm
        simp only [startAt, funsB, List.take_zero, lay_nil, funs_nil, List.take_succ_cons, lay_one] at this
        simpa using this
    · refine okCd_lay p r _ _ (fun d hd => h1 d (by simp [hd])) fun i m d hd hm => ?_
      have := h2 (i + 1) m d (by rw [List.getElem?_cons_succ]; exact hd) hm
      simp only [startAt, funsB, List.take_succ_cons, lay_cons, List.length_append, funs_append] at this ⊢
      have e1 : funs [(14, 0)] = 0 := by simp [funs]
      rw [e1] at this ⊢
      simp only [Nat.add_zero] at this ⊢
      have e2 : j + (funs b + funs (lay (List.take i r))) + m = j + funs b + funs (lay (List.take i r)) + m := by omega
      rw [e2] at this
      omega
theorem fillB_get (p : Nat → Int) : ∀ (bs : List (List Ins)) (j i : Nat) (b : List Ins), bs[i]? = some b → (fillB p j bs)[i]? = some (fillF p (j + funsB bs i) b)
  | [], _, _, _, h => by simp at h
  | d :: r, j, 0, b, h => by
    simp at h; subst h
    simp [fillB, funsB, lay, funs]
  | d :: r, j, i + 1, b, h => by
    rw [List.getElem?_cons_succ] at h
    rw [fillB, List.getElem?_cons_succ, fillB_get p r _ i b h]
    simp only [funsB, List.take_succ_cons, lay_cons, funs_append]
    congr 2
    have e1 : funs [(14, 0)] = 0 := by simp [funs]
    rw [e1]
    omega

/-- the numbers of a term's functions -/
def Tm.at (t : Tm) (j : Nat) : Int := ((startAt t.blocks (j + 1) : Nat) : Int)
/-- the blocks of a term's program -/
def Tm.code (t : Tm) : List (List Ins) := fillB t.at 0 t.blocks
theorem code_lay (t : Tm) : t.codeN = lay t.code := lay_fill _ _ _
theorem blocks_ne (t : Tm) : t.blocks ≠ [] := by unfold Tm.blocks; rw [Tm.bfs_cons]; simp
theorem blocks_get {t : Tm} (h : t.shape = true) {i : Nat} {b : List Ins} (hb : t.blocks[i]? = some b) : ∃ s : Tm, (Tm.bfs [t])[i]? = some s ∧ s.shape = true ∧ b = s.skel := by
  unfold Tm.blocks at hb
  rw [List.getElem?_map] at hb
  obtain ⟨s, hs, rfl⟩ := Option.map_eq_some_iff.1 hb
  exact ⟨s, hs, bfs_shape [t] (by simpa using h) s (List.mem_of_getElem? hs), rfl⟩
theorem code_get {t : Tm} {i : Nat} {d : List Ins} (hd : t.code[i]? = some d) : ∃ b, t.blocks[i]? = some b ∧ d = fillF t.at (funsB t.blocks i) b := by
  have hi : i < t.blocks.length := by have := (List.getElem?_eq_some_iff.1 hd).1; rwa [Tm.code, fillB_length] at this
  refine ⟨_, List.getElem?_eq_getElem hi, ?_⟩
  have := fillB_get t.at t.blocks 0 i _ (List.getElem?_eq_getElem hi)
  rw [Tm.code] at hd
  rw [hd, Nat.zero_add] at this
  exact Option.some.inj this
theorem fill_no14 (p : Nat → Int) (j : Nat) (c : List Ins) (h : ∀ x ∈ c, ¬ x.1 = 14) : ∀ x ∈ fillF p j c, ¬ x.1 = 14 := by
  induction c generalizing j with
  | nil => intro x hx; cases hx
  | cons y r ih =>
    obtain ⟨o, a⟩ := y
    intro x hx
    simp only [fillF] at hx
    have h0 := h (o, a) (by simp)
    split at hx
    · rcases List.mem_cons.1 hx with rfl | hx
      · show ¬ ((2 : Int) = 14)
        decide
      · exact ih _ (fun y hy => h y (by simp [hy])) x hx
    · rcases List.mem_cons.1 hx with rfl | hx
      · exact h0
      · exact ih _ (fun y hy => h y (by simp [hy])) x hx
theorem code_prg (t : Tm) (h : t.shape = true) (hl : t.codeN.length ≤ 4096) : Prg t.code := by
  have hne := blocks_ne t
  refine ⟨?_, by rw [← code_lay]; exact hl, ?_, ?_, ?_, ?_⟩
  · intro he
    have := congrArg List.length he
    rw [Tm.code, fillB_length] at this
    exact hne (List.length_eq_zero_iff.1 this)
  · intro d hd
    obtain ⟨i, hi⟩ := List.mem_iff_getElem?.1 hd
    obtain ⟨b, hb, rfl⟩ := code_get hi
    obtain ⟨s, -, hs, rfl⟩ := blocks_get h hb
    rw [hts_fill]
    exact hts_skel s hs 0 (by omega)
  · rw [← code_lay]
    refine okCd_lay _ _ 0 0 (fun d hd x hx => ?_) fun i m d hd hm => ?_
    · obtain ⟨i, hi⟩ := List.mem_iff_getElem?.1 hd
      obtain ⟨s, -, hs, rfl⟩ := blocks_get h hi
      exact skel_ok s hs x hx
    · have h1 := blocks_before t h i (List.getElem?_eq_some_iff.1 hd).1
      have h2 := startAt_mono t.blocks (show i + 1 ≤ 0 + funsB t.blocks i + m + 1 from by omega)
      omega
  · intro d hd x hx
    obtain ⟨i, hi⟩ := List.mem_iff_getElem?.1 hd
    obtain ⟨b, hb, rfl⟩ := code_get hi
    obtain ⟨s, -, hs, rfl⟩ := blocks_get h hb
    exact fill_no14 _ _ _ (fun y hy => by have := (skel_ok s hs y hy).2.1; omega) x hx
  · rw [← code_lay, Tm.codeN, prog, funA_fill]
    have hf := blocks_funs t h
    apply List.ext_getElem?
    intro k
    rw [List.getElem?_dropLast, ends_length, Tm.code, fillB_length]
    by_cases hk : k < funs (lay t.blocks)
    · rw [if_pos (by omega), List.getElem?_map, ends_get 0 _ k (by rw [fillB_length]; omega), startAt_fill, Nat.zero_add]
      simp [List.getElem?_range', hk]
    · rw [if_neg (by omega), List.getElem?_eq_none (by simp; omega)]

theorem bfs_sub (t : Tm) (h : t.shape = true) {i m : Nat} {s x : Tm} (hs : (Tm.bfs [t])[i]? = some s) (hm : s.subs[m]? = some x) : (Tm.bfs [t])[funsB t.blocks i + m + 1]? = some x := by
  have hsh := bfs_shape [t] (by simpa using h)
  have hi := (List.getElem?_eq_some_iff.1 hs).1
  have e : Tm.bfs [t] = (Tm.bfs [t]).take i ++ (s :: (Tm.bfs [t]).drop (i + 1)) := by
    have h1 : (Tm.bfs [t]).drop i = s :: (Tm.bfs [t]).drop (i + 1) := by
      rw [List.drop_eq_getElem_cons hi]
      congr 1
      rw [List.getElem?_eq_getElem hi] at hs
      exact Option.some.inj hs
    rw [← h1, List.take_append_drop]
  have hf : funsB t.blocks i = (((Tm.bfs [t]).take i).flatMap Tm.subs).length := by
    unfold funsB Tm.blocks
    rw [← List.map_take, funs_lay_skel _ fun x hx => hsh x (List.mem_of_mem_take hx)]
  rw [Tm.bfs_eq, hf, List.singleton_append, List.getElem?_cons_succ]
  have e2 : (Tm.bfs [t]).flatMap Tm.subs = ((Tm.bfs [t]).take i).flatMap Tm.subs ++ (s.subs ++ ((Tm.bfs [t]).drop (i + 1)).flatMap Tm.subs) := by
    conv => lhs; rw [e]
    rw [List.flatMap_append, List.flatMap_cons]
  rw [e2, List.getElem?_append_right (by omega), Nat.add_sub_cancel_left, List.getElem?_append_left (List.getElem?_eq_some_iff.1 hm).1, hm]

theorem decs_code (t : Tm) (h : t.shape = true) : ∀ (d i : Nat), i + d = t.blocks.length → ∀ e : Int × Tm, e ∈ decs (((0 :: (ends 0 t.code).dropLast).zip t.code).drop i) ↔ ∃ k s, i ≤ k ∧ (Tm.bfs [t])[k]? = some s ∧ e = (((startAt t.blocks k : Nat) : Int), s.untyped)
  | 0, i, hi, e => by
    have hz : ((0 :: (ends 0 t.code).dropLast).zip t.code).drop i = [] := List.drop_eq_nil_of_le (by
      rw [List.length_zip, Tm.code, fillB_length]; omega)
    rw [hz]
    refine ⟨fun hm => (by simp [decs] at hm), ?_⟩
    rintro ⟨k, s, h1, h2, -⟩
    have := (List.getElem?_eq_some_iff.1 h2).1
    have h3 : t.blocks.length = (Tm.bfs [t]).length := by unfold Tm.blocks; rw [List.length_map]
    omega
  | d + 1, i, hi, e => by
    have ih := decs_code t h d (i + 1) (by omega)
    have h3 : t.blocks.length = (Tm.bfs [t]).length := by unfold Tm.blocks; rw [List.length_map]
    have hlen : t.code.length = t.blocks.length := by rw [Tm.code, fillB_length]
    have hcne : t.code ≠ [] := by intro he; rw [he] at hlen; simp at hlen; omega
    have hib : i < t.blocks.length := by omega
    obtain ⟨s, hs, hsh, hbs⟩ := blocks_get h (List.getElem?_eq_getElem hib)
    have hci : t.code[i]? = some (fillF t.at (funsB t.blocks i) s.skel) := by
      have := fillB_get t.at t.blocks 0 i _ (List.getElem?_eq_getElem hib)
      rw [Nat.zero_add, hbs] at this
      exact this
    have hsi : (0 :: (ends 0 t.code).dropLast)[i]? = some ((startAt t.blocks i : Nat) : Int) := by
      rw [starts_eq _ hcne, List.getElem?_map, List.getElem?_range (by omega), Option.map_some, Tm.code, startAt_fill]
    have hz : ((0 :: (ends 0 t.code).dropLast).zip t.code)[i]? = some (((startAt t.blocks i : Nat) : Int), fillF t.at (funsB t.blocks i) s.skel) := by
      rw [List.getElem?_zip_eq_some]; exact ⟨hsi, hci⟩
    have hdr : ((0 :: (ends 0 t.code).dropLast).zip t.code).drop i = (((startAt t.blocks i : Nat) : Int), fillF t.at (funsB t.blocks i) s.skel) :: ((0 :: (ends 0 t.code).dropLast).zip t.code).drop (i + 1) := by
      have hlt := (List.getElem?_eq_some_iff.1 hz).1
      rw [List.drop_eq_getElem_cons hlt]
      congr 1
      rw [List.getElem?_eq_getElem hlt] at hz
      exact Option.some.inj hz
    have hrun : runB (look (decs (((0 :: (ends 0 t.code).dropLast).zip t.code).drop (i + 1)))) (fillF t.at (funsB t.blocks i) s.skel) [] = [s.untyped] := by
      have := run_skel (look (decs (((0 :: (ends 0 t.code).dropLast).zip t.code).drop (i + 1)))) t.at s hsh (funsB t.blocks i) (fun m x hm => ?_) []
      · simpa using this
      · have hx := bfs_sub t h hs hm
        have hkb := (List.getElem?_eq_some_iff.1 hx).1
        have hle := blocks_before t h i hib
        refine look_of ((ih _).2 ⟨funsB t.blocks i + m + 1, x, by omega, hx, rfl⟩) fun v' hv => ?_
        obtain ⟨k', s', q1, q2, q3⟩ := (ih _).1 hv
        simp only [Prod.mk.injEq, Tm.at] at q3
        have hk' := (List.getElem?_eq_some_iff.1 q2).1
        have := startAt_inj t.blocks (i := funsB t.blocks i + m + 1) (k := k') (by omega) (by omega) (by omega)
        rw [← this, hx] at q2
        rw [q3.2, ← Option.some.inj q2]
    rw [hdr, decs, hrun, List.mem_append, ih, List.mem_singleton, List.headD_cons]
    constructor
    · rintro (⟨k, x, h1, h2, h3⟩ | rfl)
      · exact ⟨k, x, by omega, h2, h3⟩
      · exact ⟨i, s, Nat.le_refl _, hs, rfl⟩
    · rintro ⟨k, x, h1, h2, h3⟩
      by_cases hk : k = i
      · subst hk
        rw [hs] at h2
        obtain rfl := Option.some.inj h2
        exact .inr h3
      · exact .inl ⟨k, x, by omega, h2, h3⟩
/-- A PROGRAM LEADS BACK TO ITS TERM, WITHOUT TYPES -/
theorem code_back (t : Tm) (h : t.shape = true) : termOf t.code = t.untyped := by
  have hd := decs_code t h t.blocks.length 0 (by omega)
  simp only [List.drop_zero] at hd
  have h0 : (Tm.bfs [t])[0]? = some t := by rw [Tm.bfs_cons]; rfl
  refine look_of ((hd _).2 ⟨0, t, Nat.le_refl _, h0, by simp [startAt, lay]⟩) fun v' hv => ?_
  obtain ⟨k, s, h1, h2, h3⟩ := (hd _).1 hv
  simp only [Prod.mk.injEq] at h3
  have hk := (List.getElem?_eq_some_iff.1 h2).1
  have h4 : t.blocks.length = (Tm.bfs [t]).length := by unfold Tm.blocks; rw [List.length_map]
  have := startAt_inj t.blocks (i := k) (k := 0) (by omega) (by omega) (by simp [startAt, lay] at h3 ⊢; omega)
  rw [this, h0] at h2
  rw [h3.2, ← Option.some.inj h2]

/-! types play no part -/
end Go.Proofs.YtmdjiajbnifjpaaDoor.Lift

namespace Go.Proofs.YtmdjiajbnifjpaaDoor.Lift
set_option linter.unusedSimpArgs false
set_option linter.unusedVariables false
set_option linter.unnecessarySimpa false
open Go
variable {gl : Globs}

abbrev ptr (b : Nat) : DV := .prim (.pointer (some ⟨b, 0, none⟩))
/-- a deck of numbers, as an object's cells -/
abbrev deck (l : List Int) (p : Nat) : List DV := [.sl (ints l), dint p]

def modz (n k : Int) : Int := (n.tmod k + k).tmod k
theorem modz_bd (n k : Int) (h : 1 ≤ k) : 0 ≤ modz n k ∧ modz n k < k ∧ -k < n.tmod k ∧ n.tmod k < k := by
  have h1 : -k < n.tmod k := by
    have := Int.lt_tmod_of_pos n (show 0 < k by omega); omega
  have h2 : n.tmod k < k := Int.tmod_lt_of_pos n (by omega)
  refine ⟨?_, Int.tmod_lt_of_pos _ (by omega), h1, h2⟩
  exact Int.tmod_nonneg _ (by omega)

theorem mod_ok (n k : Int) (h1 : 1 ≤ k) (h2 : k ≤ 2147483648) : Con1 Tryd.prog gl 60 [dint n, dint k] [] (dint (modz n k)) [] := by
  refine t_in Tryd.func60 ?_
  intro X hP hgl hf hfn hn hR hids hfit
  have hb := modz_bd n k h1
  unfold modz at hb
  refine t_rg0 ?_
  refine t_a ?_
  first | refine W_reg [] fun K hK => ?_ | refine W_regd (by rw [hP]; exact mixed) [] fun K hK => ?_
  refine t_s0 ?_
  have hk0 : ¬ k = 0 := by omega
  refine ⟨⟨hk0, by omega⟩, ?_⟩
  refine ⟨by omega, ⟨hk0, by omega⟩, ?_⟩
  refine t_e ?_
  clear hK K
  refine t_r ?_
  simp [go_sem, hP, hgl, hn, modz] <;> (try omega)

theorem few_ok (l : List Int) : Con1 Tryd.prog gl 9 [.sl (ints l)] [] (dbool (decide (l.length ≤ 500))) [] := by
  refine t_in Tryd.func9 ?_
  intro X hP hgl hf hfn hn hR hids hfit
  refine t_rg0 ?_
  refine t_rg0 ?_
  refine t_r ?_
  simp [go_sem, hP, hgl, hn] <;> (try omega)

theorem new_ok (l : List Int) : Con Tryd.prog gl 13 [.sl (ints l)] [] fun r φ => ∃ b, r = ptr b ∧ φ = [(b, deck l 0)] := by
  refine t_in Tryd.func13 ?_
  intro X hP hgl hf hfn hn hR hids hfit
  refine t_rg0 ?_
  refine t_rg0 ?_
  refine W_expose 5 (by simp [go_sem]; rfl) ?_
  intro b hb
  simp [go_sem]
  refine W_retR hP hf hfn (ptr b) [(b, deck l 0)] (by simp [go_sem, hP, hgl, hn]) (by simp [go_sem]) (by simp) (by rw [hR.1]; exact ⟨b, rfl, rfl⟩) hR.2

/-- the next number below n -/
def nextD (l : List Int) (p : Nat) (n : Int) : Int × Nat :=
  if n < 1 then (0, p) else match l[p]? with
    | some x => (modz x n, p + 1)
    | none => (0, p)

theorem next_ok (b : Nat) (l : List Int) (p : Nat) (n : Int) (hn2 : n ≤ 2147483648) (hp : p ≤ 2147483648) :
    Con1 Tryd.prog gl 28 [ptr b, dint n] [(b, deck l p)] (dint (nextD l p n).1) [(b, deck l (nextD l p n).2)] := by
  refine t_in Tryd.func28 ?_
  intro X hP hgl hf hfn hn hR hids hfit
  refine t_rg0 ?_
  by_cases hlt : n < 1
  · refine t_rg @hlt ?_
    refine t_a ?_
    refine W_cond rfl ?_ ?_
    rotate_left
    · intro h; simp at h
    intro _
    refine t_rg0 ?_
    repeat (first | refine W_seq ?_ | refine W_skip ?_ | refine W_block ?_ | refine W_inBlock ?_ | refine W_label ?_ | refine W_exit rfl ?_)
    first | refine W_retR hP hf hfn _ ([(b, deck l p)]) (by first | (simp [go_sem, hP, hgl, hn, nextD, hlt]; done) | (simp [go_sem, hP, hgl, hn, nextD, hlt]; rfl)) (by simp [go_sem, hP, hgl, hn, nextD, hlt]) (by simp) ?_ hR.2 | refine W_endR hP hf hfn _ ([(b, deck l p)]) (by first | (simp [go_sem, hP, hgl, hn, nextD, hlt]; done) | (simp [go_sem, hP, hgl, hn, nextD, hlt]; rfl)) (by simp [go_sem, hP, hgl, hn, nextD, hlt]) (by simp) ?_ hR.2
    rw [hR.1]
    refine ⟨?_, by simp [nextD, hlt]⟩
    try simp [nextD, hlt]
    try all_goals (simp [Ty.dv, Ty.cells_eq, Ty.kind_mk, Ty.args_mk, Tm.dv, Tm.cells_eq, Tm.kind_mk, Tm.index_mk, Tm.type_mk, Tm.args_mk, Val.dv, Val.cells_eq, Val.kind_mk, Val.num_mk, Val.list_mk, Val.args_mk, ints])
  · by_cases hle : l.length ≤ p
    · refine t_rg (j2 @hlt @hle) ?_
      refine t_a ?_
      refine W_cond rfl ?_ ?_
      rotate_left
      · intro h; simp [hle] at h
      intro _
      refine t_rg0 ?_
      have hg : l[p]? = none := List.getElem?_eq_none hle
      repeat (first | refine W_seq ?_ | refine W_skip ?_ | refine W_block ?_ | refine W_inBlock ?_ | refine W_label ?_ | refine W_exit rfl ?_)
      first | refine W_retR hP hf hfn _ ([(b, deck l p)]) (by first | (simp [go_sem, hP, hgl, hn, nextD, hlt, hg]; done) | (simp [go_sem, hP, hgl, hn, nextD, hlt, hg]; rfl)) (by simp [go_sem, hP, hgl, hn, nextD, hlt, hg]) (by simp) ?_ hR.2 | refine W_endR hP hf hfn _ ([(b, deck l p)]) (by first | (simp [go_sem, hP, hgl, hn, nextD, hlt, hg]; done) | (simp [go_sem, hP, hgl, hn, nextD, hlt, hg]; rfl)) (by simp [go_sem, hP, hgl, hn, nextD, hlt, hg]) (by simp) ?_ hR.2
      rw [hR.1]
      refine ⟨?_, by simp [nextD, hlt, hg]⟩
      try simp [nextD, hlt, hg]
      try all_goals (simp [Ty.dv, Ty.cells_eq, Ty.kind_mk, Ty.args_mk, Tm.dv, Tm.cells_eq, Tm.kind_mk, Tm.index_mk, Tm.type_mk, Tm.args_mk, Val.dv, Val.cells_eq, Val.kind_mk, Val.num_mk, Val.list_mk, Val.args_mk, ints])
    · refine t_rg (j2 @hlt @hle) ?_
      refine t_a ?_
      refine W_cond rfl ?_ ?_
      · intro h; simp [hle] at h
      intro _
      obtain ⟨x, hx⟩ : ∃ x, l[p]? = some x := ⟨_, List.getElem?_eq_getElem (by omega)⟩
      have hg := ints_get hx
      refine t_rg @hg ?_
      refine t_rg0 ?_
      refine t_a ?_
      first | refine W_reg [] fun K hK => ?_ | refine W_regd (by rw [hP]; exact mixed) [] fun K hK => ?_
      refine t_s0 ?_
      refine t_c trivial (mod_ok x n (by omega) hn2) ?_
      refine t_e ?_
      clear hK K
      repeat (first | refine W_seq ?_ | refine W_skip ?_ | refine W_block ?_ | refine W_inBlock ?_ | refine W_label ?_ | refine W_exit rfl ?_)
      first | refine W_retR hP hf hfn _ ([(b, deck l (p + 1))]) (by first | (simp [go_sem, hP, hgl, hn, nextD, hlt, hx]; done) | (simp [go_sem, hP, hgl, hn, nextD, hlt, hx]; rfl)) (by simp [go_sem, hP, hgl, hn, nextD, hlt, hx]) (by simp) ?_ hR.2 | refine W_endR hP hf hfn _ ([(b, deck l (p + 1))]) (by first | (simp [go_sem, hP, hgl, hn, nextD, hlt, hx]; done) | (simp [go_sem, hP, hgl, hn, nextD, hlt, hx]; rfl)) (by simp [go_sem, hP, hgl, hn, nextD, hlt, hx]) (by simp) ?_ hR.2
      rw [hR.1]
      refine ⟨?_, by simp [nextD, hlt, hx]⟩
      try simp [nextD, hlt, hx]
      try all_goals (simp [Ty.dv, Ty.cells_eq, Ty.kind_mk, Ty.args_mk, Tm.dv, Tm.cells_eq, Tm.kind_mk, Tm.index_mk, Tm.type_mk, Tm.args_mk, Val.dv, Val.cells_eq, Val.kind_mk, Val.num_mk, Val.list_mk, Val.args_mk, ints])
end Go.Proofs.YtmdjiajbnifjpaaDoor.Lift

namespace Go.Proofs.YtmdjiajbnifjpaaDoor.Lift
set_option linter.unusedSimpArgs false
set_option linter.unusedVariables false
set_option linter.unnecessarySimpa false
open Go
variable {gl : Globs}

def wantI (k : Int) : Int := if k = 3 ∨ k = 4 then 2 else 0

theorem ref01_shape_ok (t : Ty) : Con1 Tryd.prog gl 85 [t.dv] [] (dbool t.shape) [] := by
  induction t using Ty.ind with
  | h t ih =>
  refine t_in Tryd.func85 ?_
  intro X hP hgl hf hfn hn hR hids hfit
  have hlen := Ty.fit_len (hfit t.dv (by simp))
  have hs := Ty.shape_eq t
  refine t_rg0 ?_
  refine t_rg0 ?_
  refine t_rg0 ?_
  repeat (first | refine W_seq ?_ | refine W_skip ?_ | refine W_inBlock ?_ | refine W_label ?_)
  refine W_cutP (t.kind = 1 ∨ t.kind = 2 ∨ t.kind = 5 ∨ t.kind = 3 ∨ t.kind = 4) [(.slot 3, .one (.v (dint (wantI t.kind)))), (.loc 1, .row ([.v (dint t.kind), .v (.sl (t.args.map Ty.cells))])), (.slot 1, .one (.loc 1 0))] ?_ ?_
  · intro hrest
    by_cases h1 : t.kind = 1
    · repeat (first | (refine W_sub [] (by simp [go_sem]) (by simp [go_sem, wantI, h1] <;> omega) (by simp [go_sem]) (hrest (by simp [h1]))) | refine W_seq ?_ | refine W_skip ?_ | refine W_block ?_ | refine W_inBlock ?_ | refine W_label ?_ | refine W_exit rfl ?_ | ((first | refine W_reg [] fun K hK => ?_ | refine W_regd (by rw [hP]; exact mixed) [] fun K hK => ?_); simp [go_sem, hP, hgl, hn, h1]; (repeat (refine ⟨by omega, ?_⟩)); (first | refine hK _ ?_ | refine ⟨by rfl, hK _ ?_⟩); clear hK K) | refine W_cond rfl (fun _ => ?_) (fun hq => False.elim (by first | (simp [h1]; done) | (simp [h1]; omega) | (simp [h1] at hq; done) | (simp [h1] at hq; omega))) | refine W_cond rfl (fun hq => False.elim (by first | (simp [h1]; done) | (simp [h1]; omega) | (simp [h1] at hq; done) | (simp [h1] at hq; omega))) (fun _ => ?_))
    by_cases h2 : t.kind = 2
    · repeat (first | (refine W_sub [] (by simp [go_sem]) (by simp [go_sem, wantI, h2] <;> omega) (by simp [go_sem]) (hrest (by simp [h2]))) | refine W_seq ?_ | refine W_skip ?_ | refine W_block ?_ | refine W_inBlock ?_ | refine W_label ?_ | refine W_exit rfl ?_ | ((first | refine W_reg [] fun K hK => ?_ | refine W_regd (by rw [hP]; exact mixed) [] fun K hK => ?_); simp [go_sem, hP, hgl, hn, h2]; (repeat (refine ⟨by omega, ?_⟩)); (first | refine hK _ ?_ | refine ⟨by rfl, hK _ ?_⟩); clear hK K) | refine W_cond rfl (fun _ => ?_) (fun hq => False.elim (by first | (simp [h2]; done) | (simp [h2]; omega) | (simp [h2] at hq; done) | (simp [h2] at hq; omega))) | refine W_cond rfl (fun hq => False.elim (by first | (simp [h2]; done) | (simp [h2]; omega) | (simp [h2] at hq; done) | (simp [h2] at hq; omega))) (fun _ => ?_))
    by_cases h3 : t.kind = 5
    · repeat (first | (refine W_sub [] (by simp [go_sem]) (by simp [go_sem, wantI, h3] <;> omega) (by simp [go_sem]) (hrest (by simp [h3]))) | refine W_seq ?_ | refine W_skip ?_ | refine W_block ?_ | refine W_inBlock ?_ | refine W_label ?_ | refine W_exit rfl ?_ | ((first | refine W_reg [] fun K hK => ?_ | refine W_regd (by rw [hP]; exact mixed) [] fun K hK => ?_); simp [go_sem, hP, hgl, hn, h3]; (repeat (refine ⟨by omega, ?_⟩)); (first | refine hK _ ?_ | refine ⟨by rfl, hK _ ?_⟩); clear hK K) | refine W_cond rfl (fun _ => ?_) (fun hq => False.elim (by first | (simp [h3]; done) | (simp [h3]; omega) | (simp [h3] at hq; done) | (simp [h3] at hq; omega))) | refine W_cond rfl (fun hq => False.elim (by first | (simp [h3]; done) | (simp [h3]; omega) | (simp [h3] at hq; done) | (simp [h3] at hq; omega))) (fun _ => ?_))
    by_cases h4 : t.kind = 3
    · repeat (first | (refine W_sub [] (by simp [go_sem]) (by simp [go_sem, wantI, h4] <;> omega) (by simp [go_sem]) (hrest (by simp [h4]))) | refine W_seq ?_ | refine W_skip ?_ | refine W_block ?_ | refine W_inBlock ?_ | refine W_label ?_ | refine W_exit rfl ?_ | ((first | refine W_reg [] fun K hK => ?_ | refine W_regd (by rw [hP]; exact mixed) [] fun K hK => ?_); simp [go_sem, hP, hgl, hn, h4]; (repeat (refine ⟨by omega, ?_⟩)); (first | refine hK _ ?_ | refine ⟨by rfl, hK _ ?_⟩); clear hK K) | refine W_cond rfl (fun _ => ?_) (fun hq => False.elim (by first | (simp [h4]; done) | (simp [h4]; omega) | (simp [h4] at hq; done) | (simp [h4] at hq; omega))) | refine W_cond rfl (fun hq => False.elim (by first | (simp [h4]; done) | (simp [h4]; omega) | (simp [h4] at hq; done) | (simp [h4] at hq; omega))) (fun _ => ?_))
    by_cases h5 : t.kind = 4
    · repeat (first | (refine W_sub [] (by simp [go_sem]) (by simp [go_sem, wantI, h5] <;> omega) (by simp [go_sem]) (hrest (by simp [h5]))) | refine W_seq ?_ | refine W_skip ?_ | refine W_block ?_ | refine W_inBlock ?_ | refine W_label ?_ | refine W_exit rfl ?_ | ((first | refine W_reg [] fun K hK => ?_ | refine W_regd (by rw [hP]; exact mixed) [] fun K hK => ?_); simp [go_sem, hP, hgl, hn, h5]; (repeat (refine ⟨by omega, ?_⟩)); (first | refine hK _ ?_ | refine ⟨by rfl, hK _ ?_⟩); clear hK K) | refine W_cond rfl (fun _ => ?_) (fun hq => False.elim (by first | (simp [h5]; done) | (simp [h5]; omega) | (simp [h5] at hq; done) | (simp [h5] at hq; omega))) | refine W_cond rfl (fun hq => False.elim (by first | (simp [h5]; done) | (simp [h5]; omega) | (simp [h5] at hq; done) | (simp [h5] at hq; omega))) (fun _ => ?_))
    refine t_g (j2 @h1 (j2 @h2 (j2 @h3 (j2 @h4 @h5)))) ?_
    refine t_r ?_
    simp [go_sem, hP, hgl, hn, hs, tyKind, h1, h2, h3, h4, h5] <;> (try omega)
  · intro hk
    by_cases hl : (t.args.length : Int) = wantI t.kind
    · have hty : tyKind t.kind t.args.length = true := by
        unfold wantI at hl
        unfold tyKind
        rcases hk with h | h | h | h | h <;> simp [h] at hl ⊢ <;> omega
      refine t_g @hl ?_
      refine t_a ?_
      refine W_sub [] (by simp [go_sem]) (by simp [go_sem, Ty.shape.shapes] <;> omega) (by simp [go_sem]) (W_listI (t.args) (fun done => Ty.shape.shapes done = true) (fun done rest => [(.slot 23, .one (.v (dint done.length))), (.slot 22, .one (.v (dint t.args.length))), (.slot 21, .one (.v (.sl (t.args.map Ty.cells))))]) (rfl) ?_ ?_)
      · intro done x rest hL hg hI hnext
        have hlt : done.length < t.args.length := by rw [hL]; simp
        refine t_rg0 ?_
        refine t_yes ?_
        refine t_rg @hg ?_
        refine t_c1 @hg (ih x (List.mem_of_getElem? hg)) ?_
        by_cases hx : x.shape = true
        · refine t_n @hx ?_
          refine t_gt (wr []) trivial @hx (hnext (by rw [Ty.shapes_append]; simp [hI, Ty.shape.shapes, hx]))
        · refine t_y @hx ?_
          refine t_g @hx ?_
          have : t.shape = false := by rw [hs, hL, Ty.shapes_append]; simp [Ty.shape.shapes, hx]
          refine t_r ?_
          simp [go_sem, hP, hgl, hn, this] <;> (try omega)
      · intro hI
        refine t_rg0 ?_
        refine t_no ?_
        refine t_g0 ?_
        refine t_r ?_
        simp [go_sem, hP, hgl, hn, hs, hty, hI] <;> (try omega)
    · have hty : tyKind t.kind t.args.length = false := by
        unfold wantI at hl
        unfold tyKind
        rcases hk with h | h | h | h | h <;> simp [h] at hl ⊢ <;> omega
      refine t_g @hl ?_
      refine t_r ?_
      simp [go_sem, hP, hgl, hn, hs, hty] <;> (try omega)

theorem ref01_size_ok (t : Ty) (hc : t.count ≤ 2147483648) : Con1 Tryd.prog gl 86 [t.dv] [] (dint t.count) [] := by
  induction t using Ty.ind with
  | h t ih =>
  refine t_in Tryd.func86 ?_
  intro X hP hgl hf hfn hn hR hids hfit
  have hlen := Ty.fit_len (hfit t.dv (by simp))
  rw [Ty.count_eq] at hc
  refine t_rg0 ?_
  refine t_rg0 ?_
  refine t_rg0 ?_
  refine t_a ?_
  refine W_sub [] (by simp [go_sem]) (by simp [go_sem, Ty.count.counts] <;> omega) (by simp [go_sem]) (W_list (t.args) (fun done rest => [(.slot 9, .one (.v (dint done.length))), (.slot 8, .one (.v (dint t.args.length))), (.slot 7, .one (.v (.sl (t.args.map Ty.cells)))), (.slot 3, .one (.v (dint (1 + Ty.count.counts done : Nat))))]) ?_ ?_)
  · intro done x rest hL hg hnext
    have hlt : done.length < t.args.length := by rw [hL]; simp
    have hcx : Ty.count.counts t.args = Ty.count.counts done + (x.count + Ty.count.counts rest) := by rw [hL, Ty.counts_append]; rfl
    rw [Ty.counts_append] at hnext
    refine t_rg0 ?_
    refine t_yes ?_
    refine t_rg @hg ?_
    refine t_a ?_
    first | refine W_reg [] fun K hK => ?_ | refine W_regd (by rw [hP]; exact mixed) [] fun K hK => ?_
    refine t_s0 ?_
    refine t_c trivial (ih x (List.mem_of_getElem? hg) (by omega)) ?_
    refine t_e ?_
    clear hK K
    refine t_rg0 ?_
    repeat (first | refine W_inBlock ?_ | refine W_skip ?_ | refine W_label ?_ | refine W_exit rfl ?_)
    refine W_sub [] (by simp [go_sem]) (by simp [go_sem, Ty.count.counts] <;> omega) (by simp [go_sem]) hnext
  · refine t_rg0 ?_
    refine t_no ?_
    refine t_rg0 ?_
    refine t_r ?_
    simp [go_sem, hP, hgl, hn, Ty.count_eq] <;> (try omega)

theorem ref01_zero_ok (t : Ty) : Con1 Tryd.prog gl 80 [t.dv] [] (dbool t.zero) [] := by
  refine t_in Tryd.func80 ?_
  intro X hP hgl hf hfn hn hR hids hfit
  refine t_rg0 ?_
  by_cases h : t.kind = 0
  · refine t_rg @h ?_
    refine t_r ?_
    simp [go_sem, hP, hgl, hn, Ty.zero, h] <;> (try omega)
  · refine t_rg @h ?_
    refine t_r ?_
    simp [go_sem, hP, hgl, hn, Ty.zero, h] <;> (try omega)

theorem ref01_check_ok (t : Ty) (hc : t.count ≤ 2147483648) : Con1 Tryd.prog gl 79 [t.dv] [] (dint t.checkN) [] := by
  refine t_in Tryd.func79 ?_
  intro X hP hgl hf hfn hn hR hids hfit
  refine t_rg0 ?_
  refine t_a ?_
  first | refine W_reg [] fun K hK => ?_ | refine W_regd (by rw [hP]; exact mixed) [] fun K hK => ?_
  refine t_s0 ?_
  refine t_c trivial (ref01_shape_ok t) ?_
  refine t_e ?_
  clear hK K
  by_cases h : t.shape = true
  · refine t_n @h ?_
    refine t_a ?_
    first | refine W_reg [] fun K hK => ?_ | refine W_regd (by rw [hP]; exact mixed) [] fun K hK => ?_
    refine t_s0 ?_
    refine t_c trivial (ref01_size_ok t hc) ?_
    refine t_e ?_
    clear hK K
    by_cases h2 : 64 < t.count
    · refine t_y @h2 ?_
      refine t_rg0 ?_
      refine t_r ?_
      simp [go_sem, hP, hgl, hn, Ty.checkN, h, h2] <;> (try omega)
    · refine t_n @h2 ?_
      refine t_rg0 ?_
      refine t_r ?_
      simp [go_sem, hP, hgl, hn, Ty.checkN, h, h2] <;> (try omega)
  · refine t_y @h ?_
    refine t_rg0 ?_
    refine t_r ?_
    simp [go_sem, hP, hgl, hn, Ty.checkN, h] <;> (try omega)
end Go.Proofs.YtmdjiajbnifjpaaDoor.Lift

namespace Go.Proofs.YtmdjiajbnifjpaaDoor.Lift
set_option linter.unusedSimpArgs false
set_option linter.unusedVariables false
set_option linter.unnecessarySimpa false
open Go
variable {gl : Globs}

theorem ref02_args_ok (k : Int) : Con1 Tryd.prog gl 78 [dint k] [] (dint (arityI k)) [] := by
  refine t_in Tryd.func78 ?_
  intro X hP hgl hf hfn hn hR hids hfit
  by_cases hs0 : k = 1
  · refine t_g @hs0 ?_
    refine t_r ?_
    simp [go_sem, hP, hgl, hn, arityI, hs0] <;> (try omega)
  by_cases hs1 : k = 4
  · refine t_g @hs1 ?_
    refine t_r ?_
    simp [go_sem, hP, hgl, hn, arityI, hs1] <;> (try omega)
  by_cases hs2 : k = 7
  · refine t_g @hs2 ?_
    refine t_r ?_
    simp [go_sem, hP, hgl, hn, arityI, hs2] <;> (try omega)
  by_cases hs3 : k = 13
  · refine t_g @hs3 ?_
    refine t_r ?_
    simp [go_sem, hP, hgl, hn, arityI, hs3] <;> (try omega)
  by_cases hs4 : k = 2
  · refine t_g @hs4 ?_
    refine t_r ?_
    simp [go_sem, hP, hgl, hn, arityI, hs4] <;> (try omega)
  by_cases hs5 : k = 5
  · refine t_g @hs5 ?_
    refine t_r ?_
    simp [go_sem, hP, hgl, hn, arityI, hs5] <;> (try omega)
  by_cases hs6 : k = 11
  · refine t_g @hs6 ?_
    refine t_r ?_
    simp [go_sem, hP, hgl, hn, arityI, hs6] <;> (try omega)
  by_cases hs7 : k = 12
  · refine t_g @hs7 ?_
    refine t_r ?_
    simp [go_sem, hP, hgl, hn, arityI, hs7] <;> (try omega)
  by_cases hs8 : k = 3
  · refine t_g @hs8 ?_
    refine t_r ?_
    simp [go_sem, hP, hgl, hn, arityI, hs8] <;> (try omega)
  by_cases hs9 : k = 8
  · refine t_g @hs9 ?_
    refine t_r ?_
    simp [go_sem, hP, hgl, hn, arityI, hs9] <;> (try omega)
  by_cases hs10 : k = 10
  · refine t_g @hs10 ?_
    refine t_r ?_
    simp [go_sem, hP, hgl, hn, arityI, hs10] <;> (try omega)
  by_cases hs11 : k = 6
  · refine t_g @hs11 ?_
    refine t_r ?_
    simp [go_sem, hP, hgl, hn, arityI, hs11] <;> (try omega)
  by_cases hs12 : k = 9
  · refine t_g @hs12 ?_
    refine t_r ?_
    simp [go_sem, hP, hgl, hn, arityI, hs12] <;> (try omega)
  refine t_g (j2 @hs0 (j2 @hs1 (j2 @hs2 (j2 @hs3 (j2 @hs4 (j2 @hs5 (j2 @hs6 (j2 @hs7 (j2 @hs8 (j2 @hs9 (j2 @hs10 (j2 @hs11 @hs12)))))))))))) ?_
  refine t_r ?_
  simp [go_sem, hP, hgl, hn, arityI, hs0, hs1, hs2, hs3, hs4, hs5, hs6, hs7, hs8, hs9, hs10, hs11, hs12] <;> (try omega)

def okNode (t : Tm) : Bool := decide ((t.args.length : Int) = arityI t.kind) && decide (0 ≤ t.index) && (decide (t.kind = 1) || decide (t.index = 0))

theorem ref02_shape_ok (t : Tm) (ht : t.tys) : Con1 Tryd.prog gl 69 [t.dv] [] (dbool t.shape) [] := by
  induction t using Tm.ind with
  | h t ih =>
  obtain ⟨ht1, ht2⟩ := (Tm.tys_eq t).1 ht
  refine t_in Tryd.func69 ?_
  intro X hP hgl hf hfn hn hR hids hfit
  have hlen := Tm.fit_len (hfit t.dv (by simp))
  have hs := Tm.shape_eq t
  refine t_rg0 ?_
  repeat (first | refine W_seq ?_ | refine W_skip ?_ | refine W_inBlock ?_ | refine W_label ?_)
  refine W_cut [(.slot 26, .one (.v (dbool (!okNode t)))), (.loc 1, .row ([.v (dint t.kind), .v (dint t.index), .v (dint t.type.kind), .v (.sl (t.type.args.map Ty.cells)), .v (.sl (t.args.map Tm.cells))])), (.slot 1, .one (.loc 1 0))] ?_ ?_
  · intro hrest
    by_cases hA : (t.args.length : Int) = arityI t.kind
    · by_cases hB : t.index < 0
      · refine t_c1 (j2 @hA @hB) (ref02_args_ok t.kind) ?_
        repeat (first | refine W_inBlock ?_ | refine W_skip ?_ | refine W_label ?_ | refine W_exit rfl ?_)
        refine W_sub [] (by simp [go_sem]) (by simp [go_sem, okNode, hA, hB] <;> omega) (by simp [go_sem]) hrest
      · by_cases hC : t.kind = 1
        · refine t_c1 (j2 @hA (j2 @hB @hC)) (ref02_args_ok t.kind) ?_
          repeat (first | refine W_inBlock ?_ | refine W_skip ?_ | refine W_label ?_ | refine W_exit rfl ?_)
          refine W_sub [] (by simp [go_sem]) (by simp [go_sem, okNode, hA, hB, hC] <;> omega) (by simp [go_sem]) hrest
        · by_cases hD : t.index = 0
          · refine t_c1 (j2 @hA (j2 @hB (j2 @hC @hD))) (ref02_args_ok t.kind) ?_
            repeat (first | refine W_inBlock ?_ | refine W_skip ?_ | refine W_label ?_ | refine W_exit rfl ?_)
            refine W_sub [] (by simp [go_sem]) (by simp [go_sem, okNode, hA, hB, hC, hD] <;> omega) (by simp [go_sem]) hrest
          · refine t_c1 (j2 @hA (j2 @hB (j2 @hC @hD))) (ref02_args_ok t.kind) ?_
            repeat (first | refine W_inBlock ?_ | refine W_skip ?_ | refine W_label ?_ | refine W_exit rfl ?_)
            refine W_sub [] (by simp [go_sem]) (by simp [go_sem, okNode, hA, hB, hC, hD] <;> omega) (by simp [go_sem]) hrest
    · refine t_c1 @hA (ref02_args_ok t.kind) ?_
      repeat (first | refine W_inBlock ?_ | refine W_skip ?_ | refine W_label ?_ | refine W_exit rfl ?_)
      refine W_sub [] (by simp [go_sem]) (by simp [go_sem, okNode, hA] <;> omega) (by simp [go_sem]) hrest
  · by_cases hok : okNode t = true
    · have hk : tmKind t.kind t.index t.type t.args.length = tyOfKind t.kind t.type := by
        simp only [okNode, Bool.and_eq_true, decide_eq_true_eq] at hok
        simp [tmKind, hok]
      refine t_n @hok ?_
      refine t_rg0 ?_
      repeat (first | refine W_seq ?_ | refine W_skip ?_ | refine W_inBlock ?_ | refine W_label ?_)
      refine W_cutP (tyOfKind t.kind t.type = true) [(.loc 1, .row ([.v (dint t.kind), .v (dint t.index), .v (dint t.type.kind), .v (.sl (t.type.args.map Ty.cells)), .v (.sl (t.args.map Tm.cells))])), (.slot 1, .one (.loc 1 0))] ?_ ?_
      · intro hrest
        by_cases k2 : t.kind = 2
        · refine t_g @k2 ?_
          refine t_c1 trivial (ref01_check_ok t.type (by omega)) ?_
          by_cases hc : t.type.checkN = 0
          · refine t_gt (wr []) @k2 (j2 @k2 @hc) (hrest (by simp [tyOfKind, k2, hc]))
          · have hz : tyOfKind t.kind t.type = false := by simp [tyOfKind, k2, hc]
            refine t_g @hc ?_
            refine t_r ?_
            simp [go_sem, hP, hgl, hn, hs, hk, hz] <;> (try omega)
        by_cases k6 : t.kind = 6
        · refine t_g @k6 ?_
          refine t_c1 trivial (ref01_check_ok t.type (by omega)) ?_
          by_cases hc : t.type.checkN = 0
          · refine t_gt (wr []) @k6 (j2 @k6 @hc) (hrest (by simp [tyOfKind, k6, hc]))
          · have hz : tyOfKind t.kind t.type = false := by simp [tyOfKind, k6, hc]
            refine t_g @hc ?_
            refine t_r ?_
            simp [go_sem, hP, hgl, hn, hs, hk, hz] <;> (try omega)
        by_cases k9 : t.kind = 9
        · refine t_g @k9 ?_
          refine t_c1 trivial (ref01_check_ok t.type (by omega)) ?_
          by_cases hc : t.type.checkN = 0
          · refine t_gt (wr []) @k9 (j2 @k9 @hc) (hrest (by simp [tyOfKind, k9, hc]))
          · have hz : tyOfKind t.kind t.type = false := by simp [tyOfKind, k9, hc]
            refine t_g @hc ?_
            refine t_r ?_
            simp [go_sem, hP, hgl, hn, hs, hk, hz] <;> (try omega)
        refine t_g (j2 @k2 (j2 @k6 @k9)) ?_
        refine t_c1 trivial (ref01_zero_ok t.type) ?_
        by_cases hc : t.type.zero = true
        · refine t_gt (wr []) trivial @hc (hrest (by simp [tyOfKind, k2, k6, k9, hc]))
        · have hz : tyOfKind t.kind t.type = false := by simp [tyOfKind, k2, k6, k9, hc]
          refine t_g @hc ?_
          refine t_r ?_
          simp [go_sem, hP, hgl, hn, hs, hk, hz] <;> (try omega)
      · intro hty
        refine t_g0 ?_
        refine t_a ?_
        refine W_sub [] (by simp [go_sem]) (by simp [go_sem, Tm.shape.shapes] <;> omega) (by simp [go_sem]) (W_listI (t.args) (fun done => Tm.shape.shapes done = true) (fun done rest => [(.slot 44, .one (.v (dint done.length))), (.slot 43, .one (.v (dint t.args.length))), (.slot 42, .one (.v (.sl (t.args.map Tm.cells))))]) (rfl) ?_ ?_)
        · intro done x rest hL hg hI hnext
          have hlt : done.length < t.args.length := by rw [hL]; simp
          refine t_rg0 ?_
          refine t_yes ?_
          refine t_rg @hg ?_
          refine t_c1 @hg (ih x (List.mem_of_getElem? hg) (ht2 x (List.mem_of_getElem? hg))) ?_
          by_cases hx : x.shape = true
          · refine t_gt (wr []) trivial @hx (hnext (by rw [Tm.shapes_append]; simp [hI, Tm.shape.shapes, hx]))
          · refine t_g @hx ?_
            have : t.shape = false := by rw [hs, hL, Tm.shapes_append]; simp [Tm.shape.shapes, hx]
            refine t_r ?_
            simp [go_sem, hP, hgl, hn, this] <;> (try omega)
        · intro hI
          refine t_rg0 ?_
          refine t_no ?_
          refine t_g0 ?_
          refine t_r ?_
          simp [go_sem, hP, hgl, hn, hs, hk, hty, hI] <;> (try omega)
    · have hk : tmKind t.kind t.index t.type t.args.length = false := by
        simp only [okNode, Bool.and_eq_true, decide_eq_true_eq] at hok
        simp only [tmKind]
        cases hh : (decide ((t.args.length : Int) = arityI t.kind) && decide (0 ≤ t.index) && (decide (t.kind = 1) || decide (t.index = 0))) with
        | true => exact absurd (by simpa using hh) hok
        | false => rfl
      refine t_g @hok ?_
      refine t_r ?_
      simp [go_sem, hP, hgl, hn, hs, hk] <;> (try omega)

theorem ref02_check_ok (t : Tm) (ht : t.tys) (hc : t.count ≤ 2147483648) : Con1 Tryd.prog gl 50 [t.dv] [] (dint t.checkN) [] := by
  refine t_in Tryd.func50 ?_
  intro X hP hgl hf hfn hn hR hids hfit
  refine t_g0 ?_
  refine t_c1 trivial (ref02_shape_ok t ht) ?_
  by_cases h : t.shape = true
  · refine t_g @h ?_
    refine t_c1 trivial (ref02_count_ok t hc) ?_
    by_cases h2 : 4096 < t.count
    · refine t_g @h2 ?_
      refine t_r ?_
      simp [go_sem, hP, hgl, hn, Tm.checkN, h, h2] <;> (try omega)
    · refine t_g @h2 ?_
      refine t_r ?_
      simp [go_sem, hP, hgl, hn, Tm.checkN, h, h2] <;> (try omega)
  · refine t_g @h ?_
    refine t_r ?_
    simp [go_sem, hP, hgl, hn, Tm.checkN, h] <;> (try omega)
end Go.Proofs.YtmdjiajbnifjpaaDoor.Lift

