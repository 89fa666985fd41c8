/-
  Part O of the small logic: the steps of a region whose order is drawn, as one reckoning (vcd).
-/
import Derived.Test.YtbmnlkfgkdallaaDoorLn
namespace Go.Proofs.YtbmnlkfgkdallaaDoor.Lift
set_option linter.unusedSimpArgs false
set_option linter.unusedVariables false
set_option linter.unnecessarySimpa false
open Go

section
variable {X : Ctx} {s s1 : St}

theorem evl_mono (hs : leS s1 s) {x : Operand} {y : SV} (h : evl X (get s1) x = some y) : evl X (get s) x = some y := by
  cases x with
  | tmp t =>
    simp only [evl] at h ⊢
    split at h
    · rename_i z hz; rw [hs _ _ hz]; exact h
    · cases h
  | const v => exact h
  | global b => exact h
  | func f => exact h

theorem bind_mono (hs : leS s1 s) {x : Operand} {α : Type} {f : SV → Option α} {y : α} (h : (evl X (get s1) x).bind f = some y) : (evl X (get s) x).bind f = some y := by
  obtain ⟨z, h1, h2⟩ := Option.bind_eq_some_iff.1 h
  rw [evl_mono hs h1]; exact h2

theorem litEls_mono (hs : leS s1 s) {E : Nat} : ∀ {l : List (Nat × Operand)} {n : Nat} {r : List (List DV)}, litEls X (get s1) E n l = some r → litEls X (get s) E n l = some r
  | [], _, _, h => h
  | (i, x) :: l, n, r, h => by
    simp only [litEls] at h ⊢
    split at h
    · rename_i hin
      rw [if_pos hin]
      split at h
      · rename_i y hy
        simp only [evl_mono hs hy]
        split at h
        · rename_i ds hds
          split at h
          · rename_i h1
            rw [if_pos h1]
            split at h
            · rename_i h2
              rw [if_pos h2]
              split at h
              · rename_i rest hr
                rw [litEls_mono hs hr]; exact h
              · cases h
            · cases h
          · cases h
        · cases h
      · cases h
    · cases h

theorem bound_mono (hs : leS s1 s) {d : Nat} {x : Option Operand} {r : Int} (h : bound X (get s1) d x = some r) : bound X (get s) d x = some r := by
  cases x with
  | none => exact h
  | some x =>
    simp only [bound] at h ⊢
    split at h
    · rename_i k n hy
      rw [evl_mono hs hy]; exact h
    · cases h

theorem hasRoom_mono (hs : leS s1 s) {t E n : Nat} (h : hasRoom (get s1) t E n) : hasRoom (get s) t E n := h.imp id (hs _ _)

theorem step_pval_sub (hs : leS s1 s) {o : Oper} {c : Prop} {y : SV} (h : pval X (get s1) o = some (c, y)) (hc : c) {d : Nat} (hd : o.dst = some d) (hn : d < X.n) : StepOK X s o (upd s (.slot d) (.one y)) := by
  intro G a w R next Q hK
  obtain ⟨v, h1, h2⟩ := pval_sound (R.weaken hs) h hc
  refine opIn (pval_nodefer h) ?_
  rw [h1, upn_value, hd]
  exact hK G _ w (R.setSlot (Trans.refl X G a w R.nil) rfl rfl (fun _ h => h) hn h2)

theorem step_pval_none_sub (hs : leS s1 s) {o : Oper} {c : Prop} {y : SV} (h : pval X (get s1) o = some (c, y)) (hc : c) (hd : o.dst = none) : StepOK X s o s := by
  intro G a w R next Q hK
  obtain ⟨v, h1, h2⟩ := pval_sound (R.weaken hs) h hc
  refine opIn (pval_nodefer h) ?_
  rw [h1, upn_value, hd]
  exact hK G _ w R

theorem StepOK.congr {o : Oper} {s' s'' : St} (h : StepOK X s o s') (he : ∀ l, get s'' l = get s' l) : StepOK X s o s'' :=
  fun G a w R next Q hK => h G a w R next Q fun G' a' w' R' => hK G' a' w' (R'.congr he)
end

def slotsOf : List Operand → List Loc
  | [] => []
  | .tmp t :: r => .slot t :: slotsOf r
  | _ :: r => slotsOf r

def tgtOf : Option SV → List Loc
  | some (.loc k _) => [.loc k]
  | some (.v (.prim (.pointer (some ⟨b, _, _⟩)))) => [.heap b]
  | some (.own t _) => [.tok t]
  | _ => []

def dstL : Option Tmp → List Loc
  | some d => [.slot d]
  | none => []
def dstA : Option Tmp → List Loc
  | some d => [.slot d, .loc d]
  | none => []
def dstT : Option Tmp → List Loc
  | some d => [.slot d, .tok d]
  | none => []

/-- what is looked at besides the operands -/
def exFp (X : Ctx) (g : Rd) : Op → List Loc
  | .load _ x => tgtOf (evl X g x)
  | .store _ p _ => tgtOf (evl X g p)
  | .call c => match isAppend c with
    | some (x, _, _, _) => tgtOf (evl X g x)
    | none => []
  | _ => []

/-- what is written -/
def wrOp (X : Ctx) (g : Rd) (d : Option Tmp) : Op → List Loc
  | .alloc _ => dstA d
  | .box _ _ => dstA d
  | .store _ p _ => tgtOf (evl X g p)
  | .slice _ _ _ _ (some _) => .tok 0 :: dstT d
  | .call c => match isAppend c with
    | some (x, _, _, _) => tgtOf (evl X g x) ++ dstT d
    | none => dstL d
  | _ => dstL d

def nmOf (d : Option Tmp) : Op → List Nat
  | .alloc _ => d.toList
  | .box _ _ => d.toList
  | .slice _ _ _ _ (some _) => d.toList
  | .call c => match isAppend c with
    | some _ => d.toList
    | none => []
  | _ => []

def effOf (s1 : St) : List Loc → Eff
  | [] => []
  | l :: r => (l, get s1 l) :: effOf s1 r

theorem says_effOf (s1 : St) (wr : List Loc) (l : Loc) : (effOf s1 wr).says l = if l ∈ wr then some (get s1 l) else none := by
  induction wr with
  | nil => rfl
  | cons m r ih =>
    simp only [effOf, Eff.says, ih]
    by_cases h : l ∈ r
    · simp [h]
    · simp only [h, if_false, List.mem_cons, or_false]
      by_cases hm : m = l
      · subst hm; simp
      · simp [hm, (Ne.symm hm : ¬ l = m)]

theorem get_effOf (s s1 : St) (wr : List Loc) (l : Loc) : get (apply s (effOf s1 wr)) l = if l ∈ wr then get s1 l else get s l := by
  rw [get_apply, says_effOf]
  split <;> rfl

section
variable {X : Ctx} {s s1 : St}

theorem eff_upd1 {wr : List Loc} {m : Loc} {v : LV} (hwr : wr = [m]) (l : Loc) : get (apply s (effOf (upd s1 m v) wr)) l = get (upd s m v) l := by
  subst hwr
  rw [get_effOf, get_upd, get_upd]
  by_cases h : m = l
  · subst h; simp
  · simp [h, (Ne.symm h : ¬ l = m)]

theorem eff_upd2 {wr : List Loc} {m n : Loc} {v u : LV} (hwr : wr = [m, n]) (l : Loc) : get (apply s (effOf (upd (upd s1 m v) n u) wr)) l = get (upd (upd s m v) n u) l := by
  subst hwr
  rw [get_effOf, get_upd, get_upd, get_upd, get_upd]
  by_cases h : n = l
  · subst h; simp
  · by_cases h' : m = l
    · subst h'; simp [h]
    · simp [h, h', (Ne.symm h' : ¬ l = m), (Ne.symm h : ¬ l = n)]

theorem eff_upd3 {wr : List Loc} {k m n : Loc} {v u : LV} (hwr : wr = [k, m, n]) (l : Loc) : get (apply s (effOf (upd (upd (del s1 k) m v) n u) wr)) l = get (upd (upd (del s k) m v) n u) l := by
  subst hwr
  rw [get_effOf, get_upd, get_upd, get_upd, get_upd, get_del, get_del]
  by_cases h : n = l
  · subst h; simp
  · by_cases h' : m = l
    · subst h'; simp [h]
    · by_cases h2 : k = l
      · subst h2; simp
      · simp [h, h', h2, (Ne.symm h' : ¬ l = m), (Ne.symm h : ¬ l = n), (Ne.symm h2 : ¬ l = k)]

theorem fresh_iff {d : Nat} {s : St} (h : fresh d s = true) : freshL d s = true ∧ freshT d s = true := by simpa [fresh] using h

theorem put1_frame (hs : leS s1 s) {o : Oper} {c : Prop} {s1' : St} {wr : List Loc} (hwr : wr = dstL o.dst) (h : put1 X s1 o.dst (pval X (get s1) o) = some (c, s1')) (hc : c) : StepOK X s o (apply s (effOf s1' wr)) := by
  unfold put1 at h
  split at h
  · rename_i d c' y hd hp
    cases h
    exact (step_pval_sub hs hp hc.1 hd hc.2).congr (eff_upd1 (by rw [hwr, hd]; rfl))
  · rename_i c' y hd hp
    cases h
    refine (step_pval_none_sub hs hp hc hd).congr fun l => ?_
    rw [hwr, hd]; rfl
  · cases h

theorem tgtOf_loc (k o : Nat) : tgtOf (some (.loc k o)) = [.loc k] := rfl

theorem stepS_frame {esc : List Nat} {o : Oper} {c : Prop} {s1' : St} (hs : leS s1 s) (h : stepS X esc s1 o = some (c, s1')) (hc : c) (hfr : ∀ d ∈ nmOf o.dst o.op, fresh d s = true) :
    StepOK X s o (apply s (effOf s1' (wrOp X (get s1) o.dst o.op))) := by
  unfold stepS at h
  split at h
  · cases h
  · split at h
    · rename_i t ho
      unfold stAlloc at h
      split at h
      · rename_i d cs hd hz
        split at h
        · rename_i hb
          cases h
          simp only [Bool.and_eq_true] at hb
          have hf := fresh_iff (hfr d (by rw [ho, hd]; simp [nmOf]))
          exact (step_alloc ho hd hc hz hb.1.1 hf.1).congr (eff_upd2 (by rw [ho, hd]; rfl))
        · cases h
      · cases h
    · rename_i t x ho
      unfold stBox at h
      split at h
      · rename_i d y hd hy
        split at h
        · rename_i hb
          cases h
          simp only [Bool.and_eq_true, Bool.not_eq_true'] at hb
          have hf := fresh_iff (hfr d (by rw [ho, hd]; simp [nmOf]))
          exact (step_box ho hd hc (evl_mono hs hy) hb.1.1 hf.1 hb.2).congr (eff_upd2 (by rw [ho, hd]; rfl))
        · cases h
      · cases h
    · rename_i t p x ho
      split at h
      · rename_i hdn
        have hd : o.dst = none := by simpa using hdn
        unfold stStore at h
        split at h
        · rename_i k' off agg n y hp hl hy
          split at h
          · rename_i cs hg
            split at h
            · rename_i hb
              cases h
              exact (step_store_loc ho hd (evl_mono hs hp) (hs _ _ hg) hl (evl_mono hs hy) hc hb).congr (eff_upd1 (by rw [ho]; simp only [wrOp, hp, tgtOf]))
            · cases h
          · cases h
        · rename_i b off agg n y hp hl hy
          split at h
          · rename_i cs ys hg hys
            split at h
            · rename_i hb
              cases h
              exact (step_store_heap ho hd (evl_mono hs hp) (hs _ _ hg) hl (evl_mono hs hy) hys hc hb).congr (eff_upd1 (by rw [ho]; simp only [wrOp, hp, tgtOf]))
            · cases h
          · cases h
        · cases h
      · cases h
    · rename_i t len parts ho
      split at h
      · rename_i E B he
        unfold stLit at h
        split at h
        · rename_i d E' B' els hd he' hels
          cases he'
          cases h
          exact (step_buildSlice ho hd hc.1 he (litEls_mono hs hels) hc.2).congr (eff_upd1 (by rw [ho, hd]; rfl))
        · cases h
      · cases h
    · rename_i t x lo hi m ho
      unfold stSlice3 at h
      split at h
      · rename_i d E els l h' k' hd hE hx hlo hhi hm
        split at h
        · rename_i hb
          cases h
          simp only [Bool.and_eq_true, bne_iff_ne, ne_eq] at hb
          unfold hiOf at hhi
          rw [hx] at hhi
          have hf := fresh_iff (hfr d (by rw [ho, hd]; simp [nmOf]))
          exact (step_slice3 ho hd hc.1 hb.1.2 hf.2 hE (bind_mono hs hx) (bound_mono hs hlo) (bound_mono hs hhi) (bound_mono hs hm) hb.2 hc.2).congr (eff_upd3 (by rw [ho, hd]; rfl))
        · cases h
      · cases h
    · rename_i c' ho
      split at h
      · rename_i x y t t2 hap
        have hc' : c' = { callee := .builtin .append, args := #[x, y], argTypes := #[t, t2] } := by
          unfold isAppend at hap
          split at hap
          · rename_i h1 h2 h3
            cases hap
            cases c'
            simp only at h1 h2 h3
            rw [h1, arr_of_list h2, arr_of_list h3]
          · cases hap
        subst hc'
        unfold stAppend at h
        split at h
        · rename_i d E B t' els ys hd he hx hy
          split at h
          · rename_i hb
            cases h
            simp only [Bool.and_eq_true, bne_iff_ne, ne_eq] at hb
            have hf := fresh_iff (hfr d (by rw [ho, hd]; simp [nmOf, hap]))
            exact (step_append ho hd hc.1 hb.2 hf.2 he hc.2.1 hb.1.1 (evl_mono hs hx) (bind_mono hs hy) (hasRoom_mono hs hc.2.2.1) hc.2.2.2.1 hc.2.2.2.2.1 hc.2.2.2.2.2).congr (eff_upd3 (by rw [ho, hd]; simp only [wrOp, hap, hx, tgtOf, dstT, List.cons_append, List.nil_append]))
          · cases h
        · cases h
      · rename_i hap
        exact put1_frame hs (by rw [ho]; simp only [wrOp, hap]) h hc
    · rename_i h1 h2 h3 h4 h5 h6
      refine put1_frame hs ?_ h hc
      cases hop : o.op with
      | alloc t => exact absurd hop (h1 t)
      | box t x => exact absurd hop (h2 t x)
      | store t p x => exact absurd hop (h3 t p x)
      | slice t x lo hi m => cases m with
        | none => rfl
        | some m => exact absurd hop (h5 t x lo hi m)
      | call c => exact absurd hop (h6 c)
      | _ => rfl

/-- the guard says yes -/
def GuardYes (X : Ctx) (ops : Array Oper) (o : Oper) (s : St) : Prop :=
  o.guard = none ∨ ∃ j dj want, o.guard = some (j, want) ∧ (ops[j]?).bind (·.dst) = some dj ∧ dj < X.n ∧ get s (.slot dj) = some (.one (.v (.prim (.bool want))))

theorem yielded_of {G : Gh} {a : Act} {w : World} (R : Rel X G s a w) {ops : Array Oper} {j dj : Nat} (hj : (ops[j]?).bind (·.dst) = some dj) (hn : dj < X.n) {b : Bool} (hb : get s (.slot dj) = some (.one (.v (.prim (.bool b))))) : yielded ops a.tmps j = some b := by
  have hv := (prim_of (R.holds _ _ hb)).1
  have hlt : dj < a.tmps.size := by rw [R.size]; exact hn
  have hv' : a.tmps[dj]? = some (.bool b) := by
    have h3 : a.tmps.getD dj undef = a.tmps[dj] := by simp [hlt]
    rw [Array.getElem?_eq_getElem hlt, ← h3, hv]
  unfold yielded
  rw [hj]
  simp [hv']

theorem opOK_of {ops : Array Oper} {o : Oper} {s' : St} (hg : GuardYes X ops o s) (h : StepOK X s o s') : OpOK X ops o s s' := by
  intro G a w R next Q hK
  have hw : Region.wanted o (yielded ops a.tmps) = true := by
    rcases hg with hg | ⟨j, dj, want, h1, h2, h3, h4⟩
    · simp [Region.wanted, hg]
    · simp [Region.wanted, h1, yielded_of R h2 h3 h4]
  rw [if_pos hw]
  exact h G a w R next Q hK

theorem opOK_no {ops : Array Oper} {o : Oper} {j dj : Nat} {want : Bool} (h1 : o.guard = some (j, want)) (h2 : (ops[j]?).bind (·.dst) = some dj) (h3 : dj < X.n) (h4 : get s (.slot dj) = some (.one (.v (.prim (.bool (!want)))))) {d : Nat} (hd : o.dst = some d) (hdn : d < X.n) :
    OpOK X ops o s (apply s [(.slot d, some unv)]) := by
  intro G a w R next Q hK
  have hw : Region.wanted o (yielded ops a.tmps) = false := by
    simp only [Region.wanted, h1, yielded_of R h2 h3 h4]
    cases want <;> rfl
  simp only [hw, Bool.false_eq_true, if_false, hd]
  exact hK G _ w (R.setSlot (Trans.refl X G a w R.nil) rfl rfl (fun _ h => h) hdn (x := .v (.tup [])) unv_rv)

theorem opOK_un {ops : Array Oper} {o : Oper} {j dj : Nat} {want : Bool} (h1 : o.guard = some (j, want)) (h2 : (ops[j]?).bind (·.dst) = some dj) (h4 : get s (.slot dj) = some unv) {d : Nat} (hd : o.dst = some d) (hdn : d < X.n) :
    OpOK X ops o s (apply s [(.slot d, some unv)]) := by
  intro G a w R next Q hK
  have hw : Region.wanted o (yielded ops a.tmps) = false := by
    simp only [Region.wanted, h1, yielded_un R h2 h4]
    cases want <;> rfl
  simp only [hw, Bool.false_eq_true, if_false, hd]
  exact hK G _ w (R.setSlot (Trans.refl X G a w R.nil) rfl rfl (fun _ h => h) hdn (x := .v (.tup [])) unv_rv)

theorem GuardYes.mono {ops : Array Oper} {o : Oper} (hs : leS s1 s) (h : GuardYes X ops o s1) : GuardYes X ops o s :=
  h.imp id fun ⟨j, dj, want, h1, h2, h3, h4⟩ => ⟨j, dj, want, h1, h2, h3, hs _ _ h4⟩

theorem locStep_of {esc : List Nat} {ops : Array Oper} {o : Oper} {c : Prop} {s1' : St} (h : stepS X esc s1 o = some (c, s1')) (hc : c) (hg : GuardYes X ops o s1) : LocStep X ops o s1 (effOf s1' (wrOp X (get s1) o.dst o.op)) (nmOf o.dst o.op) :=
  fun _ hs hfr => opOK_of (hg.mono hs) (stepS_frame hs h hc hfr)

end

/-- behind an operation: its effect is known -/
def vcdD (k : St → List Ev → Prop) (ev : List Ev) (s : St) (fp : List Loc) (nm : List Nat) (e : Eff) : Prop := k (apply s e) (⟨fp, e, nm⟩ :: ev)

def vcdC (X : Ctx) (ops : Array Oper) (s0 : St) (l : List Oper) (K : St → Prop) (k : St → List Ev → Prop) (o : Oper) (ev : List Ev) (s : St) (fp : List Loc) (wr : List Loc) : Option (Prop × St) → Prop
  | some (c, s1') => c ∧ vcdD k ev s fp (nmOf o.dst o.op) (effOf s1' wr)
  | none => VD X ops s0 (o :: l) s ev K

def vcdB (X : Ctx) (esc : List Nat) (ops : Array Oper) (s0 : St) (l : List Oper) (K : St → Prop) (k : St → List Ev → Prop) (o : Oper) (ev : List Ev) (s : St) (fp : List Loc) (s1 : St) : Prop :=
  vcdC X ops s0 l K k o ev s fp (wrOp X (get s1) o.dst o.op) (stepS X esc s1 o)

def vcdA (X : Ctx) (esc : List Nat) (ops : Array Oper) (s0 : St) (l : List Oper) (K : St → Prop) (k : St → List Ev → Prop) (o : Oper) (ev : List Ev) (s : St) (fp : List Loc) : Prop :=
  vcdB X esc ops s0 l K k o ev s fp (restr s fp)

def vcdG (X : Ctx) (esc : List Nat) (ops : Array Oper) (s0 : St) (l : List Oper) (K : St → Prop) (k : St → List Ev → Prop) (o : Oper) (ev : List Ev) (s : St) (fp : List Loc) (want : Bool) (dj : Nat) : Option SV → Prop
  | some (.v (.prim (.bool b))) => dj < X.n ∧ (b = want → vcdA X esc ops s0 l K k o ev s (.slot dj :: fp)) ∧ (b = !want → match o.dst with
      | some d => d < X.n ∧ vcdD k ev s [.slot dj] [] [(.slot d, some unv)]
      | none => False)
  | some (.v (.tup [])) => match o.dst with
    | some d => d < X.n ∧ vcdD k ev s [.slot dj] [] [(.slot d, some unv)]
    | none => False
  | _ => False

def vcdG0 (X : Ctx) (esc : List Nat) (ops : Array Oper) (s0 : St) (l : List Oper) (K : St → Prop) (k : St → List Ev → Prop) (o : Oper) (ev : List Ev) (s : St) (fp : List Loc) (want : Bool) : Option Nat → Prop
  | some dj => vcdG X esc ops s0 l K k o ev s fp want dj (oneOf (get s (.slot dj)))
  | none => False

def fpOf (X : Ctx) (g : Rd) (op : Op) : List Loc := slotsOf op.operands.toList ++ exFp X g op

def vcd (X : Ctx) (esc : List Nat) (ops : Array Oper) (s0 : St) (K : St → Prop) : List Oper → St → List Ev → Prop
  | [], s, ev => chkB ops.toList s0 ev.reverse = true ∧ K s
  | o :: l, s, ev =>
    match o.guard with
    | none => vcdA X esc ops s0 l K (vcd X esc ops s0 K l) o ev s (fpOf X (get s) o.op)
    | some (j, want) => vcdG0 X esc ops s0 l K (vcd X esc ops s0 K l) o ev s (fpOf X (get s) o.op) want (gsl ops j)

section
variable {X : Ctx} {esc : List Nat} {ops : Array Oper} {s0 : St} {K : St → Prop}

theorem vcdA_sound {l : List Oper} {k : St → List Ev → Prop} (hk : ∀ s ev, k s ev → VD X ops s0 l s ev K) {o : Oper} {ev : List Ev} {s : St} {fp : List Loc} (hg : GuardYes X ops o (restr s fp)) (h : vcdA X esc ops s0 l K k o ev s fp) : VD X ops s0 (o :: l) s ev K := by
  unfold vcdA vcdB vcdC at h
  split at h
  · rename_i c s1' hs
    exact VD_step ⟨fp, _, _⟩ (locStep_of hs h.1 hg) (hk _ _ h.2)
  · exact h

theorem vcd_sound : ∀ {l : List Oper} {s : St} {ev : List Ev}, vcd X esc ops s0 K l s ev → VD X ops s0 l s ev K
  | [], s, ev, h => VD_nil h.1 h.2
  | o :: l, s, ev, h => by
    unfold vcd at h
    split at h
    · rename_i hg
      exact vcdA_sound (fun _ _ => vcd_sound) (.inl hg) h
    · rename_i j want hg
      unfold vcdG0 at h
      split at h
      · rename_i dj hdj
        have hdj' : (ops[j]?).bind (·.dst) = some dj := hdj
        unfold vcdG at h
        split at h
        · rename_i b hb
          have hgb : get s (.slot dj) = some (.one (.v (.prim (.bool b)))) := by
            unfold oneOf at hb
            split at hb
            · rename_i x hx; cases hb; exact hx
            · cases hb
          obtain ⟨h1, h2, h3⟩ := h
          by_cases hbw : b = want
          · subst hbw
            refine vcdA_sound (fun _ _ => vcd_sound) (.inr ⟨j, dj, b, hg, hdj', h1, ?_⟩) (h2 rfl)
            simp only [restr, hgb, get, if_true]
          · have hbn : b = !want := by cases b <;> cases want <;> simp_all
            have h4 := h3 hbn
            split at h4
            · rename_i d hd
              refine VD_step ⟨[.slot dj], [(.slot d, some unv)], []⟩ (fun s' hs _ => ?_) (vcd_sound h4.2)
              refine opOK_no hg hdj' h1 ?_ hd h4.1
              refine hs _ _ ?_
              simp only [restr, hgb, get, if_true, hbn]
            · exact h4.elim
        · rename_i hb
          have hgb : get s (.slot dj) = some unv := by
            unfold oneOf at hb
            split at hb
            · rename_i x hx; cases hb; exact hx
            · cases hb
          split at h
          · rename_i d hd
            refine VD_step ⟨[.slot dj], [(.slot d, some unv)], []⟩ (fun s' hs _ => ?_) (vcd_sound h.2)
            refine opOK_un hg hdj' ?_ hd h.1
            refine hs _ _ ?_
            simp only [restr, hgb, get, if_true]
          · exact h.elim
        · exact h.elim
      · exact h.elim

theorem W_regd {id : Nat} {k : List Item} {s : St} (hm : X.P.follows .mixedOrders = true) (esc : List Nat) (h : ∀ K : St → Prop, (∀ s', W X k s' → K s') → vcd X esc ops s K ops.toList s []) : W X (.code (.region id ops true) :: k) s :=
  W_drawn hm fun K hK => vcd_sound (h K hK)

def heapL : Objs → List Loc
  | [] => []
  | (b, _) :: r => .heap b :: heapL r
def delE : Objs → Eff
  | [] => []
  | (b, _) :: r => (.heap b, none) :: delE r
def addE : Objs → Eff
  | [] => []
  | (b, cs) :: r => addE r ++ [(.heap b, some (.row (cs.map SV.v)))]

theorem apply_append (e e' : Eff) : ∀ s, apply s (e ++ e') = apply (apply s e) e' := by
  induction e with
  | nil => intro s; rfl
  | cons p r ih =>
    obtain ⟨l, v⟩ := p
    cases v <;> intro s <;> simp only [List.cons_append, apply, ih]
theorem apply_delE (φ : Objs) : ∀ s, apply s (delE φ) = delObjs s φ := by
  induction φ with
  | nil => intro s; rfl
  | cons p r ih => intro s; simp only [delE, apply, delObjs, ih]
theorem apply_addE (φ : Objs) (s : St) : apply s (addE φ) = addObjs s φ := by
  induction φ with
  | nil => rfl
  | cons p r ih => simp only [addE, apply_append, ih, addObjs, apply]

theorem get_restr_mem {s : St} {l : Loc} {v : LV} : ∀ {fp : List Loc}, l ∈ fp → get s l = some v → get (restr s fp) l = some v
  | [], h, _ => by cases h
  | m :: r, h, hg => by
    simp only [restr]
    split
    · rename_i u hu
      simp only [get]
      split
      · subst_vars; rw [hu] at hg; exact hg
      · rename_i hne
        rcases List.mem_cons.1 h with rfl | h
        · exact absurd rfl hne
        · exact get_restr_mem h hg
    · rename_i hu
      rcases List.mem_cons.1 h with rfl | h
      · rw [hu] at hg; cases hg
      · exact get_restr_mem h hg

theorem evl_restr {s s' : St} {fp : List Loc} {x : Operand} (hx : ∀ t, x = .tmp t → Loc.slot t ∈ fp) (hs : leS (restr s fp) s') {y : SV} (h : evl X (get s) x = some y) : evl X (get s') x = some y := by
  cases x with
  | tmp t =>
    simp only [evl] at h ⊢
    split at h
    · rename_i z hz
      rw [hs _ _ (get_restr_mem (hx t rfl) hz)]; exact h
    · cases h
  | const v => exact h
  | global b => exact h
  | func f => exact h

theorem evlDs_restr {s s' : St} {fp : List Loc} (hs : leS (restr s fp) s') : ∀ {l : List Operand} {ds : List DV}, (∀ m ∈ slotsOf l, m ∈ fp) → evlDs X (get s) l = some ds → evlDs X (get s') l = some ds
  | [], _, _, h => h
  | x :: r, ds, hx, h => by
    simp only [evlDs] at h ⊢
    split at h
    · rename_i y ys hy hys
      obtain ⟨z, hz, hz'⟩ := Option.bind_eq_some_iff.1 hy
      have h1 : evl X (get s') x = some z := evl_restr (fun t ht => hx _ (by subst ht; simp [slotsOf])) hs hz
      have h2 := evlDs_restr hs (fun m hm => hx m (by cases x <;> simp [slotsOf, hm])) hys
      rw [h1, h2, Option.bind_some, hz']
      exact h
    · cases h

theorem fp_mem_app {l m : List Loc} {x : Loc} (h : x ∈ l) : x ∈ l ++ m := List.mem_append.2 (.inl h)

theorem heapL_mem {φ : Objs} {b : Nat} {cs : List DV} (h : (b, cs) ∈ φ) : Loc.heap b ∈ heapL φ := by
  induction φ with
  | nil => cases h
  | cons p r ih =>
    rcases List.mem_cons.1 h with rfl | h
    · simp [heapL]
    · exact List.mem_cons_of_mem _ (ih h)

/-- a call within a drawn region, by its contract; `gs`: the place of its guard, if any -/
theorem vcdC_call {l : List Oper} {k : St → List Ev → Prop} {ev : List Ev} {s : St} {fp wr : List Loc} {d : Tmp} {f : FuncId} {args : Array Operand} {ats : Array TypeId} {ty : TypeId} {pos : String} {af : Array Edge} {s1 : St}
    (hk : ∀ s ev, k s ev → VD X ops s0 l s ev K) {P : Program} {gl : Globs} (hP : X.P = P) (hgl : X.gl = gl) {ds ds' : List DV} {φ φ' : Objs} {r : DV} (hc : Con1 P gl f ds' φ r φ') (hargs : evlDs X (get s) args.toList = some ds) (hds : ds = ds') (hφ : objsIn (get s) φ) (hnd : (φ.map (·.1)).Nodup) (hdn : d < X.n)
    (h : vcdD k ev s (slotsOf args.toList ++ heapL φ) [] ((.slot d, some (.one (.v r))) :: (delE φ ++ addE φ'))) :
    vcdC X ops s0 l K k ⟨some d, .call { callee := .value (.func f), args := args, argTypes := ats }, ty, pos, af, none⟩ ev s fp wr (stepS X esc s1 ⟨some d, .call { callee := .value (.func f), args := args, argTypes := ats }, ty, pos, af, none⟩) := by
  subst hds
  have e : stepS X esc s1 ⟨some d, .call { callee := .value (.func f), args := args, argTypes := ats }, ty, pos, af, none⟩ = none := by
    simp only [stepS, isAppend, pval, pcall, put1]
    split <;> rfl
  rw [e]
  show VD X ops s0 _ s ev K
  refine VD_step ⟨slotsOf args.toList ++ heapL φ, _, []⟩ (fun s' hs _ => opOK_of (.inl rfl) ?_) (hk _ _ h)
  refine (StepOK_call1 (o := ⟨some d, .call { callee := .value (.func f), args := args, argTypes := ats }, ty, pos, af, none⟩) rfl (evlDs_restr hs (fun m hm => fp_mem_app hm) hargs) (by rw [hP, hgl]; exact hc) ?_ hnd rfl hdn).congr fun m => ?_
  · intro b cs hm
    exact hs _ _ (get_restr_mem (List.mem_append.2 (.inr (heapL_mem hm))) (hφ b cs hm))
  · simp only [apply, apply_append, apply_delE, apply_addE]

end
end Go.Proofs.YtbmnlkfgkdallaaDoor.Lift
