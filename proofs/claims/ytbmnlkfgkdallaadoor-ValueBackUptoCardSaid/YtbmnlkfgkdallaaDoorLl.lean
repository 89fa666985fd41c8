/-
  Part L of the small logic: the steps of a region as one reckoning on states (vc).
-/
import Derived.Test.YtbmnlkfgkdallaaDoorLk
namespace Go.Proofs.YtbmnlkfgkdallaaDoor.Lift
set_option linter.unusedSimpArgs false
set_option linter.unusedVariables false
set_option linter.unnecessarySimpa false
open Go

def put1 (X : Ctx) (s : St) (dst : Option Tmp) (r : Option (Prop × SV)) : Option (Prop × St) :=
  match dst, r with
  | some d, some (c, y) => some (c ∧ d < X.n, upd s (.slot d) (.one y))
  | none, some (c, _) => some (c, s)
  | _, none => none

def stAlloc (X : Ctx) (s : St) (dst : Option Tmp) (r : Option (List SV)) : Option (Prop × St) :=
  match dst, r with
  | some d, some cs => if cellBS cs && freshL d s && !anyLoc d cs then some (d < X.n, upd (upd s (.slot d) (.one (.loc d 0))) (.loc d) (.row cs)) else none
  | _, _ => none

def stBox (X : Ctx) (s : St) (dst : Option Tmp) (r : Option SV) : Option (Prop × St) :=
  match dst, r with
  | some d, some y => if cellBS (cellsS y) && freshL d s && !hasLoc d y then some (d < X.n, upd (upd s (.slot d) (.one (.loc d 0))) (.loc d) (.row (cellsS y))) else none
  | _, _ => none

def stStore (s : St) (lay : Option (Bool × Nat)) (p x : Option SV) : Option (Prop × St) :=
  match p, lay, x with
  | some (.loc k off), some (_, n), some y =>
    match get s (.loc k) with
    | some (.row cs) => if cellBS (cellsS y) then some ((cellsS y).length = n ∧ off + n ≤ cs.length, upd s (.loc k) (.row (put cs off (cellsS y)))) else none
    | _ => none
  | some (.v (.prim (.pointer (some ⟨b, off, none⟩)))), some (_, n), some y =>
    match get s (.heap b), asVs (cellsS y) with
    | some (.row cs), some ys => if cellBS ys then some (ys.length = n ∧ off + n ≤ cs.length, upd s (.heap b) (.row (put cs off ys))) else none
    | _, _ => none
  | _, _, _ => none

def stLit (X : Ctx) (s : St) (dst : Option Tmp) (len : Nat) (e : Option (Nat × Nat)) (r : Option (List (List DV))) : Option (Prop × St) :=
  match dst, e, r with
  | some d, some (E, _), some els => some (d < X.n ∧ els.length = len ∧ len * E ≤ 16777216 ∧ len ≤ BIG, upd s (.slot d) (.one (.v (.sl els))))
  | _, _, _ => none

def stAppend (X : Ctx) (s : St) (dst : Option Tmp) (e : Option (Nat × Nat)) (e2 : Bool) (x : Option SV) (y : Option (List (List DV))) : Option (Prop × St) :=
  match dst, e, x, y with
  | some d, some (E, B), some (.own t els), some ys =>
    if e2 && freshT d s && d != 0 then
      some (d < X.n ∧ (0 < B ∧ B ≤ 1024) ∧ hasRoom (get s) t E els.length ∧ els.length + ys.length ≤ BIG ∧ (∀ e ∈ els, e.length = E) ∧ (∀ e ∈ ys, e.length = E),
        upd (upd (del s (.tok t)) (.slot d) (.one (.own d (els ++ ys)))) (.tok d) (.tk E (els.length + ys.length)))
    else none
  | _, _, _, _ => none

def stSlice3 (X : Ctx) (s : St) (dst : Option Tmp) (e : Option Nat) (x : Option (List (List DV))) (lo hi m : Option Int) (some' : Bool) : Option (Prop × St) :=
  match dst, e, x, lo, hi, m with
  | some d, some E, some els, some l, some h, some k =>
    if freshT d s && d != 0 && some' then
      some (d < X.n ∧ 0 ≤ l ∧ l ≤ h ∧ h ≤ els.length ∧ h = k ∧ (∀ e ∈ els, e.length = E),
        upd (upd (del s (.tok 0)) (.slot d) (.one (.own d ((els.take h.toNat).drop l.toNat)))) (.tok d) (.tk E (h.toNat - l.toNat)))
    else none
  | _, _, _, _, _, _ => none

def escs (esc : List Nat) (dst : Option Tmp) : Bool :=
  match dst with
  | some d => memN d esc
  | none => false

def isAppend (c : Call) : Option (Operand × Operand × TypeId × TypeId) :=
  match c.callee, c.args.toList, c.argTypes.toList with
  | .builtin .append, [x, y], [t, t2] => some (x, y, t, t2)
  | _, _, _ => none

def hiOf (X : Ctx) (s : St) (x : Operand) (hi : Option Operand) : Option Int :=
  match (evl X (get s) x).bind slOf with
  | some els => bound X (get s) els.length hi
  | none => none

/-- ONE OPERATION: what it asks, and the state behind it -/
def stepS (X : Ctx) (esc : List Nat) (s : St) (o : Oper) : Option (Prop × St) :=
  if escs esc o.dst then none else
  match o.op with
  | .alloc t => stAlloc X s o.dst (zeroT X.P t)
  | .box _ x => stBox X s o.dst (evl X (get s) x)
  | .store t p x => if o.dst.isNone then stStore s (layT X.P t) (evl X (get s) p) (evl X (get s) x) else none
  | .buildSlice t len parts =>
    match elemZ X.P t with
    | some (E, B) => stLit X s o.dst len (some (E, B)) (litEls X (get s) E 0 parts.toList)
    | none => none
  | .slice t x lo hi (some m) => stSlice3 X s o.dst (elemT X.P t) ((evl X (get s) x).bind slOf) (bound X (get s) 0 lo) (hiOf X s x hi) (bound X (get s) 0 (some m)) hi.isSome
  | .call c =>
    match isAppend c with
    | some (x, y, t, t2) => stAppend X s o.dst (elemZ X.P t) (elemT X.P t2).isSome (evl X (get s) x) ((evl X (get s) y).bind slOf)
    | none => put1 X s o.dst (pval X (get s) o)
  | _ => put1 X s o.dst (pval X (get s) o)

section
variable {X : Ctx} {s : St} {k : List Item}

theorem put1_sound {o : Oper} {c : Prop} {s' : St} (h : put1 X s o.dst (pval X (get s) o) = some (c, s')) (hc : c) : StepOK X s o s' := by
  unfold put1 at h
  split at h
  · rename_i d c' y hd hp
    cases h
    exact step_pval hp hc.1 hd hc.2
  · rename_i c' y hd hp
    cases h
    exact step_pval_none hp hc hd
  · cases h

theorem stepS_sound {esc : List Nat} {o : Oper} {c : Prop} {s' : St} (h : stepS X esc s o = some (c, s')) (hc : c) : StepOK X s o s' := by
  unfold stepS at h
  split at h
  · cases h
  · split at h
    · rename_i t ho
      unfold stAlloc at h
      split at h
      · rename_i d cs hd hz
        split at h
        · rename_i hb
          cases h
          simp only [Bool.and_eq_true] at hb
          exact step_alloc ho hd hc hz hb.1.1 hb.1.2
        · cases h
      · cases h
    · rename_i t x ho
      unfold stBox at h
      split at h
      · rename_i d y hd hy
        split at h
        · rename_i hb
          cases h
          simp only [Bool.and_eq_true, Bool.not_eq_true'] at hb
          exact step_box ho hd hc hy hb.1.1 hb.1.2 hb.2
        · cases h
      · cases h
    · rename_i t p x ho
      split at h
      · rename_i hdn
        have hd : o.dst = none := by simpa using hdn
        unfold stStore at h
        split at h
        · rename_i k' off agg n y hp hl hy
          split at h
          · rename_i cs hg
            split at h
            · rename_i hb
              cases h
              exact step_store_loc ho hd hp hg hl hy hc hb
            · cases h
          · cases h
        · rename_i b off agg n y hp hl hy
          split at h
          · rename_i cs ys hg hys
            split at h
            · rename_i hb
              cases h
              exact step_store_heap ho hd hp hg hl hy hys hc hb
            · cases h
          · cases h
        · cases h
      · cases h
    · rename_i t len parts ho
      split at h
      · rename_i E B he
        unfold stLit at h
        split at h
        · rename_i d E' B' els hd he' hels
          cases he'
          cases h
          exact step_buildSlice ho hd hc.1 he hels hc.2
        · cases h
      · cases h
    · rename_i t x lo hi m ho
      unfold stSlice3 at h
      split at h
      · rename_i d E els l h' k' hd hE hx hlo hhi hm
        split at h
        · rename_i hb
          cases h
          simp only [Bool.and_eq_true, bne_iff_ne, ne_eq] at hb
          unfold hiOf at hhi
          rw [hx] at hhi
          exact step_slice3 ho hd hc.1 hb.1.2 hb.1.1 hE hx hlo hhi hm hb.2 hc.2
        · cases h
      · cases h
    · rename_i c' ho
      split at h
      · rename_i x y t t2 hap
        have hc' : c' = { callee := .builtin .append, args := #[x, y], argTypes := #[t, t2] } := by
          unfold isAppend at hap
          split at hap
          · rename_i h1 h2 h3
            cases hap
            cases c'
            simp only at h1 h2 h3
            rw [h1, arr_of_list h2, arr_of_list h3]
          · cases hap
        subst hc'
        unfold stAppend at h
        split at h
        · rename_i d E B t' els ys hd he hx hy
          split at h
          · rename_i hb
            cases h
            simp only [Bool.and_eq_true, bne_iff_ne, ne_eq] at hb
            exact step_append ho hd hc.1 hb.2 hb.1.2 he hc.2.1 hb.1.1 hx hy hc.2.2.1 hc.2.2.2.1 hc.2.2.2.2.1 hc.2.2.2.2.2
          · cases h
        · cases h
      · exact put1_sound h hc
    · exact put1_sound h hc

/-- the slot that guards an operation -/
def guardOf (ops : Array Oper) (o : Oper) : Option (Option (Nat × Bool)) :=
  match o.guard with
  | none => some none
  | some (j, want) => match (ops[j]?).bind (·.dst) with
    | some d => some (some (d, want))
    | none => none

/-- what is left of a region, reckoned: `VL` where an operation is a call, or has no step of its own -/
def vc (X : Ctx) (esc : List Nat) (ops : Array Oper) : List Oper → St → (St → Prop) → Prop
  | [], s, K => K s
  | o :: l, s, K =>
    match guardOf ops o with
    | some none =>
      match stepS X esc s o with
      | some (c, s') => c ∧ vc X esc ops l s' K
      | none => VL X ops (o :: l) s K
    | some (some (dj, want)) =>
      match get s (.slot dj) with
      | some (.one (.v (.prim (.bool b)))) =>
        dj < X.n ∧ (b = want → match stepS X esc (upd s (.slot dj) (.one (.v (.prim (.bool want))))) o with
          | some (c, s') => c ∧ vc X esc ops l s' K
          | none => VL X ops (o :: l) (upd s (.slot dj) (.one (.v (.prim (.bool want))))) K) ∧
        (b = !want → match o.dst with
          | some d => d < X.n ∧ vc X esc ops l (upd (upd s (.slot dj) (.one (.v (.prim (.bool (!want)))))) (.slot d) unv) K
          | none => False)
      | some (.one (.v (.tup []))) => match o.dst with
        | some d => d < X.n ∧ vc X esc ops l (upd s (.slot d) unv) K
        | none => False
      | _ => False
    | none => False

theorem VL_congr {ops : Array Oper} {l : List Oper} {s s' : St} {K : St → Prop} (h : ∀ m, get s' m = get s m) (hv : VL X ops l s' K) : VL X ops l s K :=
  fun n hn G a w R => hv n hn G a w (R.congr h)

theorem vc_sound {esc : List Nat} {ops : Array Oper} {K : St → Prop} : ∀ {l : List Oper} {s : St}, vc X esc ops l s K → VL X ops l s K
  | [], s, h => VL_nil h
  | o :: l, s, h => by
    unfold vc at h
    split at h
    · rename_i hg
      have hgn : o.guard = none := by
        unfold guardOf at hg
        split at hg
        · assumption
        · split at hg <;> cases hg
      split at h
      · rename_i c s' hs
        exact VL_step hgn (stepS_sound hs h.1) (vc_sound h.2)
      · exact h
    · rename_i dj want hg
      have hgn : ∃ j, o.guard = some (j, want) ∧ (ops[j]?).bind (·.dst) = some dj := by
        unfold guardOf at hg
        split at hg
        · cases hg
        · rename_i j w' hq
          split at hg
          · rename_i d hd
            cases hg
            exact ⟨j, hq, hd⟩
          · cases hg
      obtain ⟨j, hg1, hg2⟩ := hgn
      split at h
      · rename_i b hb
        obtain ⟨hdj, h1, h2⟩ := h
        have hcg : ∀ c, b = c → ∀ m, get (upd s (.slot dj) (.one (.v (.prim (.bool c))))) m = get s m := by
          rintro c rfl m
          rw [get_upd]
          split
          · subst_vars; exact hb.symm
          · rfl
        by_cases hbw : b = want
        · have h3 := h1 hbw
          split at h3
          · rename_i c s' hs
            have hd2 : ∃ d, True := ⟨0, trivial⟩
            -- the guard says yes
            intro n hn G a w R
            obtain ⟨k1, k2⟩ := drop_cons hn
            have hv := (prim_of (R.holds _ _ hb)).1
            have hlt : dj < a.tmps.size := by rw [R.size]; exact hdj
            have hv' : a.tmps[dj]? = some (.bool b) := by
              have h3 : a.tmps.getD dj undef = a.tmps[dj] := by simp [hlt]
              rw [Array.getElem?_eq_getElem hlt, ← h3, hv]
            have hy : yielded ops a.tmps j = some b := by
              unfold yielded
              rw [hg2]
              simp [hv']
            simp only [List.length_cons, List.range'_succ, wpOpsIn, k1, Region.wanted, hg1, hy, hbw, beq_self_eq_true, if_true]
            exact (stepS_sound hs h3.1 G a w (R.congr (hcg _ hbw)) _ _ fun G' a' w' R' => vc_sound h3.2 (n + 1) k2 G' a' w' R')
          · exact VL_congr (hcg _ hbw) h3
        · have hbn : b = !want := by cases b <;> cases want <;> simp_all
          have h3 := h2 hbn
          split at h3
          · rename_i d hd
            exact VL_guard hg1 hg2 hdj hb (fun e => absurd e hbw) hd h3.1 (fun _ => vc_sound h3.2)
          · exact h3.elim
      · rename_i hb
        split at h
        · rename_i d hd
          exact VL_guardU hg1 hg2 hb hd h.1 (vc_sound h.2)
        · exact h.elim
      · exact h.elim
    · exact h.elim

theorem W_reg {id : Nat} {ops : Array Oper} (esc : List Nat) (h : ∀ K : St → Prop, (∀ s', W X k s' → K s') → vc X esc ops ops.toList s K) : W X (.code (.region id ops false) :: k) s :=
  W_region fun K hK => vc_sound (h K hK)

/-- a call whose outcome the contract tells -/
theorem VL_call1 {esc : List Nat} {ops : Array Oper} {o : Oper} {l : List Oper} {K : St → Prop} {f : FuncId} {args : Array Operand} {ats : Array TypeId} (ho : o.op = .call { callee := .value (.func f), args := args, argTypes := ats }) (hg : o.guard = none)
    {ds : List DV} (hargs : evlDs X (get s) args.toList = some ds) {P : Program} {gl : Globs} (hP : X.P = P) (hgl : X.gl = gl) {φ φ' : Objs} {r : DV} (hc : Con1 P gl f ds φ r φ') (hφ : objsIn (get s) φ) (hnd : (φ.map (·.1)).Nodup) {d : Nat} (hd : o.dst = some d) (hdn : d < X.n)
    (h : vc X esc ops l (addObjs (delObjs (upd s (.slot d) (.one (.v r))) φ) φ') K) : VL X ops (o :: l) s K :=
  VL_step hg (StepOK_call1 ho hargs (by rw [hP, hgl]; exact hc) hφ hnd hd hdn) (vc_sound h)

end
end Go.Proofs.YtbmnlkfgkdallaaDoor.Lift
