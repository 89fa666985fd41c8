/-
  Part F of the small logic: steps that write: a local variable is made, a cell is stored, a slice is made of a literal.
-/
import Derived.Test.YtbmnlkfgkdallaaDoorLe
namespace Go.Proofs.YtbmnlkfgkdallaaDoor.Lift
set_option linter.unusedSimpArgs false
set_option linter.unusedVariables false
set_option linter.unnecessarySimpa false
open Go

def hasLoc (d : Nat) : SV → Bool
  | .loc k _ => k == d
  | _ => false
def hasTok (d : Nat) : SV → Bool
  | .own t _ => t == d
  | _ => false
def anyLoc (d : Nat) : List SV → Bool
  | [] => false
  | x :: r => hasLoc d x || anyLoc d r
def anyTok (d : Nat) : List SV → Bool
  | [] => false
  | x :: r => hasTok d x || anyTok d r
/-- the name of a local variable is not in use -/
def freshL (d : Nat) : St → Bool
  | [] => true
  | (l, v) :: r => (match l with | .loc k => k != d | _ => true) && (match v with | .one x => !hasLoc d x | .row cs => !anyLoc d cs | .tk _ _ => true | .ob _ => true) && freshL d r
def freshT (d : Nat) : St → Bool
  | [] => true
  | (l, v) :: r => (match l with | .tok k => k != d | _ => true) && (match v with | .one x => !hasTok d x | .row cs => !anyTok d cs | .tk _ _ => true | .ob _ => true) && freshT d r

theorem get_mem {s : St} {l : Loc} {v : LV} (h : get s l = some v) : (l, v) ∈ s := by
  induction s with
  | nil => cases h
  | cons p r ih =>
    obtain ⟨m, u⟩ := p
    simp only [get] at h
    split at h
    · cases h; subst_vars; simp
    · exact List.mem_cons_of_mem _ (ih h)

theorem anyLoc_iff (d : Nat) (cs : List SV) : anyLoc d cs = false ↔ d ∉ cs.flatMap SV.locs := by
  induction cs with
  | nil => simp [anyLoc]
  | cons x r ih => cases x <;> simp [anyLoc, hasLoc, SV.locs, ih]; exact fun _ => ne_comm

theorem anyTok_iff (d : Nat) (cs : List SV) : anyTok d cs = false ↔ d ∉ cs.flatMap SV.toks := by
  induction cs with
  | nil => simp [anyTok]
  | cons x r ih => cases x <;> simp [anyTok, hasTok, SV.toks, ih]; exact fun _ => ne_comm

theorem freshL_get {d : Nat} {s : St} (h : freshL d s = true) {l : Loc} {v : LV} (hg : get s l = some v) : ∀ k ∈ l.locs ++ v.locs, k ≠ d := by
  have hm := get_mem hg
  induction s with
  | nil => cases hm
  | cons p r ih =>
    obtain ⟨m, u⟩ := p
    simp only [freshL, Bool.and_eq_true] at h
    rcases List.mem_cons.1 hm with he | hm
    · cases he
      intro k hk he
      subst he
      rcases List.mem_append.1 hk with hk | hk
      · have h1 := h.1.1
        cases l <;> simp [Loc.locs] at hk
        subst hk
        simp at h1
      · have h2 := h.1.2
        cases v with
        | one x => cases x <;> simp [LV.locs, SV.locs] at hk; subst hk; simp [hasLoc] at h2
        | row cs =>
          simp only [Bool.not_eq_true'] at h2
          exact (anyLoc_iff _ _).1 h2 hk
        | tk => simp [LV.locs] at hk
        | ob => simp [LV.locs] at hk
    · by_cases he : m = l
      · subst he
        simp only [get, if_true] at hg
        cases hg
        intro k hk he
        subst he
        rcases List.mem_append.1 hk with hk | hk
        · have h1 := h.1.1
          cases m <;> simp [Loc.locs] at hk
          subst hk
          simp at h1
        · have h2 := h.1.2
          cases v with
          | one x => cases x <;> simp [LV.locs, SV.locs] at hk; subst hk; simp [hasLoc] at h2
          | row cs =>
            simp only [Bool.not_eq_true'] at h2
            exact (anyLoc_iff _ _).1 h2 hk
          | tk => simp [LV.locs] at hk
          | ob => simp [LV.locs] at hk
      · simp only [get, he, if_false] at hg
        exact ih h.2 hg hm

theorem freshT_get {d : Nat} {s : St} (h : freshT d s = true) {l : Loc} {v : LV} (hg : get s l = some v) : ∀ k ∈ l.toks ++ v.toks, k ≠ d := by
  induction s with
  | nil => cases hg
  | cons p r ih =>
    obtain ⟨m, u⟩ := p
    simp only [freshT, Bool.and_eq_true] at h
    by_cases he : m = l
    · subst he
      simp only [get, if_true] at hg
      cases hg
      intro k hk he
      subst he
      rcases List.mem_append.1 hk with hk | hk
      · have h1 := h.1.1
        cases m <;> simp [Loc.toks] at hk
        subst hk
        simp at h1
      · have h2 := h.1.2
        cases v with
        | one x => cases x <;> simp [LV.toks, SV.toks] at hk; subst hk; simp [hasTok] at h2
        | row cs =>
          simp only [Bool.not_eq_true'] at h2
          exact (anyTok_iff _ _).1 h2 hk
        | tk => simp [LV.toks] at hk
        | ob => simp [LV.toks] at hk
    · simp only [get, he, if_false] at hg
      exact ih h.2 hg

/-- every function, every depth; in a round's frame where the walk is of a round -/
def Ctx.F (X : Ctx) : Fence := { Fence.wide with round := X.rd }

theorem callsF {X : Ctx} {n : Nat} {P : Program} {f : FuncId} {args : Array Value} {w : World} {R : Ending → World → Prop} (h : Calls P f args w R) : CallsIn X.F n P f args w R := callsIn_wide.2 h

/-- what is asked of an operation's outcome -/
def upn (P : Program) (o : Oper) (a : Act) (next : Act → World → Prop) (Q : Exit → Act → World → Prop) : Result Next → Prop
  | .ok (.value v) w' => next (a.put o.dst v) w'
  | .ok .skip w' => next (a.put o.dst undef) w'
  | .ok (.enter f args) w' => Calls P f args w' fun
      | .returned v, w'' => next (a.put o.dst v) w''
      | .panicked chain, w'' => Q (.panic chain) a w''
      | .outgrown, _ => LetsOut Q
  | _ => False

theorem upn_value (P : Program) (o : Oper) (a : Act) (next : Act → World → Prop) (Q : Exit → Act → World → Prop) (v : Value) (w : World) : upn P o a next Q (.ok (.value v) w) = next (a.put o.dst v) w := rfl
theorem upn_skip (P : Program) (o : Oper) (a : Act) (next : Act → World → Prop) (Q : Exit → Act → World → Prop) (w : World) : upn P o a next Q (.ok .skip w) = next (a.put o.dst undef) w := rfl
theorem upn_enter (P : Program) (o : Oper) (a : Act) (next : Act → World → Prop) (Q : Exit → Act → World → Prop) (f : FuncId) (args : Array Value) (w : World) : upn P o a next Q (.ok (.enter f args) w) = Calls P f args w fun
      | .returned v, w'' => next (a.put o.dst v) w''
      | .panicked chain, w'' => Q (.panic chain) a w''
      | .outgrown, _ => LetsOut Q := rfl

theorem opIn {X : Ctx} {o : Oper} {a : Act} {w : World} {next : Act → World → Prop} {Q : Exit → Act → World → Prop} (hd : ∀ c, o.op ≠ .defer c) (h : upn X.P o a next Q ((execOp a.eval o).run X.P w)) : o.wpIn X.F 0 X.P a w next Q := by
  refine ⟨fun _ _ => trivial, ?_⟩
  rw [Oper.semAt_eq _ _ _ hd]
  generalize (execOp a.eval o).run X.P w = r at h
  cases r with
  | ok v w' =>
    cases v <;> simp only [upn, Oper.uponIn] at h ⊢
    all_goals first | exact h | exact h.elim | exact ⟨fun h => (by cases h), callsF h⟩
  | halt e w' => exact h.elim

theorem pval_nodefer {X : Ctx} {g : Rd} {o : Oper} {p : Prop × SV} (h : pval X g o = some p) (c : Call) : o.op ≠ .defer c := by
  intro e
  simp [pval, e] at h

/-- AN OPERATION TAKES A STATE TO A STATE, IN EVERY FRAME AND WORLD THAT FITS -/
def StepOK (X : Ctx) (s : St) (o : Oper) (s' : St) : Prop :=
  ∀ (G : Gh) (a : Act) (w : World), Rel X G s a w → ∀ (next : Act → World → Prop) (Q : Exit → Act → World → Prop),
    (∀ G' a' w', Rel X G' s' a' w' → next a' w') → o.wpIn X.F 0 X.P a w next Q

section
variable {X : Ctx} {G : Gh} {s : St} {a : Act} {w : World}

theorem put_tmps (a : Act) (dst : Option Tmp) (v : Value) : (a.put dst v).tmps.size = a.tmps.size ∧ (a.put dst v).defers = a.defers := by
  cases dst <;> simp [Act.put]

theorem put_get_same (a : Act) (d : Nat) (v : Value) (h : d < a.tmps.size) : (a.put (some d) v).tmps.getD d undef = v := by
  simp [Act.put, h]

theorem put_get_ne (a : Act) (d n : Nat) (v : Value) (h : n ≠ d) : (a.put (some d) v).tmps.getD n undef = a.tmps.getD n undef := by
  simp [Act.put, Array.getElem?_setIfInBounds_ne (Ne.symm h)]

theorem alloc_old (w : World) (o : Obj) (b : Nat) (h : b < w.heap.size) : (w.alloc o).heap[b]? = w.heap[b]? := by
  simp only [World.alloc, Array.getElem?_push]
  rw [if_neg (by omega)]

theorem alloc_new (w : World) (o : Obj) : (w.alloc o).heap[w.heap.size]? = some o := by
  show (w.heap.push o)[w.heap.size]? = some o
  simp

/-- nothing but a slot has turned; memory may have grown by data -/
theorem Rel.setSlot {G' : Gh} {w' : World} (R : Rel X G s a w) {B : Nat → Prop} (T : Trans X G a w G' a w' B) (hν : G'.ν = G.ν) (hτ : G'.τ = G.τ) (hB : ∀ b, ¬ B b) {d : Nat} (hd : d < X.n) {x : SV} {v : Value} (hx : RSV G' w' x v) :
    Rel X G' (upd s (.slot d) (.one x)) (a.put (some d) v) w' := by
  have hp := put_tmps a (some d) v
  have T' : Trans X G a w G' (a.put (some d) v) w' B := ⟨hp.1, fun h => (T.defers h).put hp.2, T.os, T.tape, T.output, T.size, T.keep, T.own, T.grow, T.new, T.nil⟩
  refine R.step T' (fun l u => l = .slot d ∧ u = .one x) (fun l u h => ?_) (fun l u h => ?_) (fun l u l' u' b h h' hb hb' => h.1.trans h'.1.symm)
  · rw [get_upd] at h
    by_cases hl : Loc.slot d = l
    · rw [if_pos hl] at h
      cases h
      exact .inl ⟨hl.symm, rfl⟩
    · rw [if_neg hl] at h
      exact .inr ⟨h, fun n hn => put_get_ne _ _ _ _ (fun e => hl (by rw [hn, e])), fun b _ => hB b, fun k _ => by rw [hν], fun t _ => by rw [hτ]⟩
  · obtain ⟨rfl, rfl⟩ := h
    refine ⟨?_, fun b hb => by cases hb⟩
    show RSV G' w' x _
    rw [put_get_same _ _ _ (by rw [R.size]; exact hd)]
    exact hx

theorem Trans.refl (X : Ctx) (G : Gh) (a : Act) (w : World) (hn : G.τ 0 = (none, 0)) : Trans X G a w G a w (fun _ => False) :=
  ⟨rfl, fun h => h, rfl, rfl, rfl, Nat.le_refl _, fun _ _ _ => rfl, fun _ h => h.elim, Grow.refl _ _, fun _ _ h k => absurd h k, hn⟩

/-- an operation that writes nothing -/
theorem step_pval {o : Oper} {c : Prop} {y : SV} (h : pval X (get s) o = some (c, y)) (hc : c) {d : Nat} (hd : o.dst = some d) (hn : d < X.n) : StepOK X s o (upd s (.slot d) (.one y)) := by
  intro G a w R next Q hK
  obtain ⟨v, h1, h2⟩ := pval_sound R h hc
  refine opIn (by first | exact pval_nodefer h | (intro c e; rw [ho] at e; cases e)) ?_
  rw [h1, upn_value, hd]
  exact hK G _ w (R.setSlot (Trans.refl X G a w R.nil) rfl rfl (fun _ h => h) hn h2)

theorem step_pval_none {o : Oper} {c : Prop} {y : SV} (h : pval X (get s) o = some (c, y)) (hc : c) (hd : o.dst = none) : StepOK X s o s := by
  intro G a w R next Q hK
  obtain ⟨v, h1, h2⟩ := pval_sound R h hc
  refine opIn (by first | exact pval_nodefer h | (intro c e; rw [ho] at e; cases e)) ?_
  rw [h1, upn_value, hd]
  exact hK G _ w R

theorem trans_alloc (R : Rel X G s a w) (o : Obj) {G' : Gh} (hD : G'.D = G.D) (hn : G'.τ 0 = (none, 0)) : Trans X G a w G' a (w.alloc o) (fun _ => False) := by
  have hcell : ∀ b o', G.D b o' → (w.alloc o).cell? ⟨b, o', none⟩ = w.cell? ⟨b, o', none⟩ := fun b o' hd => World.cell?_alloc_lt _ _ _ (R.wf.lt hd)
  exact ⟨rfl, fun h => h.heap fun b hb => alloc_old w o b hb, rfl, rfl, rfl, by simp, fun b hb _ => alloc_old w o b hb, fun _ h => h.elim, fun b o' hd => ⟨by rw [hD]; exact hd, hcell b o' hd⟩, fun b o' h k => absurd (hD ▸ h) k, hn⟩

def cellBS : List SV → Bool
  | [] => true
  | x :: r => x.isCell && cellBS r

theorem cellBS_iff (l : List SV) : cellBS l = true ↔ ∀ c ∈ l, c.isCell = true := by
  induction l with
  | nil => simp [cellBS]
  | cons c r ih => simp [cellBS, ih]

theorem RSV.ren {G G' : Gh} {w : World} {x : SV} {v : Value} (hD : G'.D = G.D) (hl : ∀ k ∈ x.locs, G'.ν k = G.ν k) (ht : ∀ t ∈ x.toks, G'.τ t = G.τ t) (h : RSV G w x v) : RSV G' w x v :=
  h.mono (fun _ _ hd => ⟨hD ▸ hd, rfl⟩) hl ht

/-- a local variable of one's own: its block is the newest -/
theorem Rel.newLoc (R : Rel X G s a w) {d : Nat} (hd : d < X.n) (hf : freshL d s = true) {cs : List SV} {c : Array Value} (hrow : RowOf G w cs c) (hcell : cellBS cs = true) (hcs : anyLoc d cs = false) (t : TypeId) :
    ∃ G', Rel X G' (upd (upd s (.slot d) (.one (.loc d 0))) (.loc d) (.row cs)) (a.put (some d) (.pointer (some ⟨w.heap.size, 0, none⟩))) (w.alloc (.cells c t)) := by
  refine ⟨{ G with ν := fun k => if k = d then w.heap.size else G.ν k }, ?_⟩
  have hp := put_tmps a (some d) (.pointer (some ⟨w.heap.size, 0, none⟩))
  have T0 := trans_alloc R (.cells c t) (G' := { G with ν := fun k => if k = d then w.heap.size else G.ν k }) rfl R.nil
  have T : Trans X G a w { G with ν := fun k => if k = d then w.heap.size else G.ν k } (a.put (some d) (.pointer (some ⟨w.heap.size, 0, none⟩))) (w.alloc (.cells c t)) (fun _ => False) := ⟨hp.1, fun h => (T0.defers h).put hp.2, T0.os, T0.tape, T0.output, T0.size, T0.keep, T0.own, T0.grow, T0.new, T0.nil⟩
  refine R.step T (fun l u => (l = .slot d ∧ u = .one (.loc d 0)) ∨ (l = .loc d ∧ u = .row cs)) (fun l u h => ?_) (fun l u h => ?_) (fun l u l' u' b h h' hb hb' => ?_)
  · rw [get_upd, get_upd] at h
    by_cases h1 : Loc.loc d = l
    · rw [if_pos h1] at h; cases h; exact .inl (.inr ⟨h1.symm, rfl⟩)
    · rw [if_neg h1] at h
      by_cases h2 : Loc.slot d = l
      · rw [if_pos h2] at h; cases h; exact .inl (.inl ⟨h2.symm, rfl⟩)
      · rw [if_neg h2] at h
        refine .inr ⟨h, fun n hn => put_get_ne _ _ _ _ (fun e => h2 (by rw [hn, e])), fun b _ h => h, fun k hk => ?_, fun t _ => rfl⟩
        have := freshL_get hf h k hk
        simp [this]
  · rcases h with ⟨rfl, rfl⟩ | ⟨rfl, rfl⟩
    · refine ⟨?_, fun b hb => by cases hb⟩
      simp only [Holds, RSV]
      rw [put_get_same _ _ _ (by rw [R.size]; exact hd)]
      simp
    · refine ⟨⟨c, t, by simp only [if_true]; exact alloc_new _ _, hrow.1, fun i x hx => ?_⟩, fun b hb => ?_⟩
      · have hm := List.mem_of_getElem? hx
        refine ⟨(cellBS_iff cs).1 hcell x hm, ?_⟩
        have hlt : i < c.size := by rw [hrow.1]; exact (List.getElem?_eq_some_iff.1 hx).1
        refine ⟨c[i], Array.getElem?_eq_getElem hlt, ?_⟩
        have hr := hrow.2 i x _ hx (Array.getElem?_eq_getElem hlt)
        refine hr.mono T0.grow (fun k hk => ?_) (fun t _ => rfl)
        have : k ≠ d := fun e => by
          subst e
          exact (anyLoc_iff _ _).1 hcs (List.mem_flatMap.2 ⟨x, hm, hk⟩)
        simp [this]
      · simp only [blkOf, if_true, Option.some.injEq] at hb
        subst hb
        refine ⟨.inl (Nat.le_refl _), .inl R.ext.size, fun _ o hD => ?_⟩
        exact absurd (R.wf.lt hD) (Nat.lt_irrefl _)
  · rcases h with ⟨rfl, rfl⟩ | ⟨rfl, rfl⟩
    · cases hb
    · rcases h' with ⟨rfl, rfl⟩ | ⟨rfl, rfl⟩
      · cases hb'
      · rfl

theorem step_alloc {o : Oper} {t : TypeId} (ho : o.op = .alloc t) {d : Nat} (hd : o.dst = some d) (hn : d < X.n) {cs : List SV} (hz : zeroT X.P t = some cs) (hc : cellBS cs = true) (hf : freshL d s = true) :
    StepOK X s o (upd (upd s (.slot d) (.one (.loc d 0))) (.loc d) (.row cs)) := by
  intro G a w R next Q hK
  unfold zeroT at hz
  split at hz
  · rename_i i hi
    split at hz
    · rename_i z hzv
      have hrow := zeroS_sound (w := w) R.nil hz
      simp only [Array.toArray_toList] at hrow
      have hnl : anyLoc d cs = false := by
        have : ∀ (l : List Value) (cs : List SV), zeroS l = some cs → anyLoc d cs = false := by
          intro l
          induction l with
          | nil => intro cs h; cases h; rfl
          | cons v r ih =>
            intro cs h
            simp only [zeroS] at h
            split at h
            · rename_i x xs hx hxs
              cases h
              simp only [anyLoc, ih _ hxs, Bool.or_false]
              unfold constS at hx
              split at hx
              · cases hx; rfl
              · rename_i vs
                cases hq : constDs vs.toList with
                | none => rw [hq] at hx; cases hx
                | some ds => rw [hq] at hx; cases hx; rfl
              · split at hx
                · cases hx; rfl
                · cases hx
            · cases h
        exact this _ _ hz
      obtain ⟨G', R'⟩ := R.newLoc hn hf hrow hc hnl t
      refine opIn (by first | exact pval_nodefer h | (intro c e; rw [ho] at e; cases e)) ?_
      simp only [execOp, ho, Instr.alloc, zeroValue, typeInfo, run_program, hi, hzv, newVar, newRow, run_newObj, Sem.run_bind, Sem.run_pure, Result.andThen_ok, upn_value, hd]
      exact hK G' _ _ R'
    · cases hz
  · cases hz

theorem step_box {o : Oper} {t : TypeId} {x : Operand} (ho : o.op = .box t x) {d : Nat} (hd : o.dst = some d) (hn : d < X.n) {y : SV} (hy : evl X (get s) x = some y) (hc : cellBS (cellsS y) = true) (hf : freshL d s = true) (hnl : hasLoc d y = false) :
    StepOK X s o (upd (upd s (.slot d) (.one (.loc d 0))) (.loc d) (.row (cellsS y))) := by
  intro G a w R next Q hK
  have hrow : RowOf G w (cellsS y) (a.eval x).cells := cellsS_sound R.nil (evl_sound R hy)
  have hnl' : anyLoc d (cellsS y) = false := by
    cases y with
    | v y =>
      have : ∀ l : List DV, anyLoc d (l.map SV.v) = false := by
        intro l
        induction l with
        | nil => rfl
        | cons c r ih => simp [anyLoc, hasLoc, ih]
      exact this _
    | loc k off => simp [cellsS, anyLoc, hasLoc] at hnl ⊢; exact hnl
    | dp els i off => rfl
    | own t els => rfl
    | ag cs ns =>
      have : ∀ (l : List DV) (k : Nat), anyLoc d (agC ns k l) = false := by
        intro l
        induction l with
        | nil => intro k; rfl
        | cons c r ih => intro k; simp only [agC, anyLoc, ih, Bool.or_false]; split <;> rfl
      exact this _ _
  obtain ⟨G', R'⟩ := R.newLoc hn hf hrow hc hnl' t
  refine opIn (by first | exact pval_nodefer h | (intro c e; rw [ho] at e; cases e)) ?_
  simp only [execOp, ho, Instr.box, newVar, newRow, run_newObj, Sem.run_bind, Sem.run_pure, Result.andThen_ok, upn_value, hd]
  exact hK G' _ _ R'

end
end Go.Proofs.YtbmnlkfgkdallaaDoor.Lift
