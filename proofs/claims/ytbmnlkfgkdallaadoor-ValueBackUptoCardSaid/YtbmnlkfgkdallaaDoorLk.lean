/-
  Part K of the small logic: a contract is used at a call; how a contract is proved; a state told otherwise.
-/
import Derived.Test.YtbmnlkfgkdallaaDoorLj
namespace Go.Proofs.YtbmnlkfgkdallaaDoor.Lift
set_option linter.unusedSimpArgs false
set_option linter.unusedVariables false
set_option linter.unnecessarySimpa false
open Go

/-- the function has a body of the program's own -/
def Callable (P : Program) (f : FuncId) : Prop :=
  ∃ fn, P.funcs[f]? = some fn ∧ fn.body.isSome = true ∧ (fn.name == "runtime.NumGoroutine") = false

/-- THE CONTRACT OF A FUNCTION THAT CAN BE CALLED -/
def Con (P : Program) (gl : Globs) (f : FuncId) (args : List DV) (φ : Objs) (R : DV → Objs → Prop) : Prop := Callable P f ∧ LC P gl f args φ R

/-- the same where the outcome is told -/
def Con1 (P : Program) (gl : Globs) (f : FuncId) (args : List DV) (φ : Objs) (r : DV) (φ' : Objs) : Prop := Con P gl f args φ fun x ψ => x = r ∧ ψ = φ'

theorem LC.mono {P : Program} {gl : Globs} {f : FuncId} {args : List DV} {φ : Objs} {R R' : DV → Objs → Prop} (h : LC P gl f args φ R) (hr : ∀ r ψ, R r ψ → R' r ψ) : LC P gl f args φ R' :=
  fun D w vs h1 h2 h3 h4 => (h D w vs h1 h2 h3 h4).mono fun _ _ ⟨v, D', r, ψ, k1, k2, k3⟩ => ⟨v, D', r, ψ, k1, hr _ _ k2, k3⟩

theorem Con.mono {P : Program} {gl : Globs} {f : FuncId} {args : List DV} {φ : Objs} {R R' : DV → Objs → Prop} (h : Con P gl f args φ R) (hr : ∀ r ψ, R r ψ → R' r ψ) : Con P gl f args φ R' := ⟨h.1, h.2.mono hr⟩

def heapSt : Objs → St
  | [] => []
  | (b, cs) :: r => (.heap b, .row (cs.map SV.v)) :: heapSt r

def argSt : Nat → List DV → St
  | _, [] => []
  | n, x :: r => (.slot n, .one (.v x)) :: argSt (n + 1) r

def entry (args : List DV) (φ : Objs) : St := argSt 0 args ++ heapSt φ

def delObjs (s : St) : Objs → St
  | [] => s
  | (b, _) :: r => delObjs (del s (.heap b)) r

def addObjs (s : St) : Objs → St
  | [] => s
  | (b, cs) :: r => upd (addObjs s r) (.heap b) (.row (cs.map SV.v))

theorem get_append (s t : St) (l : Loc) : get (s ++ t) l = (get s l).or (get t l) := by
  induction s with
  | nil => simp [get]
  | cons p r ih =>
    obtain ⟨m, v⟩ := p
    simp only [List.cons_append, get]
    split <;> simp [ih]

theorem get_heapSt {φ : Objs} {l : Loc} {v : LV} (h : get (heapSt φ) l = some v) : ∃ b cs, l = .heap b ∧ v = .row (cs.map SV.v) ∧ (b, cs) ∈ φ := by
  induction φ with
  | nil => cases h
  | cons p r ih =>
    obtain ⟨b, cs⟩ := p
    simp only [heapSt, get] at h
    split at h
    · rename_i hl; cases h; exact ⟨b, cs, hl.symm, rfl, by simp⟩
    · obtain ⟨b', cs', h1, h2, h3⟩ := ih h
      exact ⟨b', cs', h1, h2, List.mem_cons_of_mem _ h3⟩

theorem get_argSt {l : Loc} {v : LV} : ∀ {args : List DV} {n : Nat}, get (argSt n args) l = some v → ∃ i x, l = .slot (n + i) ∧ v = .one (.v x) ∧ args[i]? = some x
  | [], _, h => by cases h
  | x :: r, n, h => by
    simp only [argSt, get] at h
    split at h
    · rename_i hl; cases h; exact ⟨0, x, by rw [← hl]; rfl, rfl, rfl⟩
    · obtain ⟨i, y, h1, h2, h3⟩ := get_argSt h
      exact ⟨i + 1, y, by rw [h1]; congr 1; omega, h2, by simpa using h3⟩

theorem get_delObjs (φ : Objs) : ∀ (s : St) (l : Loc) (v : LV), get (delObjs s φ) l = some v → get s l = some v ∧ ∀ b ∈ φ.map (·.1), l ≠ .heap b := by
  induction φ with
  | nil => intro s l v h; exact ⟨h, by simp⟩
  | cons p r ih =>
    obtain ⟨b, cs⟩ := p
    intro s l v h
    obtain ⟨h1, h2⟩ := ih _ l v h
    rw [get_del] at h1
    by_cases hl : Loc.heap b = l
    · rw [if_pos hl] at h1; cases h1
    · rw [if_neg hl] at h1
      refine ⟨h1, fun b' hb' => ?_⟩
      simp only [List.map_cons, List.mem_cons] at hb'
      rcases hb' with rfl | hb'
      · exact fun e => hl e.symm
      · exact h2 b' hb'

theorem get_addObjs (s : St) : ∀ (φ : Objs) (l : Loc) (v : LV), get (addObjs s φ) l = some v → (∃ b cs, l = .heap b ∧ v = .row (cs.map SV.v) ∧ (b, cs) ∈ φ) ∨ (get s l = some v ∧ ∀ b ∈ φ.map (·.1), l ≠ .heap b)
  | [], l, v, h => .inr ⟨h, by simp⟩
  | (b, cs) :: r, l, v, h => by
    simp only [addObjs, get_upd] at h
    split at h
    · rename_i hl; cases h; exact .inl ⟨b, cs, hl.symm, rfl, by simp⟩
    · rename_i hl
      rcases get_addObjs s r l v h with ⟨b', cs', h1, h2, h3⟩ | ⟨h1, h2⟩
      · exact .inl ⟨b', cs', h1, h2, List.mem_cons_of_mem _ h3⟩
      · refine .inr ⟨h1, fun b' hb' => ?_⟩
        simp only [List.map_cons, List.mem_cons] at hb'
        rcases hb' with rfl | hb'
        · exact fun e => hl e.symm
        · exact h2 b' hb'

section
variable {X : Ctx} {s : St} {k : List Item}

theorem blk_of_heapOK {G : Gh} {D' : Nat → Nat → Prop} {w' : World} {φ : Objs} (h : HeapOK D' w' φ) {b : Nat} {cs : List DV} (hm : (b, cs) ∈ φ) : BlkAt { D := D', ν := G.ν, τ := G.τ } w' b (cs.map SV.v) := by
  obtain ⟨c, e, h1, h2, h3⟩ := h.rows b cs hm
  refine ⟨c, e, h1, by simpa using h2, fun i x hx => ?_⟩
  rw [List.getElem?_map] at hx
  cases hq : cs[i]? with
  | none => simp [hq] at hx
  | some y =>
    simp [hq] at hx
    subst hx
    exact h3 i y hq

/-- what a call leaves of a state -/
theorem Rel.call {G : Gh} {a : Act} {w : World} (R : Rel X G s a w) {φ φ' : Objs} (hφ : objsIn (get s) φ) {D' : Nat → Nat → Prop} {w' : World} (hx : Ext (φ.map (·.1)) G.D w D' w') (hwf : Wf X.gl D' w') {r : DV} {v : Value} (hr : RV D' w' r v)
    (hh : HeapOK D' w' φ') (hids : ∀ b ∈ φ'.map (·.1), b ∈ φ.map (·.1) ∨ w.heap.size ≤ b) {d : Nat} (hd : d < X.n) :
    Rel X { D := D', ν := G.ν, τ := G.τ } (addObjs (delObjs (upd s (.slot d) (.one (.v r))) φ) φ') (a.put (some d) v) w' := by
  have hp := put_tmps a (some d) v
  have hφb : ∀ b ∈ φ.map (·.1), ∃ cs, get s (.heap b) = some (.row (List.map SV.v cs)) := by
    intro b hb
    obtain ⟨⟨b', cs'⟩, hm, rfl⟩ := List.mem_map.1 hb
    exact ⟨cs', hφ b' cs' hm⟩
  have T : Trans X G a w { D := D', ν := G.ν, τ := G.τ } (a.put (some d) v) w' (fun b => b ∈ φ.map (·.1)) := by
    refine ⟨hp.1, fun h => h.keep hp.2 fun D hD => (hx.block D (Array.getElem?_eq_some_iff.1 hD).1 fun hm => ?_).trans hD, hx.os, hx.tape, hx.output, hx.size, fun b hb hn => hx.block b hb hn, fun b hb => ?_, hx.grow, fun b o hD hn => ⟨.inl (hx.new b o hD hn), hwf.there b o hD⟩, R.nil⟩
    · obtain ⟨cs, hg⟩ := hφb D hm
      obtain ⟨c, e, h4, _⟩ := R.holds _ _ hg
      rw [hD] at h4; cases h4
    · obtain ⟨cs, hg⟩ := hφb b hb
      exact (R.own _ _ b hg rfl).imp id And.left
  refine R.step T (fun l u => (l = .slot d ∧ u = .one (.v r)) ∨ ∃ b cs, l = .heap b ∧ u = .row (cs.map SV.v) ∧ (b, cs) ∈ φ') (fun l u h => ?_) (fun l u h => ?_) (fun l u l' u' b h h' hb hb' => ?_)
  · rcases get_addObjs _ _ _ _ h with h | ⟨h, hne⟩
    · exact .inl (.inr h)
    · obtain ⟨h, hn⟩ := get_delObjs _ _ _ _ h
      · rw [get_upd] at h
        split at h
        · rename_i hl; cases h; exact .inl (.inl ⟨hl.symm, rfl⟩)
        · rename_i hl
          refine .inr ⟨h, fun n hn => put_get_ne _ _ _ _ (fun e => hl (by rw [hn, e])), fun b hb hB => ?_, fun _ _ => rfl, fun _ _ => rfl⟩
          obtain ⟨cs, hg⟩ := hφb b hB
          exact hn b hB (R.sep _ _ _ _ b hg h rfl hb).symm
  · rcases h with ⟨rfl, rfl⟩ | ⟨b, cs, rfl, rfl, hm⟩
    · refine ⟨?_, fun b hb => by cases hb⟩
      show RV D' w' r _
      rw [put_get_same _ _ _ (by rw [R.size]; exact hd)]
      exact hr
    · refine ⟨blk_of_heapOK hh hm, fun b' hb' => ?_⟩
      simp only [blkOf, Option.some.injEq] at hb'
      subst hb'
      have hmm : b ∈ φ'.map (·.1) := List.mem_map.2 ⟨_, hm, rfl⟩
      refine ⟨(hids b hmm).symm, ?_, fun _ o => hh.nodata b cs hm o⟩
      rcases hids b hmm with h1 | h1
      · obtain ⟨cs', hg⟩ := hφb b h1
        exact R.own _ _ b hg rfl
      · exact .inl (Nat.le_trans R.ext.size h1)
  · rcases h with ⟨rfl, rfl⟩ | ⟨b1, cs, rfl, rfl, hm⟩
    · cases hb
    · rcases h' with ⟨rfl, rfl⟩ | ⟨b2, cs', rfl, rfl, hm'⟩
      · cases hb'
      · simp only [blkOf, Option.some.injEq] at hb hb'
        rw [hb, hb']

theorem run_callFunc {P : Program} {f : FuncId} (h : Callable P f) (args : Array Value) (w : World) : (callFunc f args).run P w = .ok (.enter f args) w := by
  obtain ⟨fn, h1, h2, h3⟩ := h
  have h4 : fn.body.isNone = false := by cases hb : fn.body <;> simp_all
  simp only [callFunc, Sem.run_bind, run_program, Result.andThen_ok, h1, h3, h4, Bool.false_eq_true, if_false, Sem.run_pure]

/-- A CALL, BY ITS CONTRACT -/
theorem StepCall {o : Oper} {f : FuncId} {x : Operand} {args : Array Operand} {ats : Array TypeId} (ho : o.op = .call { callee := .value x, args := args, argTypes := ats }) {fi ca : Array Value}
    (hx : evl X (get s) x = some (.v (.prim (.func (.func f) fi ca)))) {ds : List DV} (hargs : ∃ d0, evlDs X (get s) args.toList = some d0 ∧ ds = fi.toList.map DV.prim ++ d0 ++ ca.toList.map DV.prim) (hprim : ∀ v ∈ fi.toList ++ ca.toList, primOK v)
    {φ : Objs} {R : DV → Objs → Prop} (hc : Con X.P X.gl f ds φ R) (hφ : objsIn (get s) φ) (hnd : (φ.map (·.1)).Nodup) {d : Nat} (hd : o.dst = some d) (hdn : d < X.n) {G : Gh} {a : Act} {w : World} (R0 : Rel X G s a w) (next : Act → World → Prop) (Q : Exit → Act → World → Prop)
    (hk : ∀ r φ' G' a' w', R r φ' → (∀ b ∈ φ'.map (·.1), b ∈ φ.map (·.1) ∨ ∀ l v, get s l = some v → blkOf G l v ≠ some b) → Rel X G' (addObjs (delObjs (upd s (.slot d) (.one (.v r))) φ) φ') a' w' → next a' w') : o.wpIn X.F 0 X.P a w next Q := by
  obtain ⟨d0, hd0, rfl⟩ := hargs
  have hxv := (prim_of (evl_sound R0 hx)).1
  obtain ⟨q1, q2⟩ := evlDs_sound R0 hd0
  have q1' : args.size = d0.length := by simpa using q1
  refine opIn (by intro c e; rw [ho] at e; cases e) ?_
  have hrun : (execOp a.eval o).run X.P w = .ok (.enter f (fi ++ args.map a.eval ++ ca)) w := by
    simp [execOp, ho, resolve, hxv, Deferred.ofValue, invoke, run_callFunc hc.1]
  rw [hrun, upn_enter]
  have hpr : ∀ v ∈ fi.toList ++ ca.toList, RV G.D w (.prim v) v := fun v hv => .prim v (hprim v hv)
  refine (hc.2 G.D w _ R0.wf ?_ ?_ (heapOK_of R0 hφ hnd)).mono ?_
  · simp [← q1]
  · intro i x v hx hv
    have hl : (fi ++ args.map a.eval ++ ca).toList = fi.toList ++ args.toList.map a.eval ++ ca.toList := by simp
    have hv' : (fi.toList ++ args.toList.map a.eval ++ ca.toList)[i]? = some v := by rw [← hl, Array.getElem?_toList]; exact hv
    by_cases h1 : i < fi.size
    · rw [List.append_assoc, List.getElem?_append_left (by simpa using h1)] at hx hv'
      rw [List.getElem?_map] at hx
      rw [hv'] at hx
      cases hx
      exact hpr v (List.mem_append.2 (.inl (List.mem_of_getElem? hv')))
    · by_cases h2 : i < fi.size + args.size
      · rw [List.append_assoc, List.getElem?_append_right (by simp; omega), List.getElem?_append_left (by simp; omega)] at hx hv'
        simp only [List.length_map, Array.length_toList] at hx hv'
        exact q2 _ _ _ hx hv'
      · rw [List.getElem?_append_right (by simp; omega)] at hx hv'
        simp only [List.length_append, List.length_map, Array.length_toList, ← q1'] at hx hv'
        rw [List.getElem?_map] at hx
        rw [hv'] at hx
        cases hx
        exact hpr v (List.mem_append.2 (.inr (List.mem_of_getElem? hv')))
  · rintro e w' ⟨v, D', r, φ', rfl, hR, hext, hwf, hrv, hh, hids⟩
    rw [hd]
    refine hk r φ' _ _ w' hR (fun b hb => ?_) (R0.call hφ hext hwf hrv hh hids hdn)
    rcases hids b hb with h | h
    · exact .inl h
    · exact .inr fun l v hg hbl => by
        have := blk_lt (R0.holds l v hg) hbl
        omega

theorem StepOK_call1 {o : Oper} {f : FuncId} {args : Array Operand} {ats : Array TypeId} (ho : o.op = .call { callee := .value (.func f), args := args, argTypes := ats })
    {ds : List DV} (hargs : evlDs X (get s) args.toList = some ds) {φ φ' : Objs} {r : DV} (hc : Con1 X.P X.gl f ds φ r φ') (hφ : objsIn (get s) φ) (hnd : (φ.map (·.1)).Nodup) {d : Nat} (hd : o.dst = some d) (hdn : d < X.n) :
    StepOK X s o (addObjs (delObjs (upd s (.slot d) (.one (.v r))) φ) φ') := by
  intro G a w R next Q hK
  refine StepCall (fi := #[]) (ca := #[]) ho rfl ⟨ds, hargs, by simp⟩ (by simp) hc hφ hnd hd hdn R next Q ?_
  rintro r' ψ G' a' w' ⟨rfl, rfl⟩ _ R'
  exact hK G' a' w' R'

/-- HOW A CONTRACT IS PROVED: the function's code is left, from the state in which it is entered -/
theorem Con_intro {P : Program} {gl : Globs} {f : FuncId} {args : List DV} {φ : Objs} {R : DV → Objs → Prop} {fn : Func} {body : Code} (hf : P.funcs[f]? = some fn) (hb : fn.body = some body) (hname : (fn.name == "runtime.NumGoroutine") = false)
    (hn : args.length ≤ fn.ntmps)
    (h : ∀ X : Ctx, X.P = P → X.gl = gl → X.f = f → X.fn = fn → X.n = fn.ntmps → X.R = R ∧ X.md = .fn → X.ids = φ.map (·.1) → (∀ x ∈ args, DV.fit x) → W X [.code body] (entry args φ)) : Con P gl f args φ R := by
  refine ⟨⟨fn, hf, by simp [hb], hname⟩, ?_⟩
  intro D w vs hwf hsz hargs hheap cs
  let X : Ctx := { P := P, gl := gl, f := f, fn := fn, n := fn.ntmps, ids := φ.map (·.1), D0 := D, w0 := w, R := R, md := .fn }
  have hfit : ∀ x ∈ args, DV.fit x := by
    intro x hx
    obtain ⟨i, hi, rfl⟩ := List.mem_iff_getElem.1 hx
    exact RV.fit (hargs i _ vs[i] (List.getElem?_eq_getElem hi) (Array.getElem?_eq_getElem (by omega)))
  have hW := h X rfl rfl rfl rfl rfl ⟨rfl, rfl⟩ rfl hfit
  let a : Act := { tmps := vs ++ Array.replicate (fn.ntmps - vs.size) undef, defers := [] }
  have Rl : Rel X { D := D, ν := fun _ => 0, τ := fun _ => (none, 0) } (entry args φ) a w := by
    have hget : ∀ l v, get (entry args φ) l = some v → (∃ i x, l = .slot i ∧ v = .one (.v x) ∧ args[i]? = some x) ∨ ∃ b cs, l = .heap b ∧ v = .row (cs.map SV.v) ∧ (b, cs) ∈ φ := by
      intro l v hl
      unfold entry at hl
      rw [get_append] at hl
      rcases Option.or_eq_some_iff.1 hl with hl | ⟨-, hl⟩
      · obtain ⟨i, x, h1, h2, h3⟩ := get_argSt hl
        exact .inl ⟨i, x, by simpa using h1, h2, h3⟩
      · exact .inr (get_heapSt hl)
    refine ⟨by simp [a, X]; omega, ⟨[], rfl, List.nodup_nil, by simp⟩, Ext.refl _ _ _, hwf, rfl, fun l v hl => ?_, fun l v l' v' b hl hl' hb hb' => ?_, fun l v b hl hb => ?_, fun l v b o hl hb _ => ?_⟩
    · rcases hget l v hl with ⟨i, x, rfl, rfl, hx⟩ | ⟨b, cs, rfl, rfl, hm⟩
      · have hi : i < vs.size := by rw [hsz]; exact (List.getElem?_eq_some_iff.1 hx).1
        have hv : vs[i]? = some vs[i] := Array.getElem?_eq_getElem hi
        show RV D w x _
        have : a.tmps.getD i undef = vs[i] := by
          simp [a, Array.getElem?_append_left hi, hv]
        rw [this]
        exact hargs i x _ hx hv
      · exact blk_of_heapOK (G := { D := D, ν := fun _ => 0, τ := fun _ => (none, 0) }) hheap hm
    · rcases hget l v hl with ⟨i, x, rfl, rfl, hx⟩ | ⟨b1, cs, rfl, rfl, hm⟩
      · cases hb
      · rcases hget l' v' hl' with ⟨i, x, rfl, rfl, hx⟩ | ⟨b2, cs', rfl, rfl, hm'⟩
        · cases hb'
        · simp only [blkOf, Option.some.injEq] at hb hb'
          rw [hb, hb']
    · rcases hget l v hl with ⟨i, x, rfl, rfl, hx⟩ | ⟨b1, cs, rfl, rfl, hm⟩
      · cases hb
      · simp only [blkOf, Option.some.injEq] at hb
        subst hb
        exact .inr ⟨List.mem_map.2 ⟨_, hm, rfl⟩, rfl⟩
    · rcases hget l v hl with ⟨i, x, rfl, rfl, hx⟩ | ⟨b1, cs, rfl, rfl, hm⟩
      · cases hb
      · simp only [blkOf, Option.some.injEq] at hb
        subst hb
        exact hheap.nodata _ _ hm o
  let b : Frame := { (default : Frame) with fn := f, kind := .normal }
  have henter : Frame.enter P f vs .normal = b.atR a [.code body] := by
    simp [Frame.enter, Frame.atR, hf, hb, b, a]; rfl
  obtain ⟨w', fr, ⟨v, ⟨D', r, φ', k1, k2, k3, k4, k5, k6⟩, h3, h4⟩, h2⟩ := hW _ a w b cs rfl rfl rfl Rl
  rw [← henter] at h2
  exact ⟨.returned v, w', fr, ⟨v, D', r, φ', rfl, k1, k2, k3, k4, k5, k6⟩, h2, h3, h4⟩

/-- A STATE TOLD OTHERWISE: what is claimed (s') follows from what is known (s); rooms are renamed -/
def svLe (σ : Nat → Nat) : SV → SV → Prop
  | .v x, .v y => x = y
  | .v x, .own _ els => x = .sl els
  | .loc k off, .loc k' off' => k = k' ∧ off = off'
  | .dp els i off, .dp els' i' off' => els = els' ∧ i = i' ∧ off = off'
  | .own t els, .own t' els' => σ t = t' ∧ els = els'
  | .v x, .ag cs _ => x = .agg cs
  | .ag cs ns, .ag cs' ns' => cs = cs' ∧ ns = ns'
  | _, _ => False

def rowLe (σ : Nat → Nat) : List SV → List SV → Prop
  | [], [] => True
  | x :: r, y :: t => svLe σ x y ∧ rowLe σ r t
  | _, _ => False

def lvLe (σ : Nat → Nat) : LV → Option LV → Prop
  | .one x, some (.one y) => svLe σ x y
  | .row cs, some (.row ds) => rowLe σ cs ds
  | .ob r, some (.ob q) => r = q
  | _, _ => False

def factLe (σ : Nat → Nat) (s : St) (l : Loc) (v : LV) : Prop :=
  match l, v with
  | .tok t, .tk E n => (σ t = 0 ∧ n = 0) ∨ (σ t ≠ 0 ∧ get s (.tok (σ t)) = some (.tk E n))
  | l, v => lvLe σ v (get s l)

def subLe (σ : Nat → Nat) (s : St) : St → Prop
  | [] => True
  | (l, v) :: r => factLe σ s l v ∧ subLe σ s r

def ren : List (Nat × Nat) → Nat → Nat
  | [], n => n
  | (x, y) :: r, n => if n = x then y else ren r n

def toksOf : St → List Nat
  | [] => []
  | (.tok t, _) :: r => t :: toksOf r
  | _ :: r => toksOf r

theorem svLe_sound {G : Gh} {w : World} {σ : Nat → Nat} {x y : SV} {v : Value} (h : svLe σ x y) (hr : RSV G w y v) : RSV { D := G.D, ν := G.ν, τ := fun t => G.τ (σ t) } w x v := by
  cases x <;> cases y <;> simp only [svLe] at h
  · subst h; exact hr
  · subst h; exact hr.2
  · subst h; exact hr.1
  · obtain ⟨rfl, rfl⟩ := h; exact hr
  · obtain ⟨rfl, rfl, rfl⟩ := h; exact hr
  · obtain ⟨rfl, rfl⟩ := h; exact hr
  · obtain ⟨rfl, rfl⟩ := h; exact hr

theorem svLe_cell {σ : Nat → Nat} {x y : SV} (h : svLe σ x y) (hc : y.isCell = true) : x.isCell = true := by
  cases x <;> cases y <;> simp only [svLe] at h
  · subst h; exact hc
  · subst h; rfl
  · cases hc
  · rfl
  · rfl
  · rfl
  · cases hc

theorem rowLe_sound {σ : Nat → Nat} : ∀ {cs ds : List SV}, rowLe σ cs ds → cs.length = ds.length ∧ ∀ (i : Nat) (x : SV), cs[i]? = some x → ∃ y, ds[i]? = some y ∧ svLe σ x y
  | [], [], _ => ⟨rfl, by simp⟩
  | x :: r, y :: t, h => by
    obtain ⟨h1, h2⟩ := h
    obtain ⟨k1, k2⟩ := rowLe_sound h2
    refine ⟨by simp [k1], fun i z hz => ?_⟩
    cases i with
    | zero => simp at hz; subst hz; exact ⟨y, rfl, h1⟩
    | succ i => obtain ⟨q, hq⟩ := k2 i z (by simpa using hz); exact ⟨q, by simpa using hq.1, hq.2⟩
  | [], _ :: _, h => h.elim
  | _ :: _, [], h => h.elim

theorem subLe_get {σ : Nat → Nat} {s : St} : ∀ {s' : St}, subLe σ s s' → ∀ l v, get s' l = some v → factLe σ s l v
  | [], _, l, v, h => by cases h
  | (m, u) :: r, h, l, v, hg => by
    simp only [get] at hg
    split at hg
    · cases hg; subst_vars; exact h.1
    · exact subLe_get h.2 l v hg

theorem toksOf_mem {s : St} {t : Nat} {v : LV} (h : get s (.tok t) = some v) : t ∈ toksOf s := by
  induction s with
  | nil => cases h
  | cons p r ih =>
    obtain ⟨m, u⟩ := p
    simp only [get] at h
    split at h
    · subst_vars; simp [toksOf]
    · cases m <;> simp only [toksOf] <;> first | exact ih h | exact List.mem_cons_of_mem _ (ih h)

/-- no two rooms that are in use come from one -/
def tokInj (σ : Nat → Nat) : List Nat → Prop
  | [] => True
  | t :: r => (σ t = 0 ∨ ∀ t' ∈ r, t' = t ∨ σ t' ≠ σ t) ∧ tokInj σ r

theorem tokInj_spec {σ : Nat → Nat} : ∀ {l : List Nat}, tokInj σ l → ∀ t ∈ l, ∀ t' ∈ l, σ t ≠ 0 → σ t = σ t' → t = t'
  | [], _, t, h, _, _, _, _ => by cases h
  | x :: r, h, t, ht, t', ht', hne, he => by
    obtain ⟨h1, h2⟩ := h
    rcases List.mem_cons.1 ht with e1 | m1
    · rcases List.mem_cons.1 ht' with e2 | m2
      · rw [e1, e2]
      · rw [e1] at hne he
        rcases h1 with h1 | h1
        · exact absurd h1 hne
        · rcases h1 t' m2 with h | h
          · rw [e1, h]
          · exact absurd he.symm h
    · rcases List.mem_cons.1 ht' with e2 | m2
      · rw [e2] at he
        rcases h1 with h1 | h1
        · exact absurd (he.trans h1) hne
        · rcases h1 t m1 with h | h
          · rw [e2, h]
          · exact absurd he h
      · exact tokInj_spec h2 t m1 t' m2 hne he

theorem Rel.sub {G : Gh} {a : Act} {w : World} (R : Rel X G s a w) (l : List (Nat × Nat)) {s' : St} (h0 : ren l 0 = 0) (hs : subLe (ren l) s s') (hi : tokInj (ren l) (toksOf s')) : Rel X { D := G.D, ν := G.ν, τ := fun t => G.τ (ren l t) } s' a w := by
  have key : ∀ m v, get s' m = some v → (∃ t E n, m = .tok t ∧ v = .tk E n ∧ ((ren l t = 0 ∧ n = 0) ∨ (ren l t ≠ 0 ∧ get s (.tok (ren l t)) = some (.tk E n)))) ∨ (m.isTok = false ∧ ∃ u, get s m = some u ∧ lvLe (ren l) v (some u)) := by
    intro m v hg
    have hf := subLe_get hs m v hg
    unfold factLe at hf
    split at hf
    · rename_i t E n; exact .inl ⟨t, E, n, rfl, rfl, hf⟩
    · rename_i hne
      cases hu : get s m with
      | none => rw [hu] at hf; cases v <;> exact hf.elim
      | some u =>
        rw [hu] at hf
        refine .inr ⟨?_, u, rfl, hf⟩
        cases m with
        | tok t =>
          cases v with
          | tk E n => exact (hne t E n rfl rfl).elim
          | one x =>
            have := R.holds _ _ hu
            cases u with
            | tk E n => exact hf.elim
            | one y => exact this.elim
            | row cs => exact this.elim
            | ob r => exact this.elim
          | row cs =>
            have := R.holds _ _ hu
            cases u with
            | tk E n => exact hf.elim
            | one y => exact this.elim
            | row cs => exact this.elim
            | ob r => exact this.elim
          | ob r =>
            have := R.holds _ _ hu
            cases u with
            | tk E n => exact hf.elim
            | one y => exact this.elim
            | row cs => exact this.elim
            | ob r => exact this.elim
        | _ => rfl
  have hblk : ∀ m v b, get s' m = some v → blkOf { D := G.D, ν := G.ν, τ := fun t => G.τ (ren l t) } m v = some b → (∃ t E n, m = .tok t ∧ v = .tk E n ∧ ren l t ≠ 0 ∧ get s (.tok (ren l t)) = some (.tk E n) ∧ blkOf G (.tok (ren l t)) (.tk E n) = some b) ∨ (m.isTok = false ∧ ∃ u, get s m = some u ∧ blkOf G m u = some b) := by
    intro m v b hg hb
    rcases key m v hg with ⟨t, E, n, rfl, rfl, h⟩ | ⟨h1, u, h2, h3⟩
    · rcases h with ⟨h1, rfl⟩ | ⟨h1, h2⟩
      · simp only [blkOf, tokBlk, h1, R.nil] at hb
        cases hb
      · exact .inl ⟨t, E, n, rfl, rfl, h1, h2, hb⟩
    · refine .inr ⟨h1, u, h2, ?_⟩
      cases m with
      | slot n => cases v <;> cases hb
      | tok t => cases h1
      | loc q => cases v with
        | row cs => cases u with
          | row ds => exact hb
          | _ => exact h3.elim
        | ob r => cases u with
          | ob q => exact hb
          | _ => exact h3.elim
        | _ => cases hb
      | heap q => cases v with
        | row cs => cases u with
          | row ds => exact hb
          | _ => exact h3.elim
        | ob r => cases u with
          | ob q => exact hb
          | _ => exact h3.elim
        | _ => cases hb
  have hrow : ∀ b cs ds, rowLe (ren l) cs ds → BlkAt G w b ds → BlkAt { D := G.D, ν := G.ν, τ := fun t => G.τ (ren l t) } w b cs := by
    rintro b cs ds hle ⟨c, e, h1, h2, h3⟩
    obtain ⟨k1, k2⟩ := rowLe_sound hle
    refine ⟨c, e, h1, h2.trans k1.symm, fun i x hx => ?_⟩
    obtain ⟨y, hy, hxy⟩ := k2 i x hx
    obtain ⟨q1, v, q2, q3⟩ := h3 i y hy
    exact ⟨svLe_cell hxy q1, v, q2, svLe_sound hxy q3⟩
  refine ⟨R.size, R.defers, R.ext, R.wf, by simp only [h0]; exact R.nil, fun m v hg => ?_, fun m v m' v' b hg hg' hb hb' => ?_, fun m v b hg hb => ?_, fun m v b o hg hb ht => ?_⟩
  · rcases key m v hg with ⟨t, E, n, rfl, rfl, h⟩ | ⟨h1, u, h2, h3⟩
    · rcases h with ⟨h1, rfl⟩ | ⟨h1, h2⟩
      · simp only [Holds, TokAt, h1, R.nil, and_self]
      · exact R.holds _ _ h2
    · have hh := R.holds _ _ h2
      cases m with
      | tok t => cases h1
      | slot n => cases v with
        | one x => cases u with
          | one y => exact svLe_sound h3 hh
          | _ => exact h3.elim
        | _ => cases u <;> first | exact hh.elim | exact h3.elim
      | loc q => cases v with
        | row cs => cases u with
          | row ds => exact hrow _ _ _ h3 hh
          | _ => exact h3.elim
        | _ => cases u <;> first | exact hh.elim | exact h3.elim
      | heap q => cases v with
        | row cs => cases u with
          | row ds => exact hrow _ _ _ h3 hh
          | _ => exact h3.elim
        | ob r => cases u with
          | ob q => obtain rfl : r = q := h3; exact hh
          | _ => exact h3.elim
        | _ => cases u <;> first | exact hh.elim | exact h3.elim
  · rcases hblk m v b hg hb with ⟨t, E, n, rfl, rfl, h1, h2, h3⟩ | ⟨h1, u, h2, h3⟩
    · rcases hblk m' v' b hg' hb' with ⟨t', E', n', rfl, rfl, k1, k2, k3⟩ | ⟨k1, u', k2, k3⟩
      · have := R.sep _ _ _ _ b h2 k2 h3 k3
        simp only [Loc.tok.injEq] at this
        rw [tokInj_spec hi t (toksOf_mem hg) t' (toksOf_mem hg') h1 this]
      · have := R.sep _ _ _ _ b h2 k2 h3 k3
        subst this
        cases k1
    · rcases hblk m' v' b hg' hb' with ⟨t', E', n', rfl, rfl, k1, k2, k3⟩ | ⟨k1, u', k2, k3⟩
      · have := R.sep _ _ _ _ b h2 k2 h3 k3
        subst this
        cases h1
      · exact R.sep _ _ _ _ b h2 k2 h3 k3
  · rcases hblk m v b hg hb with ⟨t, E, n, rfl, rfl, h1, h2, h3⟩ | ⟨h1, u, h2, h3⟩
    · rcases R.own _ _ b h2 h3 with h | ⟨_, h⟩
      · exact .inl h
      · cases h
    · rcases R.own _ _ b h2 h3 with h | ⟨h, _⟩
      · exact .inl h
      · exact .inr ⟨h, h1⟩
  · rcases hblk m v b hg hb with ⟨t, E, n, rfl, rfl, h1, h2, h3⟩ | ⟨h1, u, h2, h3⟩
    · cases ht
    · exact R.data _ _ b o h2 h3 h1

theorem W_sub (l : List (Nat × Nat)) {s' : St} (h0 : ren l 0 = 0) (hs : subLe (ren l) s s') (hi : tokInj (ren l) (toksOf s')) (h : W X k s') : W X k s :=
  fun _ a w b cs hf hk hr R => h _ a w b cs hf hk hr (R.sub l h0 hs hi)

/-- A LOOP: what holds at the head of each round (I), the state there (S), what goes down (μ) -/
theorem W_rounds {α : Type} (I : α → Prop) (S : α → St) (μ : α → Nat) {c : Code} (x0 : α) (h0 : I x0)
    (round : ∀ x, I x → (∀ y, I y → μ y < μ x → W X (.inLoop c :: k) (S y)) → W X (.code c :: .inLoop c :: k) (S x)) : W X (.code (.loop c) :: k) (S x0) := by
  refine W_loop ?_
  have key : ∀ n x, μ x = n → I x → W X (.code c :: .inLoop c :: k) (S x) := by
    intro n
    induction n using Nat.strongRecOn with
    | _ n ih =>
      intro x hx hi
      exact round x hi fun y hy hlt => W_inLoop (ih (μ y) (hx ▸ hlt) y rfl hy)
  exact key _ x0 rfl h0

/-- a loop over n places, counted from 0 -/
theorem W_for (n : Nat) (S : Nat → St) {c : Code} (round : ∀ i, i < n → W X (.inLoop c :: k) (S (i + 1)) → W X (.code c :: .inLoop c :: k) (S i)) (last : W X (.code c :: .inLoop c :: k) (S n)) : W X (.code (.loop c) :: k) (S 0) := by
  refine W_rounds (fun i => i ≤ n) S (fun i => n - i) 0 (Nat.zero_le _) fun i hi ih => ?_
  by_cases h : i < n
  · exact round i h (ih (i + 1) h (by omega))
  · obtain rfl : i = n := by omega
    exact last

end
end Go.Proofs.YtbmnlkfgkdallaaDoor.Lift
