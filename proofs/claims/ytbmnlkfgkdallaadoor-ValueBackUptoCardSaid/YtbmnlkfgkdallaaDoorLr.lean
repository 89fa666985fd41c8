/-
  Part R of the small logic: a range over a function. The function that is ranged over has a contract in which a call of yield is a contract of its own (YC); the rounds are walked in the frame of the loop.
-/
import Derived.Test.YtbmnlkfgkdallaaDoorLq
namespace Go.Proofs.YtbmnlkfgkdallaaDoor.Lift
set_option linter.unusedSimpArgs false
set_option linter.unusedVariables false
set_option linter.unnecessarySimpa false
open Go

/-- yield called with such data, and objects that read so: what it hands back, and what the objects and the loop's record are behind it. (D0, w0): what is there to stay since the loop began. -/
def YC (P : Program) (gl : Globs) (D0 : Nat → Nat → Prop) (w0 : World) (l : Nat) (r : Loop) (args : List DV) (φ : Objs) (R : Bool → Objs → Loop → Prop) : Prop :=
  ∀ (D : Nat → Nat → Prop) (w : World) (vs : Array Value), Grow D0 w0 D w → w0.heap.size ≤ w.heap.size → Wf gl D w → vs.size = args.length → (∀ (i : Nat) (x : DV) (v : Value), args[i]? = some x → vs[i]? = some v → RV D w x v) → HeapOK D w φ → w.heap[l]? = some (.loop r) →
    RoundIn Fence.wide 0 P l r.fn ((r.params.zip vs).foldl (fun tmps (t, a) => tmps.setIfInBounds t a) r.tmps) r.assign r.body w fun e w' => ∃ b D' φ' r', e = .returned (.bool b) ∧ R b φ' r' ∧ Ext (l :: φ.map (·.1)) D w D' w' ∧ Wf gl D' w' ∧ HeapOK D' w' φ' ∧ w'.heap[l]? = some (.loop r') ∧ ∀ b ∈ φ'.map (·.1), b ∈ φ.map (·.1) ∨ w.heap.size ≤ b

/-- the contract of a function that is ranged over: it holds for every yield that keeps its own contract (Y) -/
def ItC (P : Program) (gl : Globs) (f : FuncId) (args : List DV) (φ : Objs) (l : Nat) (r : Loop) (Y : (Nat → Nat → Prop) → World → Prop) (R : Objs → Loop → Prop) : Prop :=
  Callable P f ∧ ∀ (D : Nat → Nat → Prop) (w : World) (vs : Array Value), Wf gl D w → vs.size = args.length → (∀ (i : Nat) (x : DV) (v : Value), args[i]? = some x → vs[i]? = some v → RV D w x v) → HeapOK D w φ → w.heap[l]? = some (.loop r) → Y D w →
    Calls P f vs w fun e w' => ∃ v D' φ' r', e = .returned v ∧ R φ' r' ∧ Ext (l :: φ.map (·.1)) D w D' w' ∧ Wf gl D' w' ∧ HeapOK D' w' φ' ∧ w'.heap[l]? = some (.loop r') ∧ ∀ b ∈ φ'.map (·.1), b ∈ φ.map (·.1) ∨ w.heap.size ≤ b

/-- a block that is no block of cells lies among no objects and no data -/
theorem loop_fresh {D : Nat → Nat → Prop} {w : World} {gl : Globs} {φ : Objs} {l : Nat} {r : Loop} (hwf : Wf gl D w) (hh : HeapOK D w φ) (hl : w.heap[l]? = some (.loop r)) : (∀ o, ¬ D l o) ∧ l ∉ φ.map (·.1) := by
  refine ⟨fun o hd => ?_, fun hm => ?_⟩
  · obtain ⟨v, hv⟩ := hwf.there l o hd
    simp [World.cell?, hl] at hv
  · obtain ⟨⟨b, cs⟩, hq, rfl⟩ := List.mem_map.1 hm
    obtain ⟨c, e, h1, _⟩ := hh.rows b cs hq
    simp only at hl
    rw [hl] at h1
    cases h1

section
variable {X : Ctx} {s : St} {k : List Item}

/-- the state in which a walk with a loop's record begins -/
def entryL (args : List DV) (φ : Objs) (l : Nat) (r : Loop) : St := (.heap l, .ob r) :: entry args φ

theorem get_entry {args : List DV} {φ : Objs} {l : Loc} {v : LV} (hl : get (entry args φ) l = some v) : (∃ i x, l = .slot i ∧ v = .one (.v x) ∧ args[i]? = some x) ∨ ∃ b cs, l = .heap b ∧ v = .row (cs.map SV.v) ∧ (b, cs) ∈ φ := by
  unfold entry at hl
  rw [get_append] at hl
  rcases Option.or_eq_some_iff.1 hl with hl | ⟨-, hl⟩
  · obtain ⟨i, x, h1, h2, h3⟩ := get_argSt hl
    exact .inl ⟨i, x, by simpa using h1, h2, h3⟩
  · exact .inr (get_heapSt hl)

/-- HOW SUCH A CONTRACT IS PROVED -/
theorem ItC_intro {P : Program} {gl : Globs} {f : FuncId} {args : List DV} {φ : Objs} {l : Nat} {r : Loop} {Y : (Nat → Nat → Prop) → World → Prop} {R : Objs → Loop → Prop} {fn : Func} {body : Code} (hf : P.funcs[f]? = some fn) (hb : fn.body = some body) (hname : (fn.name == "runtime.NumGoroutine") = false)
    (hn : args.length ≤ fn.ntmps)
    (h : ∀ X : Ctx, X.P = P → X.gl = gl → X.f = f → X.fn = fn → X.n = fn.ntmps → X.md = .it l R → X.ids = l :: φ.map (·.1) → (∀ x ∈ args, DV.fit x) → l ∉ φ.map (·.1) → Y X.D0 X.w0 → W X [.code body] (entryL args φ l r)) : ItC P gl f args φ l r Y R := by
  refine ⟨⟨fn, hf, by simp [hb], hname⟩, ?_⟩
  intro D w vs hwf hsz hargs hheap hloop hY cs
  obtain ⟨hnd, hnm⟩ := loop_fresh hwf hheap hloop
  let X : Ctx := { P := P, gl := gl, f := f, fn := fn, n := fn.ntmps, ids := l :: φ.map (·.1), D0 := D, w0 := w, R := fun _ _ => False, md := .it l R }
  have hfit : ∀ x ∈ args, DV.fit x := by
    intro x hx
    obtain ⟨i, hi, rfl⟩ := List.mem_iff_getElem.1 hx
    exact RV.fit (hargs i _ vs[i] (List.getElem?_eq_getElem hi) (Array.getElem?_eq_getElem (by omega)))
  have hW := h X rfl rfl rfl rfl rfl rfl rfl hfit hnm hY
  let a : Act := { tmps := vs ++ Array.replicate (fn.ntmps - vs.size) undef, defers := [] }
  have Rl : Rel X { D := D, ν := fun _ => 0, τ := fun _ => (none, 0) } (entryL args φ l r) a w := by
    have hget : ∀ m v, get (entryL args φ l r) m = some v → (m = .heap l ∧ v = .ob r) ∨ (∃ i x, m = .slot i ∧ v = .one (.v x) ∧ args[i]? = some x) ∨ ∃ b cs, m = .heap b ∧ v = .row (cs.map SV.v) ∧ (b, cs) ∈ φ := by
      intro m v hm
      simp only [entryL, get] at hm
      split at hm
      · rename_i e; cases hm; exact .inl ⟨e.symm, rfl⟩
      · exact .inr (get_entry hm)
    refine ⟨by simp [a, X]; omega, ⟨[], rfl, List.nodup_nil, by simp⟩, Ext.refl _ _ _, hwf, rfl, fun m v hm => ?_, fun m v m' v' b hm hm' hb hb' => ?_, fun m v b hm hb => ?_, fun m v b o hm hb _ => ?_⟩
    · rcases hget m v hm with ⟨rfl, rfl⟩ | ⟨i, x, rfl, rfl, hx⟩ | ⟨b, cs, rfl, rfl, hq⟩
      · exact hloop
      · have hi : i < vs.size := by rw [hsz]; exact (List.getElem?_eq_some_iff.1 hx).1
        have hv : vs[i]? = some vs[i] := Array.getElem?_eq_getElem hi
        show RV D w x _
        have : a.tmps.getD i undef = vs[i] := by
          simp [a, Array.getElem?_append_left hi, hv]
        rw [this]
        exact hargs i x _ hx hv
      · exact blk_of_heapOK (G := { D := D, ν := fun _ => 0, τ := fun _ => (none, 0) }) hheap hq
    · have blk : ∀ m v, ((m = .heap l ∧ v = .ob r) ∨ (∃ i x, m = .slot i ∧ v = .one (.v x) ∧ args[i]? = some x) ∨ ∃ b cs, m = .heap b ∧ v = .row (cs.map SV.v) ∧ (b, cs) ∈ φ) → blkOf { D := D, ν := fun _ => 0, τ := fun _ => (none, 0) } m v = some b → m = .heap b := by
        rintro m v (⟨rfl, rfl⟩ | ⟨i, x, rfl, rfl, hx⟩ | ⟨b', cs, rfl, rfl, hm⟩) hb
        · simp only [blkOf, Option.some.injEq] at hb; rw [hb]
        · cases hb
        · simp only [blkOf, Option.some.injEq] at hb; rw [hb]
      rw [blk m v (hget m v hm) hb, blk m' v' (hget m' v' hm') hb']
    · rcases hget m v hm with ⟨rfl, rfl⟩ | ⟨i, x, rfl, rfl, hx⟩ | ⟨b1, cs, rfl, rfl, hq⟩
      · simp only [blkOf, Option.some.injEq] at hb
        subst hb
        exact .inr ⟨by simp [X], rfl⟩
      · cases hb
      · simp only [blkOf, Option.some.injEq] at hb
        subst hb
        exact .inr ⟨List.mem_cons_of_mem _ (List.mem_map.2 ⟨_, hq, rfl⟩), rfl⟩
    · rcases hget m v hm with ⟨rfl, rfl⟩ | ⟨i, x, rfl, rfl, hx⟩ | ⟨b1, cs, rfl, rfl, hq⟩
      · simp only [blkOf, Option.some.injEq] at hb
        subst hb
        exact hnd o
      · cases hb
      · simp only [blkOf, Option.some.injEq] at hb
        subst hb
        exact hheap.nodata _ _ hq o
  let b : Frame := { (default : Frame) with fn := f, kind := .normal }
  have henter : Frame.enter P f vs .normal = b.atR a [.code body] := by
    simp [Frame.enter, Frame.atR, hf, hb, b, a]; rfl
  obtain ⟨w', fr, ⟨v, D', φ', r', k1, ⟨k2, k3, k4, k5⟩, k6, k7, k8⟩, h2⟩ := hW _ a w b cs rfl rfl rfl Rl
  rw [← henter] at h2
  refine ⟨.returned v, w', fr, ⟨v, D', φ', r', rfl, k1, k2, k3, k4, k6, fun b hb => ?_⟩, h2, k7, k8⟩
  rcases k5 b hb with h | h
  · rcases List.mem_cons.1 h with rfl | h
    · exact absurd hb (loop_fresh k3 k4 k6).2
    · exact .inl h
  · exact .inr h

/-- what a call of yield leaves of a state -/
theorem Rel.yield {G : Gh} {a : Act} {w : World} (R : Rel X G s a w) {φ φ' : Objs} (hφ : objsIn (get s) φ) {l : Nat} {r r' : Loop} (hl : get s (.heap l) = some (.ob r)) {D' : Nat → Nat → Prop} {w' : World} (hx : Ext (l :: φ.map (·.1)) G.D w D' w') (hwf : Wf X.gl D' w') {x : DV} {v : Value} (hr : RV D' w' x v)
    (hh : HeapOK D' w' φ') (hl' : w'.heap[l]? = some (.loop r')) (hids : ∀ b ∈ φ'.map (·.1), b ∈ φ.map (·.1) ∨ w.heap.size ≤ b) {d : Nat} (hd : d < X.n) :
    Rel X { D := D', ν := G.ν, τ := G.τ } (upd (addObjs (delObjs (upd s (.slot d) (.one (.v x))) φ) φ') (.heap l) (.ob r')) (a.put (some d) v) w' := by
  have hp := put_tmps a (some d) v
  have hφb : ∀ b ∈ φ.map (·.1), ∃ cs, get s (.heap b) = some (.row (List.map SV.v cs)) := by
    intro b hb
    obtain ⟨⟨b', cs'⟩, hm, rfl⟩ := List.mem_map.1 hb
    exact ⟨cs', hφ b' cs' hm⟩
  have hlw : w.heap[l]? = some (.loop r) := R.holds _ _ hl
  obtain ⟨hnd', hnm'⟩ := loop_fresh hwf hh hl'
  have T : Trans X G a w { D := D', ν := G.ν, τ := G.τ } (a.put (some d) v) w' (fun b => b ∈ l :: φ.map (·.1)) := by
    refine ⟨hp.1, fun h => h.keep hp.2 fun D hD => (hx.block D (Array.getElem?_eq_some_iff.1 hD).1 fun hm => ?_).trans hD, hx.os, hx.tape, hx.output, hx.size, fun b hb hn => hx.block b hb hn, fun b hb => ?_, hx.grow, fun b o hD hn => ⟨.inl (hx.new b o hD hn), hwf.there b o hD⟩, R.nil⟩
    · rcases List.mem_cons.1 hm with rfl | hm
      · rw [hlw] at hD; cases hD
      · obtain ⟨cs, hg⟩ := hφb D hm
        obtain ⟨c, e, h4, _⟩ := R.holds _ _ hg
        rw [hD] at h4; cases h4
    · rcases List.mem_cons.1 hb with rfl | hb
      · exact (R.own _ _ b hl rfl).imp id And.left
      · obtain ⟨cs, hg⟩ := hφb b hb
        exact (R.own _ _ b hg rfl).imp id And.left
  refine R.step T (fun m u => (m = .heap l ∧ u = .ob r') ∨ (m = .slot d ∧ u = .one (.v x)) ∨ ∃ b cs, m = .heap b ∧ u = .row (cs.map SV.v) ∧ (b, cs) ∈ φ') (fun m u h => ?_) (fun m u h => ?_) (fun m u m' u' b h h' hb hb' => ?_)
  · rw [get_upd] at h
    split at h
    · rename_i e; cases h; exact .inl (.inl ⟨e.symm, rfl⟩)
    · rename_i hml
      rcases get_addObjs _ _ _ _ h with h | ⟨h, hne⟩
      · exact .inl (.inr (.inr h))
      · obtain ⟨h, hn⟩ := get_delObjs _ _ _ _ h
        rw [get_upd] at h
        split at h
        · rename_i hl; cases h; exact .inl (.inr (.inl ⟨hl.symm, rfl⟩))
        · rename_i hsl
          refine .inr ⟨h, fun n hn => put_get_ne _ _ _ _ (fun e => hsl (by rw [hn, e])), fun b hb hB => ?_, fun _ _ => rfl, fun _ _ => rfl⟩
          rcases List.mem_cons.1 hB with rfl | hB
          · exact hml (R.sep _ _ _ _ b hl h rfl hb)
          · obtain ⟨cs, hg⟩ := hφb b hB
            exact hn b hB (R.sep _ _ _ _ b hg h rfl hb).symm
  · rcases h with ⟨rfl, rfl⟩ | ⟨rfl, rfl⟩ | ⟨b, cs, rfl, rfl, hm⟩
    · refine ⟨hl', fun b hb => ?_⟩
      simp only [blkOf, Option.some.injEq] at hb
      subst hb
      exact ⟨.inr (by simp), R.own _ _ l hl rfl, fun _ o => hnd' o⟩
    · refine ⟨?_, fun b hb => by cases hb⟩
      show RV D' w' x _
      rw [put_get_same _ _ _ (by rw [R.size]; exact hd)]
      exact hr
    · refine ⟨blk_of_heapOK hh hm, fun b' hb' => ?_⟩
      simp only [blkOf, Option.some.injEq] at hb'
      subst hb'
      have hmm : b ∈ φ'.map (·.1) := List.mem_map.2 ⟨_, hm, rfl⟩
      refine ⟨(hids b hmm).symm.imp id (List.mem_cons_of_mem _), ?_, fun _ o => hh.nodata b cs hm o⟩
      rcases hids b hmm with h1 | h1
      · obtain ⟨cs', hg⟩ := hφb b h1
        exact R.own _ _ b hg rfl
      · exact .inl (Nat.le_trans R.ext.size h1)
  · have blk : ∀ m u, ((m = .heap l ∧ u = .ob r') ∨ (m = .slot d ∧ u = .one (.v x)) ∨ ∃ b cs, m = .heap b ∧ u = .row (cs.map SV.v) ∧ (b, cs) ∈ φ') → blkOf { D := D', ν := G.ν, τ := G.τ } m u = some b → m = .heap b := by
      rintro m u (⟨rfl, rfl⟩ | ⟨rfl, rfl⟩ | ⟨b', cs, rfl, rfl, hm⟩) hb
      · simp only [blkOf, Option.some.injEq] at hb; rw [hb]
      · cases hb
      · simp only [blkOf, Option.some.injEq] at hb; rw [hb]
    rw [blk m u h hb, blk m' u' h' hb']

/-- A CALL OF YIELD, BY ITS CONTRACT -/
theorem StepYield {o : Oper} {y : Operand} {args : Array Operand} {ats : Array TypeId} (ho : o.op = .call { callee := .value y, args := args, argTypes := ats }) {l : Nat} (hy : evl X (get s) y = some (.v (.prim (.func (.yield l) #[] #[]))))
    {ds : List DV} (hargs : evlDs X (get s) args.toList = some ds) {r : Loop} (hps : r.params.size = ds.length) {φ : Objs} {R : Bool → Objs → Loop → Prop} (hc : YC X.P X.gl X.D0 X.w0 l r ds φ R) (hφ : objsIn (get s) φ) (hnd : (φ.map (·.1)).Nodup) (hl : get s (.heap l) = some (.ob r))
    {d : Nat} (hd : o.dst = some d) (hdn : d < X.n) {G : Gh} {a : Act} {w : World} (R0 : Rel X G s a w) (next : Act → World → Prop) (Q : Exit → Act → World → Prop)
    (hk : ∀ b φ' r' G' a' w', R b φ' r' → (∀ c ∈ φ'.map (·.1), c ∈ φ.map (·.1) ∨ ∀ m v, get s m = some v → blkOf G m v ≠ some c) → Rel X G' (upd (addObjs (delObjs (upd s (.slot d) (.one (.v (.prim (.bool b))))) φ) φ') (.heap l) (.ob r')) a' w' → next a' w') : o.wpIn X.F 0 X.P a w next Q := by
  have hyv := (prim_of (evl_sound R0 hy)).1
  obtain ⟨q1, q2⟩ := evlDs_sound R0 hargs
  have q1' : args.size = ds.length := by simpa using q1
  have hlw : w.heap[l]? = some (.loop r) := R0.holds _ _ hl
  have hrun : (execOp a.eval o).run X.P w = .ok (.round l r.fn ((r.params.zip (args.map a.eval)).foldl (fun tmps (t, a) => tmps.setIfInBounds t a) r.tmps) r.assign r.body) w := by
    simp [execOp, ho, resolve, hyv, Deferred.ofValue, invoke, run_yield hlw, hps, q1', Sem.run_bind]
  refine ⟨fun _ _ => trivial, ?_⟩
  rw [Oper.semAt_eq _ _ _ (by intro c e; rw [ho] at e; cases e), hrun, Oper.uponIn_round]
  refine ⟨fun h => (by cases h), ?_⟩
  refine RoundIn.mono (hc G.D w (args.map a.eval) R0.ext.grow R0.ext.size R0.wf (by simp [q1']) (fun i x v hx hv => ?_) (heapOK_of R0 hφ hnd) hlw) ?_
  · refine q2 i x v hx ?_
    rw [← Array.getElem?_toList] at hv
    simpa using hv
  · rintro e w' ⟨b, D', φ', r', rfl, hR, hx, hwf, hh, hl', hids⟩
    simp only [hd]
    refine hk b φ' r' _ _ w' hR (fun c hc => (hids c hc).imp id fun h m v hg hbl => ?_) (R0.yield hφ hl hx hwf (.prim (.bool b) trivial) hh hl' hids hdn)
    have := blk_lt (R0.holds m v hg) hbl
    omega

/-- at a call of yield the reckoning stands still: the contract goes on -/
theorem vcK_yield {esc : List Nat} {ops : Array Oper} {ll : List Oper} {K : St → Prop} {d : Tmp} {y : Operand} {args : Array Operand} {ats : Array TypeId} {ty : TypeId} {pos : String} {af : Array Edge} {l : Nat} (hy : evl X (get s) y = some (.v (.prim (.func (.yield l) #[] #[]))))
    {ds ds' : List DV} {P : Program} {gl : Globs} (hP : X.P = P) (hgl : X.gl = gl) {r : Loop} {φ : Objs} {R : Bool → Objs → Loop → Prop} (hc : YC P gl X.D0 X.w0 l r ds' φ R) (hps : r.params.size = ds'.length) (hargs : evlDs X (get s) args.toList = some ds) (hds : ds = ds') (hφ : objsIn (get s) φ) (hnd : (φ.map (·.1)).Nodup) (hl : get s (.heap l) = some (.ob r)) (hdn : d < X.n)
    (h : ∀ b φ' r', R b φ' r' → (∀ c ∈ φ'.map (·.1), c ∈ φ.map (·.1) ∨ newB c s) → vc X esc ops ll (upd (addObjs (delObjs (upd s (.slot d) (.one (.v (.prim (.bool b))))) φ) φ') (.heap l) (.ob r')) K) :
    vcK X esc ops ll K ⟨some d, .call { callee := .value y, args := args, argTypes := ats }, ty, pos, af, none⟩ s (stepS X esc s ⟨some d, .call { callee := .value y, args := args, argTypes := ats }, ty, pos, af, none⟩) := by
  subst hds
  have e : stepS X esc s ⟨some d, .call { callee := .value y, args := args, argTypes := ats }, ty, pos, af, none⟩ = none := by
    simp only [stepS, isAppend, pval, pcall, put1]
    split <;> rfl
  rw [e]
  intro n hn G a w R0
  obtain ⟨h1, h2⟩ := drop_cons hn
  simp only [List.length_cons, List.range'_succ, wpOpsIn, h1, Region.wanted, if_true]
  refine StepYield (o := ⟨some d, .call { callee := .value y, args := args, argTypes := ats }, ty, pos, af, none⟩) rfl hy hargs hps (by rw [hP, hgl]; exact hc) hφ hnd hl rfl hdn R0 _ _ fun b φ' r' G' a' w' hR hids R' => ?_
  refine vc_sound (h b φ' r' hR fun c hc => (hids c hc).imp id fun hh => newB_of fun v hv => ?_) (n + 1) h2 G' a' w' R'
  have hho := R0.holds _ _ hv
  cases v with
  | row cs => exact hh _ _ hv rfl
  | ob r => exact hh _ _ hv rfl
  | one x => exact hho.elim
  | tk E n => exact hho.elim

/-- a round begins -/
theorem W_begin {l : Nat} {r : Loop} (hrd : X.rd = some l) (hl : get s (.heap l) = some (.ob r)) (hr : r.state = .ready) (h : W X k (upd s (.heap l) (.ob { r with state := .busy }))) : W X (.beginRound :: k) s := by
  intro G a w b cs hf hk hro R
  have hlw : w.heap[l]? = some (.loop r) := R.holds _ _ hl
  have hrun := run_beginRound (P := X.P) hlw hr
  have hne : ∀ b, b ≠ l → (w.putObj l (.loop { r with state := .busy })).heap[b]? = w.heap[b]? := fun b hb => World.putObj_heap_other hb
  have hsame : (w.putObj l (.loop { r with state := .busy })).heap[l]? = some (.loop { r with state := .busy }) := World.putObj_heap_same (Array.getElem?_eq_some_iff.1 hlw).1
  have hnot : ∀ b o, G.D b o → b ≠ l := fun b o hd e => by
    subst e
    obtain ⟨v, hv⟩ := R.wf.there b o hd
    simp [World.cell?, hlw] at hv
  have T : Trans X G a w G a (w.putObj l (.loop { r with state := .busy })) (fun b => b = l) := by
    refine ⟨rfl, fun h => h.keep rfl fun D hD => (hne D fun e => by subst e; rw [hlw] at hD; cases hD).trans hD, rfl, rfl, rfl, by simp, fun b _ hb => hne b hb, fun b hb => by subst hb; exact (R.own _ _ b hl rfl).imp id And.left, fun b o hd => ⟨hd, ?_⟩, fun _ _ h k => absurd h k, R.nil⟩
    simp only [World.cell?]
    rw [hne b (hnot b o hd)]
  have R' : Rel X G (upd s (.heap l) (.ob { r with state := .busy })) a (w.putObj l (.loop { r with state := .busy })) := by
    refine R.step T (fun m u => m = .heap l ∧ u = .ob { r with state := .busy }) (fun m u hm => ?_) (fun m u hm => ?_) (fun m u m' u' b h h' _ _ => h.1.trans h'.1.symm)
    · rw [get_upd] at hm
      split at hm
      · rename_i e; cases hm; exact .inl ⟨e.symm, rfl⟩
      · rename_i e
        refine .inr ⟨hm, fun _ _ => rfl, fun b hb he => ?_, fun _ _ => rfl, fun _ _ => rfl⟩
        subst he
        exact e (R.sep _ _ _ _ b hl hm rfl hb)
    · obtain ⟨rfl, rfl⟩ := hm
      refine ⟨hsame, fun b hb => ?_⟩
      simp only [blkOf, Option.some.injEq] at hb
      subst hb
      exact ⟨.inr rfl, R.own _ _ l hl rfl, fun _ o hd => hnot l o hd rfl⟩
  obtain ⟨w', fr, h1, h2⟩ := h G a _ b cs hf hk hro R'
  exact ⟨w', fr, h1, .head (stepR_beginRound (hro.trans hrd) hrun) h2⟩

end
end Go.Proofs.YtbmnlkfgkdallaaDoor.Lift
