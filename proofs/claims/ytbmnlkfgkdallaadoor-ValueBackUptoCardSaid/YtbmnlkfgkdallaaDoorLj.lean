/-
  Part J of the small logic: contracts (LC), the code that is left (W), regions (VL), calls.
-/
import Derived.Test.YtbmnlkfgkdallaaDoorLi
namespace Go.Proofs.YtbmnlkfgkdallaaDoor.Lift
set_option linter.unusedSimpArgs false
set_option linter.unusedVariables false
set_option linter.unnecessarySimpa false
open Go

/-- objects that a call may read and write, by their blocks -/
abbrev Objs := List (Nat × List DV)

structure HeapOK (D : Nat → Nat → Prop) (w : World) (φ : Objs) : Prop where
  rows : ∀ b cs, (b, cs) ∈ φ → ∃ c e, w.heap[b]? = some (.cells c e (0, 0)) ∧ c.size = cs.length ∧ ∀ (i : Nat) (x : DV), cs[i]? = some x → x.isCell = true ∧ ∃ v, c[i]? = some v ∧ RV D w x v
  nodata : ∀ b cs, (b, cs) ∈ φ → ∀ o, ¬ D b o
  nodup : (φ.map (·.1)).Nodup

/-- A CONTRACT: called with such data, and objects that read so, the function returns what R says; nothing else that was there has turned -/
def LC (P : Program) (gl : Globs) (f : FuncId) (args : List DV) (φ : Objs) (R : DV → Objs → Prop) : Prop :=
  ∀ (D : Nat → Nat → Prop) (w : World) (vs : Array Value), Wf gl D w → vs.size = args.length → (∀ (i : Nat) (x : DV) (v : Value), args[i]? = some x → vs[i]? = some v → RV D w x v) → HeapOK D w φ →
    Calls P f vs w fun e w' => ∃ v D' r φ', e = .returned v ∧ R r φ' ∧ Ext (φ.map (·.1)) D w D' w' ∧ Wf gl D' w' ∧ RV D' w' r v ∧ HeapOK D' w' φ' ∧ ∀ b ∈ φ'.map (·.1), b ∈ φ.map (·.1) ∨ w.heap.size ≤ b

/-- what a walk leaves of memory: the objects read so -/
def Aft (X : Ctx) (D' : Nat → Nat → Prop) (w' : World) (φ' : Objs) : Prop :=
  Ext X.ids X.D0 X.w0 D' w' ∧ Wf X.gl D' w' ∧ HeapOK D' w' φ' ∧ ∀ b ∈ φ'.map (·.1), b ∈ X.ids ∨ X.w0.heap.size ≤ b

def Ctx.Post (X : Ctx) (v : Value) (w' : World) : Prop :=
  ∃ D' r φ', X.R r φ' ∧ Ext X.ids X.D0 X.w0 D' w' ∧ Wf X.gl D' w' ∧ RV D' w' r v ∧ HeapOK D' w' φ' ∧ ∀ b ∈ φ'.map (·.1), b ∈ X.ids ∨ X.w0.heap.size ≤ b

/-- how the code of a round ends: off its end, by ret, by a jump that nothing in it catches -/
def REnd : Option Code → List Item → Prop
  | none, k => k = []
  | some .ret, k => ∃ k1, k = .code .ret :: k1
  | some (.exit id), k => ∃ k1, k = .code (.exit id) :: k1 ∧ exitTo id k1 = none
  | some (.goto l), k => ∃ k1, k = .code (.goto l) :: k1 ∧ gotoIn l k1 = none
  | _, _ => False

/-- where a walk ends -/
def Fin (X : Ctx) (b fr : Frame) (w' : World) : Prop :=
  match X.md with
  | .fn => ∃ v, X.Post v w' ∧ fr.fn = X.f ∧ fr.leaving X.P w' (.returned v)
  | .it l R => ∃ v D' φ' r', R φ' r' ∧ Aft X D' w' φ' ∧ w'.heap[l]? = some (.loop r') ∧ fr.fn = X.f ∧ fr.leaving X.P w' (.returned v)
  | .rd l r R => ∃ a k j D' φ', fr = b.atR a k ∧ REnd j k ∧ R j φ' ∧ Aft X D' w' φ' ∧ w'.heap[l]? = some (.loop { r with state := .busy })

/-- THE CODE THAT IS LEFT, FROM A STATE: it comes to an end that the contract allows -/
def W (X : Ctx) (k : List Item) (s : St) : Prop :=
  ∀ (G : Gh) (a : Act) (w : World) (b : Frame) (cs : List Frame), b.fn = X.f → b.kind = .normal → b.roundOf = X.rd → Rel X G s a w →
    ∃ w' fr, Fin X b fr w' ∧ Steps X.P (lone (b.atR a k) cs w) (lone fr cs w')

section
variable {X : Ctx} {s : St} {k : List Item}

theorem W_head {k k' : List Item} (h : ∀ (a : Act) (w : World) (b : Frame) (cs : List Frame), step X.P (lone (b.atR a k) cs w) = .next (lone (b.atR a k') cs w)) (hw : W X k' s) : W X k s := by
  intro G a w b cs hf hk hr R
  obtain ⟨w', fr, h1, h2⟩ := hw G a w b cs hf hk hr R
  exact ⟨w', fr, h1, .head (h a w b cs) h2⟩

theorem W_seq {x y : Code} (h : W X (.code x :: .code y :: k) s) : W X (.code (.seq x y) :: k) s := W_head (fun _ _ _ _ => stepR_seq) h
theorem W_skip (h : W X k s) : W X (.code .skip :: k) s := W_head (fun _ _ _ _ => stepR_skip) h
theorem W_label {l : Nat} (h : W X k s) : W X (.code (.label l) :: k) s := W_head (fun _ _ _ _ => stepR_label) h
theorem W_block {id : Nat} {c : Code} (h : W X (.code c :: .inBlock id :: k) s) : W X (.code (.block id c) :: k) s := W_head (fun _ _ _ _ => stepR_block) h
theorem W_inBlock {id : Nat} (h : W X k s) : W X (.inBlock id :: k) s := W_head (fun _ _ _ _ => stepR_inBlock) h
theorem W_loop {c : Code} (h : W X (.code c :: .inLoop c :: k) s) : W X (.code (.loop c) :: k) s := W_head (fun _ _ _ _ => stepR_loop) h
theorem W_inLoop {c : Code} (h : W X (.code c :: .inLoop c :: k) s) : W X (.inLoop c :: k) s := W_head (fun _ _ _ _ => stepR_inLoop) h
theorem W_exit {id : Nat} {k' : List Item} (he : exitTo id k = some k') (h : W X k' s) : W X (.code (.exit id) :: k) s := W_head (fun _ _ _ _ => stepR_exit he) h
theorem W_goto {l : Nat} {k' : List Item} (he : gotoIn l k = some k') (h : W X k' s) : W X (.code (.goto l) :: k) s := W_head (fun _ _ _ _ => stepR_goto he) h

theorem W_cond {c : Operand} {x y : Code} {t : Bool} (hc : evl X (get s) c = some (.v (.prim (.bool t)))) (ht : t = true → W X (.code x :: k) s) (hf : t = false → W X (.code y :: k) s) : W X (.code (.cond c x y) :: k) s := by
  intro G a w b cs hbf hbk hr R
  have hv := (prim_of (evl_sound R hc)).1
  cases t with
  | true =>
    obtain ⟨w', fr, h1, h2⟩ := ht rfl G a w b cs hbf hbk hr R
    exact ⟨w', fr, h1, .head (by have := stepR_cond (P := X.P) (b := b) (k := k) (cs := cs) (w := w) (x := x) (y := y) hv; simpa using this) h2⟩
  | false =>
    obtain ⟨w', fr, h1, h2⟩ := hf rfl G a w b cs hbf hbk hr R
    exact ⟨w', fr, h1, .head (by have := stepR_cond (P := X.P) (b := b) (k := k) (cs := cs) (w := w) (x := x) (y := y) hv; simpa using this) h2⟩

/-- a state that says less, by other names -/
def renS (ρ : Nat → Nat) (σ : Nat → Nat) : SV → SV
  | .v x => .v x
  | .loc k off => .loc (ρ k) off
  | .dp els i off => .dp els i off
  | .own t els => .own (σ t) els
  | .ag cs ns => .ag cs ns

def retOne (X : Ctx) (g : Rd) : ResultVar → Option DV
  | .tmp t => match g (.slot t) with
    | some (.one x) => toD x
    | _ => none
  | .cell t ty => match g (.slot t) with
    | some (.one x) => (loadAt X g ty x).bind toD
    | _ => none

def retL (X : Ctx) (g : Rd) : List ResultVar → Option (List DV)
  | [] => some []
  | r :: l => match retOne X g r, retL X g l with
    | some x, some xs => some (x :: xs)
    | _, _ => none

def retD (X : Ctx) (g : Rd) (l : List ResultVar) : Option DV :=
  match retL X g l with
  | some [x] => some x
  | some xs => some (.tup xs)
  | none => none

def retM (tmps : Array Value) : ResultVar → Sem Value
  | .tmp t => pure (tmps.getD t undef)
  | .cell p t => do loadVar t (← asAddr (tmps.getD p undef))

theorem results_retM (fn : Func) (tmps : Array Value) : results fn tmps = (do let vs ← fn.results.mapM (retM tmps); pure (if h : vs.size = 1 then vs[0] else .tuple vs)) := by
  unfold results
  congr 1

theorem retL_sound {G : Gh} {a : Act} {w : World} (R : Rel X G s a w) : ∀ {l : List ResultVar} {xs : List DV}, retL X (get s) l = some xs →
    ∃ vs : List Value, (l.mapM (retM a.tmps)).run X.P w = .ok vs w ∧ vs.length = xs.length ∧ ∀ (i : Nat) (x : DV) (v : Value), xs[i]? = some x → vs[i]? = some v → RV G.D w x v
  | [], xs, h => by cases h; exact ⟨[], by simp, rfl, by simp⟩
  | r :: l, xs, h => by
    simp only [retL] at h
    split at h
    · rename_i x ys hx hys
      cases h
      obtain ⟨vs, h1, h2, h3⟩ := retL_sound R hys
      have key : ∃ v, (retM a.tmps r).run X.P w = .ok v w ∧ RV G.D w x v := by
        cases r with
        | tmp t =>
          simp only [retOne] at hx
          split at hx
          · rename_i y hy
            exact ⟨_, rfl, toD_sound hx (R.holds _ _ hy)⟩
          · cases hx
        | cell p t =>
          simp only [retOne] at hx
          split at hx
          · rename_i y hy
            obtain ⟨z, hz, hz'⟩ := Option.bind_eq_some_iff.1 hx
            obtain ⟨u, q1, q2⟩ := loadAt_sound R (R.holds _ _ hy) hz
            refine ⟨u, ?_, toD_sound hz' q2⟩
            simp only [Instr.loadAt, Sem.run_bind] at q1
            simp only [retM, Sem.run_bind]
            cases hv : a.tmps.getD p undef with
            | pointer o =>
              cases o with
              | none => simp [hv, Instr.sureAddr] at q1
              | some ad => simpa [hv, Instr.sureAddr, asAddr] using q1
            | _ => simp [hv, Instr.sureAddr] at q1
          · cases hx
      obtain ⟨v, k1, k2⟩ := key
      refine ⟨v :: vs, ?_, by simp [h2], fun i c u hc hu => ?_⟩
      · rw [List.mapM_cons]
        simp only [Sem.run_bind]
        rw [k1]
        simp only [Result.andThen_ok, h1, Sem.run_pure]
      · cases i with
        | zero => simp at hc hu; subst hc hu; exact k2
        | succ i => exact h3 i c u (by simpa using hc) (by simpa using hu)
    · cases h

theorem retD_sound {G : Gh} {a : Act} {w : World} (R : Rel X G s a w) {fn : Func} {r : DV} (h : retD X (get s) fn.results.toList = some r) : ∃ v, (results fn a.tmps).run X.P w = .ok v w ∧ RV G.D w r v := by
  unfold retD at h
  have main : ∀ xs, retL X (get s) fn.results.toList = some xs → ∃ vs : Array Value, (fn.results.mapM (retM a.tmps)).run X.P w = .ok vs w ∧ vs.size = xs.length ∧ ∀ (i : Nat) (x : DV) (v : Value), xs[i]? = some x → vs[i]? = some v → RV G.D w x v := by
    intro xs hx
    obtain ⟨vs, h1, h2, h3⟩ := retL_sound R hx
    refine ⟨vs.toArray, ?_, by simpa using h2, fun i x v hx hv => h3 i x v hx (by simpa using hv)⟩
    rw [Array.mapM_eq_mapM_toList]
    simp only [Sem.run_map, h1, Result.andThen_ok]
  split at h
  · rename_i x hx
    cases h
    obtain ⟨vs, h1, h2, h3⟩ := main _ hx
    have hs : vs.size = 1 := by simpa using h2
    refine ⟨vs[0], ?_, h3 0 _ _ rfl (by simp [hs])⟩
    rw [results_retM, Sem.run_bind, h1]
    simp [hs]
  · rename_i xs hne hx
    cases h
    obtain ⟨vs, h1, h2, h3⟩ := main _ hx
    have hs : vs.size ≠ 1 := by
      intro e
      rw [h2] at e
      match xs, e with
      | [x], _ => exact hne x rfl
    refine ⟨.tuple vs, ?_, .tup _ _ h2 h3⟩
    rw [results_retM, Sem.run_bind, h1]
    simp [hs]
  · cases h

/-- the objects as the state has them -/
def objsIn (g : Rd) (φ : Objs) : Prop := ∀ b cs, (b, cs) ∈ φ → g (.heap b) = some (.row (cs.map SV.v))

theorem heapOK_of {G : Gh} {a : Act} {w : World} (R : Rel X G s a w) {φ : Objs} (h : objsIn (get s) φ) (hn : (φ.map (·.1)).Nodup) : HeapOK G.D w φ := by
  refine ⟨fun b cs hm => ?_, fun b cs hm o => ?_, hn⟩
  · obtain ⟨c, e, h1, h2, h3⟩ := R.holds _ _ (h b cs hm)
    refine ⟨c, e, h1, by simpa using h2, fun i x hx => ?_⟩
    obtain ⟨k1, v, k2, k3⟩ := h3 i (.v x) (by simp [hx])
    exact ⟨k1, v, k2, k3⟩
  · exact R.data _ _ b o (h b cs hm) rfl rfl

theorem mark_inj {Ds Es : List Nat} (h : Ds.map mark = Es.map mark) : Ds = Es := by
  induction Ds generalizing Es with
  | nil => cases Es <;> simp_all
  | cons d r ih =>
    cases Es with
    | nil => simp at h
    | cons e t =>
      simp only [List.map_cons, List.cons.injEq] at h
      have h1 : d = e := by have := h.1; simp only [mark, Deferred.mk.injEq, Target.collected.injEq, and_true] at this; exact this
      rw [h1, ih h.2]

/-- the last mark is come to -/
theorem Rel.pop {G : Gh} {a : Act} {w : World} (R : Rel X G s a w) {D : Nat} {Ds : List Nat} (ha : a.defers = mark D :: Ds.map mark) :
    (Instr.takeDeferred D).run X.P w = .ok [] (w.putObj D (.deferred none)) ∧ Rel X G s { a with defers := Ds.map mark } (w.putObj D (.deferred none)) := by
  obtain ⟨Ds', h1, h2, h3⟩ := R.defers
  obtain rfl : Ds' = D :: Ds := mark_inj (by rw [← h1, ha]; rfl)
  obtain ⟨hD, hlt⟩ := h3 D (by simp)
  have hne : ∀ b, b ≠ D → (w.putObj D (.deferred none)).heap[b]? = w.heap[b]? := fun b hb => World.putObj_heap_other hb
  have hnot : ∀ b o, G.D b o → b ≠ D := fun b o hd e => by
    subst e
    obtain ⟨v, hv⟩ := R.wf.there b o hd
    simp [World.cell?, hD] at hv
  refine ⟨run_takeDeferred hD, ?_⟩
  have T : Trans X G a w G { a with defers := Ds.map mark } (w.putObj D (.deferred none)) (fun b => b = D) := by
    refine ⟨rfl, fun _ => ⟨Ds, rfl, (List.nodup_cons.1 h2).2, fun E hE => ?_⟩, rfl, rfl, rfl, by simp, fun b _ hb => hne b hb, fun b hb => by subst hb; exact .inl hlt, fun b o hd => ⟨hd, ?_⟩, fun _ _ h k => absurd h k, R.nil⟩
    · have hED : E ≠ D := fun e => by subst e; exact (List.nodup_cons.1 h2).1 hE
      exact ⟨(hne E hED).trans (h3 E (by simp [hE])).1, (h3 E (by simp [hE])).2⟩
    · simp only [World.cell?]
      rw [hne b (hnot b o hd)]
  refine R.step T (fun _ _ => False) (fun l v h => .inr ⟨h, fun _ _ => rfl, fun b hb he => ?_, fun _ _ => rfl, fun _ _ => rfl⟩) (fun _ _ h => h.elim) (fun _ _ _ _ _ h => h.elim)
  subst he
  have hh := R.holds _ _ h
  cases l with
  | slot n => cases v <;> cases hb
  | loc n =>
    cases v with
    | row cs => simp only [blkOf, Option.some.injEq] at hb; subst hb; obtain ⟨c, e, h4, _⟩ := hh; rw [hD] at h4; cases h4
    | _ => first | exact hh.elim | cases hb
  | heap n =>
    cases v with
    | row cs => simp only [blkOf, Option.some.injEq] at hb; subst hb; obtain ⟨c, e, h4, _⟩ := hh; rw [hD] at h4; cases h4
    | ob r => simp only [blkOf, Option.some.injEq] at hb; subst hb; simp only [Holds] at hh; rw [hD] at hh; cases hh
    | _ => first | exact hh.elim | cases hb
  | tok n =>
    cases v with
    | tk E len =>
      simp only [blkOf, tokBlk, Holds, TokAt] at hb hh
      split at hb
      · rename_i aa cap heq
        rw [heq] at hh
        split at hb
        · rename_i hlt'
          obtain ⟨-, c, e, h4, _⟩ := hh.2 hlt'
          cases hb
          rw [hD] at h4
          cases h4
        · cases hb
      · cases hb
    | _ => first | exact hh.elim | cases hb

/-- a frame that returns goes over its marks -/
theorem leave_marks {G : Gh} {cs : List Frame} : ∀ (Ds : List Nat) (a : Act) (w : World) (fr : Frame), a.defers = Ds.map mark → Rel X G s a w → fr.mode = .returning → fr.defers = a.defers →
    ∃ w' fr', Steps X.P (lone fr cs w) (lone fr' cs w') ∧ Rel X G s { a with defers := [] } w' ∧ fr'.mode = .returning ∧ fr'.defers = [] ∧ fr'.fn = fr.fn ∧ fr'.kind = fr.kind ∧ fr'.tmps = fr.tmps := by
  intro Ds
  induction Ds with
  | nil =>
    intro a w fr ha R hm hd
    refine ⟨w, fr, .refl _ _, ?_, hm, by rw [hd, ha]; rfl, rfl, rfl, rfl⟩
    have : { a with defers := [] } = a := by cases a; simp only at ha; rw [ha]; rfl
    rw [this]
    exact R
  | cons D Ds ih =>
    intro a w fr ha R hm hd
    obtain ⟨h1, h2⟩ := R.pop ha
    have hs := step_collected (P := X.P) (cs := cs) (by rw [hm]; simp) (hd.trans ha) rfl h1
    obtain ⟨w', fr', k1, k2, k3, k4, k5, k6, k7⟩ := ih _ _ { fr with defers := [] ++ Ds.map mark } rfl h2 hm rfl
    exact ⟨w', fr', .head hs k1, k2, k3, k4, k5, k6, k7⟩

theorem rd_fn (h : X.md = .fn) : X.rd = none := by simp [Ctx.rd, h]
theorem rd_it {l : Nat} {R : Objs → Loop → Prop} (h : X.md = .it l R) : X.rd = none := by simp [Ctx.rd, h]

theorem aft_of {G : Gh} {a : Act} {w : World} (R : Rel X G s a w) {φ : Objs} (hφ : objsIn (get s) φ) (hn : (φ.map (·.1)).Nodup) : Aft X G.D w φ := by
  refine ⟨R.ext, R.wf, heapOK_of R hφ hn, fun b hb => ?_⟩
  obtain ⟨⟨b', cs'⟩, hm, rfl⟩ := List.mem_map.1 hb
  rcases R.own _ _ b' (hφ b' cs' hm) rfl with h | ⟨h, _⟩
  · exact .inr h
  · exact .inl h

/-- the step out of a function's code -/
def Outs (X : Ctx) (m : List Item) : Prop :=
  ∀ (a : Act) (w : World) (b : Frame) (cs : List Frame), b.roundOf = none → step X.P (lone (b.atR a m) cs w) = .next (lone { b.atR a m with mode := .returning } cs w)
theorem outs_ret : Outs X (.code .ret :: k) := fun _ _ _ _ h => stepR_ret h
theorem outs_end : Outs X [] := fun _ _ _ _ h => stepR_end h

theorem W_fin (hmd : X.md = .fn) (hff : X.P.funcs[X.f]? = some X.fn) {r : DV} (hr : retD X (get s) X.fn.results.toList = some r) {φ : Objs} (hφ : objsIn (get s) φ) (hn : (φ.map (·.1)).Nodup) (hR : X.R r φ) {m : List Item} (hstep : Outs X m) : W X m s := by
  intro G a w b cs hf hk hro R
  obtain ⟨Ds, hDs, -⟩ := R.defers
  obtain ⟨w', fr', k1, R', k3, k4, k5, k6, k7⟩ := leave_marks (cs := cs) Ds a w { b.atR a m with mode := .returning } hDs R rfl rfl
  obtain ⟨v, h1, h2⟩ := retD_sound R' hr
  obtain ⟨q1, q2, q3, q4⟩ := aft_of R' hφ hn
  refine ⟨w', fr', ?_, .head (hstep a w b cs (hro.trans (rd_fn hmd))) k1⟩
  simp only [Fin, hmd]
  exact ⟨v, ⟨G.D, r, φ, hR, q1, q2, h2, q3, q4⟩, k5.trans hf, k3, k4, k6.trans hk, X.fn, by rw [k5]; exact (congrArg _ hf).trans hff, by rw [k7]; exact h1⟩

theorem W_ret (hmd : X.md = .fn) (hff : X.P.funcs[X.f]? = some X.fn) {r : DV} (hr : retD X (get s) X.fn.results.toList = some r) {φ : Objs} (hφ : objsIn (get s) φ) (hn : (φ.map (·.1)).Nodup) (hR : X.R r φ) : W X (.code .ret :: k) s :=
  W_fin hmd hff hr hφ hn hR outs_ret
theorem W_end (hmd : X.md = .fn) (hff : X.P.funcs[X.f]? = some X.fn) {r : DV} (hr : retD X (get s) X.fn.results.toList = some r) {φ : Objs} (hφ : objsIn (get s) φ) (hn : (φ.map (·.1)).Nodup) (hR : X.R r φ) : W X [] s :=
  W_fin hmd hff hr hφ hn hR outs_end

/-- the end of a function that was ranged over -/
theorem W_itfin {l : Nat} {Q : Objs → Loop → Prop} (hmd : X.md = .it l Q) (hff : X.P.funcs[X.f]? = some X.fn) {r : DV} (hr : retD X (get s) X.fn.results.toList = some r) {φ : Objs} (hφ : objsIn (get s) φ) (hn : (φ.map (·.1)).Nodup) {q : Loop} (hl : get s (.heap l) = some (.ob q)) (hR : Q φ q) {m : List Item} (hstep : Outs X m) : W X m s := by
  intro G a w b cs hf hk hro R
  obtain ⟨Ds, hDs, -⟩ := R.defers
  obtain ⟨w', fr', k1, R', k3, k4, k5, k6, k7⟩ := leave_marks (cs := cs) Ds a w { b.atR a m with mode := .returning } hDs R rfl rfl
  obtain ⟨v, h1, h2⟩ := retD_sound R' hr
  refine ⟨w', fr', ?_, .head (hstep a w b cs (hro.trans (rd_it hmd))) k1⟩
  simp only [Fin, hmd]
  exact ⟨v, G.D, φ, q, hR, aft_of R' hφ hn, R'.holds _ _ hl, k5.trans hf, k3, k4, k6.trans hk, X.fn, by rw [k5]; exact (congrArg _ hf).trans hff, by rw [k7]; exact h1⟩

/-- the end of a round -/
theorem W_rdfin {l : Nat} {r : Loop} {Q : Option Code → Objs → Prop} (hmd : X.md = .rd l r Q) {φ : Objs} (hφ : objsIn (get s) φ) (hn : (φ.map (·.1)).Nodup) (hl : get s (.heap l) = some (.ob { r with state := .busy })) (j : Option Code) {m : List Item} (hj : REnd j m) (hR : Q j φ) : W X m s := by
  intro G a w b cs hf hk hro R
  refine ⟨w, b.atR a m, ?_, .refl _ _⟩
  simp only [Fin, hmd]
  exact ⟨a, m, j, G.D, φ, rfl, hj, hR, aft_of R hφ hn, R.holds _ _ hl⟩

/-- how a region ends -/
def Nrm (X : Ctx) (K : St → Prop) : Exit → Act → World → Prop := fun e a w => e = .normal ∧ ∃ G s, K s ∧ Rel X G s a w

/-- a region's operations that are left -/
def VL (X : Ctx) (ops : Array Oper) (l : List Oper) (s : St) (K : St → Prop) : Prop :=
  ∀ n, ops.toList.drop n = l → ∀ (G : Gh) (a : Act) (w : World), Rel X G s a w → wpOpsIn X.F 0 X.P ops (Nrm X K) (List.range' n l.length) a w

theorem VL_nil {ops : Array Oper} {K : St → Prop} (h : K s) : VL X ops [] s K := fun _ _ G _ _ R => ⟨rfl, G, s, h, R⟩

theorem drop_cons {ops : Array Oper} {n : Nat} {o : Oper} {l : List Oper} (h : ops.toList.drop n = o :: l) : ops[n]? = some o ∧ ops.toList.drop (n + 1) = l := by
  constructor
  · have : (ops.toList.drop n)[0]? = some o := by rw [h]; rfl
    rw [List.getElem?_drop] at this
    simpa using this
  · rw [← List.drop_drop, h]; rfl

theorem VL_step {ops : Array Oper} {o : Oper} {l : List Oper} {K : St → Prop} {s' : St} (hg : o.guard = none) (ho : StepOK X s o s') (h : VL X ops l s' K) : VL X ops (o :: l) s K := by
  intro n hn G a w R
  obtain ⟨h1, h2⟩ := drop_cons hn
  simp only [List.length_cons, List.range'_succ, wpOpsIn, h1, Region.wanted, hg, if_true]
  exact (ho G a w R _ _ fun G' a' w' R' => h (n + 1) h2 G' a' w' R')

/-- a state may be told otherwise -/
theorem Rel.congr {G : Gh} {a : Act} {w : World} (R : Rel X G s a w) {s' : St} (h : ∀ l, get s' l = get s l) : Rel X G s' a w :=
  ⟨R.size, R.defers, R.ext, R.wf, R.nil, fun l v hl => R.holds l v (by rw [← h]; exact hl), fun l v l' v' b h1 h2 => R.sep l v l' v' b (by rw [← h]; exact h1) (by rw [← h]; exact h2), fun l v b h1 => R.own l v b (by rw [← h]; exact h1), fun l v b o h1 => R.data l v b o (by rw [← h]; exact h1)⟩

/-- the value of what was not carried out -/
abbrev unv : LV := .one (.v (.tup []))
theorem unv_rv {G : Gh} {w : World} : RSV G w (.v (.tup [])) undef := .tup [] #[] rfl (by simp)
theorem yielded_un {ops : Array Oper} {G : Gh} {a : Act} {w : World} (R : Rel X G s a w) {j dj : Nat} (hj : (ops[j]?).bind (·.dst) = some dj) (hb : get s (.slot dj) = some unv) : yielded ops a.tmps j = none := by
  have hv : RV G.D w (.tup []) (a.tmps.getD dj undef) := R.holds _ _ hb
  unfold yielded
  rw [hj]
  simp only [Option.bind_some]
  cases hq : a.tmps[dj]? with
  | none => rfl
  | some v =>
    have : a.tmps.getD dj undef = v := by simp [Array.getD_eq_getD_getElem?, hq]
    rw [this] at hv
    cases hv
    rfl

theorem VL_guard {ops : Array Oper} {o : Oper} {l : List Oper} {K : St → Prop} {j dj : Nat} {want b : Bool} (hg : o.guard = some (j, want)) (hj : (ops[j]?).bind (·.dst) = some dj) (hjn : dj < X.n) (hb : get s (.slot dj) = some (.one (.v (.prim (.bool b)))))
    (hyes : b = want → ∃ s', StepOK X (upd s (.slot dj) (.one (.v (.prim (.bool want))))) o s' ∧ VL X ops l s' K)
    {d : Nat} (hd : o.dst = some d) (hdn : d < X.n) (hno : b = !want → VL X ops l (upd (upd s (.slot dj) (.one (.v (.prim (.bool (!want)))))) (.slot d) unv) K) : VL X ops (o :: l) s K := by
  intro n hn G a w R
  obtain ⟨h1, h2⟩ := drop_cons hn
  have hv := (prim_of (R.holds _ _ hb)).1
  have hlt : dj < a.tmps.size := by rw [R.size]; exact hjn
  have hv' : a.tmps[dj]? = some (.bool b) := by
    have h3 : a.tmps.getD dj undef = a.tmps[dj] := by simp [hlt]
    rw [Array.getElem?_eq_getElem hlt, ← h3, hv]
  have hy : yielded ops a.tmps j = some b := by
    unfold yielded
    rw [hj]
    simp [hv']
  have R' : ∀ c, b = c → Rel X G (upd s (.slot dj) (.one (.v (.prim (.bool c))))) a w := fun c hc => R.congr fun l => by
    rw [get_upd]
    split
    · subst_vars; exact hb.symm
    · rfl
  simp only [List.length_cons, List.range'_succ, wpOpsIn, h1, Region.wanted, hg, hy]
  by_cases hbw : b = want
  · subst hbw
    simp only [beq_self_eq_true, if_true]
    obtain ⟨s', k1, k2⟩ := hyes rfl
    exact (k1 G a w (R' _ rfl) _ _ fun G' a' w' R' => k2 (n + 1) h2 G' a' w' R')
  · have hb2 : b = !want := by cases b <;> cases want <;> simp_all
    have : (some b == some want) = false := by simp [hbw]
    simp only [this, Bool.false_eq_true, if_false, hd]
    exact ⟨fun _ _ => trivial, hno hb2 (n + 1) h2 G _ w ((R' _ hb2).setSlot (Trans.refl X G a w R.nil) rfl rfl (fun _ h => h) hdn (x := .v (.tup [])) unv_rv)⟩

/-- a guard that was not asked itself -/
theorem VL_guardU {ops : Array Oper} {o : Oper} {l : List Oper} {K : St → Prop} {j dj : Nat} {want : Bool} (hg : o.guard = some (j, want)) (hj : (ops[j]?).bind (·.dst) = some dj) (hb : get s (.slot dj) = some unv)
    {d : Nat} (hd : o.dst = some d) (hdn : d < X.n) (hno : VL X ops l (upd s (.slot d) unv) K) : VL X ops (o :: l) s K := by
  intro n hn G a w R
  obtain ⟨h1, h2⟩ := drop_cons hn
  have hy := yielded_un (ops := ops) R hj hb
  simp only [List.length_cons, List.range'_succ, wpOpsIn, h1, Region.wanted, hg, hy, hd]
  have : (none == some want) = false := by cases want <;> rfl
  simp only [this, Bool.false_eq_true, if_false]
  exact ⟨fun _ _ => trivial, hno (n + 1) h2 G _ w (R.setSlot (Trans.refl X G a w R.nil) rfl rfl (fun _ h => h) hdn (x := .v (.tup [])) unv_rv)⟩

theorem roomF (n : Nat) : X.F.room n := fun _ h => by simp [Ctx.F, Fence.wide] at h

theorem W_region {id : Nat} {ops : Array Oper} (h : ∀ K : St → Prop, (∀ s', W X k s' → K s') → VL X ops ops.toList s K) : W X (.code (.region id ops false) :: k) s := by
  intro G a w b cs hf hk hr R
  have hv := h (fun s' => W X k s') (fun _ h => h) 0 rfl G a w R
  have e : List.range' 0 ops.toList.length = List.range ops.size := by rw [List.range_eq_range']; simp
  rw [e] at hv
  obtain ⟨e', a', w', ⟨rfl, G', s', hK, R'⟩, harr⟩ := wp_opsIn _ a w hv b k cs hr trivial (roomF _)
  obtain ⟨w'', fr, h1, h2⟩ := hK G' a' w' b cs hf hk hr R'
  exact ⟨w'', fr, h1, .head stepR_region (Steps.trans (StepsIn.steps harr) h2)⟩

end
end Go.Proofs.YtbmnlkfgkdallaaDoor.Lift
