/-
  Part S of the small logic: rounds as contracts of yield; the statement 'for .. := range f'.
-/
import Derived.Test.YtbmnlkfgkdallaaDoorLr
namespace Go.Proofs.YtbmnlkfgkdallaaDoor.Lift
set_option linter.unusedSimpArgs false
set_option linter.unusedVariables false
set_option linter.unnecessarySimpa false
open Go

/-- yield's arguments in the parameters -/
def setL (tmps : Array Value) : List (Nat × Value) → Array Value
  | [] => tmps
  | (t, v) :: r => setL (tmps.setIfInBounds t v) r

theorem setL_foldl (l : List (Nat × Value)) : ∀ tmps : Array Value, l.foldl (fun tmps p => tmps.setIfInBounds p.1 p.2) tmps = setL tmps l := by
  induction l with
  | nil => intro tmps; rfl
  | cons p r ih => intro tmps; exact ih _

theorem setL_size (l : List (Nat × Value)) : ∀ tmps : Array Value, (setL tmps l).size = tmps.size := by
  induction l with
  | nil => intro tmps; rfl
  | cons p r ih => intro tmps; simp only [setL, ih, Array.size_setIfInBounds]

theorem setL_other {n : Nat} (l : List (Nat × Value)) : ∀ tmps : Array Value, n ∉ l.map (·.1) → (setL tmps l).getD n undef = tmps.getD n undef := by
  induction l with
  | nil => intro tmps _; rfl
  | cons p r ih =>
    intro tmps h
    simp only [List.map_cons, List.mem_cons, not_or] at h
    simp only [setL, ih _ h.2]
    simp [Array.getElem?_setIfInBounds_ne (Ne.symm h.1)]

theorem setL_at {n : Nat} {v : Value} (l : List (Nat × Value)) : ∀ tmps : Array Value, (l.map (·.1)).Nodup → (n, v) ∈ l → n < tmps.size → (setL tmps l).getD n undef = v := by
  induction l with
  | nil => intro tmps _ h; cases h
  | cons p r ih =>
    intro tmps hn h hlt
    simp only [List.map_cons, List.nodup_cons] at hn
    simp only [setL]
    rcases List.mem_cons.1 h with rfl | h
    · rw [setL_other _ _ hn.1]
      simp [hlt]
    · exact ih _ hn.2 h (by simpa using hlt)

/-- slots that hold data since the loop began -/
def FrameOK (D0 : Nat → Nat → Prop) (w0 : World) (tmps : Array Value) (SL : List (Nat × DV)) : Prop := ∀ n x, (n, x) ∈ SL → RV D0 w0 x (tmps.getD n undef)

def slotSt : List (Nat × DV) → St
  | [] => []
  | (n, x) :: r => (.slot n, .one (.v x)) :: slotSt r

theorem get_slotSt {SL : List (Nat × DV)} {l : Loc} {v : LV} (h : get (slotSt SL) l = some v) : ∃ n x, l = .slot n ∧ v = .one (.v x) ∧ (n, x) ∈ SL := by
  induction SL with
  | nil => cases h
  | cons p r ih =>
    obtain ⟨n, x⟩ := p
    simp only [slotSt, get] at h
    split at h
    · rename_i e; cases h; exact ⟨n, x, e.symm, rfl, by simp⟩
    · obtain ⟨n', x', h1, h2, h3⟩ := ih h
      exact ⟨n', x', h1, h2, List.mem_cons_of_mem _ h3⟩

def parSt : List Nat → List DV → St
  | p :: ps, x :: xs => (.slot p, .one (.v x)) :: parSt ps xs
  | _, _ => []

theorem get_parSt {ps : List Nat} {xs : List DV} {l : Loc} {v : LV} (h : get (parSt ps xs) l = some v) : ∃ (i p : Nat) (x : DV), l = .slot p ∧ v = .one (.v x) ∧ ps[i]? = some p ∧ xs[i]? = some x := by
  induction ps generalizing xs with
  | nil => cases h
  | cons p ps ih =>
    cases xs with
    | nil => cases h
    | cons x xs =>
      simp only [parSt, get] at h
      split at h
      · rename_i e; cases h; exact ⟨0, p, x, e.symm, rfl, rfl, rfl⟩
      · obtain ⟨i, p', x', h1, h2, h3, h4⟩ := ih h
        exact ⟨i + 1, p', x', h1, h2, by simpa using h3, by simpa using h4⟩

/-- the state in which a round begins -/
def entryR (ps : List Nat) (args : List DV) (SL : List (Nat × DV)) (φ : Objs) (l : Nat) (r : Loop) : St := (.heap l, .ob r) :: (parSt ps args ++ (slotSt SL ++ heapSt φ))

/-- the record behind a round that ends so -/
def pastL (r : Loop) (j : Option Code) : Loop := { r with state := if j.isNone then .ready else .done, pending := j }

/-- A ROUND AS A CONTRACT OF YIELD -/
theorem YC_round {P : Program} {gl : Globs} {D0 : Nat → Nat → Prop} {w0 : World} {l : Nat} {r : Loop} {args : List DV} {φ : Objs} {R : Bool → Objs → Loop → Prop} (n : Nat) (hsize : r.tmps.size = n) {SL : List (Nat × DV)} (hSL : FrameOK D0 w0 r.tmps SL) (hst : r.state = .ready)
    (hps : r.params.size = args.length) (hpn : ∀ p ∈ r.params.toList, p < n) (hnd : r.params.toList.Nodup) (hdis : ∀ p ∈ r.params.toList, p ∉ SL.map (·.1))
    (h : ∀ X : Ctx, X.P = P → X.gl = gl → X.f = r.fn → X.n = n → X.md = .rd l r (fun j φ' => R j.isNone φ' (pastL r j)) → X.ids = l :: φ.map (·.1) → l ∉ φ.map (·.1) → (∀ x ∈ args, DV.fit x) → W X [.code r.assign, .beginRound, .code r.body] (entryR r.params.toList args SL φ l r)) : YC P gl D0 w0 l r args φ R := by
  intro D w vs hgrow _ hwf hsz hargs hheap hloop
  obtain ⟨hnD, hnm⟩ := loop_fresh hwf hheap hloop
  have hfit : ∀ x ∈ args, DV.fit x := by
    intro x hx
    obtain ⟨i, hi, rfl⟩ := List.mem_iff_getElem.1 hx
    exact RV.fit (hargs i _ vs[i] (List.getElem?_eq_getElem hi) (Array.getElem?_eq_getElem (by omega)))
  let X : Ctx := { P := P, gl := gl, f := r.fn, fn := default, n := n, ids := l :: φ.map (·.1), D0 := D, w0 := w, R := fun _ _ => False, md := .rd l r (fun j φ' => R j.isNone φ' (pastL r j)) }
  have hW := h X rfl rfl rfl rfl rfl rfl hnm hfit
  have htm : (r.params.zip vs).foldl (fun tmps (t, a) => tmps.setIfInBounds t a) r.tmps = setL r.tmps (r.params.toList.zip vs.toList) := by
    rw [← Array.foldl_toList, Array.toList_zip]
    exact setL_foldl _ _
  rw [htm]
  have hkeys : (r.params.toList.zip vs.toList).map (·.1) = r.params.toList := by
    rw [List.map_fst_zip]
    simp only [Array.length_toList]; omega
  let a : Act := { tmps := setL r.tmps (r.params.toList.zip vs.toList), defers := [] }
  have Rl : Rel X { D := D, ν := fun _ => 0, τ := fun _ => (none, 0) } (entryR r.params.toList args SL φ l r) a w := by
    have hget : ∀ m v, get (entryR r.params.toList args SL φ l r) m = some v → (m = .heap l ∧ v = .ob r) ∨ (∃ (i p : Nat) (x : DV), m = .slot p ∧ v = .one (.v x) ∧ r.params.toList[i]? = some p ∧ args[i]? = some x) ∨ (∃ n x, m = .slot n ∧ v = .one (.v x) ∧ (n, x) ∈ SL) ∨ ∃ b cs, m = .heap b ∧ v = .row (cs.map SV.v) ∧ (b, cs) ∈ φ := by
      intro m v hm
      simp only [entryR, get] at hm
      split at hm
      · rename_i e; cases hm; exact .inl ⟨e.symm, rfl⟩
      · rw [get_append] at hm
        rcases Option.or_eq_some_iff.1 hm with hm | ⟨-, hm⟩
        · exact .inr (.inl (get_parSt hm))
        · rw [get_append] at hm
          rcases Option.or_eq_some_iff.1 hm with hm | ⟨-, hm⟩
          · exact .inr (.inr (.inl (get_slotSt hm)))
          · exact .inr (.inr (.inr (get_heapSt hm)))
    have blk : ∀ m v b, get (entryR r.params.toList args SL φ l r) m = some v → blkOf { D := D, ν := fun _ => 0, τ := fun _ => (none, 0) } m v = some b → m = .heap b := by
      intro m v b hm hb
      rcases hget m v hm with ⟨rfl, rfl⟩ | ⟨i, p, x, rfl, rfl, hx⟩ | ⟨p, x, rfl, rfl, hx⟩ | ⟨b', cs, rfl, rfl, hq⟩
      · simp only [blkOf, Option.some.injEq] at hb; rw [hb]
      · cases hb
      · cases hb
      · simp only [blkOf, Option.some.injEq] at hb; rw [hb]
    refine ⟨by simp [a, X, setL_size, hsize], ⟨[], rfl, List.nodup_nil, by simp⟩, Ext.refl _ _ _, hwf, rfl, fun m v hm => ?_, fun m v m' v' b hm hm' hb hb' => ?_, fun m v b hm hb => ?_, fun m v b o hm hb _ => ?_⟩
    · rcases hget m v hm with ⟨rfl, rfl⟩ | ⟨i, p, x, rfl, rfl, hp, hx⟩ | ⟨p, x, rfl, rfl, hx⟩ | ⟨b', cs, rfl, rfl, hq⟩
      · exact hloop
      · have hi : i < vs.size := by rw [hsz]; exact (List.getElem?_eq_some_iff.1 hx).1
        have hv : vs[i]? = some vs[i] := Array.getElem?_eq_getElem hi
        show RV D w x _
        have hmem : (p, vs[i]) ∈ r.params.toList.zip vs.toList := by
          refine List.mem_of_getElem? (i := i) ?_
          rw [List.getElem?_zip_eq_some]
          exact ⟨hp, by simp [hv]⟩
        have : a.tmps.getD p undef = vs[i] := setL_at _ _ (by rw [hkeys]; exact hnd) hmem (by rw [hsize]; exact hpn p (List.mem_of_getElem? hp))
        rw [this]
        exact hargs i x _ hx hv
      · show RV D w x _
        have : a.tmps.getD p undef = r.tmps.getD p undef := setL_other _ _ (by rw [hkeys]; exact fun hm => hdis p hm (List.mem_map.2 ⟨_, hx, rfl⟩))
        rw [this]
        exact (hSL p x hx).mono hgrow
      · exact blk_of_heapOK (G := { D := D, ν := fun _ => 0, τ := fun _ => (none, 0) }) hheap hq
    · rw [blk m v b hm hb, blk m' v' b hm' hb']
    · rcases hget m v hm with ⟨rfl, rfl⟩ | ⟨i, p, x, rfl, rfl, hp, hx⟩ | ⟨p, x, rfl, rfl, hx⟩ | ⟨b', cs, rfl, rfl, hq⟩
      · simp only [blkOf, Option.some.injEq] at hb
        subst hb
        exact .inr ⟨by simp [X], rfl⟩
      · cases hb
      · cases hb
      · simp only [blkOf, Option.some.injEq] at hb
        subst hb
        exact .inr ⟨List.mem_cons_of_mem _ (List.mem_map.2 ⟨_, hq, rfl⟩), rfl⟩
    · rcases hget m v hm with ⟨rfl, rfl⟩ | ⟨i, p, x, rfl, rfl, hp, hx⟩ | ⟨p, x, rfl, rfl, hx⟩ | ⟨b', cs, rfl, rfl, hq⟩
      · simp only [blkOf, Option.some.injEq] at hb
        subst hb
        exact hnD o
      · cases hb
      · cases hb
      · simp only [blkOf, Option.some.injEq] at hb
        subst hb
        exact hheap.nodata _ _ hq o
  refine ⟨trivial, fun c cs _ => ?_⟩
  let b : Frame := { (default : Frame) with fn := r.fn, kind := .normal, roundOf := some l }
  have hb0 : Frame.round l r.fn (setL r.tmps (r.params.toList.zip vs.toList)) r.assign r.body .normal = b.atR a [.code r.assign, .beginRound, .code r.body] := by
    simp [Frame.round, Frame.atR, b, a]
  obtain ⟨w1, fr, ⟨a1, k1, j, D', φ', rfl, hj, hR, ⟨q1, q2, q3, q4⟩, hl1⟩, hsteps⟩ := hW _ a w b (c :: cs) rfl rfl rfl Rl
  have hend := run_endRound (P := P) j hl1
  have hlt : l < w1.heap.size := (Array.getElem?_eq_some_iff.1 hl1).1
  have hne : ∀ b', b' ≠ l → (w1.putObj l (.loop (pastL r j))).heap[b']? = w1.heap[b']? := fun b' hb => World.putObj_heap_other hb
  have hstep : step P (lone (b.atR a1 k1) (c :: cs) w1) = .next (lone (c.finish (.bool j.isNone)) cs (w1.putObj l (.loop (pastL r j)))) := by
    cases j with
    | none => obtain rfl := hj; exact stepR_round_end rfl rfl hend
    | some jc =>
      cases jc with
      | ret => obtain ⟨k2, rfl⟩ := hj; exact stepR_round_ret rfl rfl hend
      | exit id => obtain ⟨k2, rfl, hx⟩ := hj; exact stepR_round_exit rfl rfl hx hend
      | goto t => obtain ⟨k2, rfl, hx⟩ := hj; exact stepR_round_goto rfl rfl hx hend
      | _ => exact hj.elim
  obtain ⟨hnD1, hnm1⟩ := loop_fresh q2 q3 hl1
  have hnot : ∀ b' o, D' b' o → b' ≠ l := fun b' o hd e => by subst e; exact hnD1 o hd
  have hcell : ∀ b' o, D' b' o → (w1.putObj l (.loop (pastL r j))).cell? ⟨b', o, none⟩ = w1.cell? ⟨b', o, none⟩ := fun b' o hd => by
    simp only [World.cell?]; rw [hne b' (hnot b' o hd)]
  have g2 : Grow D' w1 D' (w1.putObj l (.loop (pastL r j))) := fun b' o hd => ⟨hd, hcell b' o hd⟩
  refine ⟨.returned (.bool j.isNone), w1.putObj l (.loop (pastL r j)), ⟨j.isNone, D', φ', pastL r j, rfl, hR, ?_, ?_, ?_, World.putObj_heap_same hlt, fun b' hb' => ?_⟩, ?_⟩
  · refine ⟨q1.os, q1.tape, q1.output, by simpa using q1.size, fun b' hb' hn => ?_, q1.grow.trans g2, q1.new⟩
    have : b' ≠ l := fun e => hn (by simp [e])
    exact (hne b' this).trans (q1.block b' hb' hn)
  · refine ⟨fun b' o hd => ?_, fun g els hg => ?_⟩
    · obtain ⟨v, hv⟩ := q2.there b' o hd
      exact ⟨v, (hcell b' o hd).trans hv⟩
    · obtain ⟨cap, hr⟩ := q2.globs g els hg
      exact ⟨cap, hr.mono g2⟩
  · refine ⟨fun b' cs' hm => ?_, q3.nodata, q3.nodup⟩
    obtain ⟨c', e', h1, h2, h3⟩ := q3.rows b' cs' hm
    have hbl : b' ≠ l := fun e => hnm1 (by rw [← e]; exact List.mem_map.2 ⟨_, hm, rfl⟩)
    refine ⟨c', e', (hne b' hbl).trans h1, h2, fun i x hx => ?_⟩
    obtain ⟨k1, v, k2, k3⟩ := h3 i x hx
    exact ⟨k1, v, k2, k3.mono g2⟩
  · rcases q4 b' hb' with h | h
    · rcases List.mem_cons.1 h with rfl | h
      · exact absurd hb' hnm1
      · exact .inl h
    · exact .inr h
  · show StepsIn _ _ _ _
    rw [hb0]
    exact stepsIn_wide.2 (Steps.trans hsteps (.head hstep (.refl _ _)))

theorem wf_grow {gl : Globs} {D : Nat → Nat → Prop} {w w' : World} (g : Grow D w D w') (h : Wf gl D w) : Wf gl D w' := by
  refine ⟨fun b o hd => ?_, fun i els hg => ?_⟩
  · obtain ⟨v, hv⟩ := h.there b o hd
    exact ⟨v, (g b o hd).2.trans hv⟩
  · obtain ⟨cap, hr⟩ := h.globs i els hg
    exact ⟨cap, hr.mono g⟩

theorem heapOK_grow {D : Nat → Nat → Prop} {w w' : World} {φ : Objs} (g : Grow D w D w') (hb : ∀ b ∈ φ.map (·.1), w'.heap[b]? = w.heap[b]?) (h : HeapOK D w φ) : HeapOK D w' φ := by
  refine ⟨fun b cs hm => ?_, h.nodata, h.nodup⟩
  obtain ⟨c, e, h1, h2, h3⟩ := h.rows b cs hm
  refine ⟨c, e, (hb b (List.mem_map.2 ⟨_, hm, rfl⟩)).trans h1, h2, fun i x hx => ?_⟩
  obtain ⟨k1, v, k2, k3⟩ := h3 i x hx
  exact ⟨k1, v, k2, k3.mono g⟩

section
variable {X : Ctx} {s : St} {k : List Item}

/-- 'for .. := range g { .. }' -/
theorem W_rangeFunc (hmd : X.md = .fn) {g : Operand} {ps : Array Tmp} {assign body : Code} {f : FuncId} {fi ca : Array Value} (hg : evl X (get s) g = some (.v (.prim (.func (.func f) fi ca)))) (hprim : ∀ v ∈ fi.toList ++ ca.toList, primOK v)
    {φ : Objs} (hφ : objsIn (get s) φ) (hnd : (φ.map (·.1)).Nodup) {Y : Nat → Loop → (Nat → Nat → Prop) → World → Prop} {R : Objs → Loop → Prop} {SL : List (Nat × DV)} (hSL : ∀ n x, (n, x) ∈ SL → get s (.slot n) = some (.one (.v x)))
    (hit : ∀ l r, r.state = .ready → r.pending = none → r.params = ps → l ∉ φ.map (·.1) → ItC X.P X.gl f (fi.toList.map DV.prim ++ DV.prim (.func (.yield l) #[] #[]) :: ca.toList.map DV.prim) φ l r (Y l r) R)
    (hY : ∀ l r D0 w0, r.state = .ready → r.pending = none → r.params = ps → r.fn = X.f → r.tmps.size = X.n → r.assign = assign → r.body = body → l ∉ φ.map (·.1) → FrameOK D0 w0 r.tmps SL → Y l r D0 w0)
    (hst : ∀ φ' r', R φ' r' → r'.state ≠ .busy)
    (after : ∀ φ' r', R φ' r' → (∀ b ∈ φ'.map (·.1), b ∈ φ.map (·.1) ∨ newB b s) → W X ((r'.pending.map Item.code).toList ++ k) (addObjs (delObjs s φ) φ')) : W X (.code (.rangeFunc g ps assign body) :: k) s := by
  intro G a w b cs hf hk hro R0
  have hrn := hro.trans (rd_fn hmd)
  have hgv := (prim_of (evl_sound R0 hg)).1
  let r : Loop := { state := .ready, pending := none, fn := b.fn, tmps := a.tmps, params := ps, assign, body, defers := w.heap.size }
  let w1 : World := (w.alloc (.deferred (some []))).alloc (.loop r)
  have hsz1 : w1.heap.size = w.heap.size + 2 := by simp [w1]
  have hold : ∀ b', b' < w.heap.size → w1.heap[b']? = w.heap[b']? := fun b' hb => (alloc_old _ _ b' (by simp; omega)).trans (alloc_old w _ b' hb)
  have hloop : w1.heap[w.heap.size + 1]? = some (.loop r) := by
    have := alloc_new (w.alloc (.deferred (some []))) (.loop r)
    rw [show (w.alloc (.deferred (some []))).heap.size = w.heap.size + 1 by simp] at this
    exact this
  have hdef : w1.heap[w.heap.size]? = some (.deferred (some [])) := (alloc_old _ _ _ (by simp)).trans (alloc_new w _)
  have hcell1 : ∀ b' o, G.D b' o → w1.cell? ⟨b', o, none⟩ = w.cell? ⟨b', o, none⟩ := fun b' o hd => by
    simp only [World.cell?]; rw [hold b' (R0.wf.lt hd)]
  have g1 : Grow G.D w G.D w1 := fun b' o hd => ⟨hd, hcell1 b' o hd⟩
  have he : (Instr.enterLoop b.fn a.tmps ps assign body b.roundOf).run X.P w = .ok (w.heap.size + 1, [mark w.heap.size]) w1 := by
    rw [hrn]; exact run_enterLoop_outer _ _ _ _ _
  have hφlt : ∀ b' ∈ φ.map (·.1), b' < w.heap.size := fun b' hb => by
    obtain ⟨⟨b2, cs'⟩, hm, rfl⟩ := List.mem_map.1 hb
    exact blk_lt (R0.holds _ _ (hφ b2 cs' hm)) rfl
  have hlφ : w.heap.size + 1 ∉ φ.map (·.1) := fun hm => by have := hφlt _ hm; omega
  have hwf1 := wf_grow g1 R0.wf
  have hh1 := heapOK_grow g1 (fun b' hb => hold b' (hφlt b' hb)) (heapOK_of R0 hφ hnd)
  obtain ⟨hcallable, hcall⟩ := hit (w.heap.size + 1) r rfl rfl rfl hlφ
  have hframe : FrameOK G.D w1 r.tmps SL := fun n x hm => RV.mono g1 (R0.holds _ _ (hSL n x hm))
  have hYr := hY (w.heap.size + 1) r G.D w1 rfl rfl rfl hf R0.size rfl rfl hlφ hframe
  have hres : (resolve a.eval (rangeCall g (w.heap.size + 1)) 0).run X.P w1 = .ok { target := .fn (.func f) ca, args := fi ++ #[.func (.yield (w.heap.size + 1)) #[] #[]] } w1 := by
    have e : (#[Operand.const (.func (.yield (w.heap.size + 1)) #[] #[])] : Array Operand).map a.eval = #[.func (.yield (w.heap.size + 1)) #[] #[]] := by simp [Act.eval]
    simp only [resolve, rangeCall, e, hgv]
    rfl
  have hinv : (invoke (.fn (.func f) ca) (fi ++ #[.func (.yield (w.heap.size + 1)) #[] #[]])).run X.P w1 = .ok (.enter f (fi ++ #[.func (.yield (w.heap.size + 1)) #[] #[]] ++ ca)) w1 := by
    simp only [invoke]; exact run_callFunc hcallable _ _
  have henter := stepR_rangeFunc (P := X.P) (b := b) (a := a) (k := k) (cs := cs) (w := w) he hres hinv
  obtain ⟨e, w2, fr, ⟨v, D', φ', r', rfl, hR, hx, hwf2, hh2, hl2, hids⟩, hsteps, hfn, hleave⟩ := hcall G.D w1 (fi ++ #[.func (.yield (w.heap.size + 1)) #[] #[]] ++ ca) hwf1 (by simp; omega) (by
    have hp : ∀ v ∈ (fi ++ #[Value.func (.yield (w.heap.size + 1)) #[] #[]] ++ ca).toList, primOK v := by
      intro v hv
      simp only [Array.toList_append, List.mem_append] at hv
      rcases hv with (hv | hv) | hv
      · exact hprim v (List.mem_append.2 (.inl hv))
      · simp only [List.mem_singleton] at hv; subst hv; trivial
      · exact hprim v (List.mem_append.2 (.inr hv))
    intro i x v hx hv
    have hv' : (fi ++ #[Value.func (.yield (w.heap.size + 1)) #[] #[]] ++ ca).toList[i]? = some v := by rw [Array.getElem?_toList]; exact hv
    have he : fi.toList.map DV.prim ++ DV.prim (.func (.yield (w.heap.size + 1)) #[] #[]) :: ca.toList.map DV.prim = ((fi ++ #[Value.func (.yield (w.heap.size + 1)) #[] #[]] ++ ca).toList).map DV.prim := by simp
    rw [he, List.getElem?_map, hv'] at hx
    cases hx
    exact .prim v (hp v (List.mem_of_getElem? hv'))) hh1 hloop hYr (b.atR { a with defers := [mark w.heap.size] ++ a.defers } (.inRangeFunc (w.heap.size + 1) :: k) :: cs)
  have hback := step_leave_returned (cs := cs) (c := b.atR { a with defers := [mark w.heap.size] ++ a.defers } (.inRangeFunc (w.heap.size + 1) :: k)) hleave
  rw [finish_atR_inRangeFunc] at hback
  have hend := run_endLoop (P := X.P) hl2 (hst φ' r' hR)
  have hstep3 := stepR_endRangeFunc (P := X.P) (b := b) (a := { a with defers := [mark w.heap.size] ++ a.defers }) (k := k) (cs := cs) hend
  let w3 : World := w2.putObj (w.heap.size + 1) (.loop { r' with state := .exhausted })
  obtain ⟨hnD2, hnm2⟩ := loop_fresh hwf2 hh2 hl2
  have hne : ∀ b', b' ≠ w.heap.size + 1 → w3.heap[b']? = w2.heap[b']? := fun b' hb => World.putObj_heap_other hb
  have hcell3 : ∀ b' o, D' b' o → w3.cell? ⟨b', o, none⟩ = w2.cell? ⟨b', o, none⟩ := fun b' o hd => by
    simp only [World.cell?]; rw [hne b' (fun e => by subst e; exact hnD2 o hd)]
  have g3 : Grow D' w2 D' w3 := fun b' o hd => ⟨hd, hcell3 b' o hd⟩
  have hsz3 : w.heap.size + 2 ≤ w3.heap.size := by simp only [w3, World.putObj_size]; have := hx.size; omega
  have hφb : ∀ b ∈ φ.map (·.1), ∃ cs, get s (.heap b) = some (.row (List.map SV.v cs)) := by
    intro b hb
    obtain ⟨⟨b', cs'⟩, hm, rfl⟩ := List.mem_map.1 hb
    exact ⟨cs', hφ b' cs' hm⟩
  have hkeep : ∀ b', b' < w.heap.size → b' ∉ φ.map (·.1) → w3.heap[b']? = w.heap[b']? := fun b' hb hn => by
    refine (hne b' (by omega)).trans ((hx.block b' (by omega) ?_).trans (hold b' hb))
    simp only [List.mem_cons, not_or]
    exact ⟨by omega, hn⟩
  have hD3 : w3.heap[w.heap.size]? = some (.deferred (some [])) := by
    refine (hne _ (by omega)).trans ((hx.block _ (by omega) ?_).trans hdef)
    simp only [List.mem_cons, not_or]
    exact ⟨by omega, fun hm => by have := hφlt _ hm; omega⟩
  have hφD : ∀ D ∈ φ.map (·.1), w.heap[D]? ≠ some (.deferred (some [])) := fun D hm hD => by
    obtain ⟨cs, hg⟩ := hφb D hm
    obtain ⟨c, e, h4, _⟩ := R0.holds _ _ hg
    rw [hD] at h4; cases h4
  have T : Trans X G a w { D := D', ν := G.ν, τ := G.τ } { a with defers := [mark w.heap.size] ++ a.defers } w3 (fun b' => b' ∈ φ.map (·.1)) := by
    refine ⟨rfl, fun ⟨Ds, h1, h2, h3⟩ => ⟨w.heap.size :: Ds, by simp [h1], List.nodup_cons.2 ⟨fun hm => ?_, h2⟩, fun D hD => ?_⟩, hx.os, hx.tape, hx.output, by omega, hkeep, fun b' hb => ?_, (g1.trans hx.grow).trans g3, fun b' o hd hn => ⟨.inl ?_, ?_⟩, R0.nil⟩
    · have := (Array.getElem?_eq_some_iff.1 (h3 _ hm).1).1; omega
    · rcases List.mem_cons.1 hD with rfl | hD
      · exact ⟨hD3, R0.ext.size⟩
      · have h4 := h3 D hD
        exact ⟨(hkeep D (Array.getElem?_eq_some_iff.1 h4.1).1 (fun hm => hφD D hm h4.1)).trans h4.1, h4.2⟩
    · obtain ⟨cs, hg⟩ := hφb b' hb
      exact (R0.own _ _ b' hg rfl).imp id And.left
    · have := hx.new b' o hd hn; omega
    · obtain ⟨u, hu⟩ := hwf2.there b' o hd
      exact ⟨u, (hcell3 b' o hd).trans hu⟩
  have hids' : ∀ b' ∈ φ'.map (·.1), b' ∈ φ.map (·.1) ∨ w.heap.size ≤ b' := fun b' hb => (hids b' hb).imp id fun h => by omega
  have hh3 : HeapOK D' w3 φ' := heapOK_grow g3 (fun b' hb => hne b' (fun e => by subst e; exact hnm2 hb)) hh2
  have R3 : Rel X { D := D', ν := G.ν, τ := G.τ } (addObjs (delObjs s φ) φ') { a with defers := [mark w.heap.size] ++ a.defers } w3 := by
    refine R0.step T (fun m u => ∃ b' cs, m = .heap b' ∧ u = .row (cs.map SV.v) ∧ (b', cs) ∈ φ') (fun m u h => ?_) (fun m u h => ?_) (fun m u m' u' b' h h' hb hb' => ?_)
    · rcases get_addObjs _ _ _ _ h with h | ⟨h, hne'⟩
      · exact .inl h
      · obtain ⟨h, hn⟩ := get_delObjs _ _ _ _ h
        refine .inr ⟨h, fun _ _ => rfl, fun b' hb hB => ?_, fun _ _ => rfl, fun _ _ => rfl⟩
        obtain ⟨cs, hg⟩ := hφb b' hB
        exact hn b' hB (R0.sep _ _ _ _ b' hg h rfl hb).symm
    · obtain ⟨b', cs, rfl, rfl, hm⟩ := h
      refine ⟨blk_of_heapOK hh3 hm, fun b2 hb' => ?_⟩
      simp only [blkOf, Option.some.injEq] at hb'
      subst hb'
      have hmm : b' ∈ φ'.map (·.1) := List.mem_map.2 ⟨_, hm, rfl⟩
      refine ⟨(hids' b' hmm).symm, ?_, fun _ o => hh3.nodata b' cs hm o⟩
      rcases hids' b' hmm with h1 | h1
      · obtain ⟨cs', hg⟩ := hφb b' h1
        exact R0.own _ _ b' hg rfl
      · exact .inl (Nat.le_trans R0.ext.size h1)
    · obtain ⟨b1, cs1, rfl, rfl, hm1⟩ := h
      obtain ⟨b2, cs2, rfl, rfl, hm2⟩ := h'
      simp only [blkOf, Option.some.injEq] at hb hb'
      rw [hb, hb']
  obtain ⟨w', fr', h1, h2⟩ := after φ' r' hR (fun b' hb => (hids' b' hb).imp id fun h => newB_of fun u hu => by
    have hho := R0.holds _ _ hu
    cases u with
    | row cs => have := blk_lt hho rfl; omega
    | ob q => have := blk_lt hho rfl; omega
    | one x => exact hho.elim
    | tk E n => exact hho.elim) _ _ w3 b cs hf hk hro R3
  exact ⟨w', fr', h1, .head henter (Steps.trans hsteps (.head hback (.head hstep3 h2)))⟩


/-- a call of yield, in a state whose other objects are known (A) -/
theorem leS_yield {A : St} {φ φ' : Objs} {d l : Nat} {x : DV} {r' : Loop} (hA : ∀ m v, (m, v) ∈ A → get s m = some v ∧ m ≠ .slot d ∧ m ≠ .heap l ∧ ∀ b ∈ φ.map (·.1), m ≠ .heap b) (hnd : (φ'.map (·.1)).Nodup) (hl : l ∉ φ'.map (·.1)) (hids : ∀ c ∈ φ'.map (·.1), c ∈ φ.map (·.1) ∨ newB c s) :
    leS ((.slot d, .one (.v x)) :: (.heap l, .ob r') :: (A ++ heapSt φ')) (upd (addObjs (delObjs (upd s (.slot d) (.one (.v x))) φ) φ') (.heap l) (.ob r')) := by
  have hadd : ∀ (φ' : Objs) (s : St) (b : Nat) (cs : List DV), (φ'.map (·.1)).Nodup → (b, cs) ∈ φ' → get (addObjs s φ') (.heap b) = some (.row (cs.map SV.v)) := by
    intro φ'
    induction φ' with
    | nil => intro s b cs _ h; cases h
    | cons p r ih =>
      obtain ⟨b0, c0⟩ := p
      intro s b cs hn h
      simp only [List.map_cons, List.nodup_cons] at hn
      simp only [addObjs, get_upd]
      rcases List.mem_cons.1 h with e | h
      · cases e; simp
      · have : b0 ≠ b := fun e => hn.1 (by rw [e]; exact List.mem_map.2 ⟨_, h, rfl⟩)
        simp only [Loc.heap.injEq, this, if_false]
        exact ih s b cs hn.2 h
  have hno : ∀ (φ' : Objs) (s : St) (m : Loc), (∀ b ∈ φ'.map (·.1), m ≠ .heap b) → get (addObjs s φ') m = get s m := by
    intro φ'
    induction φ' with
    | nil => intro s m _; rfl
    | cons p r ih =>
      obtain ⟨b0, c0⟩ := p
      intro s m h
      simp only [addObjs, get_upd]
      rw [if_neg (fun e => h b0 (by simp) e.symm)]
      exact ih s m fun b hb => h b (by simp [hb])
  have hdel : ∀ (φ : Objs) (s : St) (m : Loc), (∀ b ∈ φ.map (·.1), m ≠ .heap b) → get (delObjs s φ) m = get s m := by
    intro φ
    induction φ with
    | nil => intro s m _; rfl
    | cons p r ih =>
      obtain ⟨b0, c0⟩ := p
      intro s m h
      simp only [delObjs]
      rw [ih _ m fun b hb => h b (by simp [hb]), get_del, if_neg (fun e => h b0 (by simp) e.symm)]
  intro m v hm
  simp only [get] at hm
  rw [get_upd]
  split at hm
  · rename_i e; subst e
    cases hm
    simp only [reduceCtorEq, if_false]
    rw [hno _ _ _ (by simp), hdel _ _ _ (by simp), get_upd, if_pos rfl]
  · rename_i hsl
    split at hm
    · rename_i e; subst e
      cases hm
      simp
    · rename_i hhl
      rw [if_neg hhl]
      rw [get_append] at hm
      rcases Option.or_eq_some_iff.1 hm with hm | ⟨-, hm⟩
      · obtain ⟨h1, h2, h3, h4⟩ := hA m v (get_mem hm)
        have h5 : ∀ b ∈ φ'.map (·.1), m ≠ .heap b := by
          rintro b hb rfl
          rcases hids b hb with h | h
          · exact h4 b h rfl
          · have key : ∀ s : St, newB b s → get s (.heap b) = none := by
              intro s
              induction s with
              | nil => intro _; rfl
              | cons p r ih =>
                obtain ⟨m, u⟩ := p
                intro hn
                cases m with
                | heap b' => simp only [newB] at hn; simp only [get, Loc.heap.injEq, hn.1, if_false]; exact ih hn.2
                | slot n => simp only [newB] at hn; simp only [get, reduceCtorEq, if_false]; exact ih hn
                | loc n => simp only [newB] at hn; simp only [get, reduceCtorEq, if_false]; exact ih hn
                | tok n => simp only [newB] at hn; simp only [get, reduceCtorEq, if_false]; exact ih hn
            rw [key s h] at h1; cases h1
        rw [hno _ _ _ h5, hdel _ _ _ h4, get_upd, if_neg (fun e => h2 e.symm)]
        exact h1
      · obtain ⟨b, cs, rfl, rfl, hmem⟩ := get_heapSt hm
        exact hadd _ _ b cs hnd hmem

theorem vcK_yieldA {esc : List Nat} {ops : Array Oper} {ll : List Oper} {K : St → Prop} {d : Tmp} {y : Operand} {args : Array Operand} {ats : Array TypeId} {ty : TypeId} {pos : String} {af : Array Edge} {l : Nat} (hy : evl X (get s) y = some (.v (.prim (.func (.yield l) #[] #[]))))
    {ds ds' : List DV} {P : Program} {gl : Globs} (hP : X.P = P) (hgl : X.gl = gl) {r : Loop} {φ : Objs} {R : Bool → Objs → Loop → Prop} (hc : YC P gl X.D0 X.w0 l r ds' φ R) (hps : r.params.size = ds'.length) (hargs : evlDs X (get s) args.toList = some ds) (hds : ds = ds') (hφ : objsIn (get s) φ) (hnd : (φ.map (·.1)).Nodup) (hl : get s (.heap l) = some (.ob r)) (hdn : d < X.n)
    (A : St) (hA : ∀ m v, (m, v) ∈ A → get s m = some v ∧ m ≠ .slot d ∧ m ≠ .heap l ∧ ∀ b ∈ φ.map (·.1), m ≠ .heap b)
    (h : ∀ b φ' r', R b φ' r' → (φ'.map (·.1)).Nodup ∧ l ∉ φ'.map (·.1)) (hk : ∀ b φ' r', R b φ' r' → (∀ c ∈ φ'.map (·.1), c ∈ φ.map (·.1) ∨ newB c s) → vc X esc ops ll ((.slot d, .one (.v (.prim (.bool b)))) :: (.heap l, .ob r') :: (A ++ heapSt φ')) K) :
    vcK X esc ops ll K ⟨some d, .call { callee := .value y, args := args, argTypes := ats }, ty, pos, af, none⟩ s (stepS X esc s ⟨some d, .call { callee := .value y, args := args, argTypes := ats }, ty, pos, af, none⟩) := by
  subst hds
  have e : stepS X esc s ⟨some d, .call { callee := .value y, args := args, argTypes := ats }, ty, pos, af, none⟩ = none := by
    simp only [stepS, isAppend, pval, pcall, put1]
    split <;> rfl
  rw [e]
  intro n hn G a w R0
  obtain ⟨h1, h2⟩ := drop_cons hn
  simp only [List.length_cons, List.range'_succ, wpOpsIn, h1, Region.wanted, if_true]
  refine StepYield (o := ⟨some d, .call { callee := .value y, args := args, argTypes := ats }, ty, pos, af, none⟩) rfl hy hargs hps (by rw [hP, hgl]; exact hc) hφ hnd hl rfl hdn R0 _ _ fun b φ' r' G' a' w' hR hids R' => ?_
  have hids' : ∀ c ∈ φ'.map (·.1), c ∈ φ.map (·.1) ∨ newB c s := fun c hc => (hids c hc).imp id fun hh => newB_of fun v hv => by
    have hho := R0.holds _ _ hv
    cases v with
    | row cs => exact hh _ _ hv rfl
    | ob r => exact hh _ _ hv rfl
    | one x => exact hho.elim
    | tk E n => exact hho.elim
  exact vc_sound (hk b φ' r' hR hids') (n + 1) h2 G' a' w' (R'.weaken (leS_yield hA (h b φ' r' hR).1 (h b φ' r' hR).2 hids'))

/-- what a list of objects at the end of a state says -/
theorem get_heapSt_slot (φ : Objs) (n : Nat) : get (heapSt φ) (.slot n) = none := by
  induction φ with
  | nil => rfl
  | cons p r ih => obtain ⟨b, cs⟩ := p; simp [heapSt, get, ih]
theorem get_heapSt_loc (φ : Objs) (n : Nat) : get (heapSt φ) (.loc n) = none := by
  induction φ with
  | nil => rfl
  | cons p r ih => obtain ⟨b, cs⟩ := p; simp [heapSt, get, ih]
theorem get_heapSt_tok (φ : Objs) (n : Nat) : get (heapSt φ) (.tok n) = none := by
  induction φ with
  | nil => rfl
  | cons p r ih => obtain ⟨b, cs⟩ := p; simp [heapSt, get, ih]
theorem del_heapSt_slot (φ : Objs) (n : Nat) : del (heapSt φ) (.slot n) = heapSt φ := by
  induction φ with
  | nil => rfl
  | cons p r ih => obtain ⟨b, cs⟩ := p; simp [heapSt, del, ih]
theorem del_heapSt_loc (φ : Objs) (n : Nat) : del (heapSt φ) (.loc n) = heapSt φ := by
  induction φ with
  | nil => rfl
  | cons p r ih => obtain ⟨b, cs⟩ := p; simp [heapSt, del, ih]
theorem del_heapSt_tok (φ : Objs) (n : Nat) : del (heapSt φ) (.tok n) = heapSt φ := by
  induction φ with
  | nil => rfl
  | cons p r ih => obtain ⟨b, cs⟩ := p; simp [heapSt, del, ih]
theorem toksOf_heapSt (φ : Objs) : toksOf (heapSt φ) = [] := by
  induction φ with
  | nil => rfl
  | cons p r ih => obtain ⟨b, cs⟩ := p; simp [heapSt, toksOf, ih]
theorem anyLoc_vs (d : Nat) (cs : List DV) : anyLoc d (cs.map SV.v) = false := by
  induction cs with
  | nil => rfl
  | cons c r ih => simp [anyLoc, hasLoc, ih]
theorem anyTok_vs (d : Nat) (cs : List DV) : anyTok d (cs.map SV.v) = false := by
  induction cs with
  | nil => rfl
  | cons c r ih => simp [anyTok, hasTok, ih]
theorem freshL_heapSt (d : Nat) (φ : Objs) : freshL d (heapSt φ) = true := by
  induction φ with
  | nil => rfl
  | cons p r ih => obtain ⟨b, cs⟩ := p; simp [heapSt, freshL, ih, anyLoc_vs]
theorem freshT_heapSt (d : Nat) (φ : Objs) : freshT d (heapSt φ) = true := by
  induction φ with
  | nil => rfl
  | cons p r ih => obtain ⟨b, cs⟩ := p; simp [heapSt, freshT, ih, anyTok_vs]
theorem objsIn_tail {φ : Objs} (hn : (φ.map (·.1)).Nodup) : ∀ {A : St}, (∀ m v, (m, v) ∈ A → ∀ b ∈ φ.map (·.1), m ≠ .heap b) → objsIn (get (A ++ heapSt φ)) φ := by
  intro A hA b cs hm
  have h1 : get (heapSt φ) (.heap b) = some (.row (cs.map SV.v)) := by
    induction φ with
    | nil => cases hm
    | cons p r ih =>
      obtain ⟨b0, c0⟩ := p
      simp only [List.map_cons, List.nodup_cons] at hn
      simp only [heapSt, get]
      rcases List.mem_cons.1 hm with e | hm
      · cases e; simp
      · have : b0 ≠ b := fun e => hn.1 (by rw [e]; exact List.mem_map.2 ⟨_, hm, rfl⟩)
        simp only [Loc.heap.injEq, this, if_false]
        exact ih hn.2 (fun m v h b hb => hA m v h b (by simp [hb])) hm
  rw [get_append, h1]
  cases hq : get A (.heap b) with
  | none => rfl
  | some v => exact absurd rfl (hA _ _ (get_mem hq) b (List.mem_map.2 ⟨_, hm, rfl⟩))

/-- a state that ends in objects says what another one says that ends in them -/
theorem W_tail {A A' : St} {φ : Objs} {kk : List Item} (hA : ∀ m v, (m, v) ∈ A' → get A m = some v) (h : W X kk (A' ++ heapSt φ)) (hd : ∀ m v, (m, v) ∈ A → ∀ b ∈ φ.map (·.1), m ≠ .heap b) : W X kk (A ++ heapSt φ) := by
  intro G a w b cs hf hk hr R
  refine h G a w b cs hf hk hr (R.weaken fun m v hm => ?_)
  rw [get_append] at hm ⊢
  rcases Option.or_eq_some_iff.1 hm with hm | ⟨-, hm⟩
  · rw [hA m v (get_mem hm)]; rfl
  · obtain ⟨b, cs, rfl, rfl, hmem⟩ := get_heapSt hm
    cases hq : get A (.heap b) with
    | none => exact hm
    | some u => exact absurd rfl (hd _ _ (get_mem hq) b (List.mem_map.2 ⟨_, hmem, rfl⟩))

theorem objsIn_slot {φ : Objs} {n : Nat} {v : LV} (h : objsIn (get s) φ) : objsIn (get ((.slot n, v) :: s)) φ := fun b cs hm => by
  simp only [get, reduceCtorEq, if_false]; exact h b cs hm
theorem objsIn_loc {φ : Objs} {n : Nat} {v : LV} (h : objsIn (get s) φ) : objsIn (get ((.loc n, v) :: s)) φ := fun b cs hm => by
  simp only [get, reduceCtorEq, if_false]; exact h b cs hm
theorem objsIn_tok {φ : Objs} {n : Nat} {v : LV} (h : objsIn (get s) φ) : objsIn (get ((.tok n, v) :: s)) φ := fun b cs hm => by
  simp only [get, reduceCtorEq, if_false]; exact h b cs hm
theorem objsIn_heap {φ : Objs} {n : Nat} {v : LV} (hn : n ∉ φ.map (·.1)) (h : objsIn (get s) φ) : objsIn (get ((.heap n, v) :: s)) φ := fun b cs hm => by
  have : n ≠ b := fun e => hn (by rw [e]; exact List.mem_map.2 ⟨_, hm, rfl⟩)
  simp only [get, Loc.heap.injEq, this, if_false]; exact h b cs hm
theorem objsIn_self {φ : Objs} (hn : (φ.map (·.1)).Nodup) : objsIn (get (heapSt φ)) φ := objsIn_tail (A := []) hn (by simp)
theorem objsIn_one {φ : Objs} {b : Nat} {cs : List DV} (h : get s (.heap b) = some (.row (cs.map SV.v))) (h' : objsIn (get s) φ) : objsIn (get s) ((b, cs) :: φ) := by
  intro b' cs' hm
  rcases List.mem_cons.1 hm with e | hm
  · cases e; exact h
  · exact h' b' cs' hm

attribute [go_sem] get_heapSt_slot get_heapSt_loc get_heapSt_tok del_heapSt_slot del_heapSt_loc del_heapSt_tok toksOf_heapSt freshL_heapSt freshT_heapSt

end
end Go.Proofs.YtbmnlkfgkdallaaDoor.Lift
