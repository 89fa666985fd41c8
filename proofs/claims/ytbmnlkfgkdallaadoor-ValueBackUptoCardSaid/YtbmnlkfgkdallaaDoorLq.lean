/-
  Part Q of the small logic: a local variable whose address gets out; calls whose outcome a relation tells.
-/
import Derived.Test.YtbmnlkfgkdallaaDoorLp
namespace Go.Proofs.YtbmnlkfgkdallaaDoor.Lift
set_option linter.unusedSimpArgs false
set_option linter.unusedVariables false
set_option linter.unnecessarySimpa false
open Go

def exSV (k b : Nat) : SV → SV
  | .loc j off => if j = k then .v (.prim (.pointer (some ⟨b, off, none⟩))) else .loc j off
  | x => x
def exRow (k b : Nat) : List SV → List SV
  | [] => []
  | x :: r => exSV k b x :: exRow k b r
def exLV (k b : Nat) : LV → LV
  | .one x => .one (exSV k b x)
  | .row cs => .row (exRow k b cs)
  | .tk E n => .tk E n
  | .ob r => .ob r
def exLoc (k b : Nat) : Loc → Loc
  | .loc j => if j = k then .heap b else .loc j
  | l => l
/-- the variable k as an object at the block b -/
def expose (k b : Nat) : St → St
  | [] => []
  | (l, v) :: r => (exLoc k b l, exLV k b v) :: expose k b r

/-- b is the block of no object of the state -/
def newB (b : Nat) : St → Prop
  | [] => True
  | (.heap b', _) :: r => b' ≠ b ∧ newB b r
  | _ :: r => newB b r

theorem exRow_get (k b : Nat) (cs : List SV) : (exRow k b cs).length = cs.length ∧ ∀ i : Nat, (exRow k b cs)[i]? = cs[i]?.map (exSV k b) := by
  induction cs with
  | nil => simp [exRow]
  | cons x r ih =>
    refine ⟨by simp [exRow, ih.1], fun i => ?_⟩
    cases i with
    | zero => simp [exRow]
    | succ i => simp [exRow, ih.2]

theorem get_expose {k b : Nat} {s : St} {l : Loc} {v : LV} (h : get (expose k b s) l = some v) : ∃ l0 v0, get s l0 = some v0 ∧ exLoc k b l0 = l ∧ exLV k b v0 = v := by
  induction s with
  | nil => cases h
  | cons p r ih =>
    obtain ⟨m, u⟩ := p
    simp only [expose, get] at h
    split at h
    · rename_i hm; cases h; exact ⟨m, u, by simp [get], hm, rfl⟩
    · rename_i hm
      obtain ⟨l0, v0, h1, h2, h3⟩ := ih h
      refine ⟨l0, v0, ?_, h2, h3⟩
      have : m ≠ l0 := fun e => hm (by rw [e, h2])
      simp [get, this, h1]

theorem newB_of {b : Nat} {s : St} (h : ∀ cs, get s (.heap b) ≠ some cs) : newB b s := by
  induction s with
  | nil => trivial
  | cons p r ih =>
    obtain ⟨m, u⟩ := p
    cases m with
    | heap b' =>
      refine ⟨fun e => h u (by simp [get, e]), ih fun cs hc => ?_⟩
      by_cases e : b' = b
      · exact h u (by simp [get, e])
      · exact h cs (by simp [get, e, hc])
    | slot n => exact ih fun cs hc => h cs (by simp [get, hc])
    | loc n => exact ih fun cs hc => h cs (by simp [get, hc])
    | tok n => exact ih fun cs hc => h cs (by simp [get, hc])

section
variable {X : Ctx} {s : St}

theorem exSV_sound {G : Gh} {w : World} {k : Nat} {x : SV} {v : Value} (h : RSV G w x v) : RSV G w (exSV k (G.ν k) x) v := by
  cases x with
  | loc j off =>
    simp only [exSV]
    split
    · rename_i hj
      have h' : v = .pointer (some ⟨G.ν j, off, none⟩) := h
      rw [h', hj]
      exact .prim _ trivial
    · exact h
  | _ => exact h

theorem exSV_cell {k b : Nat} {x : SV} (h : x.isCell = true) : (exSV k b x).isCell = true := by
  cases x with
  | loc j off => simp only [exSV]; split <;> rfl
  | _ => exact h

theorem exLoc_blk {G : Gh} {k : Nat} {l : Loc} {v : LV} : blkOf G (exLoc k (G.ν k) l) (exLV k (G.ν k) v) = blkOf G l v := by
  cases l with
  | slot n => cases v <;> rfl
  | heap n => cases v <;> rfl
  | tok n => cases v <;> rfl
  | loc j =>
    simp only [exLoc]
    split
    · subst_vars; cases v <;> rfl
    · cases v <;> rfl

theorem Rel.expose {G : Gh} {a : Act} {w : World} (R : Rel X G s a w) (k : Nat) : Rel X G (expose k (G.ν k) s) a w := by
  have htok : ∀ l, (exLoc k (G.ν k) l).isTok = l.isTok := by
    intro l; cases l <;> simp only [exLoc] <;> first | rfl | (split <;> rfl)
  have hrow : ∀ b cs, BlkAt G w b cs → BlkAt G w b (exRow k (G.ν k) cs) := by
    rintro b cs ⟨c, e, h1, h2, h3⟩
    refine ⟨c, e, h1, by rw [(exRow_get _ _ _).1]; exact h2, fun i x hx => ?_⟩
    rw [(exRow_get _ _ _).2] at hx
    cases hq : cs[i]? with
    | none => simp [hq] at hx
    | some y =>
      simp [hq] at hx
      subst hx
      obtain ⟨q1, v, q2, q3⟩ := h3 i y hq
      exact ⟨exSV_cell q1, v, q2, exSV_sound q3⟩
  refine ⟨R.size, R.defers, R.ext, R.wf, R.nil, fun l v hg => ?_, fun l v l' v' b hg hg' hb hb' => ?_, fun l v b hg hb => ?_, fun l v b o hg hb ht => ?_⟩
  · obtain ⟨l0, v0, h1, rfl, rfl⟩ := get_expose hg
    have hh := R.holds _ _ h1
    cases l0 with
    | slot n => cases v0 with
      | one x => exact exSV_sound hh
      | _ => exact hh.elim
    | tok n => cases v0 with
      | tk E m => exact hh
      | _ => exact hh.elim
    | heap n => cases v0 with
      | row cs => exact hrow _ _ hh
      | ob r => exact hh
      | _ => exact hh.elim
    | loc j => cases v0 with
      | row cs =>
        simp only [exLoc]
        split
        · subst_vars; exact hrow _ _ hh
        · exact hrow _ _ hh
      | _ => exact hh.elim
  · obtain ⟨l0, v0, h1, rfl, rfl⟩ := get_expose hg
    obtain ⟨l1, v1, k1, rfl, rfl⟩ := get_expose hg'
    rw [exLoc_blk] at hb hb'
    rw [R.sep _ _ _ _ b h1 k1 hb hb']
  · obtain ⟨l0, v0, h1, rfl, rfl⟩ := get_expose hg
    rw [exLoc_blk] at hb
    rw [htok]
    exact R.own _ _ b h1 hb
  · obtain ⟨l0, v0, h1, rfl, rfl⟩ := get_expose hg
    rw [exLoc_blk] at hb
    rw [htok] at ht
    exact R.data _ _ b o h1 hb ht

theorem Rel.newB {G : Gh} {a : Act} {w : World} (R : Rel X G s a w) {k : Nat} {cs : List SV} (hk : get s (.loc k) = some (.row cs)) : newB (G.ν k) s := by
  refine newB_of fun v hv => ?_
  have hh := R.holds _ _ hv
  cases v with
  | row cs' =>
    have := R.sep _ _ _ _ (G.ν k) hk hv rfl rfl
    cases this
  | one x => exact hh.elim
  | tk E n => exact hh.elim
  | ob r =>
    have := R.sep _ _ _ _ (G.ν k) hk hv rfl rfl
    cases this

/-- A VARIABLE'S ADDRESS GETS OUT: from now on it is an object at some block -/
theorem W_expose (k : Nat) {kk : List Item} {cs : List SV} (hk : get s (.loc k) = some (.row cs)) (h : ∀ b, newB b s → W X kk (expose k b s)) : W X kk s :=
  fun G a w b cs hf hkk hr R => h (G.ν k) (R.newB hk) G a w b cs hf hkk hr (R.expose k)

theorem VL_expose (k : Nat) {ops : Array Oper} {l : List Oper} {K : St → Prop} {cs : List SV} (hk : get s (.loc k) = some (.row cs)) (h : ∀ b, newB b s → VL X ops l (expose k b s) K) : VL X ops l s K :=
  fun n hn G a w R => h (G.ν k) (R.newB hk) n hn G a w (R.expose k)

theorem vcK_expose (k : Nat) {esc : List Nat} {ops : Array Oper} {l : List Oper} {K : St → Prop} {o : Oper} {cs : List SV} (hs : stepS X esc s o = none) (hg : o.guard = none) (hk : get s (.loc k) = some (.row cs)) (h : ∀ b, newB b s → vc X esc ops (o :: l) (expose k b s) K) : vcK X esc ops l K o s (stepS X esc s o) := by
  rw [hs]
  exact VL_expose k hk fun b hb => vc_sound (h b hb)

theorem VL_op {ops : Array Oper} {o : Oper} {l : List Oper} {K : St → Prop} {s' : St} (ho : OpOK X ops o s s') (h : VL X ops l s' K) : VL X ops (o :: l) s K := by
  intro n hn G a w R
  obtain ⟨h1, h2⟩ := drop_cons hn
  simp only [List.length_cons, List.range'_succ, wpOpsIn, h1]
  have := ho G a w R _ (Nrm X K) fun G' a' w' R' => h (n + 1) h2 G' a' w' R'
  split
  · rename_i hw; simp only [hw, if_true] at this; exact this
  · rename_i hw; simp only [hw] at this; exact ⟨fun _ _ => trivial, this⟩

/-- a call that is guarded -/
theorem vcK_callG {esc : List Nat} {ops : Array Oper} {l : List Oper} {K : St → Prop} {d : Tmp} {f : FuncId} {args : Array Operand} {ats : Array TypeId} {ty : TypeId} {pos : String} {af : Array Edge} {j dj : Nat} {want : Bool} {P : Program} {gl : Globs} (hP : X.P = P) (hgl : X.gl = gl)
    {ds ds' : List DV} {φ φ' : Objs} {r : DV} (hc : Con1 P gl f ds' φ r φ') (hargs : evlDs X (get s) args.toList = some ds) (hds : ds = ds') (hφ : objsIn (get s) φ) (hnd : (φ.map (·.1)).Nodup) (hdn : d < X.n)
    (hj : gsl ops j = some dj) (hjn : dj < X.n) (hb : get s (.slot dj) = some (.one (.v (.prim (.bool want)))))
    (h : vc X esc ops l (addObjs (delObjs (upd s (.slot d) (.one (.v r))) φ) φ') K) :
    vcK X esc ops l K ⟨some d, .call { callee := .value (.func f), args := args, argTypes := ats }, ty, pos, af, some (j, want)⟩ s (stepS X esc s ⟨some d, .call { callee := .value (.func f), args := args, argTypes := ats }, ty, pos, af, some (j, want)⟩) := by
  subst hds
  have e : stepS X esc s ⟨some d, .call { callee := .value (.func f), args := args, argTypes := ats }, ty, pos, af, some (j, want)⟩ = none := by
    simp only [stepS, isAppend, pval, pcall, put1]
    split <;> rfl
  rw [e]
  refine VL_op (opOK_of (.inr ⟨j, dj, want, rfl, hj, hjn, hb⟩) (StepOK_call1 (o := ⟨some d, .call { callee := .value (.func f), args := args, argTypes := ats }, ty, pos, af, some (j, want)⟩) rfl hargs (by rw [hP, hgl]; exact hc) hφ hnd rfl hdn)) (vc_sound h)

theorem vcdC_callG {esc : List Nat} {ops : Array Oper} {s0 : St} {K : St → Prop} {l : List Oper} {k : St → List Ev → Prop} {ev : List Ev} {fp wr : List Loc} {d : Tmp} {f : FuncId} {args : Array Operand} {ats : Array TypeId} {ty : TypeId} {pos : String} {af : Array Edge} {j dj : Nat} {want : Bool} {s1 : St}
    (hk : ∀ s ev, k s ev → VD X ops s0 l s ev K) {P : Program} {gl : Globs} (hP : X.P = P) (hgl : X.gl = gl) {ds ds' : List DV} {φ φ' : Objs} {r : DV} (hc : Con1 P gl f ds' φ r φ') (hargs : evlDs X (get s) args.toList = some ds) (hds : ds = ds') (hφ : objsIn (get s) φ) (hnd : (φ.map (·.1)).Nodup) (hdn : d < X.n)
    (hj : gsl ops j = some dj) (hjn : dj < X.n) (hb : get s (.slot dj) = some (.one (.v (.prim (.bool want)))))
    (h : vcdD k ev s (.slot dj :: (slotsOf args.toList ++ heapL φ)) [] ((.slot d, some (.one (.v r))) :: (delE φ ++ addE φ'))) :
    vcdC X ops s0 l K k ⟨some d, .call { callee := .value (.func f), args := args, argTypes := ats }, ty, pos, af, some (j, want)⟩ ev s fp wr (stepS X esc s1 ⟨some d, .call { callee := .value (.func f), args := args, argTypes := ats }, ty, pos, af, some (j, want)⟩) := by
  subst hds
  have e : stepS X esc s1 ⟨some d, .call { callee := .value (.func f), args := args, argTypes := ats }, ty, pos, af, some (j, want)⟩ = none := by
    simp only [stepS, isAppend, pval, pcall, put1]
    split <;> rfl
  rw [e]
  show VD X ops s0 _ s ev K
  refine VD_step ⟨.slot dj :: (slotsOf args.toList ++ heapL φ), _, []⟩ (fun s' hs _ => opOK_of (.inr ⟨j, dj, want, rfl, hj, hjn, hs _ _ (get_restr_mem (by simp) hb)⟩) ?_) (hk _ _ h)
  refine (StepOK_call1 (o := ⟨some d, .call { callee := .value (.func f), args := args, argTypes := ats }, ty, pos, af, some (j, want)⟩) rfl (evlDs_restr hs (fun m hm => List.mem_cons_of_mem _ (fp_mem_app hm)) hargs) (by rw [hP, hgl]; exact hc) ?_ hnd rfl hdn).congr fun m => ?_
  · intro b cs hm
    exact hs _ _ (get_restr_mem (List.mem_cons_of_mem _ (List.mem_append.2 (.inr (heapL_mem hm)))) (hφ b cs hm))
  · simp only [apply, apply_append, apply_delE, apply_addE]

/-- a call whose outcome a relation tells -/
theorem vcK_callR {esc : List Nat} {ops : Array Oper} {l : List Oper} {K : St → Prop} {d : Tmp} {f : FuncId} {args : Array Operand} {ats : Array TypeId} {ty : TypeId} {pos : String} {af : Array Edge} {P : Program} {gl : Globs} (hP : X.P = P) (hgl : X.gl = gl)
    {ds ds' : List DV} {φ : Objs} {R : DV → Objs → Prop} (hc : Con P gl f ds' φ R) (hargs : evlDs X (get s) args.toList = some ds) (hds : ds = ds') (hφ : objsIn (get s) φ) (hnd : (φ.map (·.1)).Nodup) (hdn : d < X.n)
    (h : ∀ r φ', R r φ' → (∀ b ∈ φ'.map (·.1), b ∈ φ.map (·.1) ∨ newB b s) → vc X esc ops l (addObjs (delObjs (upd s (.slot d) (.one (.v r))) φ) φ') K) :
    vcK X esc ops l K ⟨some d, .call { callee := .value (.func f), args := args, argTypes := ats }, ty, pos, af, none⟩ s (stepS X esc s ⟨some d, .call { callee := .value (.func f), args := args, argTypes := ats }, ty, pos, af, none⟩) := by
  subst hds
  have e : stepS X esc s ⟨some d, .call { callee := .value (.func f), args := args, argTypes := ats }, ty, pos, af, none⟩ = none := by
    simp only [stepS, isAppend, pval, pcall, put1]
    split <;> rfl
  rw [e]
  intro n hn G a w R0
  obtain ⟨h1, h2⟩ := drop_cons hn
  simp only [List.length_cons, List.range'_succ, wpOpsIn, h1, Region.wanted, if_true]
  refine (StepCall (o := ⟨some d, .call { callee := .value (.func f), args := args, argTypes := ats }, ty, pos, af, none⟩) (fi := #[]) (ca := #[]) (ds := ds) rfl rfl ⟨ds, hargs, by simp⟩ (by simp) (by rw [hP, hgl]; exact hc) hφ hnd rfl hdn R0 _ _ fun r φ' G' a' w' hR hids R' => ?_)
  refine vc_sound (h r φ' hR fun b hb => (hids b hb).imp id fun hh => newB_of fun v hv => ?_) (n + 1) h2 G' a' w' R'
  have hho := R0.holds _ _ hv
  cases v with
  | row cs => exact hh _ _ hv rfl
  | ob r => exact hh _ _ hv rfl
  | one x => exact hho.elim
  | tk E n => exact hho.elim

/-- a call of a function value -/
theorem vcK_callV {esc : List Nat} {ops : Array Oper} {l : List Oper} {K : St → Prop} {d : Tmp} {x : Operand} {f : FuncId} {fi ca : Array Value} {args : Array Operand} {ats : Array TypeId} {ty : TypeId} {pos : String} {af : Array Edge} {P : Program} {gl : Globs} (hP : X.P = P) (hgl : X.gl = gl)
    (hx : evl X (get s) x = some (.v (.prim (.func (.func f) fi ca)))) (hprim : ∀ v ∈ fi.toList ++ ca.toList, primOK v)
    {ds ds' : List DV} {φ φ' : Objs} {r : DV} (hc : Con1 P gl f ds' φ r φ') (hargs : evlDs X (get s) args.toList = some ds) (hds : fi.toList.map DV.prim ++ ds ++ ca.toList.map DV.prim = ds') (hφ : objsIn (get s) φ) (hnd : (φ.map (·.1)).Nodup) (hdn : d < X.n)
    (h : vc X esc ops l (addObjs (delObjs (upd s (.slot d) (.one (.v r))) φ) φ') K) :
    vcK X esc ops l K ⟨some d, .call { callee := .value x, args := args, argTypes := ats }, ty, pos, af, none⟩ s (stepS X esc s ⟨some d, .call { callee := .value x, args := args, argTypes := ats }, ty, pos, af, none⟩) := by
  subst hds
  have e : stepS X esc s ⟨some d, .call { callee := .value x, args := args, argTypes := ats }, ty, pos, af, none⟩ = none := by
    simp only [stepS, isAppend, pval, pcall, put1]
    split <;> rfl
  rw [e]
  refine VL_op (opOK_of (.inl rfl) (s' := addObjs (delObjs (upd s (.slot d) (.one (.v r))) φ) φ') ?_) (vc_sound h)
  intro G a w R0 next Q hK
  refine StepCall (o := ⟨some d, .call { callee := .value x, args := args, argTypes := ats }, ty, pos, af, none⟩) (ds := fi.toList.map DV.prim ++ ds ++ ca.toList.map DV.prim) rfl hx ⟨ds, hargs, rfl⟩ hprim (by rw [hP, hgl]; exact hc) hφ hnd rfl hdn R0 next Q ?_
  rintro r' ψ G' a' w' ⟨rfl, rfl⟩ _ R'
  exact hK G' a' w' R'

/-- a call of a function value that holds nothing -/
theorem vcK_callF {esc : List Nat} {ops : Array Oper} {l : List Oper} {K : St → Prop} {d : Tmp} {x : Operand} {f : FuncId} {args : Array Operand} {ats : Array TypeId} {ty : TypeId} {pos : String} {af : Array Edge} {P : Program} {gl : Globs} (hP : X.P = P) (hgl : X.gl = gl)
    {ds ds' : List DV} {φ φ' : Objs} {r : DV} (hc : Con1 P gl f ds' φ r φ') (hx : evl X (get s) x = some (.v (.prim (.func (.func f) #[] #[])))) (hargs : evlDs X (get s) args.toList = some ds) (hds : ds = ds') (hφ : objsIn (get s) φ) (hnd : (φ.map (·.1)).Nodup) (hdn : d < X.n)
    (h : vc X esc ops l (addObjs (delObjs (upd s (.slot d) (.one (.v r))) φ) φ') K) :
    vcK X esc ops l K ⟨some d, .call { callee := .value x, args := args, argTypes := ats }, ty, pos, af, none⟩ s (stepS X esc s ⟨some d, .call { callee := .value x, args := args, argTypes := ats }, ty, pos, af, none⟩) :=
  vcK_callV hP hgl hx (by simp) hc hargs (by simpa using hds) hφ hnd hdn h

/-- several ways lead to one state: what follows is shown once -/
theorem W_cut {c : Code} {kk : List Item} (S : St) (h1 : W X kk S → W X (.code c :: kk) s) (h2 : W X kk S) : W X (.code c :: kk) s := h1 h2

/-- a loop over a list, with what is known of those that are done -/
theorem W_listI {α : Type} (L : List α) (I : List α → Prop) (S : List α → List α → St) {c : Code} {kk : List Item} (h0 : I []) (round : ∀ done x rest, L = done ++ x :: rest → L[done.length]? = some x → I done → (I (done ++ [x]) → W X (.inLoop c :: kk) (S (done ++ [x]) rest)) → W X (.code c :: .inLoop c :: kk) (S done (x :: rest))) (last : I L → W X (.code c :: .inLoop c :: kk) (S L [])) :
    W X (.code (.loop c) :: kk) (S [] L) := by
  have key := W_rounds (X := X) (k := kk) (c := c) (fun i : List α × List α => L = i.1 ++ i.2 ∧ I i.1) (fun i => S i.1 i.2) (fun i => i.2.length) ([], L) ⟨rfl, h0⟩
  refine key fun ⟨done, rest⟩ hI ih => ?_
  obtain ⟨hI, hJ⟩ := hI
  cases rest with
  | nil =>
    simp only [List.append_nil] at hI
    subst hI
    exact last hJ
  | cons x rest =>
    exact round done x rest hI (by rw [hI]; simp) hJ (fun hj => ih (done ++ [x], rest) ⟨by simp [hI], hj⟩ (by simp))

theorem W_cutP {c : Code} {kk : List Item} (E : Prop) (S : St) (h1 : (E → W X kk S) → W X (.code c :: kk) s) (h2 : E → W X kk S) : W X (.code c :: kk) s := h1 h2

/-- the ends of a function, with objects; `w`: the returned value, `φ`: the objects as they stand -/
theorem W_retR {P : Program} (hP : X.P = P) {f : FuncId} {fn : Func} (hf : X.f = f) (hfn : X.fn = fn) {kk : List Item} (r : DV) (φ : Objs) (h : P.funcs[f]? = some fn ∧ retD X (get s) fn.results.toList = some r) (hφ : objsIn (get s) φ) (hnd : (φ.map (·.1)).Nodup) (hR : X.R r φ) (hmd : X.md = .fn) : W X (.code .ret :: kk) s := by
  subst hP hf hfn
  exact W_ret hmd h.1 h.2 hφ hnd hR
theorem W_endR {P : Program} (hP : X.P = P) {f : FuncId} {fn : Func} (hf : X.f = f) (hfn : X.fn = fn) (r : DV) (φ : Objs) (h : P.funcs[f]? = some fn ∧ retD X (get s) fn.results.toList = some r) (hφ : objsIn (get s) φ) (hnd : (φ.map (·.1)).Nodup) (hR : X.R r φ) (hmd : X.md = .fn) : W X [] s := by
  subst hP hf hfn
  exact W_end hmd h.1 h.2 hφ hnd hR

end

theorem exSV_same (k b off : Nat) : exSV k b (.loc k off) = .v (.prim (.pointer (some ⟨b, off, none⟩))) := by simp [exSV]
theorem exSV_other {k j : Nat} (b off : Nat) (h : j ≠ k) : exSV k b (.loc j off) = .loc j off := by simp [exSV, h]
theorem exSV_v (k b : Nat) (x : DV) : exSV k b (.v x) = .v x := rfl
theorem exSV_dp (k b : Nat) (e : List (List DV)) (i o : Nat) : exSV k b (.dp e i o) = .dp e i o := rfl
theorem exSV_ag (k b : Nat) (e : List DV) (n : List Nat) : exSV k b (.ag e n) = .ag e n := rfl
theorem exSV_own (k b t : Nat) (e : List (List DV)) : exSV k b (.own t e) = .own t e := rfl
theorem exRow_nil (k b : Nat) : exRow k b [] = [] := rfl
theorem exRow_cons (k b : Nat) (x : SV) (r : List SV) : exRow k b (x :: r) = exSV k b x :: exRow k b r := rfl
theorem expose_nil (k b : Nat) : expose k b [] = [] := rfl
theorem expose_slot (k b n : Nat) (x : SV) (r : St) : expose k b ((.slot n, .one x) :: r) = (.slot n, .one (exSV k b x)) :: expose k b r := rfl
theorem expose_same (k b : Nat) (cs : List SV) (r : St) : expose k b ((.loc k, .row cs) :: r) = (.heap b, .row (exRow k b cs)) :: expose k b r := by simp [expose, exLoc, exLV]
theorem expose_other {k j : Nat} (b : Nat) (cs : List SV) (r : St) (h : j ≠ k) : expose k b ((.loc j, .row cs) :: r) = (.loc j, .row (exRow k b cs)) :: expose k b r := by simp [expose, exLoc, exLV, h]
theorem expose_heap (k b n : Nat) (cs : List SV) (r : St) : expose k b ((.heap n, .row cs) :: r) = (.heap n, .row (exRow k b cs)) :: expose k b r := rfl
theorem expose_ob (k b n : Nat) (q : Loop) (r : St) : expose k b ((.heap n, .ob q) :: r) = (.heap n, .ob q) :: expose k b r := rfl
theorem expose_tok (k b t E n : Nat) (r : St) : expose k b ((.tok t, .tk E n) :: r) = (.tok t, .tk E n) :: expose k b r := rfl
theorem newB_nil (b : Nat) : newB b [] = True := rfl
theorem newB_heap (b n : Nat) (v : LV) (r : St) : newB b ((.heap n, v) :: r) = (n ≠ b ∧ newB b r) := rfl
theorem newB_slot (b n : Nat) (v : LV) (r : St) : newB b ((.slot n, v) :: r) = newB b r := rfl
theorem newB_loc (b n : Nat) (v : LV) (r : St) : newB b ((.loc n, v) :: r) = newB b r := rfl
theorem newB_tok (b n : Nat) (v : LV) (r : St) : newB b ((.tok n, v) :: r) = newB b r := rfl
attribute [go_sem] expose_ob exSV_same exSV_other exSV_v exSV_dp exSV_ag exSV_own exRow_nil exRow_cons expose_nil expose_slot expose_same expose_other expose_heap expose_tok newB_nil newB_heap newB_slot newB_loc newB_tok

end Go.Proofs.YtbmnlkfgkdallaaDoor.Lift
