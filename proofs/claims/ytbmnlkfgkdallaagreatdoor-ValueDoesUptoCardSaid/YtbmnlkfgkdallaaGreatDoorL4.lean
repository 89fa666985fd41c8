/-
  Part Q of the small logic: a local variable whose address gets out; calls whose outcome a relation tells.
-/
import Derived.Test.YtbmnlkfgkdallaaGreatDoorL3
namespace Go.Proofs.YtbmnlkfgkdallaaGreatDoor.Lift
set_option linter.unusedSimpArgs false
set_option linter.unusedVariables false
set_option linter.unnecessarySimpa false
open Go

def exSV (k b : Nat) : SV → SV
  | .loc j off => if j = k then .v (.prim (.pointer (some ⟨b, off, none⟩))) else .loc j off
  | x => x
def exRow (k b : Nat) : List SV → List SV
  | [] => []
  | x :: r => exSV k b x :: exRow k b r
def exLV (k b : Nat) : LV → LV
  | .one x => .one (exSV k b x)
  | .row cs => .row (exRow k b cs)
  | .tk E n => .tk E n
  | .ob r => .ob r
def exLoc (k b : Nat) : Loc → Loc
  | .loc j => if j = k then .heap b else .loc j
  | l => l
/-- the variable k as an object at the block b -/
def expose (k b : Nat) : St → St
  | [] => []
  | (l, v) :: r => (exLoc k b l, exLV k b v) :: expose k b r

/-- b is the block of no object of the state -/
def newB (b : Nat) : St → Prop
  | [] => True
  | (.heap b', _) :: r => b' ≠ b ∧ newB b r
  | _ :: r => newB b r

theorem exRow_get (k b : Nat) (cs : List SV) : (exRow k b cs).length = cs.length ∧ ∀ i : Nat, (exRow k b cs)[i]? = cs[i]?.map (exSV k b) := by
  induction cs with
  | nil => simp [exRow]
  | cons x r ih =>
    refine ⟨by simp [exRow, ih.1], fun i => ?_⟩
    cases i with
    | zero => simp [exRow]
    | succ i => simp [exRow, ih.2]

theorem get_expose {k b : Nat} {s : St} {l : Loc} {v : LV} (h : get (expose k b s) l = some v) : ∃ l0 v0, get s l0 = some v0 ∧ exLoc k b l0 = l ∧ exLV k b v0 = v := by
  induction s with
  | nil => cases h
  | cons p r ih =>
    obtain ⟨m, u⟩ := p
    simp only [expose, get] at h
    split at h
    · rename_i hm; cases h; exact ⟨m, u, by simp [get], hm, rfl⟩
    · rename_i hm
      obtain ⟨l0, v0, h1, h2, h3⟩ := ih h
      refine ⟨l0, v0, ?_, h2, h3⟩
      have : m ≠ l0 := fun e => hm (by rw [e, h2])
      simp [get, this, h1]

theorem newB_of {b : Nat} {s : St} (h : ∀ cs, get s (.heap b) ≠ some cs) : newB b s := by
  induction s with
  | nil => trivial
  | cons p r ih =>
    obtain ⟨m, u⟩ := p
    cases m with
    | heap b' =>
      refine ⟨fun e => h u (by simp [get, e]), ih fun cs hc => ?_⟩
      by_cases e : b' = b
      · exact h u (by simp [get, e])
      · exact h cs (by simp [get, e, hc])
    | slot n => exact ih fun cs hc => h cs (by simp [get, hc])
    | loc n => exact ih fun cs hc => h cs (by simp [get, hc])
    | tok n => exact ih fun cs hc => h cs (by simp [get, hc])

section
variable {X : Ctx} {s : St}

theorem exSV_sound {G : Gh} {w : World} {k : Nat} {x : SV} {v : Value} (h : RSV G w x v) : RSV G w (exSV k (G.ν k) x) v := by
  cases x with
  | loc j off =>
    simp only [exSV]
    split
    · rename_i hj
      have h' : v = .pointer (some ⟨G.ν j, off, none⟩) := h
      rw [h', hj]
      exact .prim _ trivial
    · exact h
  | _ => exact h

theorem exSV_cell {k b : Nat} {x : SV} (h : x.isCell = true) : (exSV k b x).isCell = true := by
  cases x with
  | loc j off => simp only [exSV]; split <;> rfl
  | _ => exact h

theorem exLoc_blk {G : Gh} {k : Nat} {l : Loc} {v : LV} : blkOf G (exLoc k (G.ν k) l) (exLV k (G.ν k) v) = blkOf G l v := by
  cases l with
  | slot n => cases v <;> rfl
  | heap n => cases v <;> rfl
  | tok n => cases v <;> rfl
  | loc j =>
    simp only [exLoc]
    split
    · subst_vars; cases v <;> rfl
    · cases v <;> rfl

theorem Rel.expose {G : Gh} {a : Act} {w : World} (R : Rel X G s a w) (k : Nat) : Rel X G (expose k (G.ν k) s) a w := by
  have htok : ∀ l, (exLoc k (G.ν k) l).isTok = l.isTok := by
    intro l; cases l <;> simp only [exLoc] <;> first | rfl | (split <;> rfl)
  have hrow : ∀ b cs, BlkAt G w b cs → BlkAt G w b (exRow k (G.ν k) cs) := by
    rintro b cs ⟨c, e, h1, h2, h3⟩
    refine ⟨c, e, h1, by rw [(exRow_get _ _ _).1]; exact h2, fun i x hx => ?_⟩
    rw [(exRow_get _ _ _).2] at hx
    cases hq : cs[i]? with
    | none => simp [hq] at hx
    | some y =>
      simp [hq] at hx
      subst hx
      obtain ⟨q1, v, q2, q3⟩ := h3 i y hq
      exact ⟨exSV_cell q1, v, q2, exSV_sound q3⟩
  refine ⟨R.size, R.defers, R.ext, R.wf, R.nil, fun l v hg => ?_, fun l v l' v' b hg hg' hb hb' => ?_, fun l v b hg hb => ?_, fun l v b o hg hb ht => ?_⟩
  · obtain ⟨l0, v0, h1, rfl, rfl⟩ := get_expose hg
    have hh := R.holds _ _ h1
    cases l0 with
    | slot n => cases v0 with
      | one x => exact exSV_sound hh
      | _ => exact hh.elim
    | tok n => cases v0 with
      | tk E m => exact hh
      | _ => exact hh.elim
    | heap n => cases v0 with
      | row cs => exact hrow _ _ hh
      | ob r => exact hh
      | _ => exact hh.elim
    | loc j => cases v0 with
      | row cs =>
        simp only [exLoc]
        split
        · subst_vars; exact hrow _ _ hh
        · exact hrow _ _ hh
      | _ => exact hh.elim
  · obtain ⟨l0, v0, h1, rfl, rfl⟩ := get_expose hg
    obtain ⟨l1, v1, k1, rfl, rfl⟩ := get_expose hg'
    rw [exLoc_blk] at hb hb'
    rw [R.sep _ _ _ _ b h1 k1 hb hb']
  · obtain ⟨l0, v0, h1, rfl, rfl⟩ := get_expose hg
    rw [exLoc_blk] at hb
    rw [htok]
    exact R.own _ _ b h1 hb
  · obtain ⟨l0, v0, h1, rfl, rfl⟩ := get_expose hg
    rw [exLoc_blk] at hb
    rw [htok] at ht
    exact R.data _ _ b o h1 hb ht

theorem Rel.newB {G : Gh} {a : Act} {w : World} (R : Rel X G s a w) {k : Nat} {cs : List SV} (hk : get s (.loc k) = some (.row cs)) : newB (G.ν k) s := by
  refine newB_of fun v hv => ?_
  have hh := R.holds _ _ hv
  cases v with
  | row cs' =>
    have := R.sep _ _ _ _ (G.ν k) hk hv rfl rfl
    cases this
  | one x => exact hh.elim
  | tk E n => exact hh.elim
  | ob r =>
    have := R.sep _ _ _ _ (G.ν k) hk hv rfl rfl
    cases this

/-- A VARIABLE'S ADDRESS GETS OUT: from now on it is an object at some block -/
theorem W_expose (k : Nat) {kk : List Item} {cs : List SV} (hk : get s (.loc k) = some (.row cs)) (h : ∀ b, newB b s → W X kk (expose k b s)) : W X kk s :=
  fun G a w b cs hf hkk hr R => h (G.ν k) (R.newB hk) G a w b cs hf hkk hr (R.expose k)

theorem VL_expose (k : Nat) {ops : Array Oper} {l : List Oper} {K : St → Prop} {cs : List SV} (hk : get s (.loc k) = some (.row cs)) (h : ∀ b, newB b s → VL X ops l (expose k b s) K) : VL X ops l s K :=
  fun n hn G a w R => h (G.ν k) (R.newB hk) n hn G a w (R.expose k)

theorem vcK_expose (k : Nat) {esc : List Nat} {ops : Array Oper} {l : List Oper} {K : St → Prop} {o : Oper} {cs : List SV} (hs : stepS X esc s o = none) (hg : o.guard = none) (hk : get s (.loc k) = some (.row cs)) (h : ∀ b, newB b s → vc X esc ops (o :: l) (expose k b s) K) : vcK X esc ops l K o s (stepS X esc s o) := by
  rw [hs]
  exact VL_expose k hk fun b hb => vc_sound (h b hb)

theorem VL_op {ops : Array Oper} {o : Oper} {l : List Oper} {K : St → Prop} {s' : St} (ho : OpOK X ops o s s') (h : VL X ops l s' K) : VL X ops (o :: l) s K := by
  intro n hn G a w R
  obtain ⟨h1, h2⟩ := drop_cons hn
  simp only [List.length_cons, List.range'_succ, wpOpsIn, h1]
  have := ho G a w R _ (Nrm X K) fun G' a' w' R' => h (n + 1) h2 G' a' w' R'
  split
  · rename_i hw; simp only [hw, if_true] at this; exact this
  · rename_i hw; simp only [hw] at this; exact ⟨fun _ _ => trivial, this⟩

/-- a call that is guarded -/
theorem vcK_callG {esc : List Nat} {ops : Array Oper} {l : List Oper} {K : St → Prop} {d : Tmp} {f : FuncId} {args : Array Operand} {ats : Array TypeId} {ty : TypeId} {pos : String} {af : Array Edge} {j dj : Nat} {want : Bool} {P : Program} {gl : Globs} (hP : X.P = P) (hgl : X.gl = gl)
    {ds ds' : List DV} {φ φ' : Objs} {r : DV} (hc : Con1 P gl f ds' φ r φ') (hargs : evlDs X (get s) args.toList = some ds) (hds : ds = ds') (hφ : objsIn (get s) φ) (hnd : (φ.map (·.1)).Nodup) (hdn : d < X.n)
    (hj : gsl ops j = some dj) (hjn : dj < X.n) (hb : get s (.slot dj) = some (.one (.v (.prim (.bool want)))))
    (h : vc X esc ops l (addObjs (delObjs (upd s (.slot d) (.one (.v r))) φ) φ') K) :
    vcK X esc ops l K ⟨some d, .call { callee := .value (.func f), args := args, argTypes := ats }, ty, pos, af, some (j, want)⟩ s (stepS X esc s ⟨some d, .call { callee := .value (.func f), args := args, argTypes := ats }, ty, pos, af, some (j, want)⟩) := by
  subst hds
  have e : stepS X esc s ⟨some d, .call { callee := .value (.func f), args := args, argTypes := ats }, ty, pos, af, some (j, want)⟩ = none := by
    simp only [stepS, isAppend, pval, pcall, put1]
    split <;> rfl
  rw [e]
  refine VL_op (opOK_of (.inr ⟨j, dj, want, rfl, hj, hjn, hb⟩) (StepOK_call1 (o := ⟨some d, .call { callee := .value (.func f), args := args, argTypes := ats }, ty, pos, af, some (j, want)⟩) rfl hargs (by rw [hP, hgl]; exact hc) hφ hnd rfl hdn)) (vc_sound h)

theorem vcdC_callG {esc : List Nat} {ops : Array Oper} {s0 : St} {K : St → Prop} {l : List Oper} {k : St → List Ev → Prop} {ev : List Ev} {fp wr : List Loc} {d : Tmp} {f : FuncId} {args : Array Operand} {ats : Array TypeId} {ty : TypeId} {pos : String} {af : Array Edge} {j dj : Nat} {want : Bool} {s1 : St}
    (hk : ∀ s ev, k s ev → VD X ops s0 l s ev K) {P : Program} {gl : Globs} (hP : X.P = P) (hgl : X.gl = gl) {ds ds' : List DV} {φ φ' : Objs} {r : DV} (hc : Con1 P gl f ds' φ r φ') (hargs : evlDs X (get s) args.toList = some ds) (hds : ds = ds') (hφ : objsIn (get s) φ) (hnd : (φ.map (·.1)).Nodup) (hdn : d < X.n)
    (hj : gsl ops j = some dj) (hjn : dj < X.n) (hb : get s (.slot dj) = some (.one (.v (.prim (.bool want)))))
    (h : vcdD k ev s (.slot dj :: (slotsOf args.toList ++ heapL φ)) [] ((.slot d, some (.one (.v r))) :: (delE φ ++ addE φ'))) :
    vcdC X ops s0 l K k ⟨some d, .call { callee := .value (.func f), args := args, argTypes := ats }, ty, pos, af, some (j, want)⟩ ev s fp wr (stepS X esc s1 ⟨some d, .call { callee := .value (.func f), args := args, argTypes := ats }, ty, pos, af, some (j, want)⟩) := by
  subst hds
  have e : stepS X esc s1 ⟨some d, .call { callee := .value (.func f), args := args, argTypes := ats }, ty, pos, af, some (j, want)⟩ = none := by
    simp only [stepS, isAppend, pval, pcall, put1]
    split <;> rfl
  rw [e]
  show VD X ops s0 _ s ev K
  refine VD_step ⟨.slot dj :: (slotsOf args.toList ++ heapL φ), _, []⟩ (fun s' hs _ => opOK_of (.inr ⟨j, dj, want, rfl, hj, hjn, hs _ _ (get_restr_mem (by simp) hb)⟩) ?_) (hk _ _ h)
  refine (StepOK_call1 (o := ⟨some d, .call { callee := .value (.func f), args := args, argTypes := ats }, ty, pos, af, some (j, want)⟩) rfl (evlDs_restr hs (fun m hm => List.mem_cons_of_mem _ (fp_mem_app hm)) hargs) (by rw [hP, hgl]; exact hc) ?_ hnd rfl hdn).congr fun m => ?_
  · intro b cs hm
    exact hs _ _ (get_restr_mem (List.mem_cons_of_mem _ (List.mem_append.2 (.inr (heapL_mem hm)))) (hφ b cs hm))
  · simp only [apply, apply_append, apply_delE, apply_addE]

/-- a call whose outcome a relation tells -/
theorem vcK_callR {esc : List Nat} {ops : Array Oper} {l : List Oper} {K : St → Prop} {d : Tmp} {f : FuncId} {args : Array Operand} {ats : Array TypeId} {ty : TypeId} {pos : String} {af : Array Edge} {P : Program} {gl : Globs} (hP : X.P = P) (hgl : X.gl = gl)
    {ds ds' : List DV} {φ : Objs} {R : DV → Objs → Prop} (hc : Con P gl f ds' φ R) (hargs : evlDs X (get s) args.toList = some ds) (hds : ds = ds') (hφ : objsIn (get s) φ) (hnd : (φ.map (·.1)).Nodup) (hdn : d < X.n)
    (h : ∀ r φ', R r φ' → (∀ b ∈ φ'.map (·.1), b ∈ φ.map (·.1) ∨ newB b s) → vc X esc ops l (addObjs (delObjs (upd s (.slot d) (.one (.v r))) φ) φ') K) :
    vcK X esc ops l K ⟨some d, .call { callee := .value (.func f), args := args, argTypes := ats }, ty, pos, af, none⟩ s (stepS X esc s ⟨some d, .call { callee := .value (.func f), args := args, argTypes := ats }, ty, pos, af, none⟩) := by
  subst hds
  have e : stepS X esc s ⟨some d, .call { callee := .value (.func f), args := args, argTypes := ats }, ty, pos, af, none⟩ = none := by
    simp only [stepS, isAppend, pval, pcall, put1]
    split <;> rfl
  rw [e]
  intro n hn G a w R0
  obtain ⟨h1, h2⟩ := drop_cons hn
  simp only [List.length_cons, List.range'_succ, wpOpsIn, h1, Region.wanted, if_true]
  refine (StepCall (o := ⟨some d, .call { callee := .value (.func f), args := args, argTypes := ats }, ty, pos, af, none⟩) (fi := #[]) (ca := #[]) (ds := ds) rfl rfl ⟨ds, hargs, by simp⟩ (by simp) (by rw [hP, hgl]; exact hc) hφ hnd rfl hdn R0 _ _ fun r φ' G' a' w' hR hids R' => ?_)
  refine vc_sound (h r φ' hR fun b hb => (hids b hb).imp id fun hh => newB_of fun v hv => ?_) (n + 1) h2 G' a' w' R'
  have hho := R0.holds _ _ hv
  cases v with
  | row cs => exact hh _ _ hv rfl
  | ob r => exact hh _ _ hv rfl
  | one x => exact hho.elim
  | tk E n => exact hho.elim

/-- a call of a function value -/
theorem vcK_callV {esc : List Nat} {ops : Array Oper} {l : List Oper} {K : St → Prop} {d : Tmp} {x : Operand} {f : FuncId} {fi ca : Array Value} {args : Array Operand} {ats : Array TypeId} {ty : TypeId} {pos : String} {af : Array Edge} {P : Program} {gl : Globs} (hP : X.P = P) (hgl : X.gl = gl)
    (hx : evl X (get s) x = some (.v (.prim (.func (.func f) fi ca)))) (hprim : ∀ v ∈ fi.toList ++ ca.toList, primOK v)
    {ds ds' : List DV} {φ φ' : Objs} {r : DV} (hc : Con1 P gl f ds' φ r φ') (hargs : evlDs X (get s) args.toList = some ds) (hds : fi.toList.map DV.prim ++ ds ++ ca.toList.map DV.prim = ds') (hφ : objsIn (get s) φ) (hnd : (φ.map (·.1)).Nodup) (hdn : d < X.n)
    (h : vc X esc ops l (addObjs (delObjs (upd s (.slot d) (.one (.v r))) φ) φ') K) :
    vcK X esc ops l K ⟨some d, .call { callee := .value x, args := args, argTypes := ats }, ty, pos, af, none⟩ s (stepS X esc s ⟨some d, .call { callee := .value x, args := args, argTypes := ats }, ty, pos, af, none⟩) := by
  subst hds
  have e : stepS X esc s ⟨some d, .call { callee := .value x, args := args, argTypes := ats }, ty, pos, af, none⟩ = none := by
    simp only [stepS, isAppend, pval, pcall, put1]
    split <;> rfl
  rw [e]
  refine VL_op (opOK_of (.inl rfl) (s' := addObjs (delObjs (upd s (.slot d) (.one (.v r))) φ) φ') ?_) (vc_sound h)
  intro G a w R0 next Q hK
  refine StepCall (o := ⟨some d, .call { callee := .value x, args := args, argTypes := ats }, ty, pos, af, none⟩) (ds := fi.toList.map DV.prim ++ ds ++ ca.toList.map DV.prim) rfl hx ⟨ds, hargs, rfl⟩ hprim (by rw [hP, hgl]; exact hc) hφ hnd rfl hdn R0 next Q ?_
  rintro r' ψ G' a' w' ⟨rfl, rfl⟩ _ R'
  exact hK G' a' w' R'

/-- a call of a function value that holds nothing -/
theorem vcK_callF {esc : List Nat} {ops : Array Oper} {l : List Oper} {K : St → Prop} {d : Tmp} {x : Operand} {f : FuncId} {args : Array Operand} {ats : Array TypeId} {ty : TypeId} {pos : String} {af : Array Edge} {P : Program} {gl : Globs} (hP : X.P = P) (hgl : X.gl = gl)
    {ds ds' : List DV} {φ φ' : Objs} {r : DV} (hc : Con1 P gl f ds' φ r φ') (hx : evl X (get s) x = some (.v (.prim (.func (.func f) #[] #[])))) (hargs : evlDs X (get s) args.toList = some ds) (hds : ds = ds') (hφ : objsIn (get s) φ) (hnd : (φ.map (·.1)).Nodup) (hdn : d < X.n)
    (h : vc X esc ops l (addObjs (delObjs (upd s (.slot d) (.one (.v r))) φ) φ') K) :
    vcK X esc ops l K ⟨some d, .call { callee := .value x, args := args, argTypes := ats }, ty, pos, af, none⟩ s (stepS X esc s ⟨some d, .call { callee := .value x, args := args, argTypes := ats }, ty, pos, af, none⟩) :=
  vcK_callV hP hgl hx (by simp) hc hargs (by simpa using hds) hφ hnd hdn h

/-- several ways lead to one state: what follows is shown once -/
theorem W_cut {c : Code} {kk : List Item} (S : St) (h1 : W X kk S → W X (.code c :: kk) s) (h2 : W X kk S) : W X (.code c :: kk) s := h1 h2

/-- a loop over a list, with what is known of those that are done -/
theorem W_listI {α : Type} (L : List α) (I : List α → Prop) (S : List α → List α → St) {c : Code} {kk : List Item} (h0 : I []) (round : ∀ done x rest, L = done ++ x :: rest → L[done.length]? = some x → I done → (I (done ++ [x]) → W X (.inLoop c :: kk) (S (done ++ [x]) rest)) → W X (.code c :: .inLoop c :: kk) (S done (x :: rest))) (last : I L → W X (.code c :: .inLoop c :: kk) (S L [])) :
    W X (.code (.loop c) :: kk) (S [] L) := by
  have key := W_rounds (X := X) (k := kk) (c := c) (fun i : List α × List α => L = i.1 ++ i.2 ∧ I i.1) (fun i => S i.1 i.2) (fun i => i.2.length) ([], L) ⟨rfl, h0⟩
  refine key fun ⟨done, rest⟩ hI ih => ?_
  obtain ⟨hI, hJ⟩ := hI
  cases rest with
  | nil =>
    simp only [List.append_nil] at hI
    subst hI
    exact last hJ
  | cons x rest =>
    exact round done x rest hI (by rw [hI]; simp) hJ (fun hj => ih (done ++ [x], rest) ⟨by simp [hI], hj⟩ (by simp))

theorem W_cutP {c : Code} {kk : List Item} (E : Prop) (S : St) (h1 : (E → W X kk S) → W X (.code c :: kk) s) (h2 : E → W X kk S) : W X (.code c :: kk) s := h1 h2

/-- the ends of a function, with objects; `w`: the returned value, `φ`: the objects as they stand -/
theorem W_retR {P : Program} (hP : X.P = P) {f : FuncId} {fn : Func} (hf : X.f = f) (hfn : X.fn = fn) {kk : List Item} (r : DV) (φ : Objs) (h : P.funcs[f]? = some fn ∧ retD X (get s) fn.results.toList = some r) (hφ : objsIn (get s) φ) (hnd : (φ.map (·.1)).Nodup) (hR : X.R r φ) (hmd : X.md = .fn) : W X (.code .ret :: kk) s := by
  subst hP hf hfn
  exact W_ret hmd h.1 h.2 hφ hnd hR
theorem W_endR {P : Program} (hP : X.P = P) {f : FuncId} {fn : Func} (hf : X.f = f) (hfn : X.fn = fn) (r : DV) (φ : Objs) (h : P.funcs[f]? = some fn ∧ retD X (get s) fn.results.toList = some r) (hφ : objsIn (get s) φ) (hnd : (φ.map (·.1)).Nodup) (hR : X.R r φ) (hmd : X.md = .fn) : W X [] s := by
  subst hP hf hfn
  exact W_end hmd h.1 h.2 hφ hnd hR

end

theorem exSV_same (k b off : Nat) : exSV k b (.loc k off) = .v (.prim (.pointer (some ⟨b, off, none⟩))) := by simp [exSV]
theorem exSV_other {k j : Nat} (b off : Nat) (h : j ≠ k) : exSV k b (.loc j off) = .loc j off := by simp [exSV, h]
theorem exSV_v (k b : Nat) (x : DV) : exSV k b (.v x) = .v x := rfl
theorem exSV_dp (k b : Nat) (e : List (List DV)) (i o : Nat) : exSV k b (.dp e i o) = .dp e i o := rfl
theorem exSV_ag (k b : Nat) (e : List DV) (n : List Nat) : exSV k b (.ag e n) = .ag e n := rfl
theorem exSV_own (k b t : Nat) (e : List (List DV)) : exSV k b (.own t e) = .own t e := rfl
theorem exRow_nil (k b : Nat) : exRow k b [] = [] := rfl
theorem exRow_cons (k b : Nat) (x : SV) (r : List SV) : exRow k b (x :: r) = exSV k b x :: exRow k b r := rfl
theorem expose_nil (k b : Nat) : expose k b [] = [] := rfl
theorem expose_slot (k b n : Nat) (x : SV) (r : St) : expose k b ((.slot n, .one x) :: r) = (.slot n, .one (exSV k b x)) :: expose k b r := rfl
theorem expose_same (k b : Nat) (cs : List SV) (r : St) : expose k b ((.loc k, .row cs) :: r) = (.heap b, .row (exRow k b cs)) :: expose k b r := by simp [expose, exLoc, exLV]
theorem expose_other {k j : Nat} (b : Nat) (cs : List SV) (r : St) (h : j ≠ k) : expose k b ((.loc j, .row cs) :: r) = (.loc j, .row (exRow k b cs)) :: expose k b r := by simp [expose, exLoc, exLV, h]
theorem expose_heap (k b n : Nat) (cs : List SV) (r : St) : expose k b ((.heap n, .row cs) :: r) = (.heap n, .row (exRow k b cs)) :: expose k b r := rfl
theorem expose_ob (k b n : Nat) (q : Loop) (r : St) : expose k b ((.heap n, .ob q) :: r) = (.heap n, .ob q) :: expose k b r := rfl
theorem expose_tok (k b t E n : Nat) (r : St) : expose k b ((.tok t, .tk E n) :: r) = (.tok t, .tk E n) :: expose k b r := rfl
theorem newB_nil (b : Nat) : newB b [] = True := rfl
theorem newB_heap (b n : Nat) (v : LV) (r : St) : newB b ((.heap n, v) :: r) = (n ≠ b ∧ newB b r) := rfl
theorem newB_slot (b n : Nat) (v : LV) (r : St) : newB b ((.slot n, v) :: r) = newB b r := rfl
theorem newB_loc (b n : Nat) (v : LV) (r : St) : newB b ((.loc n, v) :: r) = newB b r := rfl
theorem newB_tok (b n : Nat) (v : LV) (r : St) : newB b ((.tok n, v) :: r) = newB b r := rfl
attribute [go_sem] expose_ob exSV_same exSV_other exSV_v exSV_dp exSV_ag exSV_own exRow_nil exRow_cons expose_nil expose_slot expose_same expose_other expose_heap expose_tok newB_nil newB_heap newB_slot newB_loc newB_tok

end Go.Proofs.YtbmnlkfgkdallaaGreatDoor.Lift

/-
  Part R of the small logic: a range over a function. The function that is ranged over has a contract in which a call of yield is a contract of its own (YC); the rounds are walked in the frame of the loop.
-/
namespace Go.Proofs.YtbmnlkfgkdallaaGreatDoor.Lift
set_option linter.unusedSimpArgs false
set_option linter.unusedVariables false
set_option linter.unnecessarySimpa false
open Go

/-- yield called with such data, and objects that read so: what it hands back, and what the objects and the loop's record are behind it. (D0, w0): what is there to stay since the loop began. -/
def YC (P : Program) (gl : Globs) (D0 : Nat → Nat → Prop) (w0 : World) (l : Nat) (r : Loop) (args : List DV) (φ : Objs) (R : Bool → Objs → Loop → Prop) : Prop :=
  ∀ (D : Nat → Nat → Prop) (w : World) (vs : Array Value), Grow D0 w0 D w → w0.heap.size ≤ w.heap.size → Wf gl D w → vs.size = args.length → (∀ (i : Nat) (x : DV) (v : Value), args[i]? = some x → vs[i]? = some v → RV D w x v) → HeapOK D w φ → w.heap[l]? = some (.loop r) →
    RoundIn Fence.wide 0 P l r.fn ((r.params.zip vs).foldl (fun tmps (t, a) => tmps.setIfInBounds t a) r.tmps) r.assign r.body w fun e w' => ∃ b D' φ' r', e = .returned (.bool b) ∧ R b φ' r' ∧ Ext (l :: φ.map (·.1)) D w D' w' ∧ Wf gl D' w' ∧ HeapOK D' w' φ' ∧ w'.heap[l]? = some (.loop r') ∧ ∀ b ∈ φ'.map (·.1), b ∈ φ.map (·.1) ∨ w.heap.size ≤ b

/-- the contract of a function that is ranged over: it holds for every yield that keeps its own contract (Y) -/
def ItC (P : Program) (gl : Globs) (f : FuncId) (args : List DV) (φ : Objs) (l : Nat) (r : Loop) (Y : (Nat → Nat → Prop) → World → Prop) (R : Objs → Loop → Prop) : Prop :=
  Callable P f ∧ ∀ (D : Nat → Nat → Prop) (w : World) (vs : Array Value), Wf gl D w → vs.size = args.length → (∀ (i : Nat) (x : DV) (v : Value), args[i]? = some x → vs[i]? = some v → RV D w x v) → HeapOK D w φ → w.heap[l]? = some (.loop r) → Y D w →
    Calls P f vs w fun e w' => ∃ v D' φ' r', e = .returned v ∧ R φ' r' ∧ Ext (l :: φ.map (·.1)) D w D' w' ∧ Wf gl D' w' ∧ HeapOK D' w' φ' ∧ w'.heap[l]? = some (.loop r') ∧ ∀ b ∈ φ'.map (·.1), b ∈ φ.map (·.1) ∨ w.heap.size ≤ b

/-- a block that is no block of cells lies among no objects and no data -/
theorem loop_fresh {D : Nat → Nat → Prop} {w : World} {gl : Globs} {φ : Objs} {l : Nat} {r : Loop} (hwf : Wf gl D w) (hh : HeapOK D w φ) (hl : w.heap[l]? = some (.loop r)) : (∀ o, ¬ D l o) ∧ l ∉ φ.map (·.1) := by
  refine ⟨fun o hd => ?_, fun hm => ?_⟩
  · obtain ⟨v, hv⟩ := hwf.there l o hd
    simp [World.cell?, hl] at hv
  · obtain ⟨⟨b, cs⟩, hq, rfl⟩ := List.mem_map.1 hm
    obtain ⟨c, e, h1, _⟩ := hh.rows b cs hq
    simp only at hl
    rw [hl] at h1
    cases h1

section
variable {X : Ctx} {s : St} {k : List Item}

/-- the state in which a walk with a loop's record begins -/
def entryL (args : List DV) (φ : Objs) (l : Nat) (r : Loop) : St := (.heap l, .ob r) :: entry args φ

theorem get_entry {args : List DV} {φ : Objs} {l : Loc} {v : LV} (hl : get (entry args φ) l = some v) : (∃ i x, l = .slot i ∧ v = .one (.v x) ∧ args[i]? = some x) ∨ ∃ b cs, l = .heap b ∧ v = .row (cs.map SV.v) ∧ (b, cs) ∈ φ := by
  unfold entry at hl
  rw [get_append] at hl
  rcases Option.or_eq_some_iff.1 hl with hl | ⟨-, hl⟩
  · obtain ⟨i, x, h1, h2, h3⟩ := get_argSt hl
    exact .inl ⟨i, x, by simpa using h1, h2, h3⟩
  · exact .inr (get_heapSt hl)

/-- HOW SUCH A CONTRACT IS PROVED -/
theorem ItC_intro {P : Program} {gl : Globs} {f : FuncId} {args : List DV} {φ : Objs} {l : Nat} {r : Loop} {Y : (Nat → Nat → Prop) → World → Prop} {R : Objs → Loop → Prop} {fn : Func} {body : Code} (hf : P.funcs[f]? = some fn) (hb : fn.body = some body) (hname : (fn.name == "runtime.NumGoroutine") = false)
    (hn : args.length ≤ fn.ntmps)
    (h : ∀ X : Ctx, X.P = P → X.gl = gl → X.f = f → X.fn = fn → X.n = fn.ntmps → X.md = .it l R → X.ids = l :: φ.map (·.1) → (∀ x ∈ args, DV.fit x) → l ∉ φ.map (·.1) → Y X.D0 X.w0 → W X [.code body] (entryL args φ l r)) : ItC P gl f args φ l r Y R := by
  refine ⟨⟨fn, hf, by simp [hb], hname⟩, ?_⟩
  intro D w vs hwf hsz hargs hheap hloop hY cs
  obtain ⟨hnd, hnm⟩ := loop_fresh hwf hheap hloop
  let X : Ctx := { P := P, gl := gl, f := f, fn := fn, n := fn.ntmps, ids := l :: φ.map (·.1), D0 := D, w0 := w, R := fun _ _ => False, md := .it l R }
  have hfit : ∀ x ∈ args, DV.fit x := by
    intro x hx
    obtain ⟨i, hi, rfl⟩ := List.mem_iff_getElem.1 hx
    exact RV.fit (hargs i _ vs[i] (List.getElem?_eq_getElem hi) (Array.getElem?_eq_getElem (by omega)))
  have hW := h X rfl rfl rfl rfl rfl rfl rfl hfit hnm hY
  let a : Act := { tmps := vs ++ Array.replicate (fn.ntmps - vs.size) undef, defers := [] }
  have Rl : Rel X { D := D, ν := fun _ => 0, τ := fun _ => (none, 0) } (entryL args φ l r) a w := by
    have hget : ∀ m v, get (entryL args φ l r) m = some v → (m = .heap l ∧ v = .ob r) ∨ (∃ i x, m = .slot i ∧ v = .one (.v x) ∧ args[i]? = some x) ∨ ∃ b cs, m = .heap b ∧ v = .row (cs.map SV.v) ∧ (b, cs) ∈ φ := by
      intro m v hm
      simp only [entryL, get] at hm
      split at hm
      · rename_i e; cases hm; exact .inl ⟨e.symm, rfl⟩
      · exact .inr (get_entry hm)
    refine ⟨by simp [a, X]; omega, ⟨[], rfl, List.nodup_nil, by simp⟩, Ext.refl _ _ _, hwf, rfl, fun m v hm => ?_, fun m v m' v' b hm hm' hb hb' => ?_, fun m v b hm hb => ?_, fun m v b o hm hb _ => ?_⟩
    · rcases hget m v hm with ⟨rfl, rfl⟩ | ⟨i, x, rfl, rfl, hx⟩ | ⟨b, cs, rfl, rfl, hq⟩
      · exact hloop
      · have hi : i < vs.size := by rw [hsz]; exact (List.getElem?_eq_some_iff.1 hx).1
        have hv : vs[i]? = some vs[i] := Array.getElem?_eq_getElem hi
        show RV D w x _
        have : a.tmps.getD i undef = vs[i] := by
          simp [a, Array.getElem?_append_left hi, hv]
        rw [this]
        exact hargs i x _ hx hv
      · exact blk_of_heapOK (G := { D := D, ν := fun _ => 0, τ := fun _ => (none, 0) }) hheap hq
    · have blk : ∀ m v, ((m = .heap l ∧ v = .ob r) ∨ (∃ i x, m = .slot i ∧ v = .one (.v x) ∧ args[i]? = some x) ∨ ∃ b cs, m = .heap b ∧ v = .row (cs.map SV.v) ∧ (b, cs) ∈ φ) → blkOf { D := D, ν := fun _ => 0, τ := fun _ => (none, 0) } m v = some b → m = .heap b := by
        rintro m v (⟨rfl, rfl⟩ | ⟨i, x, rfl, rfl, hx⟩ | ⟨b', cs, rfl, rfl, hm⟩) hb
        · simp only [blkOf, Option.some.injEq] at hb; rw [hb]
        · cases hb
        · simp only [blkOf, Option.some.injEq] at hb; rw [hb]
      rw [blk m v (hget m v hm) hb, blk m' v' (hget m' v' hm') hb']
    · rcases hget m v hm with ⟨rfl, rfl⟩ | ⟨i, x, rfl, rfl, hx⟩ | ⟨b1, cs, rfl, rfl, hq⟩
      · simp only [blkOf, Option.some.injEq] at hb
        subst hb
        exact .inr ⟨by simp [X], rfl⟩
      · cases hb
      · simp only [blkOf, Option.some.injEq] at hb
        subst hb
        exact .inr ⟨List.mem_cons_of_mem _ (List.mem_map.2 ⟨_, hq, rfl⟩), rfl⟩
    · rcases hget m v hm with ⟨rfl, rfl⟩ | ⟨i, x, rfl, rfl, hx⟩ | ⟨b1, cs, rfl, rfl, hq⟩
      · simp only [blkOf, Option.some.injEq] at hb
        subst hb
        exact hnd o
      · cases hb
      · simp only [blkOf, Option.some.injEq] at hb
        subst hb
        exact hheap.nodata _ _ hq o
  let b : Frame := { (default : Frame) with fn := f, kind := .normal }
  have henter : Frame.enter P f vs .normal = b.atR a [.code body] := by
    simp [Frame.enter, Frame.atR, hf, hb, b, a]; rfl
  obtain ⟨w', fr, ⟨v, D', φ', r', k1, ⟨k2, k3, k4, k5⟩, k6, k7, k8⟩, h2⟩ := hW _ a w b cs rfl rfl rfl Rl
  rw [← henter] at h2
  refine ⟨.returned v, w', fr, ⟨v, D', φ', r', rfl, k1, k2, k3, k4, k6, fun b hb => ?_⟩, h2, k7, k8⟩
  rcases k5 b hb with h | h
  · rcases List.mem_cons.1 h with rfl | h
    · exact absurd hb (loop_fresh k3 k4 k6).2
    · exact .inl h
  · exact .inr h

/-- what a call of yield leaves of a state -/
theorem Rel.yield {G : Gh} {a : Act} {w : World} (R : Rel X G s a w) {φ φ' : Objs} (hφ : objsIn (get s) φ) {l : Nat} {r r' : Loop} (hl : get s (.heap l) = some (.ob r)) {D' : Nat → Nat → Prop} {w' : World} (hx : Ext (l :: φ.map (·.1)) G.D w D' w') (hwf : Wf X.gl D' w') {x : DV} {v : Value} (hr : RV D' w' x v)
    (hh : HeapOK D' w' φ') (hl' : w'.heap[l]? = some (.loop r')) (hids : ∀ b ∈ φ'.map (·.1), b ∈ φ.map (·.1) ∨ w.heap.size ≤ b) {d : Nat} (hd : d < X.n) :
    Rel X { D := D', ν := G.ν, τ := G.τ } (upd (addObjs (delObjs (upd s (.slot d) (.one (.v x))) φ) φ') (.heap l) (.ob r')) (a.put (some d) v) w' := by
  have hp := put_tmps a (some d) v
  have hφb : ∀ b ∈ φ.map (·.1), ∃ cs, get s (.heap b) = some (.row (List.map SV.v cs)) := by
    intro b hb
    obtain ⟨⟨b', cs'⟩, hm, rfl⟩ := List.mem_map.1 hb
    exact ⟨cs', hφ b' cs' hm⟩
  have hlw : w.heap[l]? = some (.loop r) := R.holds _ _ hl
  obtain ⟨hnd', hnm'⟩ := loop_fresh hwf hh hl'
  have T : Trans X G a w { D := D', ν := G.ν, τ := G.τ } (a.put (some d) v) w' (fun b => b ∈ l :: φ.map (·.1)) := by
    refine ⟨hp.1, fun h => h.keep hp.2 fun D hD => (hx.block D (Array.getElem?_eq_some_iff.1 hD).1 fun hm => ?_).trans hD, hx.os, hx.tape, hx.output, hx.size, fun b hb hn => hx.block b hb hn, fun b hb => ?_, hx.grow, fun b o hD hn => ⟨.inl (hx.new b o hD hn), hwf.there b o hD⟩, R.nil⟩
    · rcases List.mem_cons.1 hm with rfl | hm
      · rw [hlw] at hD; cases hD
      · obtain ⟨cs, hg⟩ := hφb D hm
        obtain ⟨c, e, h4, _⟩ := R.holds _ _ hg
        rw [hD] at h4; cases h4
    · rcases List.mem_cons.1 hb with rfl | hb
      · exact (R.own _ _ b hl rfl).imp id And.left
      · obtain ⟨cs, hg⟩ := hφb b hb
        exact (R.own _ _ b hg rfl).imp id And.left
  refine R.step T (fun m u => (m = .heap l ∧ u = .ob r') ∨ (m = .slot d ∧ u = .one (.v x)) ∨ ∃ b cs, m = .heap b ∧ u = .row (cs.map SV.v) ∧ (b, cs) ∈ φ') (fun m u h => ?_) (fun m u h => ?_) (fun m u m' u' b h h' hb hb' => ?_)
  · rw [get_upd] at h
    split at h
    · rename_i e; cases h; exact .inl (.inl ⟨e.symm, rfl⟩)
    · rename_i hml
      rcases get_addObjs _ _ _ _ h with h | ⟨h, hne⟩
      · exact .inl (.inr (.inr h))
      · obtain ⟨h, hn⟩ := get_delObjs _ _ _ _ h
        rw [get_upd] at h
        split at h
        · rename_i hl; cases h; exact .inl (.inr (.inl ⟨hl.symm, rfl⟩))
        · rename_i hsl
          refine .inr ⟨h, fun n hn => put_get_ne _ _ _ _ (fun e => hsl (by rw [hn, e])), fun b hb hB => ?_, fun _ _ => rfl, fun _ _ => rfl⟩
          rcases List.mem_cons.1 hB with rfl | hB
          · exact hml (R.sep _ _ _ _ b hl h rfl hb)
          · obtain ⟨cs, hg⟩ := hφb b hB
            exact hn b hB (R.sep _ _ _ _ b hg h rfl hb).symm
  · rcases h with ⟨rfl, rfl⟩ | ⟨rfl, rfl⟩ | ⟨b, cs, rfl, rfl, hm⟩
    · refine ⟨hl', fun b hb => ?_⟩
      simp only [blkOf, Option.some.injEq] at hb
      subst hb
      exact ⟨.inr (by simp), R.own _ _ l hl rfl, fun _ o => hnd' o⟩
    · refine ⟨?_, fun b hb => by cases hb⟩
      show RV D' w' x _
      rw [put_get_same _ _ _ (by rw [R.size]; exact hd)]
      exact hr
    · refine ⟨blk_of_heapOK hh hm, fun b' hb' => ?_⟩
      simp only [blkOf, Option.some.injEq] at hb'
      subst hb'
      have hmm : b ∈ φ'.map (·.1) := List.mem_map.2 ⟨_, hm, rfl⟩
      refine ⟨(hids b hmm).symm.imp id (List.mem_cons_of_mem _), ?_, fun _ o => hh.nodata b cs hm o⟩
      rcases hids b hmm with h1 | h1
      · obtain ⟨cs', hg⟩ := hφb b h1
        exact R.own _ _ b hg rfl
      · exact .inl (Nat.le_trans R.ext.size h1)
  · have blk : ∀ m u, ((m = .heap l ∧ u = .ob r') ∨ (m = .slot d ∧ u = .one (.v x)) ∨ ∃ b cs, m = .heap b ∧ u = .row (cs.map SV.v) ∧ (b, cs) ∈ φ') → blkOf { D := D', ν := G.ν, τ := G.τ } m u = some b → m = .heap b := by
      rintro m u (⟨rfl, rfl⟩ | ⟨rfl, rfl⟩ | ⟨b', cs, rfl, rfl, hm⟩) hb
      · simp only [blkOf, Option.some.injEq] at hb; rw [hb]
      · cases hb
      · simp only [blkOf, Option.some.injEq] at hb; rw [hb]
    rw [blk m u h hb, blk m' u' h' hb']

/-- A CALL OF YIELD, BY ITS CONTRACT -/
theorem StepYield {o : Oper} {y : Operand} {args : Array Operand} {ats : Array TypeId} (ho : o.op = .call { callee := .value y, args := args, argTypes := ats }) {l : Nat} (hy : evl X (get s) y = some (.v (.prim (.func (.yield l) #[] #[]))))
    {ds : List DV} (hargs : evlDs X (get s) args.toList = some ds) {r : Loop} (hps : r.params.size = ds.length) {φ : Objs} {R : Bool → Objs → Loop → Prop} (hc : YC X.P X.gl X.D0 X.w0 l r ds φ R) (hφ : objsIn (get s) φ) (hnd : (φ.map (·.1)).Nodup) (hl : get s (.heap l) = some (.ob r))
    {d : Nat} (hd : o.dst = some d) (hdn : d < X.n) {G : Gh} {a : Act} {w : World} (R0 : Rel X G s a w) (next : Act → World → Prop) (Q : Exit → Act → World → Prop)
    (hk : ∀ b φ' r' G' a' w', R b φ' r' → (∀ c ∈ φ'.map (·.1), c ∈ φ.map (·.1) ∨ ∀ m v, get s m = some v → blkOf G m v ≠ some c) → Rel X G' (upd (addObjs (delObjs (upd s (.slot d) (.one (.v (.prim (.bool b))))) φ) φ') (.heap l) (.ob r')) a' w' → next a' w') : o.wpIn X.F 0 X.P a w next Q := by
  have hyv := (prim_of (evl_sound R0 hy)).1
  obtain ⟨q1, q2⟩ := evlDs_sound R0 hargs
  have q1' : args.size = ds.length := by simpa using q1
  have hlw : w.heap[l]? = some (.loop r) := R0.holds _ _ hl
  have hrun : (execOp a.eval o).run X.P w = .ok (.round l r.fn ((r.params.zip (args.map a.eval)).foldl (fun tmps (t, a) => tmps.setIfInBounds t a) r.tmps) r.assign r.body) w := by
    simp [execOp, ho, resolve, hyv, Deferred.ofValue, invoke, run_yield hlw, hps, q1', Sem.run_bind]
  refine ⟨fun _ _ => trivial, ?_⟩
  rw [Oper.semAt_eq _ _ _ (by intro c e; rw [ho] at e; cases e), hrun, Oper.uponIn_round]
  refine ⟨fun h => (by cases h), ?_⟩
  refine RoundIn.mono (hc G.D w (args.map a.eval) R0.ext.grow R0.ext.size R0.wf (by simp [q1']) (fun i x v hx hv => ?_) (heapOK_of R0 hφ hnd) hlw) ?_
  · refine q2 i x v hx ?_
    rw [← Array.getElem?_toList] at hv
    simpa using hv
  · rintro e w' ⟨b, D', φ', r', rfl, hR, hx, hwf, hh, hl', hids⟩
    simp only [hd]
    refine hk b φ' r' _ _ w' hR (fun c hc => (hids c hc).imp id fun h m v hg hbl => ?_) (R0.yield hφ hl hx hwf (.prim (.bool b) trivial) hh hl' hids hdn)
    have := blk_lt (R0.holds m v hg) hbl
    omega

/-- at a call of yield the reckoning stands still: the contract goes on -/
theorem vcK_yield {esc : List Nat} {ops : Array Oper} {ll : List Oper} {K : St → Prop} {d : Tmp} {y : Operand} {args : Array Operand} {ats : Array TypeId} {ty : TypeId} {pos : String} {af : Array Edge} {l : Nat} (hy : evl X (get s) y = some (.v (.prim (.func (.yield l) #[] #[]))))
    {ds ds' : List DV} {P : Program} {gl : Globs} (hP : X.P = P) (hgl : X.gl = gl) {r : Loop} {φ : Objs} {R : Bool → Objs → Loop → Prop} (hc : YC P gl X.D0 X.w0 l r ds' φ R) (hps : r.params.size = ds'.length) (hargs : evlDs X (get s) args.toList = some ds) (hds : ds = ds') (hφ : objsIn (get s) φ) (hnd : (φ.map (·.1)).Nodup) (hl : get s (.heap l) = some (.ob r)) (hdn : d < X.n)
    (h : ∀ b φ' r', R b φ' r' → (∀ c ∈ φ'.map (·.1), c ∈ φ.map (·.1) ∨ newB c s) → vc X esc ops ll (upd (addObjs (delObjs (upd s (.slot d) (.one (.v (.prim (.bool b))))) φ) φ') (.heap l) (.ob r')) K) :
    vcK X esc ops ll K ⟨some d, .call { callee := .value y, args := args, argTypes := ats }, ty, pos, af, none⟩ s (stepS X esc s ⟨some d, .call { callee := .value y, args := args, argTypes := ats }, ty, pos, af, none⟩) := by
  subst hds
  have e : stepS X esc s ⟨some d, .call { callee := .value y, args := args, argTypes := ats }, ty, pos, af, none⟩ = none := by
    simp only [stepS, isAppend, pval, pcall, put1]
    split <;> rfl
  rw [e]
  intro n hn G a w R0
  obtain ⟨h1, h2⟩ := drop_cons hn
  simp only [List.length_cons, List.range'_succ, wpOpsIn, h1, Region.wanted, if_true]
  refine StepYield (o := ⟨some d, .call { callee := .value y, args := args, argTypes := ats }, ty, pos, af, none⟩) rfl hy hargs hps (by rw [hP, hgl]; exact hc) hφ hnd hl rfl hdn R0 _ _ fun b φ' r' G' a' w' hR hids R' => ?_
  refine vc_sound (h b φ' r' hR fun c hc => (hids c hc).imp id fun hh => newB_of fun v hv => ?_) (n + 1) h2 G' a' w' R'
  have hho := R0.holds _ _ hv
  cases v with
  | row cs => exact hh _ _ hv rfl
  | ob r => exact hh _ _ hv rfl
  | one x => exact hho.elim
  | tk E n => exact hho.elim

/-- a round begins -/
theorem W_begin {l : Nat} {r : Loop} (hrd : X.rd = some l) (hl : get s (.heap l) = some (.ob r)) (hr : r.state = .ready) (h : W X k (upd s (.heap l) (.ob { r with state := .busy }))) : W X (.beginRound :: k) s := by
  intro G a w b cs hf hk hro R
  have hlw : w.heap[l]? = some (.loop r) := R.holds _ _ hl
  have hrun := run_beginRound (P := X.P) hlw hr
  have hne : ∀ b, b ≠ l → (w.putObj l (.loop { r with state := .busy })).heap[b]? = w.heap[b]? := fun b hb => World.putObj_heap_other hb
  have hsame : (w.putObj l (.loop { r with state := .busy })).heap[l]? = some (.loop { r with state := .busy }) := World.putObj_heap_same (Array.getElem?_eq_some_iff.1 hlw).1
  have hnot : ∀ b o, G.D b o → b ≠ l := fun b o hd e => by
    subst e
    obtain ⟨v, hv⟩ := R.wf.there b o hd
    simp [World.cell?, hlw] at hv
  have T : Trans X G a w G a (w.putObj l (.loop { r with state := .busy })) (fun b => b = l) := by
    refine ⟨rfl, fun h => h.keep rfl fun D hD => (hne D fun e => by subst e; rw [hlw] at hD; cases hD).trans hD, rfl, rfl, rfl, by simp, fun b _ hb => hne b hb, fun b hb => by subst hb; exact (R.own _ _ b hl rfl).imp id And.left, fun b o hd => ⟨hd, ?_⟩, fun _ _ h k => absurd h k, R.nil⟩
    simp only [World.cell?]
    rw [hne b (hnot b o hd)]
  have R' : Rel X G (upd s (.heap l) (.ob { r with state := .busy })) a (w.putObj l (.loop { r with state := .busy })) := by
    refine R.step T (fun m u => m = .heap l ∧ u = .ob { r with state := .busy }) (fun m u hm => ?_) (fun m u hm => ?_) (fun m u m' u' b h h' _ _ => h.1.trans h'.1.symm)
    · rw [get_upd] at hm
      split at hm
      · rename_i e; cases hm; exact .inl ⟨e.symm, rfl⟩
      · rename_i e
        refine .inr ⟨hm, fun _ _ => rfl, fun b hb he => ?_, fun _ _ => rfl, fun _ _ => rfl⟩
        subst he
        exact e (R.sep _ _ _ _ b hl hm rfl hb)
    · obtain ⟨rfl, rfl⟩ := hm
      refine ⟨hsame, fun b hb => ?_⟩
      simp only [blkOf, Option.some.injEq] at hb
      subst hb
      exact ⟨.inr rfl, R.own _ _ l hl rfl, fun _ o hd => hnot l o hd rfl⟩
  obtain ⟨w', fr, h1, h2⟩ := h G a _ b cs hf hk hro R'
  exact ⟨w', fr, h1, .head (stepR_beginRound (hro.trans hrd) hrun) h2⟩

end
end Go.Proofs.YtbmnlkfgkdallaaGreatDoor.Lift

/-
  Part S of the small logic: rounds as contracts of yield; the statement 'for .. := range f'.
-/
namespace Go.Proofs.YtbmnlkfgkdallaaGreatDoor.Lift
set_option linter.unusedSimpArgs false
set_option linter.unusedVariables false
set_option linter.unnecessarySimpa false
open Go

/-- yield's arguments in the parameters -/
def setL (tmps : Array Value) : List (Nat × Value) → Array Value
  | [] => tmps
  | (t, v) :: r => setL (tmps.setIfInBounds t v) r

theorem setL_foldl (l : List (Nat × Value)) : ∀ tmps : Array Value, l.foldl (fun tmps p => tmps.setIfInBounds p.1 p.2) tmps = setL tmps l := by
  induction l with
  | nil => intro tmps; rfl
  | cons p r ih => intro tmps; exact ih _

theorem setL_size (l : List (Nat × Value)) : ∀ tmps : Array Value, (setL tmps l).size = tmps.size := by
  induction l with
  | nil => intro tmps; rfl
  | cons p r ih => intro tmps; simp only [setL, ih, Array.size_setIfInBounds]

theorem setL_other {n : Nat} (l : List (Nat × Value)) : ∀ tmps : Array Value, n ∉ l.map (·.1) → (setL tmps l).getD n undef = tmps.getD n undef := by
  induction l with
  | nil => intro tmps _; rfl
  | cons p r ih =>
    intro tmps h
    simp only [List.map_cons, List.mem_cons, not_or] at h
    simp only [setL, ih _ h.2]
    simp [Array.getElem?_setIfInBounds_ne (Ne.symm h.1)]

theorem setL_at {n : Nat} {v : Value} (l : List (Nat × Value)) : ∀ tmps : Array Value, (l.map (·.1)).Nodup → (n, v) ∈ l → n < tmps.size → (setL tmps l).getD n undef = v := by
  induction l with
  | nil => intro tmps _ h; cases h
  | cons p r ih =>
    intro tmps hn h hlt
    simp only [List.map_cons, List.nodup_cons] at hn
    simp only [setL]
    rcases List.mem_cons.1 h with rfl | h
    · rw [setL_other _ _ hn.1]
      simp [hlt]
    · exact ih _ hn.2 h (by simpa using hlt)

/-- slots that hold data since the loop began -/
def FrameOK (D0 : Nat → Nat → Prop) (w0 : World) (tmps : Array Value) (SL : List (Nat × DV)) : Prop := ∀ n x, (n, x) ∈ SL → RV D0 w0 x (tmps.getD n undef)

def slotSt : List (Nat × DV) → St
  | [] => []
  | (n, x) :: r => (.slot n, .one (.v x)) :: slotSt r

theorem get_slotSt {SL : List (Nat × DV)} {l : Loc} {v : LV} (h : get (slotSt SL) l = some v) : ∃ n x, l = .slot n ∧ v = .one (.v x) ∧ (n, x) ∈ SL := by
  induction SL with
  | nil => cases h
  | cons p r ih =>
    obtain ⟨n, x⟩ := p
    simp only [slotSt, get] at h
    split at h
    · rename_i e; cases h; exact ⟨n, x, e.symm, rfl, by simp⟩
    · obtain ⟨n', x', h1, h2, h3⟩ := ih h
      exact ⟨n', x', h1, h2, List.mem_cons_of_mem _ h3⟩

def parSt : List Nat → List DV → St
  | p :: ps, x :: xs => (.slot p, .one (.v x)) :: parSt ps xs
  | _, _ => []

theorem get_parSt {ps : List Nat} {xs : List DV} {l : Loc} {v : LV} (h : get (parSt ps xs) l = some v) : ∃ (i p : Nat) (x : DV), l = .slot p ∧ v = .one (.v x) ∧ ps[i]? = some p ∧ xs[i]? = some x := by
  induction ps generalizing xs with
  | nil => cases h
  | cons p ps ih =>
    cases xs with
    | nil => cases h
    | cons x xs =>
      simp only [parSt, get] at h
      split at h
      · rename_i e; cases h; exact ⟨0, p, x, e.symm, rfl, rfl, rfl⟩
      · obtain ⟨i, p', x', h1, h2, h3, h4⟩ := ih h
        exact ⟨i + 1, p', x', h1, h2, by simpa using h3, by simpa using h4⟩

/-- the state in which a round begins -/
def entryR (ps : List Nat) (args : List DV) (SL : List (Nat × DV)) (φ : Objs) (l : Nat) (r : Loop) : St := (.heap l, .ob r) :: (parSt ps args ++ (slotSt SL ++ heapSt φ))

/-- the record behind a round that ends so -/
def pastL (r : Loop) (j : Option Code) : Loop := { r with state := if j.isNone then .ready else .done, pending := j }

/-- A ROUND AS A CONTRACT OF YIELD -/
theorem YC_round {P : Program} {gl : Globs} {D0 : Nat → Nat → Prop} {w0 : World} {l : Nat} {r : Loop} {args : List DV} {φ : Objs} {R : Bool → Objs → Loop → Prop} (n : Nat) (hsize : r.tmps.size = n) {SL : List (Nat × DV)} (hSL : FrameOK D0 w0 r.tmps SL) (hst : r.state = .ready)
    (hps : r.params.size = args.length) (hpn : ∀ p ∈ r.params.toList, p < n) (hnd : r.params.toList.Nodup) (hdis : ∀ p ∈ r.params.toList, p ∉ SL.map (·.1))
    (h : ∀ X : Ctx, X.P = P → X.gl = gl → X.f = r.fn → X.n = n → X.md = .rd l r (fun j φ' => R j.isNone φ' (pastL r j)) → X.ids = l :: φ.map (·.1) → l ∉ φ.map (·.1) → (∀ x ∈ args, DV.fit x) → W X [.code r.assign, .beginRound, .code r.body] (entryR r.params.toList args SL φ l r)) : YC P gl D0 w0 l r args φ R := by
  intro D w vs hgrow _ hwf hsz hargs hheap hloop
  obtain ⟨hnD, hnm⟩ := loop_fresh hwf hheap hloop
  have hfit : ∀ x ∈ args, DV.fit x := by
    intro x hx
    obtain ⟨i, hi, rfl⟩ := List.mem_iff_getElem.1 hx
    exact RV.fit (hargs i _ vs[i] (List.getElem?_eq_getElem hi) (Array.getElem?_eq_getElem (by omega)))
  let X : Ctx := { P := P, gl := gl, f := r.fn, fn := default, n := n, ids := l :: φ.map (·.1), D0 := D, w0 := w, R := fun _ _ => False, md := .rd l r (fun j φ' => R j.isNone φ' (pastL r j)) }
  have hW := h X rfl rfl rfl rfl rfl rfl hnm hfit
  have htm : (r.params.zip vs).foldl (fun tmps (t, a) => tmps.setIfInBounds t a) r.tmps = setL r.tmps (r.params.toList.zip vs.toList) := by
    rw [← Array.foldl_toList, Array.toList_zip]
    exact setL_foldl _ _
  rw [htm]
  have hkeys : (r.params.toList.zip vs.toList).map (·.1) = r.params.toList := by
    rw [List.map_fst_zip]
    simp only [Array.length_toList]; omega
  let a : Act := { tmps := setL r.tmps (r.params.toList.zip vs.toList), defers := [] }
  have Rl : Rel X { D := D, ν := fun _ => 0, τ := fun _ => (none, 0) } (entryR r.params.toList args SL φ l r) a w := by
    have hget : ∀ m v, get (entryR r.params.toList args SL φ l r) m = some v → (m = .heap l ∧ v = .ob r) ∨ (∃ (i p : Nat) (x : DV), m = .slot p ∧ v = .one (.v x) ∧ r.params.toList[i]? = some p ∧ args[i]? = some x) ∨ (∃ n x, m = .slot n ∧ v = .one (.v x) ∧ (n, x) ∈ SL) ∨ ∃ b cs, m = .heap b ∧ v = .row (cs.map SV.v) ∧ (b, cs) ∈ φ := by
      intro m v hm
      simp only [entryR, get] at hm
      split at hm
      · rename_i e; cases hm; exact .inl ⟨e.symm, rfl⟩
      · rw [get_append] at hm
        rcases Option.or_eq_some_iff.1 hm with hm | ⟨-, hm⟩
        · exact .inr (.inl (get_parSt hm))
        · rw [get_append] at hm
          rcases Option.or_eq_some_iff.1 hm with hm | ⟨-, hm⟩
          · exact .inr (.inr (.inl (get_slotSt hm)))
          · exact .inr (.inr (.inr (get_heapSt hm)))
    have blk : ∀ m v b, get (entryR r.params.toList args SL φ l r) m = some v → blkOf { D := D, ν := fun _ => 0, τ := fun _ => (none, 0) } m v = some b → m = .heap b := by
      intro m v b hm hb
      rcases hget m v hm with ⟨rfl, rfl⟩ | ⟨i, p, x, rfl, rfl, hx⟩ | ⟨p, x, rfl, rfl, hx⟩ | ⟨b', cs, rfl, rfl, hq⟩
      · simp only [blkOf, Option.some.injEq] at hb; rw [hb]
      · cases hb
      · cases hb
      · simp only [blkOf, Option.some.injEq] at hb; rw [hb]
    refine ⟨by simp [a, X, setL_size, hsize], ⟨[], rfl, List.nodup_nil, by simp⟩, Ext.refl _ _ _, hwf, rfl, fun m v hm => ?_, fun m v m' v' b hm hm' hb hb' => ?_, fun m v b hm hb => ?_, fun m v b o hm hb _ => ?_⟩
    · rcases hget m v hm with ⟨rfl, rfl⟩ | ⟨i, p, x, rfl, rfl, hp, hx⟩ | ⟨p, x, rfl, rfl, hx⟩ | ⟨b', cs, rfl, rfl, hq⟩
      · exact hloop
      · have hi : i < vs.size := by rw [hsz]; exact (List.getElem?_eq_some_iff.1 hx).1
        have hv : vs[i]? = some vs[i] := Array.getElem?_eq_getElem hi
        show RV D w x _
        have hmem : (p, vs[i]) ∈ r.params.toList.zip vs.toList := by
          refine List.mem_of_getElem? (i := i) ?_
          rw [List.getElem?_zip_eq_some]
          exact ⟨hp, by simp [hv]⟩
        have : a.tmps.getD p undef = vs[i] := setL_at _ _ (by rw [hkeys]; exact hnd) hmem (by rw [hsize]; exact hpn p (List.mem_of_getElem? hp))
        rw [this]
        exact hargs i x _ hx hv
      · show RV D w x _
        have : a.tmps.getD p undef = r.tmps.getD p undef := setL_other _ _ (by rw [hkeys]; exact fun hm => hdis p hm (List.mem_map.2 ⟨_, hx, rfl⟩))
        rw [this]
        exact (hSL p x hx).mono hgrow
      · exact blk_of_heapOK (G := { D := D, ν := fun _ => 0, τ := fun _ => (none, 0) }) hheap hq
    · rw [blk m v b hm hb, blk m' v' b hm' hb']
    · rcases hget m v hm with ⟨rfl, rfl⟩ | ⟨i, p, x, rfl, rfl, hp, hx⟩ | ⟨p, x, rfl, rfl, hx⟩ | ⟨b', cs, rfl, rfl, hq⟩
      · simp only [blkOf, Option.some.injEq] at hb
        subst hb
        exact .inr ⟨by simp [X], rfl⟩
      · cases hb
      · cases hb
      · simp only [blkOf, Option.some.injEq] at hb
        subst hb
        exact .inr ⟨List.mem_cons_of_mem _ (List.mem_map.2 ⟨_, hq, rfl⟩), rfl⟩
    · rcases hget m v hm with ⟨rfl, rfl⟩ | ⟨i, p, x, rfl, rfl, hp, hx⟩ | ⟨p, x, rfl, rfl, hx⟩ | ⟨b', cs, rfl, rfl, hq⟩
      · simp only [blkOf, Option.some.injEq] at hb
        subst hb
        exact hnD o
      · cases hb
      · cases hb
      · simp only [blkOf, Option.some.injEq] at hb
        subst hb
        exact hheap.nodata _ _ hq o
  refine ⟨trivial, fun c cs _ => ?_⟩
  let b : Frame := { (default : Frame) with fn := r.fn, kind := .normal, roundOf := some l }
  have hb0 : Frame.round l r.fn (setL r.tmps (r.params.toList.zip vs.toList)) r.assign r.body .normal = b.atR a [.code r.assign, .beginRound, .code r.body] := by
    simp [Frame.round, Frame.atR, b, a]
  obtain ⟨w1, fr, ⟨a1, k1, j, D', φ', rfl, hj, hR, ⟨q1, q2, q3, q4⟩, hl1⟩, hsteps⟩ := hW _ a w b (c :: cs) rfl rfl rfl Rl
  have hend := run_endRound (P := P) j hl1
  have hlt : l < w1.heap.size := (Array.getElem?_eq_some_iff.1 hl1).1
  have hne : ∀ b', b' ≠ l → (w1.putObj l (.loop (pastL r j))).heap[b']? = w1.heap[b']? := fun b' hb => World.putObj_heap_other hb
  have hstep : step P (lone (b.atR a1 k1) (c :: cs) w1) = .next (lone (c.finish (.bool j.isNone)) cs (w1.putObj l (.loop (pastL r j)))) := by
    cases j with
    | none => obtain rfl := hj; exact stepR_round_end rfl rfl hend
    | some jc =>
      cases jc with
      | ret => obtain ⟨k2, rfl⟩ := hj; exact stepR_round_ret rfl rfl hend
      | exit id => obtain ⟨k2, rfl, hx⟩ := hj; exact stepR_round_exit rfl rfl hx hend
      | goto t => obtain ⟨k2, rfl, hx⟩ := hj; exact stepR_round_goto rfl rfl hx hend
      | _ => exact hj.elim
  obtain ⟨hnD1, hnm1⟩ := loop_fresh q2 q3 hl1
  have hnot : ∀ b' o, D' b' o → b' ≠ l := fun b' o hd e => by subst e; exact hnD1 o hd
  have hcell : ∀ b' o, D' b' o → (w1.putObj l (.loop (pastL r j))).cell? ⟨b', o, none⟩ = w1.cell? ⟨b', o, none⟩ := fun b' o hd => by
    simp only [World.cell?]; rw [hne b' (hnot b' o hd)]
  have g2 : Grow D' w1 D' (w1.putObj l (.loop (pastL r j))) := fun b' o hd => ⟨hd, hcell b' o hd⟩
  refine ⟨.returned (.bool j.isNone), w1.putObj l (.loop (pastL r j)), ⟨j.isNone, D', φ', pastL r j, rfl, hR, ?_, ?_, ?_, World.putObj_heap_same hlt, fun b' hb' => ?_⟩, ?_⟩
  · refine ⟨q1.os, q1.tape, q1.output, by simpa using q1.size, fun b' hb' hn => ?_, q1.grow.trans g2, q1.new⟩
    have : b' ≠ l := fun e => hn (by simp [e])
    exact (hne b' this).trans (q1.block b' hb' hn)
  · refine ⟨fun b' o hd => ?_, fun g els hg => ?_⟩
    · obtain ⟨v, hv⟩ := q2.there b' o hd
      exact ⟨v, (hcell b' o hd).trans hv⟩
    · obtain ⟨cap, hr⟩ := q2.globs g els hg
      exact ⟨cap, hr.mono g2⟩
  · refine ⟨fun b' cs' hm => ?_, q3.nodata, q3.nodup⟩
    obtain ⟨c', e', h1, h2, h3⟩ := q3.rows b' cs' hm
    have hbl : b' ≠ l := fun e => hnm1 (by rw [← e]; exact List.mem_map.2 ⟨_, hm, rfl⟩)
    refine ⟨c', e', (hne b' hbl).trans h1, h2, fun i x hx => ?_⟩
    obtain ⟨k1, v, k2, k3⟩ := h3 i x hx
    exact ⟨k1, v, k2, k3.mono g2⟩
  · rcases q4 b' hb' with h | h
    · rcases List.mem_cons.1 h with rfl | h
      · exact absurd hb' hnm1
      · exact .inl h
    · exact .inr h
  · show StepsIn _ _ _ _
    rw [hb0]
    exact stepsIn_wide.2 (Steps.trans hsteps (.head hstep (.refl _ _)))

theorem wf_grow {gl : Globs} {D : Nat → Nat → Prop} {w w' : World} (g : Grow D w D w') (h : Wf gl D w) : Wf gl D w' := by
  refine ⟨fun b o hd => ?_, fun i els hg => ?_⟩
  · obtain ⟨v, hv⟩ := h.there b o hd
    exact ⟨v, (g b o hd).2.trans hv⟩
  · obtain ⟨cap, hr⟩ := h.globs i els hg
    exact ⟨cap, hr.mono g⟩

theorem heapOK_grow {D : Nat → Nat → Prop} {w w' : World} {φ : Objs} (g : Grow D w D w') (hb : ∀ b ∈ φ.map (·.1), w'.heap[b]? = w.heap[b]?) (h : HeapOK D w φ) : HeapOK D w' φ := by
  refine ⟨fun b cs hm => ?_, h.nodata, h.nodup⟩
  obtain ⟨c, e, h1, h2, h3⟩ := h.rows b cs hm
  refine ⟨c, e, (hb b (List.mem_map.2 ⟨_, hm, rfl⟩)).trans h1, h2, fun i x hx => ?_⟩
  obtain ⟨k1, v, k2, k3⟩ := h3 i x hx
  exact ⟨k1, v, k2, k3.mono g⟩

section
variable {X : Ctx} {s : St} {k : List Item}

/-- 'for .. := range g { .. }' -/
theorem W_rangeFunc (hmd : X.md = .fn) {g : Operand} {ps : Array Tmp} {assign body : Code} {f : FuncId} {fi ca : Array Value} (hg : evl X (get s) g = some (.v (.prim (.func (.func f) fi ca)))) (hprim : ∀ v ∈ fi.toList ++ ca.toList, primOK v)
    {φ : Objs} (hφ : objsIn (get s) φ) (hnd : (φ.map (·.1)).Nodup) {Y : Nat → Loop → (Nat → Nat → Prop) → World → Prop} {R : Objs → Loop → Prop} {SL : List (Nat × DV)} (hSL : ∀ n x, (n, x) ∈ SL → get s (.slot n) = some (.one (.v x)))
    (hit : ∀ l r, r.state = .ready → r.pending = none → r.params = ps → l ∉ φ.map (·.1) → ItC X.P X.gl f (fi.toList.map DV.prim ++ DV.prim (.func (.yield l) #[] #[]) :: ca.toList.map DV.prim) φ l r (Y l r) R)
    (hY : ∀ l r D0 w0, r.state = .ready → r.pending = none → r.params = ps → r.fn = X.f → r.tmps.size = X.n → r.assign = assign → r.body = body → l ∉ φ.map (·.1) → FrameOK D0 w0 r.tmps SL → Y l r D0 w0)
    (hst : ∀ φ' r', R φ' r' → r'.state ≠ .busy)
    (after : ∀ φ' r', R φ' r' → (∀ b ∈ φ'.map (·.1), b ∈ φ.map (·.1) ∨ newB b s) → W X ((r'.pending.map Item.code).toList ++ k) (addObjs (delObjs s φ) φ')) : W X (.code (.rangeFunc g ps assign body) :: k) s := by
  intro G a w b cs hf hk hro R0
  have hrn := hro.trans (rd_fn hmd)
  have hgv := (prim_of (evl_sound R0 hg)).1
  let r : Loop := { state := .ready, pending := none, fn := b.fn, tmps := a.tmps, params := ps, assign, body, defers := w.heap.size }
  let w1 : World := (w.alloc (.deferred (some []))).alloc (.loop r)
  have hsz1 : w1.heap.size = w.heap.size + 2 := by simp [w1]
  have hold : ∀ b', b' < w.heap.size → w1.heap[b']? = w.heap[b']? := fun b' hb => (alloc_old _ _ b' (by simp; omega)).trans (alloc_old w _ b' hb)
  have hloop : w1.heap[w.heap.size + 1]? = some (.loop r) := by
    have := alloc_new (w.alloc (.deferred (some []))) (.loop r)
    rw [show (w.alloc (.deferred (some []))).heap.size = w.heap.size + 1 by simp] at this
    exact this
  have hdef : w1.heap[w.heap.size]? = some (.deferred (some [])) := (alloc_old _ _ _ (by simp)).trans (alloc_new w _)
  have hcell1 : ∀ b' o, G.D b' o → w1.cell? ⟨b', o, none⟩ = w.cell? ⟨b', o, none⟩ := fun b' o hd => by
    simp only [World.cell?]; rw [hold b' (R0.wf.lt hd)]
  have g1 : Grow G.D w G.D w1 := fun b' o hd => ⟨hd, hcell1 b' o hd⟩
  have he : (Instr.enterLoop b.fn a.tmps ps assign body b.roundOf).run X.P w = .ok (w.heap.size + 1, [mark w.heap.size]) w1 := by
    rw [hrn]; exact run_enterLoop_outer _ _ _ _ _
  have hφlt : ∀ b' ∈ φ.map (·.1), b' < w.heap.size := fun b' hb => by
    obtain ⟨⟨b2, cs'⟩, hm, rfl⟩ := List.mem_map.1 hb
    exact blk_lt (R0.holds _ _ (hφ b2 cs' hm)) rfl
  have hlφ : w.heap.size + 1 ∉ φ.map (·.1) := fun hm => by have := hφlt _ hm; omega
  have hwf1 := wf_grow g1 R0.wf
  have hh1 := heapOK_grow g1 (fun b' hb => hold b' (hφlt b' hb)) (heapOK_of R0 hφ hnd)
  obtain ⟨hcallable, hcall⟩ := hit (w.heap.size + 1) r rfl rfl rfl hlφ
  have hframe : FrameOK G.D w1 r.tmps SL := fun n x hm => RV.mono g1 (R0.holds _ _ (hSL n x hm))
  have hYr := hY (w.heap.size + 1) r G.D w1 rfl rfl rfl hf R0.size rfl rfl hlφ hframe
  have hres : (resolve a.eval (rangeCall g (w.heap.size + 1)) 0).run X.P w1 = .ok { target := .fn (.func f) ca, args := fi ++ #[.func (.yield (w.heap.size + 1)) #[] #[]] } w1 := by
    have e : (#[Operand.const (.func (.yield (w.heap.size + 1)) #[] #[])] : Array Operand).map a.eval = #[.func (.yield (w.heap.size + 1)) #[] #[]] := by simp [Act.eval]
    simp only [resolve, rangeCall, e, hgv]
    rfl
  have hinv : (invoke (.fn (.func f) ca) (fi ++ #[.func (.yield (w.heap.size + 1)) #[] #[]])).run X.P w1 = .ok (.enter f (fi ++ #[.func (.yield (w.heap.size + 1)) #[] #[]] ++ ca)) w1 := by
    simp only [invoke]; exact run_callFunc hcallable _ _
  have henter := stepR_rangeFunc (P := X.P) (b := b) (a := a) (k := k) (cs := cs) (w := w) he hres hinv
  obtain ⟨e, w2, fr, ⟨v, D', φ', r', rfl, hR, hx, hwf2, hh2, hl2, hids⟩, hsteps, hfn, hleave⟩ := hcall G.D w1 (fi ++ #[.func (.yield (w.heap.size + 1)) #[] #[]] ++ ca) hwf1 (by simp; omega) (by
    have hp : ∀ v ∈ (fi ++ #[Value.func (.yield (w.heap.size + 1)) #[] #[]] ++ ca).toList, primOK v := by
      intro v hv
      simp only [Array.toList_append, List.mem_append] at hv
      rcases hv with (hv | hv) | hv
      · exact hprim v (List.mem_append.2 (.inl hv))
      · simp only [List.mem_singleton] at hv; subst hv; trivial
      · exact hprim v (List.mem_append.2 (.inr hv))
    intro i x v hx hv
    have hv' : (fi ++ #[Value.func (.yield (w.heap.size + 1)) #[] #[]] ++ ca).toList[i]? = some v := by rw [Array.getElem?_toList]; exact hv
    have he : fi.toList.map DV.prim ++ DV.prim (.func (.yield (w.heap.size + 1)) #[] #[]) :: ca.toList.map DV.prim = ((fi ++ #[Value.func (.yield (w.heap.size + 1)) #[] #[]] ++ ca).toList).map DV.prim := by simp
    rw [he, List.getElem?_map, hv'] at hx
    cases hx
    exact .prim v (hp v (List.mem_of_getElem? hv'))) hh1 hloop hYr (b.atR { a with defers := [mark w.heap.size] ++ a.defers } (.inRangeFunc (w.heap.size + 1) :: k) :: cs)
  have hback := step_leave_returned (cs := cs) (c := b.atR { a with defers := [mark w.heap.size] ++ a.defers } (.inRangeFunc (w.heap.size + 1) :: k)) hleave
  rw [finish_atR_inRangeFunc] at hback
  have hend := run_endLoop (P := X.P) hl2 (hst φ' r' hR)
  have hstep3 := stepR_endRangeFunc (P := X.P) (b := b) (a := { a with defers := [mark w.heap.size] ++ a.defers }) (k := k) (cs := cs) hend
  let w3 : World := w2.putObj (w.heap.size + 1) (.loop { r' with state := .exhausted })
  obtain ⟨hnD2, hnm2⟩ := loop_fresh hwf2 hh2 hl2
  have hne : ∀ b', b' ≠ w.heap.size + 1 → w3.heap[b']? = w2.heap[b']? := fun b' hb => World.putObj_heap_other hb
  have hcell3 : ∀ b' o, D' b' o → w3.cell? ⟨b', o, none⟩ = w2.cell? ⟨b', o, none⟩ := fun b' o hd => by
    simp only [World.cell?]; rw [hne b' (fun e => by subst e; exact hnD2 o hd)]
  have g3 : Grow D' w2 D' w3 := fun b' o hd => ⟨hd, hcell3 b' o hd⟩
  have hsz3 : w.heap.size + 2 ≤ w3.heap.size := by simp only [w3, World.putObj_size]; have := hx.size; omega
  have hφb : ∀ b ∈ φ.map (·.1), ∃ cs, get s (.heap b) = some (.row (List.map SV.v cs)) := by
    intro b hb
    obtain ⟨⟨b', cs'⟩, hm, rfl⟩ := List.mem_map.1 hb
    exact ⟨cs', hφ b' cs' hm⟩
  have hkeep : ∀ b', b' < w.heap.size → b' ∉ φ.map (·.1) → w3.heap[b']? = w.heap[b']? := fun b' hb hn => by
    refine (hne b' (by omega)).trans ((hx.block b' (by omega) ?_).trans (hold b' hb))
    simp only [List.mem_cons, not_or]
    exact ⟨by omega, hn⟩
  have hD3 : w3.heap[w.heap.size]? = some (.deferred (some [])) := by
    refine (hne _ (by omega)).trans ((hx.block _ (by omega) ?_).trans hdef)
    simp only [List.mem_cons, not_or]
    exact ⟨by omega, fun hm => by have := hφlt _ hm; omega⟩
  have hφD : ∀ D ∈ φ.map (·.1), w.heap[D]? ≠ some (.deferred (some [])) := fun D hm hD => by
    obtain ⟨cs, hg⟩ := hφb D hm
    obtain ⟨c, e, h4, _⟩ := R0.holds _ _ hg
    rw [hD] at h4; cases h4
  have T : Trans X G a w { D := D', ν := G.ν, τ := G.τ } { a with defers := [mark w.heap.size] ++ a.defers } w3 (fun b' => b' ∈ φ.map (·.1)) := by
    refine ⟨rfl, fun ⟨Ds, h1, h2, h3⟩ => ⟨w.heap.size :: Ds, by simp [h1], List.nodup_cons.2 ⟨fun hm => ?_, h2⟩, fun D hD => ?_⟩, hx.os, hx.tape, hx.output, by omega, hkeep, fun b' hb => ?_, (g1.trans hx.grow).trans g3, fun b' o hd hn => ⟨.inl ?_, ?_⟩, R0.nil⟩
    · have := (Array.getElem?_eq_some_iff.1 (h3 _ hm).1).1; omega
    · rcases List.mem_cons.1 hD with rfl | hD
      · exact ⟨hD3, R0.ext.size⟩
      · have h4 := h3 D hD
        exact ⟨(hkeep D (Array.getElem?_eq_some_iff.1 h4.1).1 (fun hm => hφD D hm h4.1)).trans h4.1, h4.2⟩
    · obtain ⟨cs, hg⟩ := hφb b' hb
      exact (R0.own _ _ b' hg rfl).imp id And.left
    · have := hx.new b' o hd hn; omega
    · obtain ⟨u, hu⟩ := hwf2.there b' o hd
      exact ⟨u, (hcell3 b' o hd).trans hu⟩
  have hids' : ∀ b' ∈ φ'.map (·.1), b' ∈ φ.map (·.1) ∨ w.heap.size ≤ b' := fun b' hb => (hids b' hb).imp id fun h => by omega
  have hh3 : HeapOK D' w3 φ' := heapOK_grow g3 (fun b' hb => hne b' (fun e => by subst e; exact hnm2 hb)) hh2
  have R3 : Rel X { D := D', ν := G.ν, τ := G.τ } (addObjs (delObjs s φ) φ') { a with defers := [mark w.heap.size] ++ a.defers } w3 := by
    refine R0.step T (fun m u => ∃ b' cs, m = .heap b' ∧ u = .row (cs.map SV.v) ∧ (b', cs) ∈ φ') (fun m u h => ?_) (fun m u h => ?_) (fun m u m' u' b' h h' hb hb' => ?_)
    · rcases get_addObjs _ _ _ _ h with h | ⟨h, hne'⟩
      · exact .inl h
      · obtain ⟨h, hn⟩ := get_delObjs _ _ _ _ h
        refine .inr ⟨h, fun _ _ => rfl, fun b' hb hB => ?_, fun _ _ => rfl, fun _ _ => rfl⟩
        obtain ⟨cs, hg⟩ := hφb b' hB
        exact hn b' hB (R0.sep _ _ _ _ b' hg h rfl hb).symm
    · obtain ⟨b', cs, rfl, rfl, hm⟩ := h
      refine ⟨blk_of_heapOK hh3 hm, fun b2 hb' => ?_⟩
      simp only [blkOf, Option.some.injEq] at hb'
      subst hb'
      have hmm : b' ∈ φ'.map (·.1) := List.mem_map.2 ⟨_, hm, rfl⟩
      refine ⟨(hids' b' hmm).symm, ?_, fun _ o => hh3.nodata b' cs hm o⟩
      rcases hids' b' hmm with h1 | h1
      · obtain ⟨cs', hg⟩ := hφb b' h1
        exact R0.own _ _ b' hg rfl
      · exact .inl (Nat.le_trans R0.ext.size h1)
    · obtain ⟨b1, cs1, rfl, rfl, hm1⟩ := h
      obtain ⟨b2, cs2, rfl, rfl, hm2⟩ := h'
      simp only [blkOf, Option.some.injEq] at hb hb'
      rw [hb, hb']
  obtain ⟨w', fr', h1, h2⟩ := after φ' r' hR (fun b' hb => (hids' b' hb).imp id fun h => newB_of fun u hu => by
    have hho := R0.holds _ _ hu
    cases u with
    | row cs => have := blk_lt hho rfl; omega
    | ob q => have := blk_lt hho rfl; omega
    | one x => exact hho.elim
    | tk E n => exact hho.elim) _ _ w3 b cs hf hk hro R3
  exact ⟨w', fr', h1, .head henter (Steps.trans hsteps (.head hback (.head hstep3 h2)))⟩


/-- a call of yield, in a state whose other objects are known (A) -/
theorem leS_yield {A : St} {φ φ' : Objs} {d l : Nat} {x : DV} {r' : Loop} (hA : ∀ m v, (m, v) ∈ A → get s m = some v ∧ m ≠ .slot d ∧ m ≠ .heap l ∧ ∀ b ∈ φ.map (·.1), m ≠ .heap b) (hnd : (φ'.map (·.1)).Nodup) (hl : l ∉ φ'.map (·.1)) (hids : ∀ c ∈ φ'.map (·.1), c ∈ φ.map (·.1) ∨ newB c s) :
    leS ((.slot d, .one (.v x)) :: (.heap l, .ob r') :: (A ++ heapSt φ')) (upd (addObjs (delObjs (upd s (.slot d) (.one (.v x))) φ) φ') (.heap l) (.ob r')) := by
  have hadd : ∀ (φ' : Objs) (s : St) (b : Nat) (cs : List DV), (φ'.map (·.1)).Nodup → (b, cs) ∈ φ' → get (addObjs s φ') (.heap b) = some (.row (cs.map SV.v)) := by
    intro φ'
    induction φ' with
    | nil => intro s b cs _ h; cases h
    | cons p r ih =>
      obtain ⟨b0, c0⟩ := p
      intro s b cs hn h
      simp only [List.map_cons, List.nodup_cons] at hn
      simp only [addObjs, get_upd]
      rcases List.mem_cons.1 h with e | h
      · cases e; simp
      · have : b0 ≠ b := fun e => hn.1 (by rw [e]; exact List.mem_map.2 ⟨_, h, rfl⟩)
        simp only [Loc.heap.injEq, this, if_false]
        exact ih s b cs hn.2 h
  have hno : ∀ (φ' : Objs) (s : St) (m : Loc), (∀ b ∈ φ'.map (·.1), m ≠ .heap b) → get (addObjs s φ') m = get s m := by
    intro φ'
    induction φ' with
    | nil => intro s m _; rfl
    | cons p r ih =>
      obtain ⟨b0, c0⟩ := p
      intro s m h
      simp only [addObjs, get_upd]
      rw [if_neg (fun e => h b0 (by simp) e.symm)]
      exact ih s m fun b hb => h b (by simp [hb])
  have hdel : ∀ (φ : Objs) (s : St) (m : Loc), (∀ b ∈ φ.map (·.1), m ≠ .heap b) → get (delObjs s φ) m = get s m := by
    intro φ
    induction φ with
    | nil => intro s m _; rfl
    | cons p r ih =>
      obtain ⟨b0, c0⟩ := p
      intro s m h
      simp only [delObjs]
      rw [ih _ m fun b hb => h b (by simp [hb]), get_del, if_neg (fun e => h b0 (by simp) e.symm)]
  intro m v hm
  simp only [get] at hm
  rw [get_upd]
  split at hm
  · rename_i e; subst e
    cases hm
    simp only [reduceCtorEq, if_false]
    rw [hno _ _ _ (by simp), hdel _ _ _ (by simp), get_upd, if_pos rfl]
  · rename_i hsl
    split at hm
    · rename_i e; subst e
      cases hm
      simp
    · rename_i hhl
      rw [if_neg hhl]
      rw [get_append] at hm
      rcases Option.or_eq_some_iff.1 hm with hm | ⟨-, hm⟩
      · obtain ⟨h1, h2, h3, h4⟩ := hA m v (get_mem hm)
        have h5 : ∀ b ∈ φ'.map (·.1), m ≠ .heap b := by
          rintro b hb rfl
          rcases hids b hb with h | h
          · exact h4 b h rfl
          · have key : ∀ s : St, newB b s → get s (.heap b) = none := by
              intro s
              induction s with
              | nil => intro _; rfl
              | cons p r ih =>
                obtain ⟨m, u⟩ := p
                intro hn
                cases m with
                | heap b' => simp only [newB] at hn; simp only [get, Loc.heap.injEq, hn.1, if_false]; exact ih hn.2
                | slot n => simp only [newB] at hn; simp only [get, reduceCtorEq, if_false]; exact ih hn
                | loc n => simp only [newB] at hn; simp only [get, reduceCtorEq, if_false]; exact ih hn
                | tok n => simp only [newB] at hn; simp only [get, reduceCtorEq, if_false]; exact ih hn
            rw [key s h] at h1; cases h1
        rw [hno _ _ _ h5, hdel _ _ _ h4, get_upd, if_neg (fun e => h2 e.symm)]
        exact h1
      · obtain ⟨b, cs, rfl, rfl, hmem⟩ := get_heapSt hm
        exact hadd _ _ b cs hnd hmem

theorem vcK_yieldA {esc : List Nat} {ops : Array Oper} {ll : List Oper} {K : St → Prop} {d : Tmp} {y : Operand} {args : Array Operand} {ats : Array TypeId} {ty : TypeId} {pos : String} {af : Array Edge} {l : Nat} (hy : evl X (get s) y = some (.v (.prim (.func (.yield l) #[] #[]))))
    {ds ds' : List DV} {P : Program} {gl : Globs} (hP : X.P = P) (hgl : X.gl = gl) {r : Loop} {φ : Objs} {R : Bool → Objs → Loop → Prop} (hc : YC P gl X.D0 X.w0 l r ds' φ R) (hps : r.params.size = ds'.length) (hargs : evlDs X (get s) args.toList = some ds) (hds : ds = ds') (hφ : objsIn (get s) φ) (hnd : (φ.map (·.1)).Nodup) (hl : get s (.heap l) = some (.ob r)) (hdn : d < X.n)
    (A : St) (hA : ∀ m v, (m, v) ∈ A → get s m = some v ∧ m ≠ .slot d ∧ m ≠ .heap l ∧ ∀ b ∈ φ.map (·.1), m ≠ .heap b)
    (h : ∀ b φ' r', R b φ' r' → (φ'.map (·.1)).Nodup ∧ l ∉ φ'.map (·.1)) (hk : ∀ b φ' r', R b φ' r' → (∀ c ∈ φ'.map (·.1), c ∈ φ.map (·.1) ∨ newB c s) → vc X esc ops ll ((.slot d, .one (.v (.prim (.bool b)))) :: (.heap l, .ob r') :: (A ++ heapSt φ')) K) :
    vcK X esc ops ll K ⟨some d, .call { callee := .value y, args := args, argTypes := ats }, ty, pos, af, none⟩ s (stepS X esc s ⟨some d, .call { callee := .value y, args := args, argTypes := ats }, ty, pos, af, none⟩) := by
  subst hds
  have e : stepS X esc s ⟨some d, .call { callee := .value y, args := args, argTypes := ats }, ty, pos, af, none⟩ = none := by
    simp only [stepS, isAppend, pval, pcall, put1]
    split <;> rfl
  rw [e]
  intro n hn G a w R0
  obtain ⟨h1, h2⟩ := drop_cons hn
  simp only [List.length_cons, List.range'_succ, wpOpsIn, h1, Region.wanted, if_true]
  refine StepYield (o := ⟨some d, .call { callee := .value y, args := args, argTypes := ats }, ty, pos, af, none⟩) rfl hy hargs hps (by rw [hP, hgl]; exact hc) hφ hnd hl rfl hdn R0 _ _ fun b φ' r' G' a' w' hR hids R' => ?_
  have hids' : ∀ c ∈ φ'.map (·.1), c ∈ φ.map (·.1) ∨ newB c s := fun c hc => (hids c hc).imp id fun hh => newB_of fun v hv => by
    have hho := R0.holds _ _ hv
    cases v with
    | row cs => exact hh _ _ hv rfl
    | ob r => exact hh _ _ hv rfl
    | one x => exact hho.elim
    | tk E n => exact hho.elim
  exact vc_sound (hk b φ' r' hR hids') (n + 1) h2 G' a' w' (R'.weaken (leS_yield hA (h b φ' r' hR).1 (h b φ' r' hR).2 hids'))

/-- what a list of objects at the end of a state says -/
theorem get_heapSt_slot (φ : Objs) (n : Nat) : get (heapSt φ) (.slot n) = none := by
  induction φ with
  | nil => rfl
  | cons p r ih => obtain ⟨b, cs⟩ := p; simp [heapSt, get, ih]
theorem get_heapSt_loc (φ : Objs) (n : Nat) : get (heapSt φ) (.loc n) = none := by
  induction φ with
  | nil => rfl
  | cons p r ih => obtain ⟨b, cs⟩ := p; simp [heapSt, get, ih]
theorem get_heapSt_tok (φ : Objs) (n : Nat) : get (heapSt φ) (.tok n) = none := by
  induction φ with
  | nil => rfl
  | cons p r ih => obtain ⟨b, cs⟩ := p; simp [heapSt, get, ih]
theorem del_heapSt_slot (φ : Objs) (n : Nat) : del (heapSt φ) (.slot n) = heapSt φ := by
  induction φ with
  | nil => rfl
  | cons p r ih => obtain ⟨b, cs⟩ := p; simp [heapSt, del, ih]
theorem del_heapSt_loc (φ : Objs) (n : Nat) : del (heapSt φ) (.loc n) = heapSt φ := by
  induction φ with
  | nil => rfl
  | cons p r ih => obtain ⟨b, cs⟩ := p; simp [heapSt, del, ih]
theorem del_heapSt_tok (φ : Objs) (n : Nat) : del (heapSt φ) (.tok n) = heapSt φ := by
  induction φ with
  | nil => rfl
  | cons p r ih => obtain ⟨b, cs⟩ := p; simp [heapSt, del, ih]
theorem toksOf_heapSt (φ : Objs) : toksOf (heapSt φ) = [] := by
  induction φ with
  | nil => rfl
  | cons p r ih => obtain ⟨b, cs⟩ := p; simp [heapSt, toksOf, ih]
theorem anyLoc_vs (d : Nat) (cs : List DV) : anyLoc d (cs.map SV.v) = false := by
  induction cs with
  | nil => rfl
  | cons c r ih => simp [anyLoc, hasLoc, ih]
theorem anyTok_vs (d : Nat) (cs : List DV) : anyTok d (cs.map SV.v) = false := by
  induction cs with
  | nil => rfl
  | cons c r ih => simp [anyTok, hasTok, ih]
theorem freshL_heapSt (d : Nat) (φ : Objs) : freshL d (heapSt φ) = true := by
  induction φ with
  | nil => rfl
  | cons p r ih => obtain ⟨b, cs⟩ := p; simp [heapSt, freshL, ih, anyLoc_vs]
theorem freshT_heapSt (d : Nat) (φ : Objs) : freshT d (heapSt φ) = true := by
  induction φ with
  | nil => rfl
  | cons p r ih => obtain ⟨b, cs⟩ := p; simp [heapSt, freshT, ih, anyTok_vs]
theorem objsIn_tail {φ : Objs} (hn : (φ.map (·.1)).Nodup) : ∀ {A : St}, (∀ m v, (m, v) ∈ A → ∀ b ∈ φ.map (·.1), m ≠ .heap b) → objsIn (get (A ++ heapSt φ)) φ := by
  intro A hA b cs hm
  have h1 : get (heapSt φ) (.heap b) = some (.row (cs.map SV.v)) := by
    induction φ with
    | nil => cases hm
    | cons p r ih =>
      obtain ⟨b0, c0⟩ := p
      simp only [List.map_cons, List.nodup_cons] at hn
      simp only [heapSt, get]
      rcases List.mem_cons.1 hm with e | hm
      · cases e; simp
      · have : b0 ≠ b := fun e => hn.1 (by rw [e]; exact List.mem_map.2 ⟨_, hm, rfl⟩)
        simp only [Loc.heap.injEq, this, if_false]
        exact ih hn.2 (fun m v h b hb => hA m v h b (by simp [hb])) hm
  rw [get_append, h1]
  cases hq : get A (.heap b) with
  | none => rfl
  | some v => exact absurd rfl (hA _ _ (get_mem hq) b (List.mem_map.2 ⟨_, hm, rfl⟩))

/-- a state that ends in objects says what another one says that ends in them -/
theorem W_tail {A A' : St} {φ : Objs} {kk : List Item} (hA : ∀ m v, (m, v) ∈ A' → get A m = some v) (h : W X kk (A' ++ heapSt φ)) (hd : ∀ m v, (m, v) ∈ A → ∀ b ∈ φ.map (·.1), m ≠ .heap b) : W X kk (A ++ heapSt φ) := by
  intro G a w b cs hf hk hr R
  refine h G a w b cs hf hk hr (R.weaken fun m v hm => ?_)
  rw [get_append] at hm ⊢
  rcases Option.or_eq_some_iff.1 hm with hm | ⟨-, hm⟩
  · rw [hA m v (get_mem hm)]; rfl
  · obtain ⟨b, cs, rfl, rfl, hmem⟩ := get_heapSt hm
    cases hq : get A (.heap b) with
    | none => exact hm
    | some u => exact absurd rfl (hd _ _ (get_mem hq) b (List.mem_map.2 ⟨_, hmem, rfl⟩))

theorem objsIn_slot {φ : Objs} {n : Nat} {v : LV} (h : objsIn (get s) φ) : objsIn (get ((.slot n, v) :: s)) φ := fun b cs hm => by
  simp only [get, reduceCtorEq, if_false]; exact h b cs hm
theorem objsIn_loc {φ : Objs} {n : Nat} {v : LV} (h : objsIn (get s) φ) : objsIn (get ((.loc n, v) :: s)) φ := fun b cs hm => by
  simp only [get, reduceCtorEq, if_false]; exact h b cs hm
theorem objsIn_tok {φ : Objs} {n : Nat} {v : LV} (h : objsIn (get s) φ) : objsIn (get ((.tok n, v) :: s)) φ := fun b cs hm => by
  simp only [get, reduceCtorEq, if_false]; exact h b cs hm
theorem objsIn_heap {φ : Objs} {n : Nat} {v : LV} (hn : n ∉ φ.map (·.1)) (h : objsIn (get s) φ) : objsIn (get ((.heap n, v) :: s)) φ := fun b cs hm => by
  have : n ≠ b := fun e => hn (by rw [e]; exact List.mem_map.2 ⟨_, hm, rfl⟩)
  simp only [get, Loc.heap.injEq, this, if_false]; exact h b cs hm
theorem objsIn_self {φ : Objs} (hn : (φ.map (·.1)).Nodup) : objsIn (get (heapSt φ)) φ := objsIn_tail (A := []) hn (by simp)
theorem objsIn_one {φ : Objs} {b : Nat} {cs : List DV} (h : get s (.heap b) = some (.row (cs.map SV.v))) (h' : objsIn (get s) φ) : objsIn (get s) ((b, cs) :: φ) := by
  intro b' cs' hm
  rcases List.mem_cons.1 hm with e | hm
  · cases e; exact h
  · exact h' b' cs' hm

attribute [go_sem] get_heapSt_slot get_heapSt_loc get_heapSt_tok del_heapSt_slot del_heapSt_loc del_heapSt_tok toksOf_heapSt freshL_heapSt freshT_heapSt

end
end Go.Proofs.YtbmnlkfgkdallaaGreatDoor.Lift

/-
  Part T of the small logic: a slice whose cells are written again: its block stands as an object of its own until it is frozen.
-/
namespace Go.Proofs.YtbmnlkfgkdallaaGreatDoor.Lift
set_option linter.unusedSimpArgs false
set_option linter.unusedVariables false
set_option linter.unnecessarySimpa false
open Go

section
variable {X : Ctx} {s : St}

theorem flatten_get {E : Nat} : ∀ {ys : List (List DV)}, (∀ e ∈ ys, e.length = E) → ∀ {k : Nat} {d : DV}, ys.flatten[k]? = some d → ∃ i j e, ys[i]? = some e ∧ e[j]? = some d ∧ k = i * E + j
  | [], _, k, d, h => by simp at h
  | e :: r, hE, k, d, h => by
    have he := hE e (by simp)
    by_cases hk : k < e.length
    · rw [List.flatten_cons, List.getElem?_append_left hk] at h
      exact ⟨0, k, e, by simp, h, by simp⟩
    · rw [List.flatten_cons, List.getElem?_append_right (by omega)] at h
      obtain ⟨i, j, e', h1, h2, h3⟩ := flatten_get (fun e he => hE e (by simp [he])) h
      refine ⟨i + 1, j, e', by simpa using h1, h2, ?_⟩
      rw [Nat.add_mul]
      omega

theorem flatten_len {E : Nat} : ∀ {ys : List (List DV)}, (∀ e ∈ ys, e.length = E) → ys.flatten.length = ys.length * E
  | [], _ => by simp
  | e :: r, hE => by
    have := flatten_len (ys := r) fun e he => hE e (by simp [he])
    rw [List.flatten_cons, List.length_append, this, hE e (by simp), List.length_cons, Nat.add_mul]
    omega

/-- the cells of an array as a row -/
def arrRow (ys : List (List DV)) : List SV := ys.flatten.map SV.v

/-- append to nothing: the slice's block is new, and one's own -/
theorem step_appendX {o : Oper} {x y : Operand} {T T2 : TypeId} (ho : o.op = .call { callee := .builtin .append, args := #[x, y], argTypes := #[T, T2] }) {d : Nat} (hd : o.dst = some d) (hn : d < X.n)
    {E B : Nat} (he : elemZ X.P T = some (E, B)) (hB : 0 < B ∧ B ≤ 1024) (h2 : (elemT X.P T2).isSome = true) (hx : evl X (get s) x = some (.own 0 [])) {ys : List (List DV)} (hy : (evl X (get s) y).bind slOf = some ys)
    (hpos : 0 < ys.length) (hbig : ys.length ≤ BIG) (hE2 : ∀ e ∈ ys, e.length = E) {G : Gh} {a : Act} {w : World} (R : Rel X G s a w) (next : Act → World → Prop) (Q : Exit → Act → World → Prop)
    (hK : ∀ b cap, ys.length ≤ cap → newB b s → X.w0.heap.size ≤ b → ∀ G' a' w', Rel X G' (upd (upd s (.slot d) (.one (.v (.prim (.slice (some ⟨b, 0, none⟩) ys.length cap))))) (.heap b) (.row (arrRow ys))) a' w' → next a' w') :
    o.wpIn X.F 0 X.P a w next Q := by
  obtain ⟨hv, hr⟩ := evl_own R hx
  rw [R.nil] at hv
  obtain ⟨q, hq, hq'⟩ := Option.bind_eq_some_iff.1 hy
  obtain ⟨yb, ycap, hyv, hyr, -⟩ := slOf_sound hq' (evl_sound R hq)
  obtain ⟨c2, g, g1, g2, g3⟩ := sl_laid hyr hE2
  have hdr : ∀ w' : World, w'.heap = w.heap → (Builtin.firstCells E ys.length (a.eval y)).run X.P w' = .ok (arr g (ys.length * E)) w' := fun w' hw => by
    refine run_firstCells (D := G.D) ?_
    rcases g3 with h | ⟨b, o', cap, h, hc⟩
    · exact .inl h
    · exact .inr ⟨b, o', cap, h, fun k hk => by rw [cell_of_heap hw]; exact hc k hk⟩
  obtain ⟨c, e, nc, r1, r2, r3, r4, r5⟩ := run_append_new (P := X.P) (t := T) (ty := o.type) (t2 := T2) (w := w) he hB h2 (base := none) (len := 0) (cap := 0) (old := #[]) (fun w' _ => lenOf_sl (P := X.P) hyr w') hdr (fun w' _ => by simp [Builtin.firstCells]) (by omega) (by omega) (by simp) (arr_size _ _)
  rw [Nat.zero_add] at r1 r2
  have hnewb : newB w.heap.size s := newB_of fun v hv => by
    have hh := R.holds _ _ hv
    cases v with
    | row cs => exact absurd (blk_lt hh rfl) (Nat.lt_irrefl _)
    | ob r => exact absurd (blk_lt hh rfl) (Nat.lt_irrefl _)
    | one x => exact hh.elim
    | tk E n => exact hh.elim
  have hexec : (execOp a.eval o).run X.P w = .ok (.value (.slice (some ⟨w.heap.size, 0, none⟩) ys.length nc)) (w.drew.alloc (.cells c e)) := by
    have hr1 : (Builtin.append_ #[T, T2] o.type #[a.eval x, a.eval y]).run X.P w = .ok (.slice (some ⟨w.heap.size, 0, none⟩) ys.length nc) (w.drew.alloc (.cells c e)) := by rw [hv]; exact r1
    simp [execOp, ho, resolve, invoke, builtin, hr1]
  refine opIn (by intro c e; rw [ho] at e; cases e) ?_
  rw [hexec, upn_value, hd]
  have hp := put_tmps a (some d) (.slice (some ⟨w.heap.size, 0, none⟩) ys.length nc)
  have T' : Trans X G a w G (a.put (some d) (.slice (some ⟨w.heap.size, 0, none⟩) ys.length nc)) (w.drew.alloc (.cells c e)) (fun _ => False) := by
    refine ⟨hp.1, fun h => (h.heap fun b hb => alloc_old w.drew _ b hb).put hp.2, rfl, rfl, rfl, by simp, fun b hb _ => alloc_old w.drew _ b hb, fun _ h => h.elim, fun b k hD => ⟨hD, World.cell?_alloc_lt w.drew _ _ (R.wf.lt hD)⟩, fun b k hD hnD => absurd hD hnD, R.nil⟩
  refine hK w.heap.size nc r2 hnewb R.ext.size G _ _ ?_
  have hlen := flatten_len hE2
  refine R.step T' (fun l u => (l = .slot d ∧ u = .one (.v (.prim (.slice (some ⟨w.heap.size, 0, none⟩) ys.length nc)))) ∨ (l = .heap w.heap.size ∧ u = .row (arrRow ys))) (fun l u h => ?_) (fun l u h => ?_) (fun l u l' u' b h h' hb hb' => ?_)
  · rw [get_upd, get_upd] at h
    by_cases h1 : Loc.heap w.heap.size = l
    · rw [if_pos h1] at h; cases h; exact .inl (.inr ⟨h1.symm, rfl⟩)
    · rw [if_neg h1] at h
      by_cases h3 : Loc.slot d = l
      · rw [if_pos h3] at h; cases h; exact .inl (.inl ⟨h3.symm, rfl⟩)
      · rw [if_neg h3] at h
        exact .inr ⟨h, fun n hn => put_get_ne _ _ _ _ (fun e => h3 (by rw [hn, e])), fun b hb hBb => hBb.elim, fun _ _ => rfl, fun _ _ => rfl⟩
  · rcases h with ⟨rfl, rfl⟩ | ⟨rfl, rfl⟩
    · refine ⟨?_, fun b hb => by cases hb⟩
      show RSV G _ (.v _) _
      rw [put_get_same _ _ _ (by rw [R.size]; exact hn)]
      exact .prim _ trivial
    · refine ⟨⟨c, e, alloc_new w.drew _, ?_, fun i x hx => ?_⟩, fun b hb => ?_⟩
      · simp only [arrRow, List.length_map]
        rw [hlen, r3]
        exact Nat.mul_le_mul_right _ r2
      · simp only [arrRow, List.getElem?_map] at hx
        cases hd0 : ys.flatten[i]? with
        | none => rw [hd0] at hx; cases hx
        | some dd =>
          rw [hd0] at hx
          cases hx
          obtain ⟨i1, j1, e1, k1, k2, rfl⟩ := flatten_get hE2 hd0
          have hj : j1 < E := by rw [← hE2 e1 (List.mem_of_getElem? k1)]; exact (List.getElem?_eq_some_iff.1 k2).1
          have hi : i1 < ys.length := (List.getElem?_eq_some_iff.1 k1).1
          refine ⟨c2 e1 (List.mem_of_getElem? k1) dd (List.mem_of_getElem? k2), g (i1 * E + j1), ?_, (g1 i1 j1 e1 dd k1 k2).mono T'.grow⟩
          have := r5 (i1 * E + j1) (lt_mul hi hj)
          rw [Nat.zero_mul, Nat.zero_add] at this
          rw [this]
          exact arr_get _ _ _ (lt_mul hi hj)
      · cases hb
        exact ⟨.inl (Nat.le_refl _), .inl R.ext.size, fun _ o hD => absurd (R.wf.lt hD) (Nat.lt_irrefl _)⟩
  · rcases h with ⟨rfl, rfl⟩ | ⟨rfl, rfl⟩
    · cases hb
    · rcases h' with ⟨rfl, rfl⟩ | ⟨rfl, rfl⟩
      · cases hb'
      · rfl

theorem vcK_appendX {esc : List Nat} {ops : Array Oper} {l : List Oper} {K : St → Prop} {d : Tmp} {x y : Operand} {T T2 ty : TypeId} {pos : String} {af : Array Edge} {q : Option (Prop × St)}
    {E B : Nat} {ys : List (List DV)} (hx : evl X (get s) x = some (.own 0 [])) (hy : (evl X (get s) y).bind slOf = some ys) (he : elemZ X.P T = some (E, B)) (hB : 0 < B ∧ B ≤ 1024) (h2 : (elemT X.P T2).isSome = true) (hn : d < X.n)
    (hE2 : ∀ e ∈ ys, e.length = E) (hpos : 0 < ys.length) (hbig : ys.length ≤ BIG) (hq : q = none)
    (h : ∀ b cap, ys.length ≤ cap → newB b s → X.w0.heap.size ≤ b → vc X esc ops l (upd (upd s (.slot d) (.one (.v (.prim (.slice (some ⟨b, 0, none⟩) ys.length cap))))) (.heap b) (.row (arrRow ys))) K) :
    vcK X esc ops l K ⟨some d, .call { callee := .builtin .append, args := #[x, y], argTypes := #[T, T2] }, ty, pos, af, none⟩ s q := by
  subst hq
  intro n hn' G a w R0
  obtain ⟨h1, h3⟩ := drop_cons hn'
  simp only [List.length_cons, List.range'_succ, wpOpsIn, h1, Region.wanted, if_true]
  refine step_appendX (o := ⟨some d, .call { callee := .builtin .append, args := #[x, y], argTypes := #[T, T2] }, ty, pos, af, none⟩) rfl rfl hn he hB h2 hx hy hpos hbig hE2 R0 _ _ fun b cap hc hb hw G' a' w' R' => ?_
  exact vc_sound (h b cap hc hb hw) (n + 1) h3 G' a' w' R'

/-- the place of an element of a slice that is a primitive datum -/
theorem vcK_indexX {esc : List Nat} {ops : Array Oper} {l : List Oper} {K : St → Prop} {d : Tmp} {x i : Operand} {T ty : TypeId} {pos : String} {af : Array Edge} {q : Option (Prop × St)}
    {b len cap : Nat} {k : IntKind} {n : Int} {E : Nat} (hx : evl X (get s) x = some (.v (.prim (.slice (some ⟨b, 0, none⟩) len cap)))) (hi : evl X (get s) i = some (.v (.prim (.int k n)))) (he : elemT X.P T = some E) (h0 : 0 ≤ n) (hlt : n < len) (hd : d < X.n) (hq : q = none)
    (h : vc X esc ops l (upd s (.slot d) (.one (.v (.prim (.pointer (some ⟨b, n.toNat * E, none⟩)))))) K) :
    vcK X esc ops l K ⟨some d, .indexAddr T x i, ty, pos, af, none⟩ s q := by
  subst hq
  refine VL_step rfl (s' := upd s (.slot d) (.one (.v (.prim (.pointer (some ⟨b, n.toNat * E, none⟩)))))) ?_ (vc_sound h)
  intro G a w R next Q hK
  have hv := (prim_of (evl_sound R hx)).1
  have hnv := (prim_of (evl_sound R hi)).1
  obtain ⟨e', ie, hu, hie, hsz⟩ := elem_run he
  refine opIn (by intro c e; cases e) ?_
  have hrun : (execOp a.eval ⟨some d, .indexAddr T x i, ty, pos, af, none⟩).run X.P w = .ok (.value (.pointer (some ⟨b, n.toNat * E, none⟩))) w := by
    simp [execOp, hnv, hv, Instr.indexAt, asIntOf, run_underlying hu, sizeOf, typeInfo, hie, hsz, h0, hlt, addr_add]
  rw [hrun, upn_value]
  exact hK G _ w (R.setSlot (Trans.refl X G a w R.nil) rfl rfl (fun _ h => h) hd (.prim _ trivial))

def frzSV (b : Nat) (ys : List (List DV)) : SV → SV
  | .v (.prim (.slice (some ⟨b', 0, none⟩) n cap)) => if b' = b ∧ n = ys.length ∧ n ≤ cap then .v (.sl ys) else .v (.prim (.slice (some ⟨b', 0, none⟩) n cap))
  | x => x
def frzRow (b : Nat) (ys : List (List DV)) : List SV → List SV
  | [] => []
  | x :: r => frzSV b ys x :: frzRow b ys r
def frzLV (b : Nat) (ys : List (List DV)) : LV → LV
  | .one x => .one (frzSV b ys x)
  | .row cs => .row (frzRow b ys cs)
  | .tk E n => .tk E n
  | .ob r => .ob r
def frz (b : Nat) (ys : List (List DV)) : St → St
  | [] => []
  | (l, v) :: r => (l, frzLV b ys v) :: frz b ys r
theorem get_frz (b : Nat) (ys : List (List DV)) (s : St) (l : Loc) : get (frz b ys s) l = (get s l).map (frzLV b ys) := by
  induction s with
  | nil => rfl
  | cons p r ih =>
    obtain ⟨m, v⟩ := p
    simp only [frz, get]
    split
    · rfl
    · exact ih
theorem frzRow_get (b : Nat) (ys : List (List DV)) (cs : List SV) : (frzRow b ys cs).length = cs.length ∧ ∀ i : Nat, (frzRow b ys cs)[i]? = cs[i]?.map (frzSV b ys) := by
  induction cs with
  | nil => simp [frzRow]
  | cons x r ih =>
    refine ⟨by simp [frzRow, ih.1], fun i => ?_⟩
    cases i with
    | zero => simp [frzRow]
    | succ i => simp [frzRow, ih.2]

theorem frzSV_sound {b : Nat} {ys : List (List DV)} {G : Gh} {w : World} (hsl : ∀ cap, ys.length ≤ cap → RV G.D w (.sl ys) (.slice (some ⟨b, 0, none⟩) ys.length cap)) {x : SV} {v : Value} (h : RSV G w x v) : RSV G w (frzSV b ys x) v := by
  unfold frzSV
  split
  · rename_i b' n cap
    split
    · rename_i hc
      obtain ⟨rfl, rfl, hcap⟩ := hc
      have := (prim_of h).1
      rw [this]
      exact hsl cap hcap
    · exact h
  · exact h
theorem frzSV_cell {b : Nat} {ys : List (List DV)} {x : SV} (h : x.isCell = true) : (frzSV b ys x).isCell = true := by
  unfold frzSV
  split
  · split <;> rfl
  · exact h

/-- what is told of a primitive slice, told as data -/
theorem Rel.told {G : Gh} {a : Act} {w : World} (R : Rel X G s a w) (b : Nat) (ys : List (List DV)) (hsl : ∀ cap, ys.length ≤ cap → RV G.D w (.sl ys) (.slice (some ⟨b, 0, none⟩) ys.length cap)) : Rel X G (frz b ys s) a w := by
  have hblk : ∀ l v, blkOf G l (frzLV b ys v) = blkOf G l v := by
    intro l v
    cases v <;> cases l <;> rfl
  have hget : ∀ l v, get (frz b ys s) l = some v → ∃ v0, get s l = some v0 ∧ v = frzLV b ys v0 := by
    intro l v h
    rw [get_frz] at h
    obtain ⟨v0, h1, h2⟩ := Option.map_eq_some_iff.1 h
    exact ⟨v0, h1, h2.symm⟩
  have hrow : ∀ k cs, BlkAt G w k cs → BlkAt G w k (frzRow b ys cs) := by
    rintro k cs ⟨c, e, h1, h2, h3⟩
    obtain ⟨f1, f2⟩ := frzRow_get b ys cs
    refine ⟨c, e, h1, by omega, fun i x hx => ?_⟩
    rw [f2] at hx
    obtain ⟨x0, h4, rfl⟩ := Option.map_eq_some_iff.1 hx
    obtain ⟨k1, v, k2, k3⟩ := h3 i x0 h4
    exact ⟨frzSV_cell k1, v, k2, frzSV_sound hsl k3⟩
  refine ⟨R.size, R.defers, R.ext, R.wf, R.nil, fun l v hg => ?_, fun l v l' v' b' hg hg' hb hb' => ?_, fun l v b' hg hb => ?_, fun l v b' o hg hb ht => ?_⟩
  · obtain ⟨v0, h1, rfl⟩ := hget l v hg
    have hh := R.holds l v0 h1
    cases l <;> cases v0 <;> first | exact hh.elim | exact frzSV_sound hsl hh | exact hrow _ _ hh | exact hh
  · obtain ⟨v0, h1, rfl⟩ := hget l v hg
    obtain ⟨v1, h2, rfl⟩ := hget l' v' hg'
    rw [hblk] at hb hb'
    exact R.sep l v0 l' v1 b' h1 h2 hb hb'
  · obtain ⟨v0, h1, rfl⟩ := hget l v hg
    rw [hblk] at hb
    exact R.own l v0 b' h1 hb
  · obtain ⟨v0, h1, rfl⟩ := hget l v hg
    rw [hblk] at hb
    exact R.data l v0 b' o h1 hb ht

/-- an array becomes data -/
theorem Rel.freeze {G : Gh} {a : Act} {w : World} (R : Rel X G s a w) {b E : Nat} {ys : List (List DV)} (hE : ∀ e ∈ ys, e.length = E) (hbig : ys.length ≤ BIG) (hw : X.w0.heap.size ≤ b) (hrow : get s (.heap b) = some (.row (arrRow ys))) :
    ∃ G', Rel X G' (frz b ys (del s (.heap b))) a w := by
  obtain ⟨c, e, h1, h2, h3⟩ := R.holds _ _ hrow
  have hlen := flatten_len hE
  have hal : (arrRow ys).length = ys.length * E := by simp only [arrRow, List.length_map]; exact hlen
  rw [hal] at h2
  have hcell : ∀ k, w.cell? ⟨b, k, none⟩ = c[k]? := fun k => by simp [World.cell?, h1]
  let G' : Gh := { D := withData G.D b 0 (ys.length * E), ν := G.ν, τ := G.τ }
  have T : Trans X G a w G' a w (fun b' => b' = b) := by
    refine ⟨rfl, fun h => h, rfl, rfl, rfl, Nat.le_refl _, fun _ _ _ => rfl, fun b' hb => by subst hb; exact .inl hw, fun _ _ hD => ⟨.inl hD, rfl⟩, fun b' k hD hnD => ?_, R.nil⟩
    rcases hD with hD | ⟨rfl, _, hk⟩
    · exact absurd hD hnD
    · exact ⟨.inr ⟨rfl, hw⟩, _, (hcell k).trans (Array.getElem?_eq_getElem (by omega))⟩
  have R1 : Rel X G' (del s (.heap b)) a w := by
    refine R.step T (fun _ _ => False) (fun l u h => ?_) (fun l u h => h.elim) (fun l u l' u' b h _ _ _ => h.elim)
    rw [get_del] at h
    by_cases hl : Loc.heap b = l
    · rw [if_pos hl] at h; cases h
    · rw [if_neg hl] at h
      refine .inr ⟨h, fun _ _ => rfl, fun b' hb' he => ?_, fun _ _ => rfl, fun _ _ => rfl⟩
      subst he
      exact hl (R.sep _ _ _ _ b' hrow h rfl hb')
  refine ⟨G', R1.told b ys fun cap hcap => ?_⟩
  have hget : ∀ i j e' d, ys[i]? = some e' → e'[j]? = some d → d.isCell = true ∧ ∃ v, c[i * E + j]? = some v ∧ RV G.D w d v := by
    intro i j e' d hi hj
    have hk : ys.flatten[i * E + j]? = some d := by
      clear h2 h3 hal hlen hrow R1 T G' hbig hcap
      induction ys generalizing i with
      | nil => simp at hi
      | cons y r ih =>
        have hy := hE y (by simp)
        cases i with
        | zero =>
          simp at hi; subst hi
          have hjl := (List.getElem?_eq_some_iff.1 hj).1
          rw [Nat.zero_mul, Nat.zero_add, List.flatten_cons, List.getElem?_append_left hjl]
          exact hj
        | succ i =>
          rw [List.flatten_cons, List.getElem?_append_right (by rw [hy, Nat.add_mul]; omega), hy]
          rw [show (i + 1) * E + j - E = i * E + j by rw [Nat.add_mul]; omega]
          exact ih (fun e he => hE e (by simp [he])) i (by simpa using hi)
    obtain ⟨k1, v, k2, k3⟩ := h3 (i * E + j) (.v d) (by simp only [arrRow, List.getElem?_map, hk]; rfl)
    exact ⟨k1, v, k2, k3⟩
  refine sl_of_laid (E := E) (f := fun k => c[k]?.getD undef) hbig hcap hE (fun e' he' d hd => ?_) (fun k hk => ?_) (fun i j e' d hi hj => ?_)
  · obtain ⟨i, hi⟩ := List.mem_iff_getElem?.1 he'
    obtain ⟨j, hj⟩ := List.mem_iff_getElem?.1 hd
    exact (hget i j e' d hi hj).1
  · have hlt : k < c.size := by omega
    refine ⟨?_, .inr ⟨rfl, by omega, by omega⟩⟩
    rw [Nat.zero_add, hcell, Array.getElem?_eq_getElem hlt]
    rfl
  · obtain ⟨-, v, k2, k3⟩ := hget i j e' d hi hj
    simp only [k2, Option.getD_some]
    exact k3.mono T.grow

theorem W_freeze {b E : Nat} {ys : List (List DV)} {kk : List Item} (hrow : get s (.heap b) = some (.row (arrRow ys))) (hE : ∀ e ∈ ys, e.length = E) (hbig : ys.length ≤ BIG) (hw : X.w0.heap.size ≤ b) (h : W X kk (frz b ys (del s (.heap b)))) : W X kk s := by
  intro G a w b' cs hf hkk hr R
  obtain ⟨G', R'⟩ := R.freeze hE hbig hw hrow
  exact h G' a w b' cs hf hkk hr R'

/-- an element of an array is written -/
theorem put_arr {E : Nat} {ys : List (List DV)} (hE : ∀ e ∈ ys, e.length = E) {i : Nat} (hi : i < ys.length) {z : List DV} (hz : z.length = E) : put (arrRow ys) (i * E) (z.map SV.v) = arrRow (ys.set i z) := by
  have hlen := flatten_len hE
  have hal : (arrRow ys).length = ys.length * E := by simp only [arrRow, List.length_map]; exact hlen
  have hle : i * E + (z.map SV.v).length ≤ (arrRow ys).length := by
    rw [hal, List.length_map, hz]
    calc i * E + E = (i + 1) * E := by rw [Nat.add_mul, Nat.one_mul]
      _ ≤ ys.length * E := Nat.mul_le_mul_right _ hi
  apply List.ext_getElem?
  intro k
  rw [get_put _ _ _ _ hle]
  clear hle hal hlen
  simp only [arrRow, List.length_map, hz, List.getElem?_map]
  induction ys generalizing i k with
  | nil => simp at hi
  | cons y r ih =>
    have hy := hE y (by simp)
    cases i with
    | zero =>
      simp only [Nat.zero_mul, Nat.zero_le, true_and, Nat.zero_add, Nat.sub_zero, List.set_cons_zero, List.flatten_cons]
      split
      · rename_i hk
        rw [List.getElem?_append_left (by omega)]
      · rename_i hk
        rw [List.getElem?_append_right (by omega), List.getElem?_append_right (by omega), hy, hz]
    | succ i =>
      simp only [List.set_cons_succ, List.flatten_cons]
      have ih' := ih (fun e he => hE e (by simp [he])) (i := i) (by simpa using hi) (k - E)
      by_cases hk : k < E
      · rw [if_neg (by rw [Nat.add_mul]; omega), List.getElem?_append_left (by omega), List.getElem?_append_left (by omega)]
      · rw [List.getElem?_append_right (by omega), List.getElem?_append_right (by omega), hy, ← ih']
        have e1 : (i + 1) * E = i * E + E := by rw [Nat.add_mul, Nat.one_mul]
        by_cases h2 : i * E ≤ k - E ∧ k - E < i * E + E
        · rw [if_pos h2, if_pos (by omega)]
          congr 2; omega
        · rw [if_neg h2, if_neg (by omega)]

end
end Go.Proofs.YtbmnlkfgkdallaaGreatDoor.Lift
