/-
  Part C of the small logic: the operations that write nothing do in the model what pval says.
-/
import Derived.Test.YtbmnlkfgkdallaaDoorLb
namespace Go.Proofs.YtbmnlkfgkdallaaDoor.Lift
set_option linter.unusedSimpArgs false
set_option linter.unusedVariables false
set_option linter.unnecessarySimpa false
open Go
section
variable {X : Ctx} {G : Gh} {s : St} {a : Act} {w : World}

theorem prim_of {D : Nat → Nat → Prop} {w : World} {u v : Value} (h : RV D w (.prim u) v) : v = u ∧ primOK u := by
  cases h with
  | prim _ h => exact ⟨rfl, h⟩

theorem intOp_sound {op : BinOp} {k : IntKind} {x y : Int} {c : Prop} {r : SV} (h : intOp op k x y = some (c, r)) (hc : c) (t : TypeId) :
    ∃ v, (binOp op t (.int k x) (.int k y)).run X.P w = .ok v w ∧ RSV G w r v := by
  have ok : ∀ n, intOK k n → RSV G w (.v (.prim (.int k n))) (.int k n) := fun n h => .prim _ h
  have bk : ∀ b, RSV G w (.v (.prim (.bool b))) (.bool b) := fun b => .prim _ trivial
  cases op <;> simp only [intOp, Option.some.injEq, Prod.mk.injEq, reduceCtorEq] at h <;> obtain ⟨rfl, rfl⟩ := h
  · exact ⟨_, by simp [binOp, Op.intArith, wrap_of_ok hc], ok _ hc⟩
  · exact ⟨_, by simp [binOp, Op.intArith, wrap_of_ok hc], ok _ hc⟩
  · exact ⟨_, by simp [binOp, Op.intArith, wrap_of_ok hc], ok _ hc⟩
  · exact ⟨_, by simp [binOp, Op.intDiv, hc.1, wrap_of_ok hc.2], ok _ hc.2⟩
  · exact ⟨_, by simp [binOp, Op.intDiv, hc.1], ok _ hc.2⟩
  all_goals exact ⟨_, by simp only [binOp, Op.intCmp, if_false, ne_eq, not_true_eq_false, Sem.run_pure], bk _⟩

theorem eqGuard_int (op : BinOp) (t : TypeId) (x y : Operand) (k k' : IntKind) (p q : Int) : (eqGuard op t x y (.int k p) (.int k' q)).run X.P w = .ok () w := by
  unfold eqGuard
  cases op <;> simp

theorem eqGuard_bool (op : BinOp) (t : TypeId) (x y : Operand) (p q : Bool) : (eqGuard op t x y (.bool p) (.bool q)).run X.P w = .ok () w := by
  unfold eqGuard
  cases op <;> simp

theorem evlDs_sound (R : Rel X G s a w) : ∀ {l : List Operand} {ds : List DV}, evlDs X (get s) l = some ds → l.length = ds.length ∧ ∀ (i : Nat) (c : DV) (v : Value), ds[i]? = some c → (l.map a.eval)[i]? = some v → RV G.D w c v
  | [], ds, h => by cases h; simp
  | x :: r, ds, h => by
    simp only [evlDs] at h
    split at h
    · rename_i y ys hy hys
      cases h
      obtain ⟨h1, h2⟩ := evlDs_sound R hys
      obtain ⟨z, hz, hz'⟩ := Option.bind_eq_some_iff.1 hy
      refine ⟨by simp [h1], fun i c v hc hv => ?_⟩
      cases i with
      | zero =>
        simp at hc hv; subst hc hv
        exact toD_sound hz' (evl_sound R hz)
      | succ i => exact h2 i c v (by simpa using hc) (by simpa using hv)
    · cases h

theorem cellsS_sound (hn : G.τ 0 = (none, 0)) {x : SV} {v : Value} (h : RSV G w x v) : v.cells.size = (cellsS x).length ∧ ∀ (i : Nat) (c : SV) (u : Value), (cellsS x)[i]? = some c → v.cells[i]? = some u → RSV G w c u := by
  have one : ∀ (x : SV) (v : Value), cellsS x = [x] → v.cells = #[v] → RSV G w x v → v.cells.size = (cellsS x).length ∧ ∀ (i : Nat) (c : SV) (u : Value), (cellsS x)[i]? = some c → v.cells[i]? = some u → RSV G w c u := by
    intro x v h1 h2 h3
    rw [h1, h2]
    refine ⟨rfl, fun i c u hc hu => ?_⟩
    cases i with
    | zero => simp at hc hu; subst hc hu; exact h3
    | succ i => simp at hc
  cases x with
  | v x =>
    cases x with
    | agg cs =>
      cases h with
      | agg _ vs hl hcell hh =>
        refine ⟨by simp [Value.cells, cellsS, cellsD, hl], fun i c u hc hu => ?_⟩
        simp only [cellsS, cellsD, List.getElem?_map] at hc
        cases hq : cs[i]? with
        | none => simp [hq] at hc
        | some c' => simp [hq] at hc; subst hc; exact hh i c' u hq hu
    | prim p =>
      refine one _ _ rfl ?_ h
      obtain ⟨rfl, hp⟩ := prim_of h
      cases v <;> first | rfl | exact hp.elim
    | tup cs => cases h; exact one _ _ rfl rfl (.tup _ _ ‹_› ‹_›)
    | sl els =>
      refine one _ _ rfl ?_ h
      cases h <;> rfl
    | iface t y =>
      refine one _ _ rfl ?_ h
      cases h; rfl
  | loc k off => obtain rfl := h; exact one _ _ rfl rfl rfl
  | dp els i off => have h' := h; obtain ⟨b, o, E, cap, -, -, -, rfl⟩ := h; exact one _ _ rfl rfl h'
  | own t els => have h' := h; obtain ⟨rfl, -⟩ := h; exact one _ _ rfl rfl h'
  | ag cs ns =>
    obtain ⟨h1, h2⟩ := h
    cases h1 with
    | agg _ vs hl hcell hh =>
      refine ⟨by simp [Value.cells, cellsS, hl, (agC_get ns cs 0).1], fun i c u hc hu => ?_⟩
      simp only [cellsS, (agC_get ns cs 0).2] at hc
      cases hq : cs[i]? with
      | none => simp [hq] at hc
      | some c' =>
        simp only [hq, Option.map_some, Option.some.injEq, Nat.zero_add] at hc
        split at hc
        · rename_i hm
          subst hc
          obtain ⟨k1, k2⟩ := h2 i ((memN_iff _ _).1 hm)
          rw [hu] at k2
          cases k2
          show _ = _ ∧ _
          rw [hn]
          exact ⟨rfl, .sl0 _ _⟩
        · subst hc; exact hh i c' u hq hu

end
end Go.Proofs.YtbmnlkfgkdallaaDoor.Lift
