/-
  Part E of the small logic: pval_sound.
-/
import Derived.Test.YtbmnlkfgkdallaaDoorLd
namespace Go.Proofs.YtbmnlkfgkdallaaDoor.Lift
set_option linter.unusedSimpArgs false
set_option linter.unusedVariables false
set_option linter.unnecessarySimpa false
open Go
section
variable {X : Ctx} {G : Gh} {s : St} {a : Act} {w : World}

theorem map_true {α : Type} {o : Option α} {c : Prop} {y : α} (h : o.map (True, ·) = some (c, y)) : o = some y := by
  cases o with
  | none => cases h
  | some z => simp at h; rw [h.2]

theorem pick_run (b : Bool) (x y : Value) : (do pure (Next.value (if ← asBool (.bool b) then x else y)) : Sem Next).run X.P w = .ok (.value (if b then x else y)) w := by
  simp [asBool]

theorem bound_sound (R : Rel X G s a w) {d : Nat} {x : Option Operand} {n : Int} (h : bound X (get s) d x = some n) :
    (x = none ∧ n = d) ∨ ∃ y k, x = some y ∧ a.eval y = .int k n := by
  cases x with
  | none => simp [bound] at h; exact .inl ⟨rfl, h.symm⟩
  | some y =>
    simp only [bound] at h
    split at h
    · rename_i k m hy
      cases h
      exact .inr ⟨y, k, rfl, (prim_of (evl_sound R hy)).1⟩
    · cases h

theorem slice_run {P : Program} {w : World} {t e : TypeId} {i : TypeInfo} (hu : P.underlying t = some (.slice e)) (hi : P.info? e = some i) (b : Option Addr) (len cap : Nat) (lo hi' : Option Value) (l h : Int)
    (hlo : (lo = none ∧ l = 0) ∨ ∃ k, lo = some (.int k l)) (hhi : (hi' = none ∧ h = len) ∨ ∃ k, hi' = some (.int k h)) (h0 : 0 ≤ l) (h1 : l ≤ h) (h2 : h ≤ cap) :
    (Instr.sliceAt t (.slice b len cap) lo hi' none).run P w = .ok (.slice (if cap = l.toNat then b else b.map fun q => q.add (l.toNat * i.size)) (h.toNat - l.toNat) (cap - l.toNat)) w := by
  have hl' : (l.toNat : Int) = l := Int.toNat_of_nonneg h0
  have hh' : (h.toNat : Int) = h := Int.toNat_of_nonneg (by omega)
  have hsz : (sizeOf e).run P w = .ok i.size w := by simp [sizeOf, typeInfo, hi]
  have c1 : l ≤ (h.toNat : Int) := by omega
  rcases hlo with ⟨rfl, rfl⟩ | ⟨k, rfl⟩ <;> rcases hhi with ⟨rfl, rfl⟩ | ⟨k', rfl⟩
  all_goals simp [Instr.sliceAt, Instr.slice, run_underlying hu, Instr.sliceBounds, Instr.sliceBound, asIntOf, hsz]
  all_goals (try simp [h0, h1, h2])
  all_goals (try (rw [if_pos (by omega : (0 : Int) ≤ h), if_pos (by omega)]))
  all_goals (try (intros; omega))

theorem sl_slice {w : World} {D : Nat → Nat → Prop} {els : List (List DV)} {b : Option Addr} {cap : Nat} (hr : RV D w (.sl els) (.slice b els.length cap)) {E : Nat} (hE : ∀ e ∈ els, e.length = E) (l h : Nat) (h1 : l ≤ h) (h2 : h ≤ els.length) (hcap : els.length ≤ cap) :
    RV D w (.sl ((els.take h).drop l)) (.slice (if cap = l then b else b.map fun q => q.add (l * E)) (h - l) (cap - l)) := by
  by_cases hlh : l = h
  · subst hlh
    have : (els.take l).drop l = [] := by simp
    rw [this, Nat.sub_self]
    exact .sl0 _ _
  · have hlen : ((els.take h).drop l).length = h - l := by simp; omega
    generalize hL : (els.take h).drop l = L at *
    rw [← hlen]
    have hne : cap ≠ l := by omega
    rw [if_neg hne]
    generalize hn : els.length = n at *
    cases hr with
    | sl0 => simp only [List.length_nil] at *; omega
    | sl _ b o _ E' val hl' hc' hE' hcell hc hD hh =>
      have hEE : E' = E := by
        cases els with
        | nil => simp only [List.length_nil] at *; omega
        | cons e r => rw [← hE' e (by simp), hE e (by simp)]
      subst hEE
      simp only [Option.map_some, addr_add]
      have hmem : ∀ e ∈ L, e ∈ els := fun e he => by rw [← hL] at he; exact List.mem_of_mem_take (List.mem_of_mem_drop he)
      have hget : ∀ i, i < L.length → L[i]? = els[l + i]? := fun i hi => by
        rw [← hL, List.getElem?_drop, List.getElem?_take_of_lt (by omega)]
      refine .sl L b (o + l * E') (cap - l) E' (fun i j => val (l + i) j) (by omega) (by omega) (fun e he => hE' e (hmem e he)) (fun e he => hcell e (hmem e he)) (fun i j hi hj => ?_) (fun i j hi hj => ?_) (fun i j e c he hc => ?_)
      · have := hc (l + i) j (by omega) hj
        rw [← this]; congr 2; rw [Nat.add_mul]; omega
      · have := hD (l + i) j (by omega) hj
        have e : o + ((l + i) * E' + j) = o + l * E' + (i * E' + j) := by rw [Nat.add_mul]; omega
        rw [← e]; exact this
      · rw [hget i (List.getElem?_eq_some_iff.1 he).1] at he
        exact hh _ _ _ _ he hc

theorem run_fieldPlace {P : Program} {w : World} {fl : Field} {agg : Bool} {n b o : Nat} (hl : layT P fl.type = some (agg, n)) (hn : n ≠ 0) : (fieldPlace ⟨b, o, none⟩ fl).run P w = .ok ⟨b, o + fl.offset, none⟩ w := by
  obtain ⟨-, l2⟩ := run_lay (w := w) hl
  simp [fieldPlace, l2, hn, addr_add]

theorem arr_of_list {α : Type} {a : Array α} {l : List α} (h : a.toList = l) : a = l.toArray := by rw [← h]

theorem pcall_sound (R : Rel X G s a w) {k : Call} {t : TypeId} {c : Prop} {y : SV} (h : pcall X (get s) k = some (c, y)) (hc : c) :
    ∃ v, (do let d ← resolve a.eval k t; invoke d.target d.args : Sem Next).run X.P w = .ok (.value v) w ∧ RSV G w y v := by
  unfold pcall at h
  split at h
  case h_1 x t' hcal harg hty =>
    have hc' : k = { callee := .builtin .len, args := #[x], argTypes := #[t'] } := by cases k; simp only at hcal harg hty; rw [hcal, arr_of_list harg, arr_of_list hty]
    split at h
    · rename_i E els hE hs
      cases h
      obtain ⟨e', ie, hu, hie, hsz⟩ := elem_run hE
      obtain ⟨q, hq, hq'⟩ := Option.bind_eq_some_iff.1 hs
      obtain ⟨b, cap, hv, hr, hcap⟩ := slOf_sound hq' (evl_sound R hq)
      have hbig : els.length ≤ BIG := by have := RV.fit hr; simp only [DV.fit] at this; exact this.1
      refine ⟨_, ?_, .prim _ ?_⟩
      · simp [hc', hv, resolve, invoke, builtin, Builtin.len_, run_underlying hu, goInt]
      · show intOK .i64 _
        rw [intOK_i64]
        unfold BIG at hbig
        omega
    · cases h
  case h_2 x z hcal harg =>
    have hc' : k = { callee := .builtin .max, args := #[x, z], argTypes := k.argTypes } := by cases k; simp only at hcal harg; rw [hcal, arr_of_list harg]
    split at h
    · rename_i k p k' q hx hy
      cases h
      have hx' := prim_of (evl_sound R hx)
      have hy' := prim_of (evl_sound R hy)
      refine ⟨.int k (if q > p then q else p), ?_, .prim _ ?_⟩
      · rw [hc']
        simp [hx'.1, hy'.1, resolve, invoke, builtin, run_max_int2]
      show intOK _ _
      split
      · exact hc
      · exact hx'.2
    · cases h
  case h_3 x z hcal harg =>
    have hc' : k = { callee := .builtin .min, args := #[x, z], argTypes := k.argTypes } := by cases k; simp only at hcal harg; rw [hcal, arr_of_list harg]
    split at h
    · rename_i k p k' q hx hy
      cases h
      have hx' := prim_of (evl_sound R hx)
      have hy' := prim_of (evl_sound R hy)
      refine ⟨.int k (if q < p then q else p), ?_, .prim _ ?_⟩
      · rw [hc']
        simp [hx'.1, hy'.1, resolve, invoke, builtin, run_min_int2]
      show intOK _ _
      split
      · exact hc
      · exact hx'.2
    · cases h
  case h_4 => cases h

set_option maxHeartbeats 1000000 in
/-- WHAT AN OPERATION THAT WRITES NOTHING GIVES IN THE MODEL -/
theorem pval_sound (R : Rel X G s a w) {o : Oper} {c : Prop} {y : SV} (h : pval X (get s) o = some (c, y)) (hc : c) :
    ∃ v, (execOp a.eval o).run X.P w = .ok (.value v) w ∧ RSV G w y v := by
  unfold pval at h
  split at h
  case h_1 x hop => exact ⟨a.eval x, by simp [execOp, hop], evl_sound R (map_true h)⟩
  case h_2 x hop => exact ⟨a.eval x, by simp [execOp, hop], evl_sound R (map_true h)⟩
  case h_3 x p q hop =>
    split at h
    · rename_i hx
      have hv := (prim_of (evl_sound R hx)).1
      exact ⟨a.eval p, by simp [execOp, hop, hv, asBool], evl_sound R (map_true h)⟩
    · rename_i hx
      have hv := (prim_of (evl_sound R hx)).1
      exact ⟨a.eval q, by simp [execOp, hop, hv, asBool], evl_sound R (map_true h)⟩
    · cases h
  case h_4 op t x z yt hop =>
    split at h
    · rename_i k p k' q hx hy
      split at h
      · subst_vars
        have hx' := (prim_of (evl_sound R hx)).1
        have hy' := (prim_of (evl_sound R hy)).1
        obtain ⟨v, h1, h2⟩ := intOp_sound (X := X) (G := G) (w := w) h hc t
        exact ⟨v, by simp [execOp, hop, hx', hy', eqGuard_int, h1], h2⟩
      · cases h
    · rename_i p q hx hy
      have hx' := (prim_of (evl_sound R hx)).1
      have hy' := (prim_of (evl_sound R hy)).1
      split at h
      · rename_i hb
        have hu := bool_run hb
        split at h
        · cases h; exact ⟨_, by simp [execOp, hop, hx', hy', eqGuard_bool, run_eql_bool _ _ _ _ hu], .prim _ trivial⟩
        · cases h; exact ⟨_, by simp [execOp, hop, hx', hy', eqGuard_bool, run_neq_bool _ _ _ _ hu], .prim _ trivial⟩
        · cases h
      · cases h
    · cases h
  case h_5 op t x hop =>
    split at h
    · rename_i b hx
      cases h
      have hx' := (prim_of (evl_sound R hx)).1
      exact ⟨_, by simp [execOp, hop, hx', Op.unary], .prim _ trivial⟩
    · rename_i k n hx
      cases h
      have hx' := (prim_of (evl_sound R hx)).1
      exact ⟨_, by simp [execOp, hop, hx', Op.unary, Op.intArith, -Int.zero_sub, wrap_of_ok hc], .prim _ hc⟩
    · cases h
  case h_6 x i hop =>
    split at h
    · rename_i cs hx
      cases hi : cs[i]? with
      | none => simp [hi] at h
      | some d =>
        simp [hi] at h
        obtain ⟨-, rfl⟩ := h
        have hr := evl_sound R hx
        generalize hv : a.eval x = v at hr
        cases hr with
        | tup _ vs hl hh =>
          have hlt : i < vs.size := by rw [hl]; exact (List.getElem?_eq_some_iff.1 hi).1
          have hv' : vs[i]? = some vs[i] := Array.getElem?_eq_getElem hlt
          exact ⟨vs[i], by simp [execOp, hop, hv, Instr.extract, hv'], hh i d _ hi hv'⟩
    · cases h
  case h_7 t x f hop =>
    split at h
    · rename_i agg off n y' hf hx
      cases hd : readD (cellsD y') agg off n with
      | none => simp [hd] at h
      | some d =>
        rw [hd] at h
        simp only [Option.map_some, Option.some.injEq, Prod.mk.injEq] at h
        obtain ⟨rfl, rfl⟩ := h
        obtain ⟨u, h1, h2⟩ := field_part hf hc (evl_sound R hx) hd
        exact ⟨u, by simp [execOp, hop, h1], h2⟩
    · cases h
  case h_8 t x f hop =>
    split at h
    · rename_i agg foff n k off hf hx
      cases h
      obtain ⟨fs, fl, hu, hfl, hl, hn, rfl⟩ := field_run hf
      have hv : a.eval x = _ := evl_sound R hx
      exact ⟨_, by simp [execOp, hop, hv, Instr.fieldAt, run_underlying hu, hfl, Instr.sureAddr, run_fieldPlace hl hn], rfl⟩
    · rename_i agg foff n els i off hf hx
      cases h
      obtain ⟨fs, fl, hu, hfl, hl, hn, rfl⟩ := field_run hf
      obtain ⟨b, o', E, cap, hr, hE, hi, hv⟩ := evl_sound R hx
      exact ⟨_, by simp [execOp, hop, hv, Instr.fieldAt, run_underlying hu, hfl, Instr.sureAddr, run_fieldPlace hl hn]; rfl, b, o', E, cap, hr, hE, hi, by congr 3; omega⟩
    · rename_i agg foff n b off hf hx
      cases h
      obtain ⟨fs, fl, hu, hfl, hl, hn, rfl⟩ := field_run hf
      have hv := (prim_of (evl_sound R hx)).1
      exact ⟨_, by simp [execOp, hop, hv, Instr.fieldAt, run_underlying hu, hfl, Instr.sureAddr, run_fieldPlace hl hn], .prim _ trivial⟩
    · cases h
  case h_9 t x i hop =>
    split at h
    · rename_i yy k n hx hi
      have hn := (prim_of (evl_sound R hi)).1
      split at h
      · rename_i E els hE hs
        split at h
        · rename_i e he
          cases h
          obtain ⟨h0, rfl⟩ := hc
          obtain ⟨e', ie, hu, hie, hsz⟩ := elem_run hE
          obtain ⟨b, cap, hv, hr, -⟩ := slOf_sound hs (evl_sound R hx)
          obtain ⟨b', o', cap', hv', hdp⟩ := dp_of_sl hr he
          have hlt : n.toNat < els.length := (List.getElem?_eq_some_iff.1 he).1
          have hn2 : n < els.length := by omega
          refine ⟨_, ?_, hdp⟩
          simp [execOp, hop, hn, hv', Instr.indexAt, asIntOf, run_underlying hu, sizeOf, typeInfo, hie, hsz, h0, hn2, addr_add]
        · cases h
      · split at h
        · rename_i len E k' off hA _
          cases h
          obtain ⟨h0, h1, h2⟩ := hc
          obtain ⟨e', ie, hu, hie, hsz⟩ := arr_run hA
          have hv : a.eval x = _ := evl_sound R hx
          refine ⟨_, ?_, rfl⟩
          simp [execOp, hop, hn, hv, Instr.indexAt, asIntOf, run_underlying hu, sizeOf, typeInfo, hie, hsz, h0, h1, addr_add, Instr.sureAddr]
        · rename_i len E els j hA _
          split at h
          · rename_i e he
            cases h
            obtain ⟨h0, h1, h2, rfl⟩ := hc
            obtain ⟨e', ie, hu, hie, hsz⟩ := arr_run hA
            obtain ⟨b, o', E', cap, hr, hE', hj, hv⟩ := evl_sound R hx
            have hEE : e.length = E' := hE' e (List.mem_of_getElem? he)
            have hlt : j + n.toNat < els.length := (List.getElem?_eq_some_iff.1 he).1
            refine ⟨_, ?_, b, o', E', cap, hr, hE', hlt, rfl⟩
            simp [execOp, hop, hn, hv, Instr.indexAt, asIntOf, run_underlying hu, sizeOf, typeInfo, hie, hsz, h0, h1, addr_add, Instr.sureAddr]
            rw [hEE, Nat.add_mul]; omega
          · cases h
        · cases h
    · cases h
  case h_10 t x hop =>
    have h' := map_true h
    obtain ⟨z, hz, hz'⟩ := Option.bind_eq_some_iff.1 h'
    obtain ⟨u, h1, h2⟩ := loadAt_sound R (evl_sound R hz) hz'
    exact ⟨u, by simp [execOp, hop, h1], h2⟩
  case h_11 t parts hop =>
    split at h
    · rename_i z pl hz hpl
      split at h
      · rename_i cs hcs
        split at h
        · rename_i ds hds
          split at h
          case isFalse => cases h
          rename_i hcb
          cases h
          obtain ⟨zc, place, hrow, hp, hrun⟩ := run_build_struct (w := w) hz hpl R.nil
          obtain ⟨c', h1, h2⟩ := fillS_sound R pl place hp parts.toList z zc cs hrow hcs
          have h3 := hrun (parts.map fun q => (q.1, a.eval q.2)) c' (by simpa using h1)
          obtain ⟨k1, k2⟩ := toDs_row h2 hds
          refine ⟨.agg c', by simp [execOp, hop, h3], .agg ds c' k1 ((cellB_iff ds).1 hcb) k2, fun i hi => ?_⟩
          obtain ⟨j, hij, hj⟩ := nilsOf_mem hi
          obtain rfl : i = j := by omega
          obtain ⟨t1, t2⟩ := toDs_get hds
          have hil : i < cs.length := (List.getElem?_eq_some_iff.1 hj).1
          have hic : i < c'.size := by rw [h2.1]; exact hil
          have hdi : ds[i]? = some (ds[i]'(by omega)) := List.getElem?_eq_getElem (by omega)
          obtain ⟨z', hz1, hz2⟩ := t2 i _ hdi
          rw [hj] at hz1
          cases hz1
          have hz2' : some (DV.sl []) = some (ds[i]'(by omega)) := hz2
          refine ⟨by rw [hdi, ← hz2'], ?_⟩
          have hr := h2.2 i _ _ hj (Array.getElem?_eq_getElem hic)
          have hr1 : c'[i] = .slice (G.τ 0).1 0 (G.τ 0).2 := hr.1
          rw [R.nil] at hr1
          show c'[i]? = _
          rw [Array.getElem?_eq_getElem hic, hr1]
        · cases h
      · cases h
    · cases h
  case h_12 t x hop =>
    split at h
    · rename_i z hz
      split at h
      · rename_i hct
        cases h
        obtain ⟨q, hq, hq'⟩ := Option.bind_eq_some_iff.1 hz
        refine ⟨.iface t (a.eval x), ?_, .iface t z _ (toD_sound hq' (evl_sound R hq))⟩
        unfold concT at hct
        split at hct
        · cases hct
        · rename_i d hd hu
          simp only [execOp, hop, Instr.makeInterface, Sem.run_bind, run_underlying hu, Result.andThen_ok]
          cases d <;> first | (exact (hd _ rfl).elim) | rfl
        · cases hct
      · cases h
    · cases h
  case h_13 x hop =>
    split at h
    · rename_i k off hx
      cases h
      have hv : a.eval x = _ := evl_sound R hx
      exact ⟨_, by simp [execOp, hop, hv], rfl⟩
    · rename_i els i off hx
      cases h
      have hr := evl_sound R hx
      obtain ⟨b, o', E, cap, hr', hE, hi, hv⟩ := hr
      exact ⟨_, by simp [execOp, hop, hv], b, o', E, cap, hr', hE, hi, rfl⟩
    · rename_i ad hx
      cases h
      have hv := (prim_of (evl_sound R hx)).1
      exact ⟨_, by simp [execOp, hop, hv], .prim _ trivial⟩
    · rename_i f p q hx
      cases h
      have hv := (prim_of (evl_sound R hx)).1
      exact ⟨_, by simp [execOp, hop, hv], .prim _ trivial⟩
    · cases h
  case h_14 sT dT x hop =>
    split at h
    · rename_i k n ks kd hx hs hd
      cases h
      have hv := (prim_of (evl_sound R hx)).1
      have e1 : ∀ {t : TypeId} {k : IntKind}, intT X.P t = some k → X.P.underlying t = some (.int k) := by
        intro t k h
        unfold intT at h
        split at h
        · cases h; assumption
        · cases h
      have u1 := e1 hs
      have u2 := e1 hd
      exact ⟨_, by simp [execOp, hop, hv, convert, run_underlying u1, run_underlying u2, Conv.intToInt, wrap_of_ok hc], .prim _ hc⟩
    · cases h
  case h_15 t x lo hi' hop =>
    split at h
    · rename_i E els hE hs
      split at h
      · rename_i l hh hlo hhi
        cases h
        obtain ⟨h0, h1, h2, h3⟩ := hc
        obtain ⟨e', ie, hu, hie, rfl⟩ := elem_run hE
        obtain ⟨q, hq, hq'⟩ := Option.bind_eq_some_iff.1 hs
        obtain ⟨b, cap, hv, hr, hcap⟩ := slOf_sound hq' (evl_sound R hq)
        have hlo' : (lo.map a.eval = none ∧ l = 0) ∨ ∃ k, lo.map a.eval = some (.int k l) := by
          rcases bound_sound R hlo with ⟨rfl, h⟩ | ⟨z, k, rfl, h⟩
          · exact .inl ⟨rfl, h⟩
          · exact .inr ⟨k, by simp [h]⟩
        have hhi' : (hi'.map a.eval = none ∧ hh = els.length) ∨ ∃ k, hi'.map a.eval = some (.int k hh) := by
          rcases bound_sound R hhi with ⟨rfl, h⟩ | ⟨z, k, rfl, h⟩
          · exact .inl ⟨rfl, h⟩
          · exact .inr ⟨k, by simp [h]⟩
        have hrun := slice_run (w := w) hu hie b els.length cap _ _ l hh hlo' hhi' h0 h1 (by omega)
        have hsl := sl_slice (hv ▸ hr) h3 l.toNat hh.toNat (by omega) (by omega) hcap
        refine ⟨_, ?_, hsl⟩
        simp only [execOp, hop, hv, Option.map_none, hrun, Sem.run_bind, Result.andThen_ok, Sem.run_pure]
      · cases h
    · cases h
  case h_16 c' hop =>
    obtain ⟨v, h1, h2⟩ := pcall_sound R h hc
    exact ⟨v, by simp only [execOp, hop]; exact h1, h2⟩
  case h_17 fn fi ca hop =>
    have key : ∀ {l : List Operand} {vs : List Value}, pvls X (get s) l = some vs → l.map a.eval = vs := by
      intro l
      induction l with
      | nil => intro vs h; cases h; rfl
      | cons x r ih =>
        intro vs h
        simp only [pvls] at h
        split at h
        · rename_i v us hx hr
          cases h
          rw [List.map_cons, ih hr, (prim_of (evl_sound R hx)).1]
        · cases h
    split at h
    · rename_i f1 c1 h1 h2
      cases h
      have e1 : fi.map a.eval = f1.toArray := by rw [← key h1, ← Array.toList_map]
      have e2 : ca.map a.eval = c1.toArray := by rw [← key h2, ← Array.toList_map]
      exact ⟨_, by simp only [execOp, hop, e1, e2]; simp [Instr.makeFunc, Sem.run_bind], .prim _ trivial⟩
    · cases h
  case h_18 => cases h

end
end Go.Proofs.YtbmnlkfgkdallaaDoor.Lift
