/-
  Part I of the small logic: the step of an append; a slice cut with its capacity.
-/
import Derived.Test.YtbmnlkfgkdallaaDoorLh
namespace Go.Proofs.YtbmnlkfgkdallaaDoor.Lift
set_option linter.unusedSimpArgs false
set_option linter.unusedVariables false
set_option linter.unnecessarySimpa false
open Go
section
variable {X : Ctx} {G : Gh} {s : St} {a : Act} {w : World}

theorem lenOf_sl {P : Program} {w : World} {els : List (List DV)} {v : Value} (hr : RV G.D w (.sl els) v) (w' : World) : (Builtin.lenOf v).run P w' = .ok els.length w' := by
  cases hr <;> simp [Builtin.lenOf]

theorem cell_of_heap {w w' : World} (h : w'.heap = w.heap) (ad : Addr) : w'.cell? ad = w.cell? ad := by simp [World.cell?, h]

theorem evl_own (R : Rel X G s a w) {x : Operand} {t : Nat} {els : List (List DV)} (h : evl X (get s) x = some (.own t els)) : a.eval x = .slice (G.τ t).1 els.length (G.τ t).2 ∧ RV G.D w (.sl els) (a.eval x) := evl_sound R h

/-- the room behind one's own slice, as the state tells of it -/
def hasRoom (g : Rd) (t E len : Nat) : Prop := t = 0 ∨ g (.tok t) = some (.tk E len)

set_option maxHeartbeats 1000000 in
theorem step_append {o : Oper} {x y : Operand} {T T2 : TypeId} (ho : o.op = .call { callee := .builtin .append, args := #[x, y], argTypes := #[T, T2] }) {d : Nat} (hd : o.dst = some d) (hn : d < X.n) (hd0 : d ≠ 0) (hf : freshT d s = true)
    {E B : Nat} (he : elemZ X.P T = some (E, B)) (hB : 0 < B ∧ B ≤ 1024) (h2 : (elemT X.P T2).isSome = true) {t : Nat} {els ys : List (List DV)} (hx : evl X (get s) x = some (.own t els)) (hy : (evl X (get s) y).bind slOf = some ys)
    (htok : hasRoom (get s) t E els.length) (hbig : els.length + ys.length ≤ BIG) (hE1 : ∀ e ∈ els, e.length = E) (hE2 : ∀ e ∈ ys, e.length = E) :
    StepOK X s o (upd (upd (del s (.tok t)) (.slot d) (.one (.own d (els ++ ys)))) (.tok d) (.tk E (els.length + ys.length))) := by
  intro G a w R next Q hK
  obtain ⟨hv, hr⟩ := evl_own R hx
  obtain ⟨q, hq, hq'⟩ := Option.bind_eq_some_iff.1 hy
  obtain ⟨yb, ycap, hyv, hyr, -⟩ := slOf_sound hq' (evl_sound R hq)
  obtain ⟨c1, f, f1, f2, f3⟩ := sl_laid hr hE1
  obtain ⟨c2, g, g1, g2, g3⟩ := sl_laid hyr hE2
  have hEall : ∀ e ∈ els ++ ys, e.length = E := fun e h => (List.mem_append.1 h).elim (hE1 e) (hE2 e)
  have hCall : ∀ e ∈ els ++ ys, ∀ c ∈ e, DV.isCell c = true := fun e h => (List.mem_append.1 h).elim (c1 e) (c2 e)
  have hlen : (els ++ ys).length = els.length + ys.length := List.length_append
  have hexec : ∀ (v : Value) (w' : World), (Builtin.append_ #[T, T2] o.type #[a.eval x, a.eval y]).run X.P w = .ok v w' → (execOp a.eval o).run X.P w = .ok (.value v) w' := by
    intro v w' h
    simp [execOp, ho, resolve, invoke, builtin, h]
  have hfin : ∀ (v : Value) (w' : World) (G' : Gh), (Builtin.append_ #[T, T2] o.type #[a.eval x, a.eval y]).run X.P w = .ok v w' →
      Rel X G' (upd (upd (del s (.tok t)) (.slot d) (.one (.own d (els ++ ys)))) (.tok d) (.tk E (els.length + ys.length))) (a.put (some d) v) w' → o.wpIn X.F 0 X.P a w next Q := by
    intro v w' G' h hR
    refine opIn (by first | exact pval_nodefer h | (intro c e; rw [ho] at e; cases e)) ?_
    rw [hexec v w' h, upn_value, hd]
    exact hK G' _ w' hR
  have hTok : TokAt G w t E els.length := by
    rcases htok with rfl | h
    · have h0 := R.nil
      rw [h0] at hv
      simp only [TokAt, h0, and_true]
      rw [hv] at hr
      cases hr; rfl
    · exact R.holds _ _ h
  have hτ0 : ∀ D h, (setτ G D d h).τ 0 = (none, 0) := fun D h => by
    simp only [setτ, if_neg (Ne.symm hd0)]; exact R.nil
  have hBt : ∀ b, (∃ n, t ≠ 0 ∧ n = els.length ∧ tokBlk G t n = some b) → ∃ E len, get s (.tok t) = some (.tk E len) ∧ tokBlk G t len = some b := by
    rintro b ⟨n, ht, rfl, hb⟩
    exact ⟨E, _, htok.resolve_left ht, hb⟩
  by_cases hle : els.length + ys.length ≤ (G.τ t).2
  · -- there is room
    cases hh : G.τ t with
    | mk base cap =>
      rw [hh] at hv hle
      simp only at hv hle
      cases base with
      | none =>
        have hcap : els.length = 0 ∧ cap = 0 := by simpa [TokAt, hh] using hTok
        have hys : ys = [] := List.eq_nil_of_length_eq_zero (by omega)
        have hels : els = [] := List.eq_nil_of_length_eq_zero hcap.1
        subst hys hels
        obtain ⟨-, rfl⟩ := hcap
        have hrun := run_append_fits (ty := o.type) (w := w) he h2 (base := none) (len := 0) (cap := 0) (lenOf_sl (P := X.P) hyr w) (run_firstCells (P := X.P) g3) hle (w' := w) rfl
        refine hfin _ _ (setτ G G.D d (none, 0)) (by rw [hv]; exact hrun) ?_
        have T0 := Trans.refl X G a w R.nil
        have T1 : Trans X G a w (setτ G G.D d (none, 0)) a w (fun _ => False) := ⟨T0.tmps, T0.defers, T0.os, T0.tape, T0.output, T0.size, T0.keep, T0.own, T0.grow, T0.new, hτ0 _ _⟩
        refine R.ownNew hn hf T1 rfl (fun k hk => by simp [setτ, hk]) (fun b h => h.elim) ?_ ?_ (fun b hb => ?_)
        · simp only [RSV, setτ, if_true]
          exact ⟨rfl, .sl0 _ _⟩
        · simp [TokAt, setτ]
        · simp [tokBlk, setτ] at hb
      | some p =>
        have htk : els.length ≤ cap ∧ (els.length < cap → p.spot = none ∧ ∃ c e, w.heap[p.block]? = some (.cells c e (0, 0)) ∧ p.off + cap * E ≤ c.size ∧ ∀ j, p.off + els.length * E ≤ j → j < p.off + cap * E → ¬ G.D p.block j) := by
          simpa [TokAt, hh] using hTok
        obtain ⟨hlc, hroom⟩ := htk
        obtain ⟨pb, po, ps⟩ := p
        simp only at hroom
        have ht0 : t ≠ 0 := fun e => by subst e; rw [R.nil] at hh; cases hh
        rcases Nat.lt_or_ge els.length cap with hlt | hge
        · obtain ⟨rfl, c, e, k1, k2, k3⟩ := hroom hlt
          have hnew1 : (arr g (ys.length * E)).size = ys.length * E := arr_size _ _
          have hmul : els.length * E + ys.length * E ≤ cap * E := by rw [← Nat.add_mul]; exact Nat.mul_le_mul_right _ hle
          have hst := run_storeCells_at (P := X.P) pb (po + els.length * E) e (arr g (ys.length * E)).toList 0 c w k1 (by simp [hnew1]; omega) (fun v hv' => by
            simp only [arr, List.mem_map, List.mem_range] at hv'
            obtain ⟨k, hk, rfl⟩ := hv'
            exact g2 k hk)
          rw [foldSet_setAll] at hst
          have hrun := run_append_fits (ty := o.type) (w := w) he h2 (base := some ⟨pb, po, none⟩) (len := els.length) (cap := cap) (lenOf_sl (P := X.P) hyr w) (run_firstCells (P := X.P) g3) hle (w' := w.setRow pb (setAll c (po + els.length * E) (arr g (ys.length * E)))) (by simp only [addr_add]; exact hst)
          have hsa := setAll_spec c (po + els.length * E) (arr g (ys.length * E)) (by rw [hnew1]; omega)
          rw [hnew1] at hsa
          have hblk : tokBlk G t els.length = some pb := by simp [tokBlk, hh, hlt]
          have hbase : X.w0.heap.size ≤ pb := by
            rcases R.own _ _ pb (htok.resolve_left ht0) hblk with h | ⟨_, h⟩
            · exact h
            · cases h
          have hcellw : ∀ k, (w.setRow pb (setAll c (po + els.length * E) (arr g (ys.length * E)))).cell? ⟨pb, k, none⟩ = (setAll c (po + els.length * E) (arr g (ys.length * E)))[k]? := fun k => cell_setRow_same _ _ _ _ _ _ _ k1
          have hcell0 : ∀ k, w.cell? ⟨pb, k, none⟩ = c[k]? := fun k => by simp [World.cell?, k1]
          refine hfin _ _ (setτ G (withData G.D pb (po + els.length * E) (po + (els.length + ys.length) * E)) d (some ⟨pb, po, none⟩, cap)) (by rw [hv]; exact hrun) ?_
          have T : Trans X G a w (setτ G (withData G.D pb (po + els.length * E) (po + (els.length + ys.length) * E)) d (some ⟨pb, po, none⟩, cap)) a (w.setRow pb (setAll c (po + els.length * E) (arr g (ys.length * E)))) (fun b => b = pb) := by
            refine ⟨rfl, fun h => h.but k1 fun b hnb => setRow_other _ _ _ _ hnb, rfl, rfl, rfl, by simp, fun b hb hnb => setRow_other _ _ _ _ hnb, fun b hb => by subst hb; exact .inl hbase, fun b k hD => ⟨.inl hD, ?_⟩, fun b k hD hnD => ?_, hτ0 _ _⟩
            · by_cases hb : b = pb
              · subst hb
                rw [hcellw, hcell0, hsa.2]
                have : ¬ (po + els.length * E ≤ k ∧ k < po + els.length * E + ys.length * E) := fun ⟨q1, q2⟩ => k3 k q1 (by omega) hD
                rw [if_neg this]
              · exact cell_setRow_other _ _ _ _ hb
            · rcases hD with hD | ⟨rfl, q1, q2⟩
              · exact absurd hD hnD
              · refine ⟨.inr ⟨rfl, hbase⟩, _, (hcellw k).trans (Array.getElem?_eq_getElem ?_)⟩
                rw [hsa.1]
                rw [Nat.add_mul] at q2
                omega
          refine R.ownNew hn hf T rfl (fun k hk => by simp [setτ, hk]) (fun b hb => by subst hb; exact ⟨E, _, htok.resolve_left ht0, hblk⟩) ?_ ?_ (fun b hb => ?_)
          · simp only [RSV, setτ, if_true, hlen]
            refine ⟨trivial, ?_⟩
            have hj : Laid (withData G.D pb (po + els.length * E) (po + (els.length + ys.length) * E)) (w.setRow pb (setAll c (po + els.length * E) (arr g (ys.length * E)))) E (els ++ ys) (fun k => if k < els.length * E then f k else g (k - els.length * E)) :=
              Laid.join (f1.mono T.grow) (g1.mono T.grow) hE1 hE2 (fun k hk => by rw [if_pos hk]) (fun k hk => by rw [if_neg (by omega), Nat.add_sub_cancel_left])
            have := sl_of_laid (cap := cap) (b := pb) (o := po) (by rw [hlen]; exact hbig) (by rw [hlen]; exact hle) hEall hCall (fun k hk => ?_) hj
            · rw [hlen] at this; exact this
            · rw [hlen, Nat.add_mul] at hk
              by_cases hk1 : k < els.length * E
              · rw [if_pos hk1]
                rcases f3 with ⟨rfl, -⟩ | ⟨b', o', cap', hv', hc'⟩
                · simp at hk1
                · rw [hv] at hv'
                  cases hv'
                  obtain ⟨m1, m2⟩ := hc' k hk1
                  exact ⟨(T.grow _ _ m2).2.trans m1, .inl m2⟩
              · rw [if_neg hk1]
                refine ⟨?_, .inr ⟨rfl, by omega, by rw [Nat.add_mul]; omega⟩⟩
                rw [hcellw, hsa.2, if_pos (by omega), show po + k - (po + els.length * E) = k - els.length * E from by omega]
                exact arr_get _ _ _ (by omega)
          · simp only [TokAt, setτ, if_true]
            refine ⟨hle, fun hc => ⟨trivial, _, e, setRow_heap _ _ _ _ _ _ k1, by rw [hsa.1]; exact k2, fun j j1 j2 hD => ?_⟩⟩
            rcases hD with hD | ⟨-, q1, q2⟩
            · exact k3 j (by rw [Nat.add_mul] at j1; omega) j2 hD
            · omega
          · simp only [tokBlk, setτ, if_true] at hb
            split at hb
            · cases hb; exact .inr rfl
            · cases hb
        · have hys : ys = [] := List.eq_nil_of_length_eq_zero (by omega)
          subst hys
          have hcl : cap = els.length := by omega
          subst hcl
          have hrun := run_append_fits (ty := o.type) (w := w) he h2 (base := some ⟨pb, po, ps⟩) (len := els.length) (cap := els.length) (lenOf_sl (P := X.P) hyr w) (run_firstCells (P := X.P) g3) hle (w' := w) (by simp [arr, storeCells])
          refine hfin _ _ (setτ G G.D d (some ⟨pb, po, ps⟩, els.length)) (by rw [hv]; exact hrun) ?_
          have T0 := Trans.refl X G a w R.nil
          have T1 : Trans X G a w (setτ G G.D d (some ⟨pb, po, ps⟩, els.length)) a w (fun _ => False) := ⟨T0.tmps, T0.defers, T0.os, T0.tape, T0.output, T0.size, T0.keep, T0.own, T0.grow, T0.new, hτ0 _ _⟩
          refine R.ownNew hn hf T1 rfl (fun k hk => by simp [setτ, hk]) (fun b h => h.elim) ?_ ?_ (fun b hb => ?_)
          · simp only [RSV, setτ, if_true, List.append_nil, List.length_nil, Nat.add_zero]
            refine ⟨trivial, ?_⟩
            rw [hv] at hr
            exact hr
          · simp [TokAt, setτ]
          · simp [tokBlk, setτ] at hb
  · -- a new block
    have hdr : ∀ w' : World, w'.heap = w.heap → (Builtin.firstCells E ys.length (a.eval y)).run X.P w' = .ok (arr g (ys.length * E)) w' := fun w' hw => by
      refine run_firstCells (D := G.D) ?_
      rcases g3 with h | ⟨b, o', cap, h, hc⟩
      · exact .inl h
      · exact .inr ⟨b, o', cap, h, fun k hk => by rw [cell_of_heap hw]; exact hc k hk⟩
    have hdo : ∀ w' : World, w'.heap = w.heap → (Builtin.firstCells E els.length (.slice (G.τ t).1 els.length (G.τ t).2)).run X.P w' = .ok (arr f (els.length * E)) w' := fun w' hw => by
      rw [← hv]
      refine run_firstCells (D := G.D) ?_
      rcases f3 with h | ⟨b, o', cap, h, hc⟩
      · exact .inl h
      · exact .inr ⟨b, o', cap, h, fun k hk => by rw [cell_of_heap hw]; exact hc k hk⟩
    obtain ⟨c, e, nc, r1, r2, r3, r4, r5⟩ := run_append_new (ty := o.type) (w := w) he hB h2 (fun w' _ => lenOf_sl (P := X.P) hyr w') hdr hdo hle hbig (arr_size _ _) (arr_size _ _)
    rw [← hv] at r1
    refine hfin _ _ (setτ G (withData G.D w.heap.size 0 ((els.length + ys.length) * E)) d (some ⟨w.heap.size, 0, none⟩, nc)) r1 ?_
    have hcsz : (els.length + ys.length) * E ≤ c.size := by rw [r3]; exact Nat.mul_le_mul_right _ r2
    have hcn : ∀ k, (w.drew.alloc (.cells c e)).cell? ⟨w.heap.size, k, none⟩ = c[k]? := fun k => World.cell?_alloc_new w.drew c e k
    have T : Trans X G a w (setτ G (withData G.D w.heap.size 0 ((els.length + ys.length) * E)) d (some ⟨w.heap.size, 0, none⟩, nc)) a (w.drew.alloc (.cells c e)) (fun _ => False) := by
      refine ⟨rfl, fun h => h.heap fun b hb => alloc_old w.drew _ b hb, rfl, rfl, rfl, by simp, fun b hb _ => alloc_old w.drew _ b hb, fun _ h => h.elim, fun b k hD => ⟨.inl hD, World.cell?_alloc_lt w.drew _ _ (R.wf.lt hD)⟩, fun b k hD hnD => ?_, hτ0 _ _⟩
      rcases hD with hD | ⟨rfl, q1, q2⟩
      · exact absurd hD hnD
      · exact ⟨.inl (Nat.le_refl _), _, (hcn k).trans (Array.getElem?_eq_getElem (by omega))⟩
    refine R.ownNew hn hf T rfl (fun k hk => by simp [setτ, hk]) (fun b h => h.elim) ?_ ?_ (fun b hb => ?_)
    · simp only [RSV, setτ, if_true, hlen]
      refine ⟨trivial, ?_⟩
      have hj : Laid (withData G.D w.heap.size 0 ((els.length + ys.length) * E)) (w.drew.alloc (.cells c e)) E (els ++ ys) (fun k => if k < els.length * E then f k else g (k - els.length * E)) :=
        Laid.join (f1.mono T.grow) (g1.mono T.grow) hE1 hE2 (fun k hk => by rw [if_pos hk]) (fun k hk => by rw [if_neg (by omega), Nat.add_sub_cancel_left])
      have := sl_of_laid (cap := nc) (b := w.heap.size) (o := 0) (by rw [hlen]; exact hbig) (by rw [hlen]; exact r2) hEall hCall (fun k hk => ?_) hj
      · rw [hlen] at this; exact this
      · rw [hlen] at hk
        refine ⟨?_, .inr ⟨rfl, by omega, by omega⟩⟩
        rw [Nat.zero_add, hcn]
        rw [Nat.add_mul] at hk
        by_cases hk1 : k < els.length * E
        · rw [if_pos hk1, r4 k hk1]; exact arr_get _ _ _ hk1
        · rw [if_neg hk1, show k = els.length * E + (k - els.length * E) from by omega, r5 _ (by omega), Nat.add_sub_cancel_left]
          exact arr_get _ _ _ (by omega)
    · simp only [TokAt, setτ, if_true]
      refine ⟨r2, fun _ => ⟨trivial, c, e, alloc_new w.drew _, by rw [r3]; omega, fun j j1 j2 hD => ?_⟩⟩
      rcases hD with hD | ⟨-, q1, q2⟩
      · exact absurd (R.wf.lt hD) (Nat.lt_irrefl _)
      · omega
    · simp only [tokBlk, setτ, if_true] at hb
      split at hb
      · cases hb; exact .inl (Nat.le_refl _)
      · cases hb

/-- a slice cut to its own length and capacity: nothing may be appended in place -/
theorem step_slice3 {o : Oper} {T : TypeId} {x m : Operand} {lo hi : Option Operand} (ho : o.op = .slice T x lo hi (some m)) {d : Nat} (hd : o.dst = some d) (hn : d < X.n) (hd0 : d ≠ 0) (hf : freshT d s = true) {E : Nat} (hE : elemT X.P T = some E) {els : List (List DV)}
    (hx : (evl X (get s) x).bind slOf = some els) {l h k : Int} (hlo : bound X (get s) 0 lo = some l) (hhi : bound X (get s) els.length hi = some h) (hm : bound X (get s) 0 (some m) = some k) (hsome : hi.isSome = true)
    (hc : 0 ≤ l ∧ l ≤ h ∧ h ≤ els.length ∧ h = k ∧ ∀ e ∈ els, e.length = E) :
    StepOK X s o (upd (upd (del s (.tok 0)) (.slot d) (.one (.own d ((els.take h.toNat).drop l.toNat)))) (.tok d) (.tk E (h.toNat - l.toNat))) := by
  intro G a w R next Q hK
  obtain ⟨h0, h1, h2, rfl, h3⟩ := hc
  obtain ⟨e', ie, hu, hie, rfl⟩ := elem_run hE
  obtain ⟨q, hq, hq'⟩ := Option.bind_eq_some_iff.1 hx
  obtain ⟨b, cap, hv, hr, hcap⟩ := slOf_sound hq' (evl_sound R hq)
  have hlo' : (lo.map a.eval = none ∧ l = 0) ∨ ∃ k, lo.map a.eval = some (.int k l) := by
    rcases bound_sound R hlo with ⟨rfl, h⟩ | ⟨z, k, rfl, h⟩
    · exact .inl ⟨rfl, h⟩
    · exact .inr ⟨k, by simp [h]⟩
  obtain ⟨hio, rfl⟩ := Option.isSome_iff_exists.1 hsome
  have hhi' : ∃ k, a.eval hio = .int k h := by
    rcases bound_sound R hhi with ⟨h, _⟩ | ⟨z, k, hz, h⟩
    · cases h
    · cases hz; exact ⟨k, h⟩
  have hm' : ∃ k, a.eval m = .int k h := by
    rcases bound_sound R hm with ⟨h, _⟩ | ⟨z, k, hz, h⟩
    · cases h
    · cases hz; exact ⟨k, h⟩
  obtain ⟨k1, hk1⟩ := hhi'
  obtain ⟨k2, hk2⟩ := hm'
  have hh' : (h.toNat : Int) = h := Int.toNat_of_nonneg (by omega)
  have hsz : (sizeOf e').run X.P w = .ok ie.size w := by simp [sizeOf, typeInfo, hie]
  have hrun : (Instr.sliceAt T (.slice b els.length cap) (lo.map a.eval) (some (a.eval hio)) (some (a.eval m))).run X.P w =
      .ok (.slice (if h.toNat = l.toNat then b else b.map fun q => q.add (l.toNat * ie.size)) (h.toNat - l.toNat) (h.toNat - l.toNat)) w := by
    have b1 : 0 ≤ h ∧ h ≤ (cap : Int) := ⟨by omega, by omega⟩
    have b2 : 0 ≤ h ∧ h ≤ (h.toNat : Int) := ⟨by omega, by omega⟩
    have b3 : 0 ≤ l ∧ l ≤ (h.toNat : Int) := ⟨h0, by omega⟩
    rcases hlo' with ⟨hl, rfl⟩ | ⟨k, hl⟩
    · rw [hl, hk1, hk2]
      simp only [Instr.sliceAt, Instr.slice, run_underlying hu, Instr.sliceBounds, Instr.sliceBound, asIntOf, Sem.run_bind, Sem.run_pure, Result.andThen_ok, if_pos b1, if_pos b2, hsz]
      simp
    · rw [hl, hk1, hk2]
      simp only [Instr.sliceAt, Instr.slice, run_underlying hu, Instr.sliceBounds, Instr.sliceBound, asIntOf, Sem.run_bind, Sem.run_pure, Result.andThen_ok, if_pos b1, if_pos b2, if_pos b3, hsz]
  have hsl := sl_slice (w := w) (E := ie.size) (hv ▸ hr) h3 l.toNat h.toNat (by omega) (by omega) hcap
  have hlen : ((els.take h.toNat).drop l.toNat).length = h.toNat - l.toNat := by simp; omega
  obtain ⟨base, hbase, hsl'⟩ : ∃ base : Option Addr, base = (if h.toNat = l.toNat then b else b.map fun q => q.add (l.toNat * ie.size)) ∧ RV G.D w (.sl ((els.take h.toNat).drop l.toNat)) (.slice base (h.toNat - l.toNat) (h.toNat - l.toNat)) := by
    refine ⟨_, rfl, ?_⟩
    by_cases he : h.toNat = l.toNat
    · have : (els.take h.toNat).drop l.toNat = [] := by rw [he]; simp
      rw [this, he, Nat.sub_self]; exact .sl0 _ _
    · have hne : cap ≠ l.toNat := by omega
      rw [if_neg hne] at hsl
      rw [if_neg he]
      generalize (els.take h.toNat).drop l.toNat = L at *
      generalize hb : b.map (fun q => q.add (l.toNat * ie.size)) = bb at *
      rw [← hlen] at hsl ⊢
      cases hsl with
      | sl0 => simp at hlen; omega
      | sl _ b' o' _ E' val q1 q2 q3 q4 q5 q6 q7 => exact .sl L b' o' _ E' val q1 (Nat.le_refl _) q3 q4 q5 q6 q7
  rw [← hbase] at hrun
  have hτ0 : (setτ G G.D d (base, h.toNat - l.toNat)).τ 0 = (none, 0) := by simp only [setτ, if_neg (Ne.symm hd0)]; exact R.nil
  have T0 := Trans.refl X G a w R.nil
  have T1 : Trans X G a w (setτ G G.D d (base, h.toNat - l.toNat)) a w (fun _ => False) := ⟨T0.tmps, T0.defers, T0.os, T0.tape, T0.output, T0.size, T0.keep, T0.own, T0.grow, T0.new, hτ0⟩
  refine opIn (by first | exact pval_nodefer h | (intro c e; rw [ho] at e; cases e)) ?_
  simp only [execOp, ho, hv, Option.map_some, hrun, Sem.run_bind, Result.andThen_ok, Sem.run_pure, upn_value, hd]
  refine hK (setτ G G.D d (base, h.toNat - l.toNat)) _ w (R.ownNew (t := 0) hn hf T1 rfl (fun k hk => by simp [setτ, hk]) (fun b h => h.elim) ?_ ?_ (fun b hb => ?_))
  · simp only [RSV, setτ, if_true, hlen]
    exact ⟨trivial, hsl'⟩
  · simp only [TokAt, setτ, if_true]
    cases base with
    | none =>
      have : h.toNat - l.toNat = 0 := by
        rw [← hlen] at hsl' ⊢
        generalize (els.take h.toNat).drop l.toNat = L at *
        cases hsl' with
        | sl0 => rfl
      exact ⟨this, this⟩
    | some p => exact ⟨Nat.le_refl _, fun h => absurd h (Nat.lt_irrefl _)⟩
  · cases base <;> simp [tokBlk, setτ] at hb

end
end Go.Proofs.YtbmnlkfgkdallaaDoor.Lift
