/-
  Part G of the small logic: stores; slices made of literals.
-/
import Derived.Test.YtbmnlkfgkdallaaDoorLf
namespace Go.Proofs.YtbmnlkfgkdallaaDoor.Lift
set_option linter.unusedSimpArgs false
set_option linter.unusedVariables false
set_option linter.unnecessarySimpa false
open Go
section
variable {X : Ctx} {G : Gh} {s : St} {a : Act} {w : World}

theorem setRow_self (w : World) (b : Nat) (c : Array Value) (e : TypeId) (h : w.heap[b]? = some (.cells c e (0, 0))) : w.setRow b c = w := by
  have hlt : b < w.heap.size := (Array.getElem?_eq_some_iff.1 h).1
  have hv : w.heap[b] = .cells c e (0, 0) := (Array.getElem?_eq_some_iff.1 h).2
  unfold World.setRow
  cases w with
  | mk heap tape drawn os output =>
    congr 1
    apply Array.ext
    · simp
    · intro k h1 h2
      simp only [Array.getElem_modify]
      split
      · rename_i hk; subst hk; simp at hv; simp [hv]
      · rfl

abbrev foldSet (off : Nat) (l : List Value) (k : Nat) (c : Array Value) : Array Value := (l.zipIdx k).foldl (fun cs (p : Value × Nat) => cs.setIfInBounds (off + p.2) p.1) c

theorem run_storeCells_at {P : Program} (b off : Nat) (e : TypeId) : ∀ (vs : List Value) (k : Nat) (c : Array Value) (w : World), w.heap[b]? = some (.cells c e (0, 0)) → off + k + vs.length ≤ c.size → (∀ v ∈ vs, v.oneCell' = true) →
    (storeCells ⟨b, off, none⟩ vs k).run P w = .ok () (w.setRow b (foldSet off vs k c))
  | [], k, c, w, h, _, _ => by simp [storeCells, foldSet, setRow_self w b c e h]
  | v :: r, k, c, w, h, hle, h1 => by
    simp only [List.length_cons] at hle
    have hi : off + k < c.size := by omega
    have hcell : w.cell? ⟨b, off + k, none⟩ = some c[off + k] := by simp [World.cell?, h, hi]
    have hfro : w.frozen? ⟨b, off + k, none⟩ = false := by simp [World.frozen?, h]
    have hst : (store ((⟨b, off, none⟩ : Addr).add k) v).run P w = .ok () (w.setRow b (c.setIfInBounds (off + k) v)) := by
      rw [addr_add, run_store P w _ v _ (h1 v (by simp)), hcell]
      simp [hfro, setCell_eq_setRow w b (off + k) c e (0, 0) v h]
    have ih := run_storeCells_at (P := P) b off e r (k + 1) (c.setIfInBounds (off + k) v) (w.setRow b (c.setIfInBounds (off + k) v)) (setRow_heap w b c _ e _ h) (by simp; omega) (fun x hx => h1 x (by simp [hx]))
    simp only [storeCells, Sem.run_bind, hst, Result.andThen_ok, ih, setRow_setRow, foldSet, List.zipIdx_cons, List.foldl_cons]

theorem foldSet_setAll (off : Nat) (vs c : Array Value) : foldSet off vs.toList 0 c = setAll c off vs := by
  unfold foldSet setAll
  rw [← Array.foldl_toList, Array.toList_zipIdx]

theorem rowOf_one {xs : List SV} {vs : Array Value} (h : RowOf G w xs vs) (hc : cellBS xs = true) : ∀ v ∈ vs.toList, v.oneCell' = true := by
  intro v hv
  obtain ⟨i, hi, rfl⟩ := List.mem_iff_getElem.1 hv
  have hi' : i < xs.length := by rw [← h.1]; simpa using hi
  have hx : xs[i]? = some xs[i] := List.getElem?_eq_getElem hi'
  have hvv : vs[i]? = some (vs.toList[i]) := by simp
  exact RSV.one (h.2 i _ _ hx hvv) ((cellBS_iff xs).1 hc _ (List.getElem_mem hi'))

/-- a row that is one's own is written -/
theorem Rel.storeRow (R : Rel X G s a w) {l : Loc} {cs : List SV} (hl : get s l = some (.row cs)) (hlt : l.isTok = false) {b : Nat} (hb : blkOf G l (.row cs) = some b) {off : Nat} {xs : List SV} {vs : Array Value}
    (hx : RowOf G w xs vs) (hc : cellBS xs = true) (hle : off + xs.length ≤ cs.length) :
    ∃ w', (storeCells ⟨b, off, none⟩ vs.toList 0).run X.P w = .ok () w' ∧ Rel X G (upd s l (.row (put cs off xs))) a w' := by
  have hB : BlkAt G w b cs := by
    have := R.holds _ _ hl
    cases l with
    | loc k => simp only [blkOf, Option.some.injEq] at hb; subst hb; exact this
    | heap k => simp only [blkOf, Option.some.injEq] at hb; subst hb; exact this
    | slot n => cases hb
    | tok t => cases hb
  obtain ⟨c, e, h1, h2, h3⟩ := hB
  have hsz : off + vs.size ≤ c.size := by rw [hx.1, h2]; exact hle
  have hrun := run_storeCells_at (P := X.P) b off e vs.toList 0 c w h1 (by simpa using hsz) (rowOf_one hx hc)
  rw [foldSet_setAll] at hrun
  refine ⟨_, hrun, ?_⟩
  have hnd : ∀ o, ¬ G.D b o := fun o => R.data l _ b o hl hb hlt
  have T : Trans X G a w G a (w.setRow b (setAll c off vs)) (fun b' => b' = b) := by
    refine ⟨rfl, fun h => h.but h1 fun b' hn => setRow_other _ _ _ _ hn, rfl, rfl, rfl, by simp, fun b' hb' hn => setRow_other _ _ _ _ hn, fun b' hb' => ?_, fun b' o hd => ⟨hd, ?_⟩, fun _ _ h k => absurd h k, R.nil⟩
    · subst hb'; exact (R.own l _ b' hl hb).imp id And.left
    · exact cell_setRow_other _ _ _ _ (fun e => by subst e; exact hnd o hd)
  refine R.step T (fun l' u => l' = l ∧ u = .row (put cs off xs)) (fun l' u h => ?_) (fun l' u h => ?_) (fun l' u l'' u' b h h' _ _ => h.1.trans h'.1.symm)
  · rw [get_upd] at h
    by_cases hl' : l = l'
    · rw [if_pos hl'] at h; cases h; exact .inl ⟨hl'.symm, rfl⟩
    · rw [if_neg hl'] at h
      refine .inr ⟨h, fun _ _ => rfl, fun b' hb' he => ?_, fun _ _ => rfl, fun _ _ => rfl⟩
      subst he
      exact hl' (R.sep _ _ _ _ b' hl h hb hb')
  · obtain ⟨rfl, rfl⟩ := h
    have hrow : RowOf G w cs c := ⟨h2, fun i x v hx hv => by obtain ⟨-, u, hu, hr⟩ := h3 i x hx; rw [hu] at hv; cases hv; exact hr⟩
    have hput := hrow.put hx hle
    have hnew : BlkAt G (w.setRow b (setAll c off vs)) b (put cs off xs) := by
      refine ⟨_, e, setRow_heap _ _ _ _ _ _ h1, hput.1, fun i x hi => ?_⟩
      have hlt' : i < (setAll c off vs).size := by rw [hput.1]; exact (List.getElem?_eq_some_iff.1 hi).1
      refine ⟨?_, _, Array.getElem?_eq_getElem hlt', (hput.2 i x _ hi (Array.getElem?_eq_getElem hlt')).mono T.grow (fun _ _ => rfl) (fun _ _ => rfl)⟩
      rw [get_put _ _ _ _ hle] at hi
      split at hi
      · exact (cellBS_iff xs).1 hc x (List.mem_of_getElem? hi)
      · exact (h3 i x hi).1
    refine ⟨?_, fun b' hb' => ?_⟩
    · cases l' with
      | loc k => simp only [blkOf, Option.some.injEq] at hb; subst hb; exact hnew
      | heap k => simp only [blkOf, Option.some.injEq] at hb; subst hb; exact hnew
      | slot n => cases hb
      | tok t => cases hb
    · have : b' = b := by
        cases l' <;> simp_all [blkOf]
      subst this
      exact ⟨.inr rfl, R.own l' _ b' hl hb, fun _ o => hnd o⟩

theorem run_store_var {P : Program} {t : TypeId} {agg : Bool} {n : Nat} (hl : layT P t = some (agg, n)) {v : Value} (hv : v.cells.size = n) {b off : Nat} {w' : World} (h : (storeCells ⟨b, off, none⟩ v.cells.toList 0).run P w = .ok () w') :
    (Instr.storeAt t (.pointer (some ⟨b, off, none⟩)) v).run P w = .ok () w' := by
  obtain ⟨-, h2⟩ := run_lay (w := w) hl
  simp [Instr.storeAt, Instr.sureAddr, storeVar, h2, hv, h]

/-- a store through an address of a local variable -/
theorem step_store_loc {o : Oper} {t : TypeId} {p x : Operand} (ho : o.op = .store t p x) (hd : o.dst = none) {k off : Nat} (hp : evl X (get s) p = some (.loc k off)) {cs : List SV} (hg : get s (.loc k) = some (.row cs))
    {agg : Bool} {n : Nat} (hl : layT X.P t = some (agg, n)) {y : SV} (hy : evl X (get s) x = some y) (hc : (cellsS y).length = n ∧ off + n ≤ cs.length) (hcell : cellBS (cellsS y) = true) :
    StepOK X s o (upd s (.loc k) (.row (put cs off (cellsS y)))) := by
  intro G a w R next Q hK
  have hrow : RowOf G w (cellsS y) (a.eval x).cells := cellsS_sound R.nil (evl_sound R hy)
  obtain ⟨w', h1, h2⟩ := R.storeRow hg rfl (b := G.ν k) rfl hrow hcell (by rw [hc.1]; exact hc.2)
  have hpv : a.eval p = .pointer (some ⟨G.ν k, off, none⟩) := evl_sound R hp
  refine opIn (by first | exact pval_nodefer h | (intro c e; rw [ho] at e; cases e)) ?_
  have h3 := run_store_var (w := w) hl (by rw [hrow.1, hc.1]) h1
  rw [← hpv] at h3
  simp only [execOp, ho, Sem.run_bind, h3, Result.andThen_ok, Sem.run_pure, upn_skip, hd]
  exact hK G _ w' h2

/-- a slice within an object that others hold reads as data -/
def asV : SV → Option SV
  | .v x => some (.v x)
  | .own _ els => some (.v (.sl els))
  | _ => none

def asVs : List SV → Option (List SV)
  | [] => some []
  | x :: r => match asV x, asVs r with
    | some y, some ys => some (y :: ys)
    | _, _ => none

theorem asVs_row : ∀ {xs ys : List SV}, asVs xs = some ys → xs.length = ys.length ∧ ∀ (i : Nat) (y : SV), ys[i]? = some y → ∃ x, xs[i]? = some x ∧ asV x = some y
  | [], ys, h => by cases h; simp
  | x :: r, ys, h => by
    simp only [asVs] at h
    split at h
    · rename_i y zs hy hzs
      cases h
      obtain ⟨h1, h2⟩ := asVs_row hzs
      refine ⟨by simp [h1], fun i c hc => ?_⟩
      cases i with
      | zero => simp at hc; subst hc; exact ⟨x, rfl, hy⟩
      | succ i => obtain ⟨z, hz⟩ := h2 i c (by simpa using hc); exact ⟨z, by simpa using hz.1, hz.2⟩
    · cases h

theorem RowOf.asV {xs ys : List SV} {c : Array Value} (h : RowOf G w xs c) (hy : asVs xs = some ys) : RowOf G w ys c := by
  obtain ⟨h1, h2⟩ := asVs_row hy
  refine ⟨h.1.trans h1, fun i y v hi hv => ?_⟩
  obtain ⟨x, hx, hxy⟩ := h2 i y hi
  have hr := h.2 i x v hx hv
  cases x with
  | v x => cases hxy; exact hr
  | own t els => cases hxy; exact hr.2
  | loc => cases hxy
  | dp => cases hxy
  | ag => cases hxy

theorem step_store_heap {o : Oper} {t : TypeId} {p x : Operand} (ho : o.op = .store t p x) (hd : o.dst = none) {b off : Nat} (hp : evl X (get s) p = some (.v (.prim (.pointer (some ⟨b, off, none⟩))))) {cs : List SV} (hg : get s (.heap b) = some (.row cs))
    {agg : Bool} {n : Nat} (hl : layT X.P t = some (agg, n)) {y : SV} (hy : evl X (get s) x = some y) {ys : List SV} (hys : asVs (cellsS y) = some ys) (hc : ys.length = n ∧ off + n ≤ cs.length) (hcell : cellBS ys = true) :
    StepOK X s o (upd s (.heap b) (.row (put cs off ys))) := by
  intro G a w R next Q hK
  have hrow0 : RowOf G w (cellsS y) (a.eval x).cells := cellsS_sound R.nil (evl_sound R hy)
  have hrow := hrow0.asV hys
  obtain ⟨w', h1, h2⟩ := R.storeRow hg rfl (b := b) rfl hrow hcell (by rw [hc.1]; exact hc.2)
  have hpv : a.eval p = .pointer (some ⟨b, off, none⟩) := (prim_of (evl_sound R hp)).1
  refine opIn (by first | exact pval_nodefer h | (intro c e; rw [ho] at e; cases e)) ?_
  have h3 := run_store_var (w := w) hl (by rw [hrow.1, hc.1]) h1
  rw [← hpv] at h3
  simp only [execOp, ho, Sem.run_bind, h3, Result.andThen_ok, Sem.run_pure, upn_skip, hd]
  exact hK G _ w' h2

/-- the element type of a slice: its cells, its bytes; its zero is known -/
def elemZ (P : Program) (t : TypeId) : Option (Nat × Nat) :=
  match P.underlying t with
  | some (.slice e) =>
    match P.info? e with
    | some i => match i.zero with
      | some z => if z.cells.size = i.size then some (i.size, i.bytes) else none
      | none => none
    | none => none
  | _ => none

theorem elemZ_run {P : Program} {t E B : Nat} (h : elemZ P t = some (E, B)) : ∃ e i z, P.underlying t = some (.slice e) ∧ P.info? e = some i ∧ i.zero = some z ∧ z.cells.size = E ∧ i.size = E ∧ i.bytes = B := by
  unfold elemZ at h
  split at h
  · rename_i e hu
    split at h
    · rename_i i hi
      split at h
      · rename_i z hz
        split at h
        · rename_i hs
          simp only [Option.some.injEq, Prod.mk.injEq] at h
          exact ⟨e, i, z, hu, hi, hz, by omega, h.1, h.2⟩
        · cases h
      · cases h
    · cases h
  · cases h

def litEls (X : Ctx) (g : Rd) (E : Nat) : Nat → List (Nat × Operand) → Option (List (List DV))
  | _, [] => some []
  | n, (i, x) :: r =>
    if i = n then
      match evl X g x with
      | some y => match toDs (cellsS y) with
        | some ds => if ds.length = E then if cellB ds then
            match litEls X g E (n + 1) r with
            | some rest => some (ds :: rest)
            | none => none
          else none else none
        | none => none
      | none => none
    else none

theorem litEls_sound (R : Rel X G s a w) (E : Nat) : ∀ (parts : List (Nat × Operand)) (n : Nat) (els : List (List DV)) (c : Array Value), litEls X (get s) E n parts = some els → (n + els.length) * E ≤ c.size →
    (∀ e ∈ els, e.length = E) ∧ (∀ e ∈ els, ∀ d ∈ e, DV.isCell d = true) ∧ parts.length = els.length ∧
    ∃ c', Instr.fill (fun i => some (i * E, E)) c (parts.map fun q => (q.1, a.eval q.2)) = some c' ∧ c'.size = c.size ∧ (∀ k, k < n * E → c'[k]? = c[k]?) ∧
      ∀ (i j : Nat) (e : List DV) (d : DV), els[i]? = some e → e[j]? = some d → ∃ v, c'[(n + i) * E + j]? = some v ∧ RV G.D w d v
  | [], n, els, c, h, hle => by cases h; exact ⟨by simp, by simp, rfl, c, rfl, rfl, fun _ _ => rfl, by simp⟩
  | (i, x) :: r, n, els, c, h, hle => by
    simp only [litEls] at h
    split at h
    · rename_i hin
      subst hin
      split at h
      · rename_i y hy
        split at h
        · rename_i ds hds
          split at h
          · rename_i hlen
            split at h
            · rename_i hcb
              split at h
              · rename_i rest hrest
                cases h
                have hrow : RowOf G w (cellsS y) (a.eval x).cells := cellsS_sound R.nil (evl_sound R hy)
                obtain ⟨t1, t2⟩ := toDs_get hds
                have hvs : (a.eval x).cells.size = E := by rw [hrow.1, t1, hlen]
                have hm : (i + (rest.length + 1)) * E = i * E + E + rest.length * E := by rw [Nat.add_mul, Nat.add_mul, Nat.one_mul]; omega
                simp only [List.length_cons] at hle
                rw [hm] at hle
                have hsa := setAll_spec c (i * E) (a.eval x).cells (by rw [hvs]; omega)
                obtain ⟨q1, q2, q3, c', f1, f2, f3, f4⟩ := litEls_sound R E r (i + 1) rest (setAll c (i * E) (a.eval x).cells) hrest (by rw [hsa.1, Nat.add_mul, Nat.add_mul, Nat.one_mul]; omega)
                refine ⟨fun e he => ?_, fun e he => ?_, by simp [q3], c', ?_, by rw [f2, hsa.1], fun k hk => ?_, fun j l e d he hd => ?_⟩
                · rcases List.mem_cons.1 he with rfl | he
                  · exact hlen
                  · exact q1 e he
                · rcases List.mem_cons.1 he with rfl | he
                  · exact (cellB_iff _).1 hcb
                  · exact q2 e he
                · simp only [List.map_cons, Instr.fill]
                  rw [if_neg]
                  · exact f1
                  · simp only [Bool.or_eq_true, decide_eq_true_eq, not_or]; omega
                · rw [f3 k (by rw [Nat.add_mul]; omega), hsa.2, if_neg (by omega)]
                · cases j with
                  | zero =>
                    simp at he
                    subst he
                    have hl : l < E := by rw [← hlen]; exact (List.getElem?_eq_some_iff.1 hd).1
                    obtain ⟨z, hz, hzd⟩ := t2 l d hd
                    have hlv : l < (a.eval x).cells.size := by omega
                    refine ⟨(a.eval x).cells[l], ?_, toD_sound hzd (hrow.2 l z _ hz (Array.getElem?_eq_getElem hlv))⟩
                    rw [Nat.add_zero, f3 _ (by rw [Nat.add_mul, Nat.one_mul]; omega), hsa.2, if_pos (by omega), Nat.add_sub_cancel_left, Array.getElem?_eq_getElem hlv]
                  | succ j =>
                    obtain ⟨v, hv, hr⟩ := f4 j l e d (by simpa using he) hd
                    exact ⟨v, by rw [show i + (j + 1) = i + 1 + j from by omega]; exact hv, hr⟩
              · cases h
            · cases h
          · cases h
        · cases h
      · cases h
    · cases h

/-- new data: a block whose first cells are data from now on -/
def withData (D : Nat → Nat → Prop) (b lo hi : Nat) : Nat → Nat → Prop := fun b' o => D b' o ∨ (b' = b ∧ lo ≤ o ∧ o < hi)

theorem buildSlice_run (R : Rel X G s a w) {t E B len : Nat} (he : elemZ X.P t = some (E, B)) {parts : Array (Nat × Operand)} {els : List (List DV)} (h : litEls X (get s) E 0 parts.toList = some els) (hlen : els.length = len) (hb : len * E ≤ 16777216) (hb2 : len ≤ BIG) :
    ∃ c e, (Instr.buildSlice t len (parts.map fun (i, x) => (i, a.eval x))).run X.P w = .ok (.slice (some ⟨w.heap.size, 0, none⟩) len len) (w.alloc (.cells c e)) ∧ c.size = len * E ∧
      RV (withData G.D w.heap.size 0 (len * E)) (w.alloc (.cells c e)) (.sl els) (.slice (some ⟨w.heap.size, 0, none⟩) els.length len) := by
  obtain ⟨e, i, z, hu, hi, hz, hzs, his, hib⟩ := elemZ_run he
  subst hlen
  have hsz0 : ((Array.range (els.length * E)).map fun k => (if els.length * E = 0 then #[] else z.cells)[k % (if els.length * E = 0 then #[] else z.cells).size]!).size = els.length * E := by simp
  obtain ⟨q1, q2, q3, c', f1, f2, f3, f4⟩ := litEls_sound R E parts.toList 0 els ((Array.range (els.length * E)).map fun k => (if els.length * E = 0 then #[] else z.cells)[k % (if els.length * E = 0 then #[] else z.cells).size]!) h (by rw [hsz0, Nat.zero_add]; exact Nat.le_refl _)
  rw [hsz0] at f2
  refine ⟨c', e, ?_, f2, ?_⟩
  · have hne : ¬ (els.length * E > 2 ^ 24) := by omega
    have hf : Instr.fill (fun k => some (k * E, E)) ((Array.range (els.length * E)).map fun k => (if els.length * E = 0 then #[] else z.cells)[k % (if els.length * E = 0 then #[] else z.cells).size]!) ((parts.map fun (q : Nat × Operand) => (q.1, a.eval q.2)).toList) = some c' := by
      rw [Array.toList_map]; exact f1
    unfold Instr.buildSlice
    simp only [run_underlying hu, sizeOf, typeInfo, hi, his, Sem.run_bind, Sem.run_pure, run_program, Result.andThen_ok, hne, if_false]
    by_cases h0 : els.length * E = 0
    · simp only [if_pos h0] at hf ⊢
      simp only [Sem.run_bind, Sem.run_pure, Result.andThen_ok, hf, newRow, run_newObj]
      rfl
    · simp only [if_neg h0] at hf ⊢
      simp only [zeroValue, typeInfo, run_program, hi, hz, Sem.run_bind, Sem.run_pure, Result.andThen_ok, hf, newRow, run_newObj]
      rfl
  · refine .sl els w.heap.size 0 els.length E (fun i j => (c'[i * E + j]?).getD undef) hb2 (Nat.le_refl _) q1 q2 (fun i j hi' hj => ?_) (fun i j hi' hj => .inr ⟨rfl, Nat.zero_le _, ?_⟩) (fun i j e' d he' hd => ?_)
    · have hlt : i * E + j < c'.size := by
        rw [f2]
        calc i * E + j < i * E + E := by omega
          _ = (i + 1) * E := by rw [Nat.add_mul, Nat.one_mul]
          _ ≤ els.length * E := Nat.mul_le_mul_right _ hi'
      simp [World.cell?_alloc_new, hlt]
    · calc 0 + (i * E + j) < i * E + E := by omega
          _ = (i + 1) * E := by rw [Nat.add_mul, Nat.one_mul]
          _ ≤ els.length * E := Nat.mul_le_mul_right _ hi'
    · obtain ⟨v, hv, hr⟩ := f4 i j e' d he' hd
      rw [Nat.zero_add] at hv
      simp only [hv, Option.getD_some]
      exact hr.mono (fun b o hd => ⟨.inl hd, World.cell?_alloc_lt _ _ _ (R.wf.lt hd)⟩)

theorem trans_data (R : Rel X G s a w) {c : Array Value} {e : TypeId} {hi : Nat} (hh : hi ≤ c.size) {G' : Gh} (hD : G'.D = withData G.D w.heap.size 0 hi) (hn : G'.τ 0 = (none, 0)) : Trans X G a w G' a (w.alloc (.cells c e)) (fun _ => False) := by
  refine ⟨rfl, fun h => h.heap fun b hb => alloc_old w _ b hb, rfl, rfl, rfl, by simp, fun b hb _ => alloc_old w _ b hb, fun _ h => h.elim, fun b o hd => ⟨by rw [hD]; exact .inl hd, World.cell?_alloc_lt _ _ _ (R.wf.lt hd)⟩, fun b o h k => ?_, hn⟩
  rw [hD] at h
  rcases h with h | ⟨rfl, h1, h2⟩
  · exact absurd h k
  · refine ⟨.inl (Nat.le_refl _), c[o]'(by omega), ?_⟩
    rw [World.cell?_alloc_new]
    exact Array.getElem?_eq_getElem (by omega)

theorem step_buildSlice {o : Oper} {t len E B : Nat} {parts : Array (Nat × Operand)} (ho : o.op = .buildSlice t len parts) {d : Nat} (hd : o.dst = some d) (hn : d < X.n) (he : elemZ X.P t = some (E, B)) {els : List (List DV)}
    (h : litEls X (get s) E 0 parts.toList = some els) (hc : els.length = len ∧ len * E ≤ 16777216 ∧ len ≤ BIG) : StepOK X s o (upd s (.slot d) (.one (.v (.sl els)))) := by
  intro G a w R next Q hK
  obtain ⟨c, e, h1, h2, h3⟩ := buildSlice_run R he h hc.1 hc.2.1 hc.2.2
  refine opIn (by first | exact pval_nodefer h | (intro c e; rw [ho] at e; cases e)) ?_
  simp only [execOp, ho, Sem.run_bind, h1, Result.andThen_ok, Sem.run_pure, upn_value, hd]
  have T : Trans X G a w { G with D := withData G.D w.heap.size 0 (len * E) } a (w.alloc (.cells c e)) (fun _ => False) := trans_data R (hi := len * E) (by omega) rfl R.nil
  refine hK { G with D := withData G.D w.heap.size 0 (len * E) } _ _ (R.setSlot T rfl rfl (fun _ h => h) hn ?_)
  show RV (withData G.D w.heap.size 0 (len * E)) _ _ _
  rw [← hc.1] at h3 ⊢
  exact h3

end
end Go.Proofs.YtbmnlkfgkdallaaDoor.Lift
