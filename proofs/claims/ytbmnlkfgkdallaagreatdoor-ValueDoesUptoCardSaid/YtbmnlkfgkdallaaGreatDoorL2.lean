/-
  Part G of the small logic: stores; slices made of literals.
-/
import Derived.Test.YtbmnlkfgkdallaaGreatDoorL1
namespace Go.Proofs.YtbmnlkfgkdallaaGreatDoor.Lift
set_option linter.unusedSimpArgs false
set_option linter.unusedVariables false
set_option linter.unnecessarySimpa false
open Go
section
variable {X : Ctx} {G : Gh} {s : St} {a : Act} {w : World}

theorem setRow_self (w : World) (b : Nat) (c : Array Value) (e : TypeId) (h : w.heap[b]? = some (.cells c e (0, 0))) : w.setRow b c = w := by
  have hlt : b < w.heap.size := (Array.getElem?_eq_some_iff.1 h).1
  have hv : w.heap[b] = .cells c e (0, 0) := (Array.getElem?_eq_some_iff.1 h).2
  unfold World.setRow
  cases w with
  | mk heap tape drawn os output =>
    congr 1
    apply Array.ext
    · simp
    · intro k h1 h2
      simp only [Array.getElem_modify]
      split
      · rename_i hk; subst hk; simp at hv; simp [hv]
      · rfl

abbrev foldSet (off : Nat) (l : List Value) (k : Nat) (c : Array Value) : Array Value := (l.zipIdx k).foldl (fun cs (p : Value × Nat) => cs.setIfInBounds (off + p.2) p.1) c

theorem run_storeCells_at {P : Program} (b off : Nat) (e : TypeId) : ∀ (vs : List Value) (k : Nat) (c : Array Value) (w : World), w.heap[b]? = some (.cells c e (0, 0)) → off + k + vs.length ≤ c.size → (∀ v ∈ vs, v.oneCell' = true) →
    (storeCells ⟨b, off, none⟩ vs k).run P w = .ok () (w.setRow b (foldSet off vs k c))
  | [], k, c, w, h, _, _ => by simp [storeCells, foldSet, setRow_self w b c e h]
  | v :: r, k, c, w, h, hle, h1 => by
    simp only [List.length_cons] at hle
    have hi : off + k < c.size := by omega
    have hcell : w.cell? ⟨b, off + k, none⟩ = some c[off + k] := by simp [World.cell?, h, hi]
    have hfro : w.frozen? ⟨b, off + k, none⟩ = false := by simp [World.frozen?, h]
    have hst : (store ((⟨b, off, none⟩ : Addr).add k) v).run P w = .ok () (w.setRow b (c.setIfInBounds (off + k) v)) := by
      rw [addr_add, run_store P w _ v _ (h1 v (by simp)), hcell]
      simp [hfro, setCell_eq_setRow w b (off + k) c e (0, 0) v h]
    have ih := run_storeCells_at (P := P) b off e r (k + 1) (c.setIfInBounds (off + k) v) (w.setRow b (c.setIfInBounds (off + k) v)) (setRow_heap w b c _ e _ h) (by simp; omega) (fun x hx => h1 x (by simp [hx]))
    simp only [storeCells, Sem.run_bind, hst, Result.andThen_ok, ih, setRow_setRow, foldSet, List.zipIdx_cons, List.foldl_cons]

theorem foldSet_setAll (off : Nat) (vs c : Array Value) : foldSet off vs.toList 0 c = setAll c off vs := by
  unfold foldSet setAll
  rw [← Array.foldl_toList, Array.toList_zipIdx]

theorem rowOf_one {xs : List SV} {vs : Array Value} (h : RowOf G w xs vs) (hc : cellBS xs = true) : ∀ v ∈ vs.toList, v.oneCell' = true := by
  intro v hv
  obtain ⟨i, hi, rfl⟩ := List.mem_iff_getElem.1 hv
  have hi' : i < xs.length := by rw [← h.1]; simpa using hi
  have hx : xs[i]? = some xs[i] := List.getElem?_eq_getElem hi'
  have hvv : vs[i]? = some (vs.toList[i]) := by simp
  exact RSV.one (h.2 i _ _ hx hvv) ((cellBS_iff xs).1 hc _ (List.getElem_mem hi'))

/-- a row that is one's own is written -/
theorem Rel.storeRow (R : Rel X G s a w) {l : Loc} {cs : List SV} (hl : get s l = some (.row cs)) (hlt : l.isTok = false) {b : Nat} (hb : blkOf G l (.row cs) = some b) {off : Nat} {xs : List SV} {vs : Array Value}
    (hx : RowOf G w xs vs) (hc : cellBS xs = true) (hle : off + xs.length ≤ cs.length) :
    ∃ w', (storeCells ⟨b, off, none⟩ vs.toList 0).run X.P w = .ok () w' ∧ Rel X G (upd s l (.row (put cs off xs))) a w' := by
  have hB : BlkAt G w b cs := by
    have := R.holds _ _ hl
    cases l with
    | loc k => simp only [blkOf, Option.some.injEq] at hb; subst hb; exact this
    | heap k => simp only [blkOf, Option.some.injEq] at hb; subst hb; exact this
    | slot n => cases hb
    | tok t => cases hb
  obtain ⟨c, e, h1, h2, h3⟩ := hB
  have hsz : off + vs.size ≤ c.size := by rw [hx.1]; omega
  have hrun := run_storeCells_at (P := X.P) b off e vs.toList 0 c w h1 (by simpa using hsz) (rowOf_one hx hc)
  rw [foldSet_setAll] at hrun
  refine ⟨_, hrun, ?_⟩
  have hnd : ∀ o, ¬ G.D b o := fun o => R.data l _ b o hl hb hlt
  have T : Trans X G a w G a (w.setRow b (setAll c off vs)) (fun b' => b' = b) := by
    refine ⟨rfl, fun h => h.but h1 fun b' hn => setRow_other _ _ _ _ hn, rfl, rfl, rfl, by simp, fun b' hb' hn => setRow_other _ _ _ _ hn, fun b' hb' => ?_, fun b' o hd => ⟨hd, ?_⟩, fun _ _ h k => absurd h k, R.nil⟩
    · subst hb'; exact (R.own l _ b' hl hb).imp id And.left
    · exact cell_setRow_other _ _ _ _ (fun e => by subst e; exact hnd o hd)
  refine R.step T (fun l' u => l' = l ∧ u = .row (put cs off xs)) (fun l' u h => ?_) (fun l' u h => ?_) (fun l' u l'' u' b h h' _ _ => h.1.trans h'.1.symm)
  · rw [get_upd] at h
    by_cases hl' : l = l'
    · rw [if_pos hl'] at h; cases h; exact .inl ⟨hl'.symm, rfl⟩
    · rw [if_neg hl'] at h
      refine .inr ⟨h, fun _ _ => rfl, fun b' hb' he => ?_, fun _ _ => rfl, fun _ _ => rfl⟩
      subst he
      exact hl' (R.sep _ _ _ _ b' hl h hb hb')
  · obtain ⟨rfl, rfl⟩ := h
    have hsa := setAll_spec c off vs hsz
    have hnew : BlkAt G (w.setRow b (setAll c off vs)) b (put cs off xs) := by
      refine ⟨_, e, setRow_heap _ _ _ _ _ _ h1, ?_, fun i x hi => ?_⟩
      · rw [hsa.1, length_put _ _ _ hle]; exact h2
      rw [get_put _ _ _ _ hle] at hi
      split at hi
      · rename_i hin
        have hj : i - off < vs.size := by rw [hx.1]; exact (List.getElem?_eq_some_iff.1 hi).1
        refine ⟨(cellBS_iff xs).1 hc x (List.mem_of_getElem? hi), vs[i - off], ?_, (hx.2 _ _ _ hi (Array.getElem?_eq_getElem hj)).mono T.grow (fun _ _ => rfl) (fun _ _ => rfl)⟩
        rw [hsa.2, if_pos ⟨hin.1, by omega⟩]; exact Array.getElem?_eq_getElem hj
      · rename_i hin
        obtain ⟨k1, v, k2, k3⟩ := h3 i x hi
        refine ⟨k1, v, ?_, k3.mono T.grow (fun _ _ => rfl) (fun _ _ => rfl)⟩
        rw [hsa.2, if_neg (by rw [hx.1]; exact hin)]; exact k2
    refine ⟨?_, fun b' hb' => ?_⟩
    · cases l' with
      | loc k => simp only [blkOf, Option.some.injEq] at hb; subst hb; exact hnew
      | heap k => simp only [blkOf, Option.some.injEq] at hb; subst hb; exact hnew
      | slot n => cases hb
      | tok t => cases hb
    · have : b' = b := by
        cases l' <;> simp_all [blkOf]
      subst this
      exact ⟨.inr rfl, R.own l' _ b' hl hb, fun _ o => hnd o⟩

theorem run_store_var {P : Program} {t : TypeId} {agg : Bool} {n : Nat} (hl : layT P t = some (agg, n)) {v : Value} (hv : v.cells.size = n) {b off : Nat} {w' : World} (h : (storeCells ⟨b, off, none⟩ v.cells.toList 0).run P w = .ok () w') :
    (Instr.storeAt t (.pointer (some ⟨b, off, none⟩)) v).run P w = .ok () w' := by
  obtain ⟨-, h2⟩ := run_lay (w := w) hl
  simp [Instr.storeAt, Instr.sureAddr, storeVar, h2, hv, h]

/-- a store through an address of a local variable -/
theorem step_store_loc {o : Oper} {t : TypeId} {p x : Operand} (ho : o.op = .store t p x) (hd : o.dst = none) {k off : Nat} (hp : evl X (get s) p = some (.loc k off)) {cs : List SV} (hg : get s (.loc k) = some (.row cs))
    {agg : Bool} {n : Nat} (hl : layT X.P t = some (agg, n)) {y : SV} (hy : evl X (get s) x = some y) (hc : (cellsS y).length = n ∧ off + n ≤ cs.length) (hcell : cellBS (cellsS y) = true) :
    StepOK X s o (upd s (.loc k) (.row (put cs off (cellsS y)))) := by
  intro G a w R next Q hK
  have hrow : RowOf G w (cellsS y) (a.eval x).cells := cellsS_sound R.nil (evl_sound R hy)
  obtain ⟨w', h1, h2⟩ := R.storeRow hg rfl (b := G.ν k) rfl hrow hcell (by rw [hc.1]; exact hc.2)
  have hpv : a.eval p = .pointer (some ⟨G.ν k, off, none⟩) := evl_sound R hp
  refine opIn (by first | exact pval_nodefer h | (intro c e; rw [ho] at e; cases e)) ?_
  have h3 := run_store_var (w := w) hl (by rw [hrow.1, hc.1]) h1
  rw [← hpv] at h3
  simp only [execOp, ho, Sem.run_bind, h3, Result.andThen_ok, Sem.run_pure, upn_skip, hd]
  exact hK G _ w' h2

/-- a slice within an object that others hold reads as data -/
def asV : SV → Option SV
  | .v x => some (.v x)
  | .own _ els => some (.v (.sl els))
  | _ => none

def asVs : List SV → Option (List SV)
  | [] => some []
  | x :: r => match asV x, asVs r with
    | some y, some ys => some (y :: ys)
    | _, _ => none

theorem asVs_row : ∀ {xs ys : List SV}, asVs xs = some ys → xs.length = ys.length ∧ ∀ (i : Nat) (y : SV), ys[i]? = some y → ∃ x, xs[i]? = some x ∧ asV x = some y
  | [], ys, h => by cases h; simp
  | x :: r, ys, h => by
    simp only [asVs] at h
    split at h
    · rename_i y zs hy hzs
      cases h
      obtain ⟨h1, h2⟩ := asVs_row hzs
      refine ⟨by simp [h1], fun i c hc => ?_⟩
      cases i with
      | zero => simp at hc; subst hc; exact ⟨x, rfl, hy⟩
      | succ i => obtain ⟨z, hz⟩ := h2 i c (by simpa using hc); exact ⟨z, by simpa using hz.1, hz.2⟩
    · cases h

theorem RowOf.asV {xs ys : List SV} {c : Array Value} (h : RowOf G w xs c) (hy : asVs xs = some ys) : RowOf G w ys c := by
  obtain ⟨h1, h2⟩ := asVs_row hy
  refine ⟨h.1.trans h1, fun i y v hi hv => ?_⟩
  obtain ⟨x, hx, hxy⟩ := h2 i y hi
  have hr := h.2 i x v hx hv
  cases x with
  | v x => cases hxy; exact hr
  | own t els => cases hxy; exact hr.2
  | loc => cases hxy
  | dp => cases hxy
  | ag => cases hxy

theorem step_store_heap {o : Oper} {t : TypeId} {p x : Operand} (ho : o.op = .store t p x) (hd : o.dst = none) {b off : Nat} (hp : evl X (get s) p = some (.v (.prim (.pointer (some ⟨b, off, none⟩))))) {cs : List SV} (hg : get s (.heap b) = some (.row cs))
    {agg : Bool} {n : Nat} (hl : layT X.P t = some (agg, n)) {y : SV} (hy : evl X (get s) x = some y) {ys : List SV} (hys : asVs (cellsS y) = some ys) (hc : ys.length = n ∧ off + n ≤ cs.length) (hcell : cellBS ys = true) :
    StepOK X s o (upd s (.heap b) (.row (put cs off ys))) := by
  intro G a w R next Q hK
  have hrow0 : RowOf G w (cellsS y) (a.eval x).cells := cellsS_sound R.nil (evl_sound R hy)
  have hrow := hrow0.asV hys
  obtain ⟨w', h1, h2⟩ := R.storeRow hg rfl (b := b) rfl hrow hcell (by rw [hc.1]; exact hc.2)
  have hpv : a.eval p = .pointer (some ⟨b, off, none⟩) := (prim_of (evl_sound R hp)).1
  refine opIn (by first | exact pval_nodefer h | (intro c e; rw [ho] at e; cases e)) ?_
  have h3 := run_store_var (w := w) hl (by rw [hrow.1, hc.1]) h1
  rw [← hpv] at h3
  simp only [execOp, ho, Sem.run_bind, h3, Result.andThen_ok, Sem.run_pure, upn_skip, hd]
  exact hK G _ w' h2

/-- the element type of a slice: its cells, its bytes; its zero is known -/
def elemZ (P : Program) (t : TypeId) : Option (Nat × Nat) :=
  match P.underlying t with
  | some (.slice e) =>
    match P.info? e with
    | some i => match i.zero with
      | some z => if z.cells.size = i.size then some (i.size, i.bytes) else none
      | none => none
    | none => none
  | _ => none

theorem elemZ_run {P : Program} {t E B : Nat} (h : elemZ P t = some (E, B)) : ∃ e i z, P.underlying t = some (.slice e) ∧ P.info? e = some i ∧ i.zero = some z ∧ z.cells.size = E ∧ i.size = E ∧ i.bytes = B := by
  unfold elemZ at h
  split at h
  · rename_i e hu
    split at h
    · rename_i i hi
      split at h
      · rename_i z hz
        split at h
        · rename_i hs
          simp only [Option.some.injEq, Prod.mk.injEq] at h
          exact ⟨e, i, z, hu, hi, hz, by omega, h.1, h.2⟩
        · cases h
      · cases h
    · cases h
  · cases h

def litEls (X : Ctx) (g : Rd) (E : Nat) : Nat → List (Nat × Operand) → Option (List (List DV))
  | _, [] => some []
  | n, (i, x) :: r =>
    if i = n then
      match evl X g x with
      | some y => match toDs (cellsS y) with
        | some ds => if ds.length = E then if cellB ds then
            match litEls X g E (n + 1) r with
            | some rest => some (ds :: rest)
            | none => none
          else none else none
        | none => none
      | none => none
    else none

theorem litEls_sound (R : Rel X G s a w) (E : Nat) : ∀ (parts : List (Nat × Operand)) (n : Nat) (els : List (List DV)) (c : Array Value), litEls X (get s) E n parts = some els → (n + els.length) * E ≤ c.size →
    (∀ e ∈ els, e.length = E) ∧ (∀ e ∈ els, ∀ d ∈ e, DV.isCell d = true) ∧ parts.length = els.length ∧
    ∃ c', Instr.fill (fun i => some (i * E, E)) c (parts.map fun q => (q.1, a.eval q.2)) = some c' ∧ c'.size = c.size ∧ (∀ k, k < n * E → c'[k]? = c[k]?) ∧
      ∀ (i j : Nat) (e : List DV) (d : DV), els[i]? = some e → e[j]? = some d → ∃ v, c'[(n + i) * E + j]? = some v ∧ RV G.D w d v
  | [], n, els, c, h, hle => by cases h; exact ⟨by simp, by simp, rfl, c, rfl, rfl, fun _ _ => rfl, by simp⟩
  | (i, x) :: r, n, els, c, h, hle => by
    simp only [litEls] at h
    split at h
    · rename_i hin
      subst hin
      split at h
      · rename_i y hy
        split at h
        · rename_i ds hds
          split at h
          · rename_i hlen
            split at h
            · rename_i hcb
              split at h
              · rename_i rest hrest
                cases h
                have hrow : RowOf G w (cellsS y) (a.eval x).cells := cellsS_sound R.nil (evl_sound R hy)
                obtain ⟨t1, t2⟩ := toDs_get hds
                have hvs : (a.eval x).cells.size = E := by rw [hrow.1, t1, hlen]
                have hm : (i + (rest.length + 1)) * E = i * E + E + rest.length * E := by rw [Nat.add_mul, Nat.add_mul, Nat.one_mul]; omega
                simp only [List.length_cons] at hle
                rw [hm] at hle
                have hsa := setAll_spec c (i * E) (a.eval x).cells (by rw [hvs]; omega)
                obtain ⟨q1, q2, q3, c', f1, f2, f3, f4⟩ := litEls_sound R E r (i + 1) rest (setAll c (i * E) (a.eval x).cells) hrest (by rw [hsa.1, Nat.add_mul, Nat.add_mul, Nat.one_mul]; omega)
                refine ⟨fun e he => ?_, fun e he => ?_, by simp [q3], c', ?_, by rw [f2, hsa.1], fun k hk => ?_, fun j l e d he hd => ?_⟩
                · rcases List.mem_cons.1 he with rfl | he
                  · exact hlen
                  · exact q1 e he
                · rcases List.mem_cons.1 he with rfl | he
                  · exact (cellB_iff _).1 hcb
                  · exact q2 e he
                · simp only [List.map_cons, Instr.fill]
                  rw [if_neg]
                  · exact f1
                  · simp only [Bool.or_eq_true, decide_eq_true_eq, not_or]; omega
                · rw [f3 k (by rw [Nat.add_mul]; omega), hsa.2, if_neg (by omega)]
                · cases j with
                  | zero =>
                    simp at he
                    subst he
                    have hl : l < E := by rw [← hlen]; exact (List.getElem?_eq_some_iff.1 hd).1
                    obtain ⟨z, hz, hzd⟩ := t2 l d hd
                    have hlv : l < (a.eval x).cells.size := by omega
                    refine ⟨(a.eval x).cells[l], ?_, toD_sound hzd (hrow.2 l z _ hz (Array.getElem?_eq_getElem hlv))⟩
                    rw [Nat.add_zero, f3 _ (by rw [Nat.add_mul, Nat.one_mul]; omega), hsa.2, if_pos (by omega), Nat.add_sub_cancel_left, Array.getElem?_eq_getElem hlv]
                  | succ j =>
                    obtain ⟨v, hv, hr⟩ := f4 j l e d (by simpa using he) hd
                    exact ⟨v, by rw [show i + (j + 1) = i + 1 + j from by omega]; exact hv, hr⟩
              · cases h
            · cases h
          · cases h
        · cases h
      · cases h
    · cases h

/-- new data: a block whose first cells are data from now on -/
def withData (D : Nat → Nat → Prop) (b lo hi : Nat) : Nat → Nat → Prop := fun b' o => D b' o ∨ (b' = b ∧ lo ≤ o ∧ o < hi)

theorem buildSlice_run (R : Rel X G s a w) {t E B len : Nat} (he : elemZ X.P t = some (E, B)) {parts : Array (Nat × Operand)} {els : List (List DV)} (h : litEls X (get s) E 0 parts.toList = some els) (hlen : els.length = len) (hb : len * E ≤ 16777216) (hb2 : len ≤ BIG) :
    ∃ c e, (Instr.buildSlice t len (parts.map fun (i, x) => (i, a.eval x))).run X.P w = .ok (.slice (some ⟨w.heap.size, 0, none⟩) len len) (w.alloc (.cells c e)) ∧ c.size = len * E ∧
      RV (withData G.D w.heap.size 0 (len * E)) (w.alloc (.cells c e)) (.sl els) (.slice (some ⟨w.heap.size, 0, none⟩) els.length len) := by
  obtain ⟨e, i, z, hu, hi, hz, hzs, his, hib⟩ := elemZ_run he
  subst hlen
  have hsz0 : ((Array.range (els.length * E)).map fun k => (if els.length * E = 0 then #[] else z.cells)[k % (if els.length * E = 0 then #[] else z.cells).size]!).size = els.length * E := by simp
  obtain ⟨q1, q2, q3, c', f1, f2, f3, f4⟩ := litEls_sound R E parts.toList 0 els ((Array.range (els.length * E)).map fun k => (if els.length * E = 0 then #[] else z.cells)[k % (if els.length * E = 0 then #[] else z.cells).size]!) h (by rw [hsz0, Nat.zero_add]; exact Nat.le_refl _)
  rw [hsz0] at f2
  refine ⟨c', e, ?_, f2, ?_⟩
  · have hne : ¬ (els.length * E > 2 ^ 24) := by omega
    have hf : Instr.fill (fun k => some (k * E, E)) ((Array.range (els.length * E)).map fun k => (if els.length * E = 0 then #[] else z.cells)[k % (if els.length * E = 0 then #[] else z.cells).size]!) ((parts.map fun (q : Nat × Operand) => (q.1, a.eval q.2)).toList) = some c' := by
      rw [Array.toList_map]; exact f1
    unfold Instr.buildSlice
    simp only [run_underlying hu, sizeOf, typeInfo, hi, his, Sem.run_bind, Sem.run_pure, run_program, Result.andThen_ok, hne, if_false]
    by_cases h0 : els.length * E = 0
    · simp only [if_pos h0] at hf ⊢
      simp only [Sem.run_bind, Sem.run_pure, Result.andThen_ok, hf, newRow, run_newObj]
      rfl
    · simp only [if_neg h0] at hf ⊢
      simp only [zeroValue, typeInfo, run_program, hi, hz, Sem.run_bind, Sem.run_pure, Result.andThen_ok, hf, newRow, run_newObj]
      rfl
  · refine .sl els w.heap.size 0 els.length E (fun i j => (c'[i * E + j]?).getD undef) hb2 (Nat.le_refl _) q1 q2 (fun i j hi' hj => ?_) (fun i j hi' hj => .inr ⟨rfl, Nat.zero_le _, ?_⟩) (fun i j e' d he' hd => ?_)
    · have hlt : i * E + j < c'.size := by
        rw [f2]
        calc i * E + j < i * E + E := by omega
          _ = (i + 1) * E := by rw [Nat.add_mul, Nat.one_mul]
          _ ≤ els.length * E := Nat.mul_le_mul_right _ hi'
      simp [World.cell?_alloc_new, hlt]
    · calc 0 + (i * E + j) < i * E + E := by omega
          _ = (i + 1) * E := by rw [Nat.add_mul, Nat.one_mul]
          _ ≤ els.length * E := Nat.mul_le_mul_right _ hi'
    · obtain ⟨v, hv, hr⟩ := f4 i j e' d he' hd
      rw [Nat.zero_add] at hv
      simp only [hv, Option.getD_some]
      exact hr.mono (fun b o hd => ⟨.inl hd, World.cell?_alloc_lt _ _ _ (R.wf.lt hd)⟩)

theorem trans_data (R : Rel X G s a w) {c : Array Value} {e : TypeId} {hi : Nat} (hh : hi ≤ c.size) {G' : Gh} (hD : G'.D = withData G.D w.heap.size 0 hi) (hn : G'.τ 0 = (none, 0)) : Trans X G a w G' a (w.alloc (.cells c e)) (fun _ => False) := by
  refine ⟨rfl, fun h => h.heap fun b hb => alloc_old w _ b hb, rfl, rfl, rfl, by simp, fun b hb _ => alloc_old w _ b hb, fun _ h => h.elim, fun b o hd => ⟨by rw [hD]; exact .inl hd, World.cell?_alloc_lt _ _ _ (R.wf.lt hd)⟩, fun b o h k => ?_, hn⟩
  rw [hD] at h
  rcases h with h | ⟨rfl, h1, h2⟩
  · exact absurd h k
  · refine ⟨.inl (Nat.le_refl _), c[o]'(by omega), ?_⟩
    rw [World.cell?_alloc_new]
    exact Array.getElem?_eq_getElem (by omega)

theorem step_buildSlice {o : Oper} {t len E B : Nat} {parts : Array (Nat × Operand)} (ho : o.op = .buildSlice t len parts) {d : Nat} (hd : o.dst = some d) (hn : d < X.n) (he : elemZ X.P t = some (E, B)) {els : List (List DV)}
    (h : litEls X (get s) E 0 parts.toList = some els) (hc : els.length = len ∧ len * E ≤ 16777216 ∧ len ≤ BIG) : StepOK X s o (upd s (.slot d) (.one (.v (.sl els)))) := by
  intro G a w R next Q hK
  obtain ⟨c, e, h1, h2, h3⟩ := buildSlice_run R he h hc.1 hc.2.1 hc.2.2
  refine opIn (by first | exact pval_nodefer h | (intro c e; rw [ho] at e; cases e)) ?_
  simp only [execOp, ho, Sem.run_bind, h1, Result.andThen_ok, Sem.run_pure, upn_value, hd]
  have T : Trans X G a w { G with D := withData G.D w.heap.size 0 (len * E) } a (w.alloc (.cells c e)) (fun _ => False) := trans_data R (hi := len * E) (by omega) rfl R.nil
  refine hK { G with D := withData G.D w.heap.size 0 (len * E) } _ _ (R.setSlot T rfl rfl (fun _ h => h) hn ?_)
  show RV (withData G.D w.heap.size 0 (len * E)) _ _ _
  rw [← hc.1] at h3 ⊢
  exact h3

end
end Go.Proofs.YtbmnlkfgkdallaaGreatDoor.Lift

/-
  Part H of the small logic: append to a slice of one's own.
-/
namespace Go.Proofs.YtbmnlkfgkdallaaGreatDoor.Lift
set_option linter.unusedSimpArgs false
set_option linter.unusedVariables false
set_option linter.unnecessarySimpa false
open Go
section
variable {X : Ctx} {G : Gh} {s : St} {a : Act} {w : World}

/-- elements laid one behind the other -/
def Laid (D : Nat → Nat → Prop) (w : World) (E : Nat) (els : List (List DV)) (f : Nat → Value) : Prop :=
  ∀ (i j : Nat) (e : List DV) (d : DV), els[i]? = some e → e[j]? = some d → RV D w d (f (i * E + j))

theorem Laid.mono {D D' : Nat → Nat → Prop} {w w' : World} {E : Nat} {els : List (List DV)} {f : Nat → Value} (g : Grow D w D' w') (h : Laid D w E els f) : Laid D' w' E els f :=
  fun i j e d he hd => (h i j e d he hd).mono g

theorem lt_mul {n E i j : Nat} (hi : i < n) (hj : j < E) : i * E + j < n * E := by
  calc i * E + j < i * E + E := by omega
    _ = (i + 1) * E := by rw [Nat.add_mul, Nat.one_mul]
    _ ≤ n * E := Nat.mul_le_mul_right _ hi

theorem sl_laid {D : Nat → Nat → Prop} {w : World} {els : List (List DV)} {v : Value} {E : Nat} (h : RV D w (.sl els) v) (hE : ∀ e ∈ els, e.length = E) :
    (∀ e ∈ els, ∀ c ∈ e, DV.isCell c = true) ∧ ∃ f, Laid D w E els f ∧ (∀ k, k < els.length * E → (f k).oneCell' = true) ∧
      (els = [] ∧ (∃ b cap, v = .slice b 0 cap) ∨ ∃ b o cap, v = .slice (some ⟨b, o, none⟩) els.length cap ∧ ∀ k, k < els.length * E → w.cell? ⟨b, o + k, none⟩ = some (f k) ∧ D b (o + k)) := by
  cases h with
  | sl0 b cap => exact ⟨by simp, fun _ => undef, by intro _ _ e d he; simp at he, by simp, .inl ⟨rfl, b, cap, rfl⟩⟩
  | sl _ b o cap E' val hlen hcap hE' hcell hc hD hh =>
    refine ⟨hcell, fun k => val (k / E) (k % E), fun i j e d he hd => ?_, fun k hk => ?_, ?_⟩
    · have hj : j < E := by rw [← hE e (List.mem_of_getElem? he)]; exact (List.getElem?_eq_some_iff.1 hd).1
      have h1 : (i * E + j) / E = i := by rw [Nat.mul_comm, Nat.mul_add_div (by omega)]; simp [Nat.div_eq_of_lt hj]
      have h2 : (i * E + j) % E = j := by rw [Nat.mul_comm, Nat.mul_add_mod]; exact Nat.mod_eq_of_lt hj
      simp only [h1, h2]
      exact hh i j e d he hd
    · have hE0 : 0 < E := by rcases Nat.eq_zero_or_pos E with h0 | h0 <;> simp_all
      have hi : k / E < els.length := (Nat.div_lt_iff_lt_mul hE0).2 hk
      have he : els[k / E]? = some els[k / E] := List.getElem?_eq_getElem hi
      have hel := hE _ (List.getElem_mem hi)
      have hj : k % E < els[k / E].length := by rw [hel]; exact Nat.mod_lt _ hE0
      have hd : els[k / E][k % E]? = some els[k / E][k % E] := List.getElem?_eq_getElem hj
      exact RV.one (hh _ _ _ _ he hd) (hcell _ (List.getElem_mem hi) _ (List.getElem_mem hj))
    · cases hels : els with
      | nil => exact .inl ⟨rfl, _, cap, by simp; rfl⟩
      | cons e0 r =>
        rw [← hels]
        have hEE : E' = E := by rw [← hE' e0 (by simp [hels]), hE e0 (by simp [hels])]
        subst hEE
        refine .inr ⟨b, o, cap, rfl, fun k hk => ?_⟩
        have hE0 : 0 < E' := by rcases Nat.eq_zero_or_pos E' with h0 | h0 <;> simp_all
        have hi : k / E' < els.length := (Nat.div_lt_iff_lt_mul hE0).2 hk
        have hj : k % E' < E' := Nat.mod_lt _ hE0
        have e1 : k / E' * E' + k % E' = k := by rw [Nat.mul_comm]; exact Nat.div_add_mod k E'
        have := hc _ _ hi hj
        have hd := hD _ _ hi hj
        rw [e1] at this hd
        exact ⟨this, hd⟩

/-- the cells of a slice as an array -/
def arr (f : Nat → Value) (n : Nat) : Array Value := ((List.range n).map f).toArray

theorem arr_size (f : Nat → Value) (n : Nat) : (arr f n).size = n := by simp [arr]
theorem arr_get (f : Nat → Value) (n k : Nat) (h : k < n) : (arr f n)[k]? = some (f k) := by simp [arr, h]

theorem run_loadCells_f {P : Program} {w : World} (b o n : Nat) (f : Nat → Value) (h : ∀ k, k < n → w.cell? ⟨b, o + k, none⟩ = some (f k)) : (loadCells ⟨b, o, none⟩ n).run P w = .ok (arr f n) w := by
  have := run_loadCells_list (P := P) w ⟨b, o, none⟩ ((List.range n).map f) (fun j v hj => by
    have hj' : j < n := by have := (List.getElem?_eq_some_iff.1 hj).1; simpa using this
    rw [addr_add]
    simp [hj'] at hj
    rw [← hj]; exact h j hj')
  simpa [arr] using this

theorem run_firstCells {P : Program} {D : Nat → Nat → Prop} {w : World} {els : List (List DV)} {v : Value} {E : Nat} {f : Nat → Value}
    (h : els = [] ∧ (∃ b cap, v = .slice b 0 cap) ∨ ∃ b o cap, v = .slice (some ⟨b, o, none⟩) els.length cap ∧ ∀ k, k < els.length * E → w.cell? ⟨b, o + k, none⟩ = some (f k) ∧ D b (o + k)) :
    (Builtin.firstCells E els.length v).run P w = .ok (arr f (els.length * E)) w := by
  rcases h with ⟨rfl, b, cap, rfl⟩ | ⟨b, o, cap, rfl, hc⟩
  · cases b with
    | none => simp [Builtin.firstCells, arr]
    | some p => simp [Builtin.firstCells, arr, loadCells, loadCellsFrom]
  · simp only [Builtin.firstCells]
    exact run_loadCells_f b o _ f (fun k hk => (hc k hk).1)

theorem Laid.join {D : Nat → Nat → Prop} {w : World} {E : Nat} {els ys : List (List DV)} {f g h : Nat → Value} (hf : Laid D w E els f) (hg : Laid D w E ys g) (hE : ∀ e ∈ els, e.length = E) (hE' : ∀ e ∈ ys, e.length = E)
    (h1 : ∀ k, k < els.length * E → h k = f k) (h2 : ∀ k, k < ys.length * E → h (els.length * E + k) = g k) : Laid D w E (els ++ ys) h := by
  intro i j e d he hd
  by_cases hi : i < els.length
  · rw [List.getElem?_append_left hi] at he
    have hj : j < E := by rw [← hE e (List.mem_of_getElem? he)]; exact (List.getElem?_eq_some_iff.1 hd).1
    rw [h1 _ (lt_mul hi hj)]
    exact hf i j e d he hd
  · rw [List.getElem?_append_right (by omega)] at he
    have hj : j < E := by rw [← hE' e (List.mem_of_getElem? he)]; exact (List.getElem?_eq_some_iff.1 hd).1
    have hi' : i - els.length < ys.length := (List.getElem?_eq_some_iff.1 he).1
    have e1 : i * E + j = els.length * E + ((i - els.length) * E + j) := by
      have : i = els.length + (i - els.length) := by omega
      conv => lhs; rw [this, Nat.add_mul]
      omega
    rw [e1, h2 _ (lt_mul hi' hj)]
    exact hg _ j e d he hd

theorem sl_of_laid {D : Nat → Nat → Prop} {w : World} {E b o cap : Nat} {els : List (List DV)} {f : Nat → Value} (hb : els.length ≤ BIG) (hcap : els.length ≤ cap) (hE : ∀ e ∈ els, e.length = E) (hcell : ∀ e ∈ els, ∀ c ∈ e, DV.isCell c = true)
    (hc : ∀ k, k < els.length * E → w.cell? ⟨b, o + k, none⟩ = some (f k) ∧ D b (o + k)) (h : Laid D w E els f) : RV D w (.sl els) (.slice (some ⟨b, o, none⟩) els.length cap) :=
  .sl els b o cap E (fun i j => f (i * E + j)) hb hcap hE hcell (fun i j hi hj => (hc _ (lt_mul hi hj)).1) (fun i j hi hj => (hc _ (lt_mul hi hj)).2) h

/-- one's own slice has a new head and a new room -/
theorem Rel.ownNew (R : Rel X G s a w) {t d E n : Nat} (hd : d < X.n) (hf : freshT d s = true) {G' : Gh} {w' : World} {B : Nat → Prop} (T : Trans X G a w G' a w' B) (hν : G'.ν = G.ν) (hτ : ∀ k, k ≠ d → G'.τ k = G.τ k)
    (hB : ∀ b, B b → ∃ E len, get s (.tok t) = some (.tk E len) ∧ tokBlk G t len = some b) {els : List (List DV)} {v : Value} (hv : RSV G' w' (.own d els) v) (htok : TokAt G' w' d E n)
    (hblk : ∀ b, tokBlk G' d n = some b → w.heap.size ≤ b ∨ B b) : Rel X G' (upd (upd (del s (.tok t)) (.slot d) (.one (.own d els))) (.tok d) (.tk E n)) (a.put (some d) v) w' := by
  have hp := put_tmps a (some d) v
  have T' : Trans X G a w G' (a.put (some d) v) w' B := ⟨hp.1, fun h => (T.defers h).put hp.2, T.os, T.tape, T.output, T.size, T.keep, T.own, T.grow, T.new, T.nil⟩
  refine R.step T' (fun l u => (l = .slot d ∧ u = .one (.own d els)) ∨ (l = .tok d ∧ u = .tk E n)) (fun l u h => ?_) (fun l u h => ?_) (fun l u l' u' b h h' hb hb' => ?_)
  · rw [get_upd, get_upd, get_del] at h
    by_cases h1 : Loc.tok d = l
    · rw [if_pos h1] at h; cases h; exact .inl (.inr ⟨h1.symm, rfl⟩)
    · rw [if_neg h1] at h
      by_cases h2 : Loc.slot d = l
      · rw [if_pos h2] at h; cases h; exact .inl (.inl ⟨h2.symm, rfl⟩)
      · rw [if_neg h2] at h
        by_cases h3 : Loc.tok t = l
        · rw [if_pos h3] at h; cases h
        · rw [if_neg h3] at h
          refine .inr ⟨h, fun n hn => put_get_ne _ _ _ _ (fun e => h2 (by rw [hn, e])), fun b hb hBb => ?_, fun k _ => by rw [hν], fun k hk => hτ k (freshT_get hf h k hk)⟩
          obtain ⟨E', len, hg, hb'⟩ := hB b hBb
          exact h3 (R.sep _ _ _ _ b hg h hb' hb)
  · rcases h with ⟨rfl, rfl⟩ | ⟨rfl, rfl⟩
    · refine ⟨?_, fun b hb => by cases hb⟩
      show RSV G' w' (.own d els) _
      rw [put_get_same _ _ _ (by rw [R.size]; exact hd)]
      exact hv
    · refine ⟨htok, fun b hb => ?_⟩
      have h1 := hblk b hb
      refine ⟨h1, .inl ?_, fun h => by cases h⟩
      rcases h1 with h1 | h1
      · exact Nat.le_trans R.ext.size h1
      · obtain ⟨E', len, hg, hb'⟩ := hB b h1
        rcases R.own _ _ b hg hb' with h2 | ⟨_, h2⟩
        · exact h2
        · cases h2
  · rcases h with ⟨rfl, rfl⟩ | ⟨rfl, rfl⟩
    · cases hb
    · rcases h' with ⟨rfl, rfl⟩ | ⟨rfl, rfl⟩
      · cases hb'
      · rfl

theorem growBy_le (n : Nat) : ∀ (r c : Nat), c < n → Builtin.growBy n r c ≤ 2 * n + 200
  | 0, c, h => by simp [Builtin.growBy]; omega
  | r + 1, c, h => by
    simp only [Builtin.growBy]
    rw [if_neg (by omega)]
    by_cases h2 : c + (c + 768) / 4 < n
    · exact growBy_le n r _ h2
    · cases r with
      | zero => simp [Builtin.growBy]; omega
      | succ r => simp only [Builtin.growBy]; rw [if_pos (by omega)]; omega

theorem nextslicecap_le {need cap : Nat} (h : cap < need) : Builtin.nextslicecap need cap ≤ 2 * need + 600 := by
  unfold Builtin.nextslicecap
  split
  · omega
  · split
    · omega
    · have := growBy_le need 4 cap h; omega

/-- the heads that append gives -/
def setτ (G : Gh) (D : Nat → Nat → Prop) (d : Nat) (h : Option Addr × Nat) : Gh := { D := D, ν := G.ν, τ := fun k => if k = d then h else G.τ k }

theorem run_append_fits {P : Program} {w : World} {t ty t2 E B : Nat} (he : elemZ P t = some (E, B)) (h2 : (elemT P t2).isSome = true) {base : Option Addr} {len cap : Nat} {x : Value} {n : Nat} {new : Array Value}
    (hx : (Builtin.lenOf x).run P w = .ok n w) (hn : (Builtin.firstCells E n x).run P w = .ok new w) (hle : len + n ≤ cap) {w' : World} (hst : match base with | some a => (storeCells (a.add (len * E)) new.toList 0).run P w = .ok () w' | none => w' = w) :
    (Builtin.append_ #[t, t2] ty #[.slice base len cap, x]).run P w = .ok (.slice base (len + n) cap) w' := by
  obtain ⟨e, i, z, hu, hi, hz, hzs, his, hib⟩ := elemZ_run he
  obtain ⟨E2, hE2⟩ := Option.isSome_iff_exists.1 h2
  obtain ⟨e2, i2, hu2, -, -⟩ := elem_run hE2
  unfold Builtin.append_
  cases base with
  | none =>
    subst hst
    simp [run_underlying hu, run_underlying hu2, sizeOf, typeInfo, hi, his, hx, hn, hle]
  | some p =>
    simp only at hst
    simp [run_underlying hu, run_underlying hu2, sizeOf, typeInfo, hi, his, hx, hn, hle, hst]

theorem run_append_new {P : Program} {w : World} {t ty t2 E B : Nat} (he : elemZ P t = some (E, B)) (hB : 0 < B ∧ B ≤ 1024) (h2 : (elemT P t2).isSome = true) {base : Option Addr} {len cap : Nat} {x : Value} {n : Nat} {old new : Array Value}
    (hx : ∀ w', w'.heap = w.heap → (Builtin.lenOf x).run P w' = .ok n w') (hn : ∀ w', w'.heap = w.heap → (Builtin.firstCells E n x).run P w' = .ok new w') (ho : ∀ w', w'.heap = w.heap → (Builtin.firstCells E len (.slice base len cap)).run P w' = .ok old w')
    (hle : ¬ len + n ≤ cap) (hbig : len + n ≤ BIG) (h1 : old.size = len * E) (h3 : new.size = n * E) :
    ∃ c e nc, (Builtin.append_ #[t, t2] ty #[.slice base len cap, x]).run P w = .ok (.slice (some ⟨w.heap.size, 0, none⟩) (len + n) nc) (w.drew.alloc (.cells c e)) ∧ len + n ≤ nc ∧ c.size = nc * E ∧ (∀ k, k < len * E → c[k]? = old[k]?) ∧ (∀ k, k < n * E → c[len * E + k]? = new[k]?) := by
  obtain ⟨e, i, z, hu, hi, hz, hzs, his, hib⟩ := elemZ_run he
  obtain ⟨E2, hE2⟩ := Option.isSome_iff_exists.1 h2
  obtain ⟨e2, i2, hu2, -, -⟩ := elem_run hE2
  unfold BIG at hbig
  have hcap : ¬ (Builtin.nextslicecap (len + n) cap * B > 2 ^ 48) := by
    have := nextslicecap_le (need := len + n) (cap := cap) (by omega)
    have : Builtin.nextslicecap (len + n) cap * B ≤ (2 * (len + n) + 600) * 1024 := Nat.mul_le_mul this hB.2
    omega
  have hmax : ¬ ((((len + n : Nat) : Int) > IntKind.i64.max) ∧ (False ∨ i.bytes = 0)) := by
    rintro ⟨_, h | h⟩
    · exact h
    · omega
  let q : Question := .appendCap (len + n) cap e
  let nc := q.cut (w.tape w.drawn q)
  have hnc : len + n ≤ nc := by show len + n ≤ _; simp [nc, q, Question.cut]
  refine ⟨old ++ new ++ Builtin.zeroCells z.cells (nc - (len + n)), e, nc, ?_, hnc, ?_, fun k hk => ?_, fun k hk => ?_⟩
  · unfold Builtin.append_
    have hc' : ¬ (2 ^ 48 < Builtin.nextslicecap (len + n) cap * B) := hcap
    simp [run_underlying hu, run_underlying hu2, sizeOf, typeInfo, hi, his, hx w rfl, hle, hib, hc', Question.forced, ho (w.drew) rfl, hn (w.drew) rfl, zeroValue, hz, newRow, nc, q]
    intro h
    omega
  · simp [h1, h3, Builtin.zeroCells, hzs]
    rw [← Nat.add_mul, ← Nat.add_mul]
    congr 1; omega
  · rw [Array.getElem?_append_left (by simp [h1, h3]; omega), Array.getElem?_append_left (by omega)]
  · rw [Array.getElem?_append_left (by simp [h1, h3]; omega), Array.getElem?_append_right (by omega), h1]
    congr 1; omega

end
end Go.Proofs.YtbmnlkfgkdallaaGreatDoor.Lift

/-
  Part I of the small logic: the step of an append; a slice cut with its capacity.
-/
namespace Go.Proofs.YtbmnlkfgkdallaaGreatDoor.Lift
set_option linter.unusedSimpArgs false
set_option linter.unusedVariables false
set_option linter.unnecessarySimpa false
open Go
section
variable {X : Ctx} {G : Gh} {s : St} {a : Act} {w : World}

theorem lenOf_sl {P : Program} {w : World} {els : List (List DV)} {v : Value} (hr : RV G.D w (.sl els) v) (w' : World) : (Builtin.lenOf v).run P w' = .ok els.length w' := by
  cases hr <;> simp [Builtin.lenOf]

theorem cell_of_heap {w w' : World} (h : w'.heap = w.heap) (ad : Addr) : w'.cell? ad = w.cell? ad := by simp [World.cell?, h]

theorem evl_own (R : Rel X G s a w) {x : Operand} {t : Nat} {els : List (List DV)} (h : evl X (get s) x = some (.own t els)) : a.eval x = .slice (G.τ t).1 els.length (G.τ t).2 ∧ RV G.D w (.sl els) (a.eval x) := evl_sound R h

/-- the room behind one's own slice, as the state tells of it -/
def hasRoom (g : Rd) (t E len : Nat) : Prop := t = 0 ∨ g (.tok t) = some (.tk E len)

set_option maxHeartbeats 1000000 in
theorem step_append {o : Oper} {x y : Operand} {T T2 : TypeId} (ho : o.op = .call { callee := .builtin .append, args := #[x, y], argTypes := #[T, T2] }) {d : Nat} (hd : o.dst = some d) (hn : d < X.n) (hd0 : d ≠ 0) (hf : freshT d s = true)
    {E B : Nat} (he : elemZ X.P T = some (E, B)) (hB : 0 < B ∧ B ≤ 1024) (h2 : (elemT X.P T2).isSome = true) {t : Nat} {els ys : List (List DV)} (hx : evl X (get s) x = some (.own t els)) (hy : (evl X (get s) y).bind slOf = some ys)
    (htok : hasRoom (get s) t E els.length) (hbig : els.length + ys.length ≤ BIG) (hE1 : ∀ e ∈ els, e.length = E) (hE2 : ∀ e ∈ ys, e.length = E) :
    StepOK X s o (upd (upd (del s (.tok t)) (.slot d) (.one (.own d (els ++ ys)))) (.tok d) (.tk E (els.length + ys.length))) := by
  intro G a w R next Q hK
  obtain ⟨hv, hr⟩ := evl_own R hx
  obtain ⟨q, hq, hq'⟩ := Option.bind_eq_some_iff.1 hy
  obtain ⟨yb, ycap, hyv, hyr, -⟩ := slOf_sound hq' (evl_sound R hq)
  obtain ⟨c1, f, f1, f2, f3⟩ := sl_laid hr hE1
  obtain ⟨c2, g, g1, g2, g3⟩ := sl_laid hyr hE2
  have hEall : ∀ e ∈ els ++ ys, e.length = E := fun e h => (List.mem_append.1 h).elim (hE1 e) (hE2 e)
  have hCall : ∀ e ∈ els ++ ys, ∀ c ∈ e, DV.isCell c = true := fun e h => (List.mem_append.1 h).elim (c1 e) (c2 e)
  have hlen : (els ++ ys).length = els.length + ys.length := List.length_append
  have hexec : ∀ (v : Value) (w' : World), (Builtin.append_ #[T, T2] o.type #[a.eval x, a.eval y]).run X.P w = .ok v w' → (execOp a.eval o).run X.P w = .ok (.value v) w' := by
    intro v w' h
    simp [execOp, ho, resolve, invoke, builtin, h]
  have hfin : ∀ (v : Value) (w' : World) (G' : Gh), (Builtin.append_ #[T, T2] o.type #[a.eval x, a.eval y]).run X.P w = .ok v w' →
      Rel X G' (upd (upd (del s (.tok t)) (.slot d) (.one (.own d (els ++ ys)))) (.tok d) (.tk E (els.length + ys.length))) (a.put (some d) v) w' → o.wpIn X.F 0 X.P a w next Q := by
    intro v w' G' h hR
    refine opIn (by first | exact pval_nodefer h | (intro c e; rw [ho] at e; cases e)) ?_
    rw [hexec v w' h, upn_value, hd]
    exact hK G' _ w' hR
  have hTok : TokAt G w t E els.length := by
    rcases htok with rfl | h
    · have h0 := R.nil
      rw [h0] at hv
      simp only [TokAt, h0, and_true]
      rw [hv] at hr
      cases hr; rfl
    · exact R.holds _ _ h
  have hτ0 : ∀ D h, (setτ G D d h).τ 0 = (none, 0) := fun D h => by
    simp only [setτ, if_neg (Ne.symm hd0)]; exact R.nil
  have hBt : ∀ b, (∃ n, t ≠ 0 ∧ n = els.length ∧ tokBlk G t n = some b) → ∃ E len, get s (.tok t) = some (.tk E len) ∧ tokBlk G t len = some b := by
    rintro b ⟨n, ht, rfl, hb⟩
    exact ⟨E, _, htok.resolve_left ht, hb⟩
  by_cases hle : els.length + ys.length ≤ (G.τ t).2
  · -- there is room
    cases hh : G.τ t with
    | mk base cap =>
      rw [hh] at hv hle
      simp only at hv hle
      cases base with
      | none =>
        have hcap : els.length = 0 ∧ cap = 0 := by simpa [TokAt, hh] using hTok
        have hys : ys = [] := List.eq_nil_of_length_eq_zero (by omega)
        have hels : els = [] := List.eq_nil_of_length_eq_zero hcap.1
        subst hys hels
        obtain ⟨-, rfl⟩ := hcap
        have hrun := run_append_fits (ty := o.type) (w := w) he h2 (base := none) (len := 0) (cap := 0) (lenOf_sl (P := X.P) hyr w) (run_firstCells (P := X.P) g3) hle (w' := w) rfl
        refine hfin _ _ (setτ G G.D d (none, 0)) (by rw [hv]; exact hrun) ?_
        have T0 := Trans.refl X G a w R.nil
        have T1 : Trans X G a w (setτ G G.D d (none, 0)) a w (fun _ => False) := ⟨T0.tmps, T0.defers, T0.os, T0.tape, T0.output, T0.size, T0.keep, T0.own, T0.grow, T0.new, hτ0 _ _⟩
        refine R.ownNew hn hf T1 rfl (fun k hk => by simp [setτ, hk]) (fun b h => h.elim) ?_ ?_ (fun b hb => ?_)
        · simp only [RSV, setτ, if_true]
          exact ⟨rfl, .sl0 _ _⟩
        · simp [TokAt, setτ]
        · simp [tokBlk, setτ] at hb
      | some p =>
        have htk : els.length ≤ cap ∧ (els.length < cap → p.spot = none ∧ ∃ c e, w.heap[p.block]? = some (.cells c e (0, 0)) ∧ p.off + cap * E ≤ c.size ∧ ∀ j, p.off + els.length * E ≤ j → j < p.off + cap * E → ¬ G.D p.block j) := by
          simpa [TokAt, hh] using hTok
        obtain ⟨hlc, hroom⟩ := htk
        obtain ⟨pb, po, ps⟩ := p
        simp only at hroom
        have ht0 : t ≠ 0 := fun e => by subst e; rw [R.nil] at hh; cases hh
        rcases Nat.lt_or_ge els.length cap with hlt | hge
        · obtain ⟨rfl, c, e, k1, k2, k3⟩ := hroom hlt
          have hnew1 : (arr g (ys.length * E)).size = ys.length * E := arr_size _ _
          have hmul : els.length * E + ys.length * E ≤ cap * E := by rw [← Nat.add_mul]; exact Nat.mul_le_mul_right _ hle
          have hst := run_storeCells_at (P := X.P) pb (po + els.length * E) e (arr g (ys.length * E)).toList 0 c w k1 (by simp [hnew1]; omega) (fun v hv' => by
            simp only [arr, List.mem_map, List.mem_range] at hv'
            obtain ⟨k, hk, rfl⟩ := hv'
            exact g2 k hk)
          rw [foldSet_setAll] at hst
          have hrun := run_append_fits (ty := o.type) (w := w) he h2 (base := some ⟨pb, po, none⟩) (len := els.length) (cap := cap) (lenOf_sl (P := X.P) hyr w) (run_firstCells (P := X.P) g3) hle (w' := w.setRow pb (setAll c (po + els.length * E) (arr g (ys.length * E)))) (by simp only [addr_add]; exact hst)
          have hsa := setAll_spec c (po + els.length * E) (arr g (ys.length * E)) (by rw [hnew1]; omega)
          rw [hnew1] at hsa
          have hblk : tokBlk G t els.length = some pb := by simp [tokBlk, hh, hlt]
          have hbase : X.w0.heap.size ≤ pb := by
            rcases R.own _ _ pb (htok.resolve_left ht0) hblk with h | ⟨_, h⟩
            · exact h
            · cases h
          have hcellw : ∀ k, (w.setRow pb (setAll c (po + els.length * E) (arr g (ys.length * E)))).cell? ⟨pb, k, none⟩ = (setAll c (po + els.length * E) (arr g (ys.length * E)))[k]? := fun k => cell_setRow_same _ _ _ _ _ _ _ k1
          have hcell0 : ∀ k, w.cell? ⟨pb, k, none⟩ = c[k]? := fun k => by simp [World.cell?, k1]
          refine hfin _ _ (setτ G (withData G.D pb (po + els.length * E) (po + (els.length + ys.length) * E)) d (some ⟨pb, po, none⟩, cap)) (by rw [hv]; exact hrun) ?_
          have T : Trans X G a w (setτ G (withData G.D pb (po + els.length * E) (po + (els.length + ys.length) * E)) d (some ⟨pb, po, none⟩, cap)) a (w.setRow pb (setAll c (po + els.length * E) (arr g (ys.length * E)))) (fun b => b = pb) := by
            refine ⟨rfl, fun h => h.but k1 fun b hnb => setRow_other _ _ _ _ hnb, rfl, rfl, rfl, by simp, fun b hb hnb => setRow_other _ _ _ _ hnb, fun b hb => by subst hb; exact .inl hbase, fun b k hD => ⟨.inl hD, ?_⟩, fun b k hD hnD => ?_, hτ0 _ _⟩
            · by_cases hb : b = pb
              · subst hb
                rw [hcellw, hcell0, hsa.2]
                have : ¬ (po + els.length * E ≤ k ∧ k < po + els.length * E + ys.length * E) := fun ⟨q1, q2⟩ => k3 k q1 (by omega) hD
                rw [if_neg this]
              · exact cell_setRow_other _ _ _ _ hb
            · rcases hD with hD | ⟨rfl, q1, q2⟩
              · exact absurd hD hnD
              · refine ⟨.inr ⟨rfl, hbase⟩, _, (hcellw k).trans (Array.getElem?_eq_getElem ?_)⟩
                rw [hsa.1]
                rw [Nat.add_mul] at q2
                omega
          refine R.ownNew hn hf T rfl (fun k hk => by simp [setτ, hk]) (fun b hb => by subst hb; exact ⟨E, _, htok.resolve_left ht0, hblk⟩) ?_ ?_ (fun b hb => ?_)
          · simp only [RSV, setτ, if_true, hlen]
            refine ⟨trivial, ?_⟩
            have hj : Laid (withData G.D pb (po + els.length * E) (po + (els.length + ys.length) * E)) (w.setRow pb (setAll c (po + els.length * E) (arr g (ys.length * E)))) E (els ++ ys) (fun k => if k < els.length * E then f k else g (k - els.length * E)) :=
              Laid.join (f1.mono T.grow) (g1.mono T.grow) hE1 hE2 (fun k hk => by rw [if_pos hk]) (fun k hk => by rw [if_neg (by omega), Nat.add_sub_cancel_left])
            have := sl_of_laid (cap := cap) (b := pb) (o := po) (by rw [hlen]; exact hbig) (by rw [hlen]; exact hle) hEall hCall (fun k hk => ?_) hj
            · rw [hlen] at this; exact this
            · rw [hlen, Nat.add_mul] at hk
              by_cases hk1 : k < els.length * E
              · rw [if_pos hk1]
                rcases f3 with ⟨rfl, -⟩ | ⟨b', o', cap', hv', hc'⟩
                · simp at hk1
                · rw [hv] at hv'
                  cases hv'
                  obtain ⟨m1, m2⟩ := hc' k hk1
                  exact ⟨(T.grow _ _ m2).2.trans m1, .inl m2⟩
              · rw [if_neg hk1]
                refine ⟨?_, .inr ⟨rfl, by omega, by rw [Nat.add_mul]; omega⟩⟩
                rw [hcellw, hsa.2, if_pos (by omega), show po + k - (po + els.length * E) = k - els.length * E from by omega]
                exact arr_get _ _ _ (by omega)
          · simp only [TokAt, setτ, if_true]
            refine ⟨hle, fun hc => ⟨trivial, _, e, setRow_heap _ _ _ _ _ _ k1, by rw [hsa.1]; exact k2, fun j j1 j2 hD => ?_⟩⟩
            rcases hD with hD | ⟨-, q1, q2⟩
            · exact k3 j (by rw [Nat.add_mul] at j1; omega) j2 hD
            · omega
          · simp only [tokBlk, setτ, if_true] at hb
            split at hb
            · cases hb; exact .inr rfl
            · cases hb
        · have hys : ys = [] := List.eq_nil_of_length_eq_zero (by omega)
          subst hys
          have hcl : cap = els.length := by omega
          subst hcl
          have hrun := run_append_fits (ty := o.type) (w := w) he h2 (base := some ⟨pb, po, ps⟩) (len := els.length) (cap := els.length) (lenOf_sl (P := X.P) hyr w) (run_firstCells (P := X.P) g3) hle (w' := w) (by simp [arr, storeCells])
          refine hfin _ _ (setτ G G.D d (some ⟨pb, po, ps⟩, els.length)) (by rw [hv]; exact hrun) ?_
          have T0 := Trans.refl X G a w R.nil
          have T1 : Trans X G a w (setτ G G.D d (some ⟨pb, po, ps⟩, els.length)) a w (fun _ => False) := ⟨T0.tmps, T0.defers, T0.os, T0.tape, T0.output, T0.size, T0.keep, T0.own, T0.grow, T0.new, hτ0 _ _⟩
          refine R.ownNew hn hf T1 rfl (fun k hk => by simp [setτ, hk]) (fun b h => h.elim) ?_ ?_ (fun b hb => ?_)
          · simp only [RSV, setτ, if_true, List.append_nil, List.length_nil, Nat.add_zero]
            refine ⟨trivial, ?_⟩
            rw [hv] at hr
            exact hr
          · simp [TokAt, setτ]
          · simp [tokBlk, setτ] at hb
  · -- a new block
    have hdr : ∀ w' : World, w'.heap = w.heap → (Builtin.firstCells E ys.length (a.eval y)).run X.P w' = .ok (arr g (ys.length * E)) w' := fun w' hw => by
      refine run_firstCells (D := G.D) ?_
      rcases g3 with h | ⟨b, o', cap, h, hc⟩
      · exact .inl h
      · exact .inr ⟨b, o', cap, h, fun k hk => by rw [cell_of_heap hw]; exact hc k hk⟩
    have hdo : ∀ w' : World, w'.heap = w.heap → (Builtin.firstCells E els.length (.slice (G.τ t).1 els.length (G.τ t).2)).run X.P w' = .ok (arr f (els.length * E)) w' := fun w' hw => by
      rw [← hv]
      refine run_firstCells (D := G.D) ?_
      rcases f3 with h | ⟨b, o', cap, h, hc⟩
      · exact .inl h
      · exact .inr ⟨b, o', cap, h, fun k hk => by rw [cell_of_heap hw]; exact hc k hk⟩
    obtain ⟨c, e, nc, r1, r2, r3, r4, r5⟩ := run_append_new (ty := o.type) (w := w) he hB h2 (fun w' _ => lenOf_sl (P := X.P) hyr w') hdr hdo hle hbig (arr_size _ _) (arr_size _ _)
    rw [← hv] at r1
    refine hfin _ _ (setτ G (withData G.D w.heap.size 0 ((els.length + ys.length) * E)) d (some ⟨w.heap.size, 0, none⟩, nc)) r1 ?_
    have hcsz : (els.length + ys.length) * E ≤ c.size := by rw [r3]; exact Nat.mul_le_mul_right _ r2
    have hcn : ∀ k, (w.drew.alloc (.cells c e)).cell? ⟨w.heap.size, k, none⟩ = c[k]? := fun k => World.cell?_alloc_new w.drew c e k
    have T : Trans X G a w (setτ G (withData G.D w.heap.size 0 ((els.length + ys.length) * E)) d (some ⟨w.heap.size, 0, none⟩, nc)) a (w.drew.alloc (.cells c e)) (fun _ => False) := by
      refine ⟨rfl, fun h => h.heap fun b hb => alloc_old w.drew _ b hb, rfl, rfl, rfl, by simp, fun b hb _ => alloc_old w.drew _ b hb, fun _ h => h.elim, fun b k hD => ⟨.inl hD, World.cell?_alloc_lt w.drew _ _ (R.wf.lt hD)⟩, fun b k hD hnD => ?_, hτ0 _ _⟩
      rcases hD with hD | ⟨rfl, q1, q2⟩
      · exact absurd hD hnD
      · exact ⟨.inl (Nat.le_refl _), _, (hcn k).trans (Array.getElem?_eq_getElem (by omega))⟩
    refine R.ownNew hn hf T rfl (fun k hk => by simp [setτ, hk]) (fun b h => h.elim) ?_ ?_ (fun b hb => ?_)
    · simp only [RSV, setτ, if_true, hlen]
      refine ⟨trivial, ?_⟩
      have hj : Laid (withData G.D w.heap.size 0 ((els.length + ys.length) * E)) (w.drew.alloc (.cells c e)) E (els ++ ys) (fun k => if k < els.length * E then f k else g (k - els.length * E)) :=
        Laid.join (f1.mono T.grow) (g1.mono T.grow) hE1 hE2 (fun k hk => by rw [if_pos hk]) (fun k hk => by rw [if_neg (by omega), Nat.add_sub_cancel_left])
      have := sl_of_laid (cap := nc) (b := w.heap.size) (o := 0) (by rw [hlen]; exact hbig) (by rw [hlen]; exact r2) hEall hCall (fun k hk => ?_) hj
      · rw [hlen] at this; exact this
      · rw [hlen] at hk
        refine ⟨?_, .inr ⟨rfl, by omega, by omega⟩⟩
        rw [Nat.zero_add, hcn]
        rw [Nat.add_mul] at hk
        by_cases hk1 : k < els.length * E
        · rw [if_pos hk1, r4 k hk1]; exact arr_get _ _ _ hk1
        · rw [if_neg hk1, show k = els.length * E + (k - els.length * E) from by omega, r5 _ (by omega), Nat.add_sub_cancel_left]
          exact arr_get _ _ _ (by omega)
    · simp only [TokAt, setτ, if_true]
      refine ⟨r2, fun _ => ⟨trivial, c, e, alloc_new w.drew _, by rw [r3]; omega, fun j j1 j2 hD => ?_⟩⟩
      rcases hD with hD | ⟨-, q1, q2⟩
      · exact absurd (R.wf.lt hD) (Nat.lt_irrefl _)
      · omega
    · simp only [tokBlk, setτ, if_true] at hb
      split at hb
      · cases hb; exact .inl (Nat.le_refl _)
      · cases hb

/-- a slice cut to its own length and capacity: nothing may be appended in place -/
theorem step_slice3 {o : Oper} {T : TypeId} {x m : Operand} {lo hi : Option Operand} (ho : o.op = .slice T x lo hi (some m)) {d : Nat} (hd : o.dst = some d) (hn : d < X.n) (hd0 : d ≠ 0) (hf : freshT d s = true) {E : Nat} (hE : elemT X.P T = some E) {els : List (List DV)}
    (hx : (evl X (get s) x).bind slOf = some els) {l h k : Int} (hlo : bound X (get s) 0 lo = some l) (hhi : bound X (get s) els.length hi = some h) (hm : bound X (get s) 0 (some m) = some k) (hsome : hi.isSome = true)
    (hc : 0 ≤ l ∧ l ≤ h ∧ h ≤ els.length ∧ h = k ∧ ∀ e ∈ els, e.length = E) :
    StepOK X s o (upd (upd (del s (.tok 0)) (.slot d) (.one (.own d ((els.take h.toNat).drop l.toNat)))) (.tok d) (.tk E (h.toNat - l.toNat))) := by
  intro G a w R next Q hK
  obtain ⟨h0, h1, h2, rfl, h3⟩ := hc
  obtain ⟨e', ie, hu, hie, rfl⟩ := elem_run hE
  obtain ⟨q, hq, hq'⟩ := Option.bind_eq_some_iff.1 hx
  obtain ⟨b, cap, hv, hr, hcap⟩ := slOf_sound hq' (evl_sound R hq)
  have hlo' : (lo.map a.eval = none ∧ l = 0) ∨ ∃ k, lo.map a.eval = some (.int k l) := by
    rcases bound_sound R hlo with ⟨rfl, h⟩ | ⟨z, k, rfl, h⟩
    · exact .inl ⟨rfl, h⟩
    · exact .inr ⟨k, by simp [h]⟩
  obtain ⟨hio, rfl⟩ := Option.isSome_iff_exists.1 hsome
  have hhi' : ∃ k, a.eval hio = .int k h := by
    rcases bound_sound R hhi with ⟨h, _⟩ | ⟨z, k, hz, h⟩
    · cases h
    · cases hz; exact ⟨k, h⟩
  have hm' : ∃ k, a.eval m = .int k h := by
    rcases bound_sound R hm with ⟨h, _⟩ | ⟨z, k, hz, h⟩
    · cases h
    · cases hz; exact ⟨k, h⟩
  obtain ⟨k1, hk1⟩ := hhi'
  obtain ⟨k2, hk2⟩ := hm'
  have hh' : (h.toNat : Int) = h := Int.toNat_of_nonneg (by omega)
  have hsz : (sizeOf e').run X.P w = .ok ie.size w := by simp [sizeOf, typeInfo, hie]
  have hrun : (Instr.sliceAt T (.slice b els.length cap) (lo.map a.eval) (some (a.eval hio)) (some (a.eval m))).run X.P w =
      .ok (.slice (if h.toNat = l.toNat then b else b.map fun q => q.add (l.toNat * ie.size)) (h.toNat - l.toNat) (h.toNat - l.toNat)) w := by
    have b1 : 0 ≤ h ∧ h ≤ (cap : Int) := ⟨by omega, by omega⟩
    have b2 : 0 ≤ h ∧ h ≤ (h.toNat : Int) := ⟨by omega, by omega⟩
    have b3 : 0 ≤ l ∧ l ≤ (h.toNat : Int) := ⟨h0, by omega⟩
    rcases hlo' with ⟨hl, rfl⟩ | ⟨k, hl⟩
    · rw [hl, hk1, hk2]
      simp only [Instr.sliceAt, Instr.slice, run_underlying hu, Instr.sliceBounds, Instr.sliceBound, asIntOf, Sem.run_bind, Sem.run_pure, Result.andThen_ok, if_pos b1, if_pos b2, hsz]
      simp
    · rw [hl, hk1, hk2]
      simp only [Instr.sliceAt, Instr.slice, run_underlying hu, Instr.sliceBounds, Instr.sliceBound, asIntOf, Sem.run_bind, Sem.run_pure, Result.andThen_ok, if_pos b1, if_pos b2, if_pos b3, hsz]
  have hsl := sl_slice (w := w) (E := ie.size) (hv ▸ hr) h3 l.toNat h.toNat (by omega) (by omega) hcap
  have hlen : ((els.take h.toNat).drop l.toNat).length = h.toNat - l.toNat := by simp; omega
  obtain ⟨base, hbase, hsl'⟩ : ∃ base : Option Addr, base = (if h.toNat = l.toNat then b else b.map fun q => q.add (l.toNat * ie.size)) ∧ RV G.D w (.sl ((els.take h.toNat).drop l.toNat)) (.slice base (h.toNat - l.toNat) (h.toNat - l.toNat)) := by
    refine ⟨_, rfl, ?_⟩
    by_cases he : h.toNat = l.toNat
    · have : (els.take h.toNat).drop l.toNat = [] := by rw [he]; simp
      rw [this, he, Nat.sub_self]; exact .sl0 _ _
    · have hne : cap ≠ l.toNat := by omega
      rw [if_neg hne] at hsl
      rw [if_neg he]
      generalize (els.take h.toNat).drop l.toNat = L at *
      generalize hb : b.map (fun q => q.add (l.toNat * ie.size)) = bb at *
      rw [← hlen] at hsl ⊢
      cases hsl with
      | sl0 => simp at hlen; omega
      | sl _ b' o' _ E' val q1 q2 q3 q4 q5 q6 q7 => exact .sl L b' o' _ E' val q1 (Nat.le_refl _) q3 q4 q5 q6 q7
  rw [← hbase] at hrun
  have hτ0 : (setτ G G.D d (base, h.toNat - l.toNat)).τ 0 = (none, 0) := by simp only [setτ, if_neg (Ne.symm hd0)]; exact R.nil
  have T0 := Trans.refl X G a w R.nil
  have T1 : Trans X G a w (setτ G G.D d (base, h.toNat - l.toNat)) a w (fun _ => False) := ⟨T0.tmps, T0.defers, T0.os, T0.tape, T0.output, T0.size, T0.keep, T0.own, T0.grow, T0.new, hτ0⟩
  refine opIn (by first | exact pval_nodefer h | (intro c e; rw [ho] at e; cases e)) ?_
  simp only [execOp, ho, hv, Option.map_some, hrun, Sem.run_bind, Result.andThen_ok, Sem.run_pure, upn_value, hd]
  refine hK (setτ G G.D d (base, h.toNat - l.toNat)) _ w (R.ownNew (t := 0) hn hf T1 rfl (fun k hk => by simp [setτ, hk]) (fun b h => h.elim) ?_ ?_ (fun b hb => ?_))
  · simp only [RSV, setτ, if_true, hlen]
    exact ⟨trivial, hsl'⟩
  · simp only [TokAt, setτ, if_true]
    cases base with
    | none =>
      have : h.toNat - l.toNat = 0 := by
        rw [← hlen] at hsl' ⊢
        generalize (els.take h.toNat).drop l.toNat = L at *
        cases hsl' with
        | sl0 => rfl
      exact ⟨this, this⟩
    | some p => exact ⟨Nat.le_refl _, fun h => absurd h (Nat.lt_irrefl _)⟩
  · cases base <;> simp [tokBlk, setτ] at hb

end
end Go.Proofs.YtbmnlkfgkdallaaGreatDoor.Lift

/-
  Part J of the small logic: contracts (LC), the code that is left (W), regions (VL), calls.
-/
namespace Go.Proofs.YtbmnlkfgkdallaaGreatDoor.Lift
set_option linter.unusedSimpArgs false
set_option linter.unusedVariables false
set_option linter.unnecessarySimpa false
open Go

/-- objects that a call may read and write, by their blocks -/
abbrev Objs := List (Nat × List DV)

structure HeapOK (D : Nat → Nat → Prop) (w : World) (φ : Objs) : Prop where
  rows : ∀ b cs, (b, cs) ∈ φ → ∃ c e, w.heap[b]? = some (.cells c e (0, 0)) ∧ cs.length ≤ c.size ∧ ∀ (i : Nat) (x : DV), cs[i]? = some x → x.isCell = true ∧ ∃ v, c[i]? = some v ∧ RV D w x v
  nodata : ∀ b cs, (b, cs) ∈ φ → ∀ o, ¬ D b o
  nodup : (φ.map (·.1)).Nodup

/-- A CONTRACT: called with such data, and objects that read so, the function returns what R says; nothing else that was there has turned -/
def LC (P : Program) (gl : Globs) (f : FuncId) (args : List DV) (φ : Objs) (R : DV → Objs → Prop) : Prop :=
  ∀ (D : Nat → Nat → Prop) (w : World) (vs : Array Value), Wf gl D w → vs.size = args.length → (∀ (i : Nat) (x : DV) (v : Value), args[i]? = some x → vs[i]? = some v → RV D w x v) → HeapOK D w φ →
    Calls P f vs w fun e w' => ∃ v D' r φ', e = .returned v ∧ R r φ' ∧ Ext (φ.map (·.1)) D w D' w' ∧ Wf gl D' w' ∧ RV D' w' r v ∧ HeapOK D' w' φ' ∧ ∀ b ∈ φ'.map (·.1), b ∈ φ.map (·.1) ∨ w.heap.size ≤ b

/-- what a walk leaves of memory: the objects read so -/
def Aft (X : Ctx) (D' : Nat → Nat → Prop) (w' : World) (φ' : Objs) : Prop :=
  Ext X.ids X.D0 X.w0 D' w' ∧ Wf X.gl D' w' ∧ HeapOK D' w' φ' ∧ ∀ b ∈ φ'.map (·.1), b ∈ X.ids ∨ X.w0.heap.size ≤ b

def Ctx.Post (X : Ctx) (v : Value) (w' : World) : Prop :=
  ∃ D' r φ', X.R r φ' ∧ Ext X.ids X.D0 X.w0 D' w' ∧ Wf X.gl D' w' ∧ RV D' w' r v ∧ HeapOK D' w' φ' ∧ ∀ b ∈ φ'.map (·.1), b ∈ X.ids ∨ X.w0.heap.size ≤ b

/-- how the code of a round ends: off its end, by ret, by a jump that nothing in it catches -/
def REnd : Option Code → List Item → Prop
  | none, k => k = []
  | some .ret, k => ∃ k1, k = .code .ret :: k1
  | some (.exit id), k => ∃ k1, k = .code (.exit id) :: k1 ∧ exitTo id k1 = none
  | some (.goto l), k => ∃ k1, k = .code (.goto l) :: k1 ∧ gotoIn l k1 = none
  | _, _ => False

/-- where a walk ends -/
def Fin (X : Ctx) (b fr : Frame) (w' : World) : Prop :=
  match X.md with
  | .fn => ∃ v, X.Post v w' ∧ fr.fn = X.f ∧ fr.leaving X.P w' (.returned v)
  | .it l R => ∃ v D' φ' r', R φ' r' ∧ Aft X D' w' φ' ∧ w'.heap[l]? = some (.loop r') ∧ fr.fn = X.f ∧ fr.leaving X.P w' (.returned v)
  | .rd l r R => ∃ a k j D' φ', fr = b.atR a k ∧ REnd j k ∧ R j φ' ∧ Aft X D' w' φ' ∧ w'.heap[l]? = some (.loop { r with state := .busy })

/-- THE CODE THAT IS LEFT, FROM A STATE: it comes to an end that the contract allows -/
def W (X : Ctx) (k : List Item) (s : St) : Prop :=
  ∀ (G : Gh) (a : Act) (w : World) (b : Frame) (cs : List Frame), b.fn = X.f → b.kind = .normal → b.roundOf = X.rd → Rel X G s a w →
    ∃ w' fr, Fin X b fr w' ∧ Steps X.P (lone (b.atR a k) cs w) (lone fr cs w')

section
variable {X : Ctx} {s : St} {k : List Item}

theorem W_head {k k' : List Item} (h : ∀ (a : Act) (w : World) (b : Frame) (cs : List Frame), step X.P (lone (b.atR a k) cs w) = .next (lone (b.atR a k') cs w)) (hw : W X k' s) : W X k s := by
  intro G a w b cs hf hk hr R
  obtain ⟨w', fr, h1, h2⟩ := hw G a w b cs hf hk hr R
  exact ⟨w', fr, h1, .head (h a w b cs) h2⟩

theorem W_seq {x y : Code} (h : W X (.code x :: .code y :: k) s) : W X (.code (.seq x y) :: k) s := W_head (fun _ _ _ _ => stepR_seq) h
theorem W_skip (h : W X k s) : W X (.code .skip :: k) s := W_head (fun _ _ _ _ => stepR_skip) h
theorem W_label {l : Nat} (h : W X k s) : W X (.code (.label l) :: k) s := W_head (fun _ _ _ _ => stepR_label) h
theorem W_block {id : Nat} {c : Code} (h : W X (.code c :: .inBlock id :: k) s) : W X (.code (.block id c) :: k) s := W_head (fun _ _ _ _ => stepR_block) h
theorem W_inBlock {id : Nat} (h : W X k s) : W X (.inBlock id :: k) s := W_head (fun _ _ _ _ => stepR_inBlock) h
theorem W_loop {c : Code} (h : W X (.code c :: .inLoop c :: k) s) : W X (.code (.loop c) :: k) s := W_head (fun _ _ _ _ => stepR_loop) h
theorem W_inLoop {c : Code} (h : W X (.code c :: .inLoop c :: k) s) : W X (.inLoop c :: k) s := W_head (fun _ _ _ _ => stepR_inLoop) h
theorem W_exit {id : Nat} {k' : List Item} (he : exitTo id k = some k') (h : W X k' s) : W X (.code (.exit id) :: k) s := W_head (fun _ _ _ _ => stepR_exit he) h
theorem W_goto {l : Nat} {k' : List Item} (he : gotoIn l k = some k') (h : W X k' s) : W X (.code (.goto l) :: k) s := W_head (fun _ _ _ _ => stepR_goto he) h

theorem W_cond {c : Operand} {x y : Code} {t : Bool} (hc : evl X (get s) c = some (.v (.prim (.bool t)))) (ht : t = true → W X (.code x :: k) s) (hf : t = false → W X (.code y :: k) s) : W X (.code (.cond c x y) :: k) s := by
  intro G a w b cs hbf hbk hr R
  have hv := (prim_of (evl_sound R hc)).1
  cases t with
  | true =>
    obtain ⟨w', fr, h1, h2⟩ := ht rfl G a w b cs hbf hbk hr R
    exact ⟨w', fr, h1, .head (by have := stepR_cond (P := X.P) (b := b) (k := k) (cs := cs) (w := w) (x := x) (y := y) hv; simpa using this) h2⟩
  | false =>
    obtain ⟨w', fr, h1, h2⟩ := hf rfl G a w b cs hbf hbk hr R
    exact ⟨w', fr, h1, .head (by have := stepR_cond (P := X.P) (b := b) (k := k) (cs := cs) (w := w) (x := x) (y := y) hv; simpa using this) h2⟩

/-- a state that says less, by other names -/
def renS (ρ : Nat → Nat) (σ : Nat → Nat) : SV → SV
  | .v x => .v x
  | .loc k off => .loc (ρ k) off
  | .dp els i off => .dp els i off
  | .own t els => .own (σ t) els
  | .ag cs ns => .ag cs ns

def retOne (X : Ctx) (g : Rd) : ResultVar → Option DV
  | .tmp t => match g (.slot t) with
    | some (.one x) => toD x
    | _ => none
  | .cell t ty => match g (.slot t) with
    | some (.one x) => (loadAt X g ty x).bind toD
    | _ => none

def retL (X : Ctx) (g : Rd) : List ResultVar → Option (List DV)
  | [] => some []
  | r :: l => match retOne X g r, retL X g l with
    | some x, some xs => some (x :: xs)
    | _, _ => none

def retD (X : Ctx) (g : Rd) (l : List ResultVar) : Option DV :=
  match retL X g l with
  | some [x] => some x
  | some xs => some (.tup xs)
  | none => none

def retM (tmps : Array Value) : ResultVar → Sem Value
  | .tmp t => pure (tmps.getD t undef)
  | .cell p t => do loadVar t (← asAddr (tmps.getD p undef))

theorem results_retM (fn : Func) (tmps : Array Value) : results fn tmps = (do let vs ← fn.results.mapM (retM tmps); pure (if h : vs.size = 1 then vs[0] else .tuple vs)) := by
  unfold results
  congr 1

theorem retL_sound {G : Gh} {a : Act} {w : World} (R : Rel X G s a w) : ∀ {l : List ResultVar} {xs : List DV}, retL X (get s) l = some xs →
    ∃ vs : List Value, (l.mapM (retM a.tmps)).run X.P w = .ok vs w ∧ vs.length = xs.length ∧ ∀ (i : Nat) (x : DV) (v : Value), xs[i]? = some x → vs[i]? = some v → RV G.D w x v
  | [], xs, h => by cases h; exact ⟨[], by simp, rfl, by simp⟩
  | r :: l, xs, h => by
    simp only [retL] at h
    split at h
    · rename_i x ys hx hys
      cases h
      obtain ⟨vs, h1, h2, h3⟩ := retL_sound R hys
      have key : ∃ v, (retM a.tmps r).run X.P w = .ok v w ∧ RV G.D w x v := by
        cases r with
        | tmp t =>
          simp only [retOne] at hx
          split at hx
          · rename_i y hy
            exact ⟨_, rfl, toD_sound hx (R.holds _ _ hy)⟩
          · cases hx
        | cell p t =>
          simp only [retOne] at hx
          split at hx
          · rename_i y hy
            obtain ⟨z, hz, hz'⟩ := Option.bind_eq_some_iff.1 hx
            obtain ⟨u, q1, q2⟩ := loadAt_sound R (R.holds _ _ hy) hz
            refine ⟨u, ?_, toD_sound hz' q2⟩
            simp only [Instr.loadAt, Sem.run_bind] at q1
            simp only [retM, Sem.run_bind]
            cases hv : a.tmps.getD p undef with
            | pointer o =>
              cases o with
              | none => simp [hv, Instr.sureAddr] at q1
              | some ad => simpa [hv, Instr.sureAddr, asAddr] using q1
            | _ => simp [hv, Instr.sureAddr] at q1
          · cases hx
      obtain ⟨v, k1, k2⟩ := key
      refine ⟨v :: vs, ?_, by simp [h2], fun i c u hc hu => ?_⟩
      · rw [List.mapM_cons]
        simp only [Sem.run_bind]
        rw [k1]
        simp only [Result.andThen_ok, h1, Sem.run_pure]
      · cases i with
        | zero => simp at hc hu; subst hc hu; exact k2
        | succ i => exact h3 i c u (by simpa using hc) (by simpa using hu)
    · cases h

theorem retD_sound {G : Gh} {a : Act} {w : World} (R : Rel X G s a w) {fn : Func} {r : DV} (h : retD X (get s) fn.results.toList = some r) : ∃ v, (results fn a.tmps).run X.P w = .ok v w ∧ RV G.D w r v := by
  unfold retD at h
  have main : ∀ xs, retL X (get s) fn.results.toList = some xs → ∃ vs : Array Value, (fn.results.mapM (retM a.tmps)).run X.P w = .ok vs w ∧ vs.size = xs.length ∧ ∀ (i : Nat) (x : DV) (v : Value), xs[i]? = some x → vs[i]? = some v → RV G.D w x v := by
    intro xs hx
    obtain ⟨vs, h1, h2, h3⟩ := retL_sound R hx
    refine ⟨vs.toArray, ?_, by simpa using h2, fun i x v hx hv => h3 i x v hx (by simpa using hv)⟩
    rw [Array.mapM_eq_mapM_toList]
    simp only [Sem.run_map, h1, Result.andThen_ok]
  split at h
  · rename_i x hx
    cases h
    obtain ⟨vs, h1, h2, h3⟩ := main _ hx
    have hs : vs.size = 1 := by simpa using h2
    refine ⟨vs[0], ?_, h3 0 _ _ rfl (by simp [hs])⟩
    rw [results_retM, Sem.run_bind, h1]
    simp [hs]
  · rename_i xs hne hx
    cases h
    obtain ⟨vs, h1, h2, h3⟩ := main _ hx
    have hs : vs.size ≠ 1 := by
      intro e
      rw [h2] at e
      match xs, e with
      | [x], _ => exact hne x rfl
    refine ⟨.tuple vs, ?_, .tup _ _ h2 h3⟩
    rw [results_retM, Sem.run_bind, h1]
    simp [hs]
  · cases h

/-- the objects as the state has them -/
def objsIn (g : Rd) (φ : Objs) : Prop := ∀ b cs, (b, cs) ∈ φ → g (.heap b) = some (.row (cs.map SV.v))

theorem heapOK_of {G : Gh} {a : Act} {w : World} (R : Rel X G s a w) {φ : Objs} (h : objsIn (get s) φ) (hn : (φ.map (·.1)).Nodup) : HeapOK G.D w φ := by
  refine ⟨fun b cs hm => ?_, fun b cs hm o => ?_, hn⟩
  · obtain ⟨c, e, h1, h2, h3⟩ := R.holds _ _ (h b cs hm)
    refine ⟨c, e, h1, by simpa using h2, fun i x hx => ?_⟩
    obtain ⟨k1, v, k2, k3⟩ := h3 i (.v x) (by simp [hx])
    exact ⟨k1, v, k2, k3⟩
  · exact R.data _ _ b o (h b cs hm) rfl rfl

theorem mark_inj {Ds Es : List Nat} (h : Ds.map mark = Es.map mark) : Ds = Es := by
  induction Ds generalizing Es with
  | nil => cases Es <;> simp_all
  | cons d r ih =>
    cases Es with
    | nil => simp at h
    | cons e t =>
      simp only [List.map_cons, List.cons.injEq] at h
      have h1 : d = e := by have := h.1; simp only [mark, Deferred.mk.injEq, Target.collected.injEq, and_true] at this; exact this
      rw [h1, ih h.2]

/-- the last mark is come to -/
theorem Rel.pop {G : Gh} {a : Act} {w : World} (R : Rel X G s a w) {D : Nat} {Ds : List Nat} (ha : a.defers = mark D :: Ds.map mark) :
    (Instr.takeDeferred D).run X.P w = .ok [] (w.putObj D (.deferred none)) ∧ Rel X G s { a with defers := Ds.map mark } (w.putObj D (.deferred none)) := by
  obtain ⟨Ds', h1, h2, h3⟩ := R.defers
  obtain rfl : Ds' = D :: Ds := mark_inj (by rw [← h1, ha]; rfl)
  obtain ⟨hD, hlt⟩ := h3 D (by simp)
  have hne : ∀ b, b ≠ D → (w.putObj D (.deferred none)).heap[b]? = w.heap[b]? := fun b hb => World.putObj_heap_other hb
  have hnot : ∀ b o, G.D b o → b ≠ D := fun b o hd e => by
    subst e
    obtain ⟨v, hv⟩ := R.wf.there b o hd
    simp [World.cell?, hD] at hv
  refine ⟨run_takeDeferred hD, ?_⟩
  have T : Trans X G a w G { a with defers := Ds.map mark } (w.putObj D (.deferred none)) (fun b => b = D) := by
    refine ⟨rfl, fun _ => ⟨Ds, rfl, (List.nodup_cons.1 h2).2, fun E hE => ?_⟩, rfl, rfl, rfl, by simp, fun b _ hb => hne b hb, fun b hb => by subst hb; exact .inl hlt, fun b o hd => ⟨hd, ?_⟩, fun _ _ h k => absurd h k, R.nil⟩
    · have hED : E ≠ D := fun e => by subst e; exact (List.nodup_cons.1 h2).1 hE
      exact ⟨(hne E hED).trans (h3 E (by simp [hE])).1, (h3 E (by simp [hE])).2⟩
    · simp only [World.cell?]
      rw [hne b (hnot b o hd)]
  refine R.step T (fun _ _ => False) (fun l v h => .inr ⟨h, fun _ _ => rfl, fun b hb he => ?_, fun _ _ => rfl, fun _ _ => rfl⟩) (fun _ _ h => h.elim) (fun _ _ _ _ _ h => h.elim)
  subst he
  have hh := R.holds _ _ h
  cases l with
  | slot n => cases v <;> cases hb
  | loc n =>
    cases v with
    | row cs => simp only [blkOf, Option.some.injEq] at hb; subst hb; obtain ⟨c, e, h4, _⟩ := hh; rw [hD] at h4; cases h4
    | _ => first | exact hh.elim | cases hb
  | heap n =>
    cases v with
    | row cs => simp only [blkOf, Option.some.injEq] at hb; subst hb; obtain ⟨c, e, h4, _⟩ := hh; rw [hD] at h4; cases h4
    | ob r => simp only [blkOf, Option.some.injEq] at hb; subst hb; simp only [Holds] at hh; rw [hD] at hh; cases hh
    | _ => first | exact hh.elim | cases hb
  | tok n =>
    cases v with
    | tk E len =>
      simp only [blkOf, tokBlk, Holds, TokAt] at hb hh
      split at hb
      · rename_i aa cap heq
        rw [heq] at hh
        split at hb
        · rename_i hlt'
          obtain ⟨-, c, e, h4, _⟩ := hh.2 hlt'
          cases hb
          rw [hD] at h4
          cases h4
        · cases hb
      · cases hb
    | _ => first | exact hh.elim | cases hb

/-- a frame that returns goes over its marks -/
theorem leave_marks {G : Gh} {cs : List Frame} : ∀ (Ds : List Nat) (a : Act) (w : World) (fr : Frame), a.defers = Ds.map mark → Rel X G s a w → fr.mode = .returning → fr.defers = a.defers →
    ∃ w' fr', Steps X.P (lone fr cs w) (lone fr' cs w') ∧ Rel X G s { a with defers := [] } w' ∧ fr'.mode = .returning ∧ fr'.defers = [] ∧ fr'.fn = fr.fn ∧ fr'.kind = fr.kind ∧ fr'.tmps = fr.tmps := by
  intro Ds
  induction Ds with
  | nil =>
    intro a w fr ha R hm hd
    refine ⟨w, fr, .refl _ _, ?_, hm, by rw [hd, ha]; rfl, rfl, rfl, rfl⟩
    have : { a with defers := [] } = a := by cases a; simp only at ha; rw [ha]; rfl
    rw [this]
    exact R
  | cons D Ds ih =>
    intro a w fr ha R hm hd
    obtain ⟨h1, h2⟩ := R.pop ha
    have hs := step_collected (P := X.P) (cs := cs) (by rw [hm]; simp) (hd.trans ha) rfl h1
    obtain ⟨w', fr', k1, k2, k3, k4, k5, k6, k7⟩ := ih _ _ { fr with defers := [] ++ Ds.map mark } rfl h2 hm rfl
    exact ⟨w', fr', .head hs k1, k2, k3, k4, k5, k6, k7⟩

theorem rd_fn (h : X.md = .fn) : X.rd = none := by simp [Ctx.rd, h]
theorem rd_it {l : Nat} {R : Objs → Loop → Prop} (h : X.md = .it l R) : X.rd = none := by simp [Ctx.rd, h]

theorem aft_of {G : Gh} {a : Act} {w : World} (R : Rel X G s a w) {φ : Objs} (hφ : objsIn (get s) φ) (hn : (φ.map (·.1)).Nodup) : Aft X G.D w φ := by
  refine ⟨R.ext, R.wf, heapOK_of R hφ hn, fun b hb => ?_⟩
  obtain ⟨⟨b', cs'⟩, hm, rfl⟩ := List.mem_map.1 hb
  rcases R.own _ _ b' (hφ b' cs' hm) rfl with h | ⟨h, _⟩
  · exact .inr h
  · exact .inl h

/-- the step out of a function's code -/
def Outs (X : Ctx) (m : List Item) : Prop :=
  ∀ (a : Act) (w : World) (b : Frame) (cs : List Frame), b.roundOf = none → step X.P (lone (b.atR a m) cs w) = .next (lone { b.atR a m with mode := .returning } cs w)
theorem outs_ret : Outs X (.code .ret :: k) := fun _ _ _ _ h => stepR_ret h
theorem outs_end : Outs X [] := fun _ _ _ _ h => stepR_end h

theorem W_fin (hmd : X.md = .fn) (hff : X.P.funcs[X.f]? = some X.fn) {r : DV} (hr : retD X (get s) X.fn.results.toList = some r) {φ : Objs} (hφ : objsIn (get s) φ) (hn : (φ.map (·.1)).Nodup) (hR : X.R r φ) {m : List Item} (hstep : Outs X m) : W X m s := by
  intro G a w b cs hf hk hro R
  obtain ⟨Ds, hDs, -⟩ := R.defers
  obtain ⟨w', fr', k1, R', k3, k4, k5, k6, k7⟩ := leave_marks (cs := cs) Ds a w { b.atR a m with mode := .returning } hDs R rfl rfl
  obtain ⟨v, h1, h2⟩ := retD_sound R' hr
  obtain ⟨q1, q2, q3, q4⟩ := aft_of R' hφ hn
  refine ⟨w', fr', ?_, .head (hstep a w b cs (hro.trans (rd_fn hmd))) k1⟩
  simp only [Fin, hmd]
  exact ⟨v, ⟨G.D, r, φ, hR, q1, q2, h2, q3, q4⟩, k5.trans hf, k3, k4, k6.trans hk, X.fn, by rw [k5]; exact (congrArg _ hf).trans hff, by rw [k7]; exact h1⟩

theorem W_ret (hmd : X.md = .fn) (hff : X.P.funcs[X.f]? = some X.fn) {r : DV} (hr : retD X (get s) X.fn.results.toList = some r) {φ : Objs} (hφ : objsIn (get s) φ) (hn : (φ.map (·.1)).Nodup) (hR : X.R r φ) : W X (.code .ret :: k) s :=
  W_fin hmd hff hr hφ hn hR outs_ret
theorem W_end (hmd : X.md = .fn) (hff : X.P.funcs[X.f]? = some X.fn) {r : DV} (hr : retD X (get s) X.fn.results.toList = some r) {φ : Objs} (hφ : objsIn (get s) φ) (hn : (φ.map (·.1)).Nodup) (hR : X.R r φ) : W X [] s :=
  W_fin hmd hff hr hφ hn hR outs_end

/-- the end of a function that was ranged over -/
theorem W_itfin {l : Nat} {Q : Objs → Loop → Prop} (hmd : X.md = .it l Q) (hff : X.P.funcs[X.f]? = some X.fn) {r : DV} (hr : retD X (get s) X.fn.results.toList = some r) {φ : Objs} (hφ : objsIn (get s) φ) (hn : (φ.map (·.1)).Nodup) {q : Loop} (hl : get s (.heap l) = some (.ob q)) (hR : Q φ q) {m : List Item} (hstep : Outs X m) : W X m s := by
  intro G a w b cs hf hk hro R
  obtain ⟨Ds, hDs, -⟩ := R.defers
  obtain ⟨w', fr', k1, R', k3, k4, k5, k6, k7⟩ := leave_marks (cs := cs) Ds a w { b.atR a m with mode := .returning } hDs R rfl rfl
  obtain ⟨v, h1, h2⟩ := retD_sound R' hr
  refine ⟨w', fr', ?_, .head (hstep a w b cs (hro.trans (rd_it hmd))) k1⟩
  simp only [Fin, hmd]
  exact ⟨v, G.D, φ, q, hR, aft_of R' hφ hn, R'.holds _ _ hl, k5.trans hf, k3, k4, k6.trans hk, X.fn, by rw [k5]; exact (congrArg _ hf).trans hff, by rw [k7]; exact h1⟩

/-- the end of a round -/
theorem W_rdfin {l : Nat} {r : Loop} {Q : Option Code → Objs → Prop} (hmd : X.md = .rd l r Q) {φ : Objs} (hφ : objsIn (get s) φ) (hn : (φ.map (·.1)).Nodup) (hl : get s (.heap l) = some (.ob { r with state := .busy })) (j : Option Code) {m : List Item} (hj : REnd j m) (hR : Q j φ) : W X m s := by
  intro G a w b cs hf hk hro R
  refine ⟨w, b.atR a m, ?_, .refl _ _⟩
  simp only [Fin, hmd]
  exact ⟨a, m, j, G.D, φ, rfl, hj, hR, aft_of R hφ hn, R.holds _ _ hl⟩

/-- how a region ends -/
def Nrm (X : Ctx) (K : St → Prop) : Exit → Act → World → Prop := fun e a w => e = .normal ∧ ∃ G s, K s ∧ Rel X G s a w

/-- a region's operations that are left -/
def VL (X : Ctx) (ops : Array Oper) (l : List Oper) (s : St) (K : St → Prop) : Prop :=
  ∀ n, ops.toList.drop n = l → ∀ (G : Gh) (a : Act) (w : World), Rel X G s a w → wpOpsIn X.F 0 X.P ops (Nrm X K) (List.range' n l.length) a w

theorem VL_nil {ops : Array Oper} {K : St → Prop} (h : K s) : VL X ops [] s K := fun _ _ G _ _ R => ⟨rfl, G, s, h, R⟩

theorem drop_cons {ops : Array Oper} {n : Nat} {o : Oper} {l : List Oper} (h : ops.toList.drop n = o :: l) : ops[n]? = some o ∧ ops.toList.drop (n + 1) = l := by
  constructor
  · have : (ops.toList.drop n)[0]? = some o := by rw [h]; rfl
    rw [List.getElem?_drop] at this
    simpa using this
  · rw [← List.drop_drop, h]; rfl

theorem VL_step {ops : Array Oper} {o : Oper} {l : List Oper} {K : St → Prop} {s' : St} (hg : o.guard = none) (ho : StepOK X s o s') (h : VL X ops l s' K) : VL X ops (o :: l) s K := by
  intro n hn G a w R
  obtain ⟨h1, h2⟩ := drop_cons hn
  simp only [List.length_cons, List.range'_succ, wpOpsIn, h1, Region.wanted, hg, if_true]
  exact (ho G a w R _ _ fun G' a' w' R' => h (n + 1) h2 G' a' w' R')

/-- a state may be told otherwise -/
theorem Rel.congr {G : Gh} {a : Act} {w : World} (R : Rel X G s a w) {s' : St} (h : ∀ l, get s' l = get s l) : Rel X G s' a w :=
  ⟨R.size, R.defers, R.ext, R.wf, R.nil, fun l v hl => R.holds l v (by rw [← h]; exact hl), fun l v l' v' b h1 h2 => R.sep l v l' v' b (by rw [← h]; exact h1) (by rw [← h]; exact h2), fun l v b h1 => R.own l v b (by rw [← h]; exact h1), fun l v b o h1 => R.data l v b o (by rw [← h]; exact h1)⟩

/-- the value of what was not carried out -/
abbrev unv : LV := .one (.v (.tup []))
theorem unv_rv {G : Gh} {w : World} : RSV G w (.v (.tup [])) undef := .tup [] #[] rfl (by simp)
theorem yielded_un {ops : Array Oper} {G : Gh} {a : Act} {w : World} (R : Rel X G s a w) {j dj : Nat} (hj : (ops[j]?).bind (·.dst) = some dj) (hb : get s (.slot dj) = some unv) : yielded ops a.tmps j = none := by
  have hv : RV G.D w (.tup []) (a.tmps.getD dj undef) := R.holds _ _ hb
  unfold yielded
  rw [hj]
  simp only [Option.bind_some]
  cases hq : a.tmps[dj]? with
  | none => rfl
  | some v =>
    have : a.tmps.getD dj undef = v := by simp [Array.getD_eq_getD_getElem?, hq]
    rw [this] at hv
    cases hv
    rfl

theorem VL_guard {ops : Array Oper} {o : Oper} {l : List Oper} {K : St → Prop} {j dj : Nat} {want b : Bool} (hg : o.guard = some (j, want)) (hj : (ops[j]?).bind (·.dst) = some dj) (hjn : dj < X.n) (hb : get s (.slot dj) = some (.one (.v (.prim (.bool b)))))
    (hyes : b = want → ∃ s', StepOK X (upd s (.slot dj) (.one (.v (.prim (.bool want))))) o s' ∧ VL X ops l s' K)
    {d : Nat} (hd : o.dst = some d) (hdn : d < X.n) (hno : b = !want → VL X ops l (upd (upd s (.slot dj) (.one (.v (.prim (.bool (!want)))))) (.slot d) unv) K) : VL X ops (o :: l) s K := by
  intro n hn G a w R
  obtain ⟨h1, h2⟩ := drop_cons hn
  have hv := (prim_of (R.holds _ _ hb)).1
  have hlt : dj < a.tmps.size := by rw [R.size]; exact hjn
  have hv' : a.tmps[dj]? = some (.bool b) := by
    have h3 : a.tmps.getD dj undef = a.tmps[dj] := by simp [hlt]
    rw [Array.getElem?_eq_getElem hlt, ← h3, hv]
  have hy : yielded ops a.tmps j = some b := by
    unfold yielded
    rw [hj]
    simp [hv']
  have R' : ∀ c, b = c → Rel X G (upd s (.slot dj) (.one (.v (.prim (.bool c))))) a w := fun c hc => R.congr fun l => by
    rw [get_upd]
    split
    · subst_vars; exact hb.symm
    · rfl
  simp only [List.length_cons, List.range'_succ, wpOpsIn, h1, Region.wanted, hg, hy]
  by_cases hbw : b = want
  · subst hbw
    simp only [beq_self_eq_true, if_true]
    obtain ⟨s', k1, k2⟩ := hyes rfl
    exact (k1 G a w (R' _ rfl) _ _ fun G' a' w' R' => k2 (n + 1) h2 G' a' w' R')
  · have hb2 : b = !want := by cases b <;> cases want <;> simp_all
    have : (some b == some want) = false := by simp [hbw]
    simp only [this, Bool.false_eq_true, if_false, hd]
    exact ⟨fun _ _ => trivial, hno hb2 (n + 1) h2 G _ w ((R' _ hb2).setSlot (Trans.refl X G a w R.nil) rfl rfl (fun _ h => h) hdn (x := .v (.tup [])) unv_rv)⟩

/-- a guard that was not asked itself -/
theorem VL_guardU {ops : Array Oper} {o : Oper} {l : List Oper} {K : St → Prop} {j dj : Nat} {want : Bool} (hg : o.guard = some (j, want)) (hj : (ops[j]?).bind (·.dst) = some dj) (hb : get s (.slot dj) = some unv)
    {d : Nat} (hd : o.dst = some d) (hdn : d < X.n) (hno : VL X ops l (upd s (.slot d) unv) K) : VL X ops (o :: l) s K := by
  intro n hn G a w R
  obtain ⟨h1, h2⟩ := drop_cons hn
  have hy := yielded_un (ops := ops) R hj hb
  simp only [List.length_cons, List.range'_succ, wpOpsIn, h1, Region.wanted, hg, hy, hd]
  have : (none == some want) = false := by cases want <;> rfl
  simp only [this, Bool.false_eq_true, if_false]
  exact ⟨fun _ _ => trivial, hno (n + 1) h2 G _ w (R.setSlot (Trans.refl X G a w R.nil) rfl rfl (fun _ h => h) hdn (x := .v (.tup [])) unv_rv)⟩

theorem roomF (n : Nat) : X.F.room n := fun _ h => by simp [Ctx.F, Fence.wide] at h

theorem W_region {id : Nat} {ops : Array Oper} (h : ∀ K : St → Prop, (∀ s', W X k s' → K s') → VL X ops ops.toList s K) : W X (.code (.region id ops false) :: k) s := by
  intro G a w b cs hf hk hr R
  have hv := h (fun s' => W X k s') (fun _ h => h) 0 rfl G a w R
  have e : List.range' 0 ops.toList.length = List.range ops.size := by rw [List.range_eq_range']; simp
  rw [e] at hv
  obtain ⟨e', a', w', ⟨rfl, G', s', hK, R'⟩, harr⟩ := wp_opsIn _ a w hv b k cs hr trivial (roomF _)
  obtain ⟨w'', fr, h1, h2⟩ := hK G' a' w' b cs hf hk hr R'
  exact ⟨w'', fr, h1, .head stepR_region (Steps.trans (StepsIn.steps harr) h2)⟩

end
end Go.Proofs.YtbmnlkfgkdallaaGreatDoor.Lift

/-
  Part K of the small logic: a contract is used at a call; how a contract is proved; a state told otherwise.
-/
namespace Go.Proofs.YtbmnlkfgkdallaaGreatDoor.Lift
set_option linter.unusedSimpArgs false
set_option linter.unusedVariables false
set_option linter.unnecessarySimpa false
open Go

/-- the function has a body of the program's own -/
def Callable (P : Program) (f : FuncId) : Prop :=
  ∃ fn, P.funcs[f]? = some fn ∧ fn.body.isSome = true ∧ (fn.name == "runtime.NumGoroutine") = false

/-- THE CONTRACT OF A FUNCTION THAT CAN BE CALLED -/
def Con (P : Program) (gl : Globs) (f : FuncId) (args : List DV) (φ : Objs) (R : DV → Objs → Prop) : Prop := Callable P f ∧ LC P gl f args φ R

/-- the same where the outcome is told -/
def Con1 (P : Program) (gl : Globs) (f : FuncId) (args : List DV) (φ : Objs) (r : DV) (φ' : Objs) : Prop := Con P gl f args φ fun x ψ => x = r ∧ ψ = φ'

theorem LC.mono {P : Program} {gl : Globs} {f : FuncId} {args : List DV} {φ : Objs} {R R' : DV → Objs → Prop} (h : LC P gl f args φ R) (hr : ∀ r ψ, R r ψ → R' r ψ) : LC P gl f args φ R' :=
  fun D w vs h1 h2 h3 h4 => (h D w vs h1 h2 h3 h4).mono fun _ _ ⟨v, D', r, ψ, k1, k2, k3⟩ => ⟨v, D', r, ψ, k1, hr _ _ k2, k3⟩

theorem Con.mono {P : Program} {gl : Globs} {f : FuncId} {args : List DV} {φ : Objs} {R R' : DV → Objs → Prop} (h : Con P gl f args φ R) (hr : ∀ r ψ, R r ψ → R' r ψ) : Con P gl f args φ R' := ⟨h.1, h.2.mono hr⟩

def heapSt : Objs → St
  | [] => []
  | (b, cs) :: r => (.heap b, .row (cs.map SV.v)) :: heapSt r

def argSt : Nat → List DV → St
  | _, [] => []
  | n, x :: r => (.slot n, .one (.v x)) :: argSt (n + 1) r

def entry (args : List DV) (φ : Objs) : St := argSt 0 args ++ heapSt φ

def delObjs (s : St) : Objs → St
  | [] => s
  | (b, _) :: r => delObjs (del s (.heap b)) r

def addObjs (s : St) : Objs → St
  | [] => s
  | (b, cs) :: r => upd (addObjs s r) (.heap b) (.row (cs.map SV.v))

theorem get_append (s t : St) (l : Loc) : get (s ++ t) l = (get s l).or (get t l) := by
  induction s with
  | nil => simp [get]
  | cons p r ih =>
    obtain ⟨m, v⟩ := p
    simp only [List.cons_append, get]
    split <;> simp [ih]

theorem get_heapSt {φ : Objs} {l : Loc} {v : LV} (h : get (heapSt φ) l = some v) : ∃ b cs, l = .heap b ∧ v = .row (cs.map SV.v) ∧ (b, cs) ∈ φ := by
  induction φ with
  | nil => cases h
  | cons p r ih =>
    obtain ⟨b, cs⟩ := p
    simp only [heapSt, get] at h
    split at h
    · rename_i hl; cases h; exact ⟨b, cs, hl.symm, rfl, by simp⟩
    · obtain ⟨b', cs', h1, h2, h3⟩ := ih h
      exact ⟨b', cs', h1, h2, List.mem_cons_of_mem _ h3⟩

theorem get_argSt {l : Loc} {v : LV} : ∀ {args : List DV} {n : Nat}, get (argSt n args) l = some v → ∃ i x, l = .slot (n + i) ∧ v = .one (.v x) ∧ args[i]? = some x
  | [], _, h => by cases h
  | x :: r, n, h => by
    simp only [argSt, get] at h
    split at h
    · rename_i hl; cases h; exact ⟨0, x, by rw [← hl]; rfl, rfl, rfl⟩
    · obtain ⟨i, y, h1, h2, h3⟩ := get_argSt h
      exact ⟨i + 1, y, by rw [h1]; congr 1; omega, h2, by simpa using h3⟩

theorem get_delObjs (φ : Objs) : ∀ (s : St) (l : Loc) (v : LV), get (delObjs s φ) l = some v → get s l = some v ∧ ∀ b ∈ φ.map (·.1), l ≠ .heap b := by
  induction φ with
  | nil => intro s l v h; exact ⟨h, by simp⟩
  | cons p r ih =>
    obtain ⟨b, cs⟩ := p
    intro s l v h
    obtain ⟨h1, h2⟩ := ih _ l v h
    rw [get_del] at h1
    by_cases hl : Loc.heap b = l
    · rw [if_pos hl] at h1; cases h1
    · rw [if_neg hl] at h1
      refine ⟨h1, fun b' hb' => ?_⟩
      simp only [List.map_cons, List.mem_cons] at hb'
      rcases hb' with rfl | hb'
      · exact fun e => hl e.symm
      · exact h2 b' hb'

theorem get_addObjs (s : St) : ∀ (φ : Objs) (l : Loc) (v : LV), get (addObjs s φ) l = some v → (∃ b cs, l = .heap b ∧ v = .row (cs.map SV.v) ∧ (b, cs) ∈ φ) ∨ (get s l = some v ∧ ∀ b ∈ φ.map (·.1), l ≠ .heap b)
  | [], l, v, h => .inr ⟨h, by simp⟩
  | (b, cs) :: r, l, v, h => by
    simp only [addObjs, get_upd] at h
    split at h
    · rename_i hl; cases h; exact .inl ⟨b, cs, hl.symm, rfl, by simp⟩
    · rename_i hl
      rcases get_addObjs s r l v h with ⟨b', cs', h1, h2, h3⟩ | ⟨h1, h2⟩
      · exact .inl ⟨b', cs', h1, h2, List.mem_cons_of_mem _ h3⟩
      · refine .inr ⟨h1, fun b' hb' => ?_⟩
        simp only [List.map_cons, List.mem_cons] at hb'
        rcases hb' with rfl | hb'
        · exact fun e => hl e.symm
        · exact h2 b' hb'

section
variable {X : Ctx} {s : St} {k : List Item}

theorem blk_of_heapOK {G : Gh} {D' : Nat → Nat → Prop} {w' : World} {φ : Objs} (h : HeapOK D' w' φ) {b : Nat} {cs : List DV} (hm : (b, cs) ∈ φ) : BlkAt { D := D', ν := G.ν, τ := G.τ } w' b (cs.map SV.v) := by
  obtain ⟨c, e, h1, h2, h3⟩ := h.rows b cs hm
  refine ⟨c, e, h1, by simpa using h2, fun i x hx => ?_⟩
  rw [List.getElem?_map] at hx
  cases hq : cs[i]? with
  | none => simp [hq] at hx
  | some y =>
    simp [hq] at hx
    subst hx
    exact h3 i y hq

/-- what a call leaves of a state -/
theorem Rel.call {G : Gh} {a : Act} {w : World} (R : Rel X G s a w) {φ φ' : Objs} (hφ : objsIn (get s) φ) {D' : Nat → Nat → Prop} {w' : World} (hx : Ext (φ.map (·.1)) G.D w D' w') (hwf : Wf X.gl D' w') {r : DV} {v : Value} (hr : RV D' w' r v)
    (hh : HeapOK D' w' φ') (hids : ∀ b ∈ φ'.map (·.1), b ∈ φ.map (·.1) ∨ w.heap.size ≤ b) {d : Nat} (hd : d < X.n) :
    Rel X { D := D', ν := G.ν, τ := G.τ } (addObjs (delObjs (upd s (.slot d) (.one (.v r))) φ) φ') (a.put (some d) v) w' := by
  have hp := put_tmps a (some d) v
  have hφb : ∀ b ∈ φ.map (·.1), ∃ cs, get s (.heap b) = some (.row (List.map SV.v cs)) := by
    intro b hb
    obtain ⟨⟨b', cs'⟩, hm, rfl⟩ := List.mem_map.1 hb
    exact ⟨cs', hφ b' cs' hm⟩
  have T : Trans X G a w { D := D', ν := G.ν, τ := G.τ } (a.put (some d) v) w' (fun b => b ∈ φ.map (·.1)) := by
    refine ⟨hp.1, fun h => h.keep hp.2 fun D hD => (hx.block D (Array.getElem?_eq_some_iff.1 hD).1 fun hm => ?_).trans hD, hx.os, hx.tape, hx.output, hx.size, fun b hb hn => hx.block b hb hn, fun b hb => ?_, hx.grow, fun b o hD hn => ⟨.inl (hx.new b o hD hn), hwf.there b o hD⟩, R.nil⟩
    · obtain ⟨cs, hg⟩ := hφb D hm
      obtain ⟨c, e, h4, _⟩ := R.holds _ _ hg
      rw [hD] at h4; cases h4
    · obtain ⟨cs, hg⟩ := hφb b hb
      exact (R.own _ _ b hg rfl).imp id And.left
  refine R.step T (fun l u => (l = .slot d ∧ u = .one (.v r)) ∨ ∃ b cs, l = .heap b ∧ u = .row (cs.map SV.v) ∧ (b, cs) ∈ φ') (fun l u h => ?_) (fun l u h => ?_) (fun l u l' u' b h h' hb hb' => ?_)
  · rcases get_addObjs _ _ _ _ h with h | ⟨h, hne⟩
    · exact .inl (.inr h)
    · obtain ⟨h, hn⟩ := get_delObjs _ _ _ _ h
      · rw [get_upd] at h
        split at h
        · rename_i hl; cases h; exact .inl (.inl ⟨hl.symm, rfl⟩)
        · rename_i hl
          refine .inr ⟨h, fun n hn => put_get_ne _ _ _ _ (fun e => hl (by rw [hn, e])), fun b hb hB => ?_, fun _ _ => rfl, fun _ _ => rfl⟩
          obtain ⟨cs, hg⟩ := hφb b hB
          exact hn b hB (R.sep _ _ _ _ b hg h rfl hb).symm
  · rcases h with ⟨rfl, rfl⟩ | ⟨b, cs, rfl, rfl, hm⟩
    · refine ⟨?_, fun b hb => by cases hb⟩
      show RV D' w' r _
      rw [put_get_same _ _ _ (by rw [R.size]; exact hd)]
      exact hr
    · refine ⟨blk_of_heapOK hh hm, fun b' hb' => ?_⟩
      simp only [blkOf, Option.some.injEq] at hb'
      subst hb'
      have hmm : b ∈ φ'.map (·.1) := List.mem_map.2 ⟨_, hm, rfl⟩
      refine ⟨(hids b hmm).symm, ?_, fun _ o => hh.nodata b cs hm o⟩
      rcases hids b hmm with h1 | h1
      · obtain ⟨cs', hg⟩ := hφb b h1
        exact R.own _ _ b hg rfl
      · exact .inl (Nat.le_trans R.ext.size h1)
  · rcases h with ⟨rfl, rfl⟩ | ⟨b1, cs, rfl, rfl, hm⟩
    · cases hb
    · rcases h' with ⟨rfl, rfl⟩ | ⟨b2, cs', rfl, rfl, hm'⟩
      · cases hb'
      · simp only [blkOf, Option.some.injEq] at hb hb'
        rw [hb, hb']

theorem run_callFunc {P : Program} {f : FuncId} (h : Callable P f) (args : Array Value) (w : World) : (callFunc f args).run P w = .ok (.enter f args) w := by
  obtain ⟨fn, h1, h2, h3⟩ := h
  have h4 : fn.body.isNone = false := by cases hb : fn.body <;> simp_all
  simp only [callFunc, Sem.run_bind, run_program, Result.andThen_ok, h1, h3, h4, Bool.false_eq_true, if_false, Sem.run_pure]

/-- A CALL, BY ITS CONTRACT -/
theorem StepCall {o : Oper} {f : FuncId} {x : Operand} {args : Array Operand} {ats : Array TypeId} (ho : o.op = .call { callee := .value x, args := args, argTypes := ats }) {fi ca : Array Value}
    (hx : evl X (get s) x = some (.v (.prim (.func (.func f) fi ca)))) {ds : List DV} (hargs : ∃ d0, evlDs X (get s) args.toList = some d0 ∧ ds = fi.toList.map DV.prim ++ d0 ++ ca.toList.map DV.prim) (hprim : ∀ v ∈ fi.toList ++ ca.toList, primOK v)
    {φ : Objs} {R : DV → Objs → Prop} (hc : Con X.P X.gl f ds φ R) (hφ : objsIn (get s) φ) (hnd : (φ.map (·.1)).Nodup) {d : Nat} (hd : o.dst = some d) (hdn : d < X.n) {G : Gh} {a : Act} {w : World} (R0 : Rel X G s a w) (next : Act → World → Prop) (Q : Exit → Act → World → Prop)
    (hk : ∀ r φ' G' a' w', R r φ' → (∀ b ∈ φ'.map (·.1), b ∈ φ.map (·.1) ∨ ∀ l v, get s l = some v → blkOf G l v ≠ some b) → Rel X G' (addObjs (delObjs (upd s (.slot d) (.one (.v r))) φ) φ') a' w' → next a' w') : o.wpIn X.F 0 X.P a w next Q := by
  obtain ⟨d0, hd0, rfl⟩ := hargs
  have hxv := (prim_of (evl_sound R0 hx)).1
  obtain ⟨q1, q2⟩ := evlDs_sound R0 hd0
  have q1' : args.size = d0.length := by simpa using q1
  refine opIn (by intro c e; rw [ho] at e; cases e) ?_
  have hrun : (execOp a.eval o).run X.P w = .ok (.enter f (fi ++ args.map a.eval ++ ca)) w := by
    simp [execOp, ho, resolve, hxv, Deferred.ofValue, invoke, run_callFunc hc.1]
  rw [hrun, upn_enter]
  have hpr : ∀ v ∈ fi.toList ++ ca.toList, RV G.D w (.prim v) v := fun v hv => .prim v (hprim v hv)
  refine (hc.2 G.D w _ R0.wf ?_ ?_ (heapOK_of R0 hφ hnd)).mono ?_
  · simp [← q1]
  · intro i x v hx hv
    have hl : (fi ++ args.map a.eval ++ ca).toList = fi.toList ++ args.toList.map a.eval ++ ca.toList := by simp
    have hv' : (fi.toList ++ args.toList.map a.eval ++ ca.toList)[i]? = some v := by rw [← hl, Array.getElem?_toList]; exact hv
    by_cases h1 : i < fi.size
    · rw [List.append_assoc, List.getElem?_append_left (by simpa using h1)] at hx hv'
      rw [List.getElem?_map] at hx
      rw [hv'] at hx
      cases hx
      exact hpr v (List.mem_append.2 (.inl (List.mem_of_getElem? hv')))
    · by_cases h2 : i < fi.size + args.size
      · rw [List.append_assoc, List.getElem?_append_right (by simp; omega), List.getElem?_append_left (by simp; omega)] at hx hv'
        simp only [List.length_map, Array.length_toList] at hx hv'
        exact q2 _ _ _ hx hv'
      · rw [List.getElem?_append_right (by simp; omega)] at hx hv'
        simp only [List.length_append, List.length_map, Array.length_toList, ← q1'] at hx hv'
        rw [List.getElem?_map] at hx
        rw [hv'] at hx
        cases hx
        exact hpr v (List.mem_append.2 (.inr (List.mem_of_getElem? hv')))
  · rintro e w' ⟨v, D', r, φ', rfl, hR, hext, hwf, hrv, hh, hids⟩
    rw [hd]
    refine hk r φ' _ _ w' hR (fun b hb => ?_) (R0.call hφ hext hwf hrv hh hids hdn)
    rcases hids b hb with h | h
    · exact .inl h
    · exact .inr fun l v hg hbl => by
        have := blk_lt (R0.holds l v hg) hbl
        omega

theorem StepOK_call1 {o : Oper} {f : FuncId} {args : Array Operand} {ats : Array TypeId} (ho : o.op = .call { callee := .value (.func f), args := args, argTypes := ats })
    {ds : List DV} (hargs : evlDs X (get s) args.toList = some ds) {φ φ' : Objs} {r : DV} (hc : Con1 X.P X.gl f ds φ r φ') (hφ : objsIn (get s) φ) (hnd : (φ.map (·.1)).Nodup) {d : Nat} (hd : o.dst = some d) (hdn : d < X.n) :
    StepOK X s o (addObjs (delObjs (upd s (.slot d) (.one (.v r))) φ) φ') := by
  intro G a w R next Q hK
  refine StepCall (fi := #[]) (ca := #[]) ho rfl ⟨ds, hargs, by simp⟩ (by simp) hc hφ hnd hd hdn R next Q ?_
  rintro r' ψ G' a' w' ⟨rfl, rfl⟩ _ R'
  exact hK G' a' w' R'

/-- HOW A CONTRACT IS PROVED: the function's code is left, from the state in which it is entered -/
theorem Con_intro {P : Program} {gl : Globs} {f : FuncId} {args : List DV} {φ : Objs} {R : DV → Objs → Prop} {fn : Func} {body : Code} (hf : P.funcs[f]? = some fn) (hb : fn.body = some body) (hname : (fn.name == "runtime.NumGoroutine") = false)
    (hn : args.length ≤ fn.ntmps)
    (h : ∀ X : Ctx, X.P = P → X.gl = gl → X.f = f → X.fn = fn → X.n = fn.ntmps → X.R = R ∧ X.md = .fn → X.ids = φ.map (·.1) → (∀ x ∈ args, DV.fit x) → W X [.code body] (entry args φ)) : Con P gl f args φ R := by
  refine ⟨⟨fn, hf, by simp [hb], hname⟩, ?_⟩
  intro D w vs hwf hsz hargs hheap cs
  let X : Ctx := { P := P, gl := gl, f := f, fn := fn, n := fn.ntmps, ids := φ.map (·.1), D0 := D, w0 := w, R := R, md := .fn }
  have hfit : ∀ x ∈ args, DV.fit x := by
    intro x hx
    obtain ⟨i, hi, rfl⟩ := List.mem_iff_getElem.1 hx
    exact RV.fit (hargs i _ vs[i] (List.getElem?_eq_getElem hi) (Array.getElem?_eq_getElem (by omega)))
  have hW := h X rfl rfl rfl rfl rfl ⟨rfl, rfl⟩ rfl hfit
  let a : Act := { tmps := vs ++ Array.replicate (fn.ntmps - vs.size) undef, defers := [] }
  have Rl : Rel X { D := D, ν := fun _ => 0, τ := fun _ => (none, 0) } (entry args φ) a w := by
    have hget : ∀ l v, get (entry args φ) l = some v → (∃ i x, l = .slot i ∧ v = .one (.v x) ∧ args[i]? = some x) ∨ ∃ b cs, l = .heap b ∧ v = .row (cs.map SV.v) ∧ (b, cs) ∈ φ := by
      intro l v hl
      unfold entry at hl
      rw [get_append] at hl
      rcases Option.or_eq_some_iff.1 hl with hl | ⟨-, hl⟩
      · obtain ⟨i, x, h1, h2, h3⟩ := get_argSt hl
        exact .inl ⟨i, x, by simpa using h1, h2, h3⟩
      · exact .inr (get_heapSt hl)
    refine ⟨by simp [a, X]; omega, ⟨[], rfl, List.nodup_nil, by simp⟩, Ext.refl _ _ _, hwf, rfl, fun l v hl => ?_, fun l v l' v' b hl hl' hb hb' => ?_, fun l v b hl hb => ?_, fun l v b o hl hb _ => ?_⟩
    · rcases hget l v hl with ⟨i, x, rfl, rfl, hx⟩ | ⟨b, cs, rfl, rfl, hm⟩
      · have hi : i < vs.size := by rw [hsz]; exact (List.getElem?_eq_some_iff.1 hx).1
        have hv : vs[i]? = some vs[i] := Array.getElem?_eq_getElem hi
        show RV D w x _
        have : a.tmps.getD i undef = vs[i] := by
          simp [a, Array.getElem?_append_left hi, hv]
        rw [this]
        exact hargs i x _ hx hv
      · exact blk_of_heapOK (G := { D := D, ν := fun _ => 0, τ := fun _ => (none, 0) }) hheap hm
    · rcases hget l v hl with ⟨i, x, rfl, rfl, hx⟩ | ⟨b1, cs, rfl, rfl, hm⟩
      · cases hb
      · rcases hget l' v' hl' with ⟨i, x, rfl, rfl, hx⟩ | ⟨b2, cs', rfl, rfl, hm'⟩
        · cases hb'
        · simp only [blkOf, Option.some.injEq] at hb hb'
          rw [hb, hb']
    · rcases hget l v hl with ⟨i, x, rfl, rfl, hx⟩ | ⟨b1, cs, rfl, rfl, hm⟩
      · cases hb
      · simp only [blkOf, Option.some.injEq] at hb
        subst hb
        exact .inr ⟨List.mem_map.2 ⟨_, hm, rfl⟩, rfl⟩
    · rcases hget l v hl with ⟨i, x, rfl, rfl, hx⟩ | ⟨b1, cs, rfl, rfl, hm⟩
      · cases hb
      · simp only [blkOf, Option.some.injEq] at hb
        subst hb
        exact hheap.nodata _ _ hm o
  let b : Frame := { (default : Frame) with fn := f, kind := .normal }
  have henter : Frame.enter P f vs .normal = b.atR a [.code body] := by
    simp [Frame.enter, Frame.atR, hf, hb, b, a]; rfl
  obtain ⟨w', fr, ⟨v, ⟨D', r, φ', k1, k2, k3, k4, k5, k6⟩, h3, h4⟩, h2⟩ := hW _ a w b cs rfl rfl rfl Rl
  rw [← henter] at h2
  exact ⟨.returned v, w', fr, ⟨v, D', r, φ', rfl, k1, k2, k3, k4, k5, k6⟩, h2, h3, h4⟩

/-- A STATE TOLD OTHERWISE: what is claimed (s') follows from what is known (s); rooms are renamed -/
def svLe (σ : Nat → Nat) : SV → SV → Prop
  | .v x, .v y => x = y
  | .v x, .own _ els => x = .sl els
  | .loc k off, .loc k' off' => k = k' ∧ off = off'
  | .dp els i off, .dp els' i' off' => els = els' ∧ i = i' ∧ off = off'
  | .own t els, .own t' els' => σ t = t' ∧ els = els'
  | .v x, .ag cs _ => x = .agg cs
  | .ag cs ns, .ag cs' ns' => cs = cs' ∧ ns = ns'
  | _, _ => False

def rowLe (σ : Nat → Nat) : List SV → List SV → Prop
  | [], [] => True
  | x :: r, y :: t => svLe σ x y ∧ rowLe σ r t
  | _, _ => False

def lvLe (σ : Nat → Nat) : LV → Option LV → Prop
  | .one x, some (.one y) => svLe σ x y
  | .row cs, some (.row ds) => rowLe σ cs ds
  | .ob r, some (.ob q) => r = q
  | _, _ => False

def factLe (σ : Nat → Nat) (s : St) (l : Loc) (v : LV) : Prop :=
  match l, v with
  | .tok t, .tk E n => (σ t = 0 ∧ n = 0) ∨ (σ t ≠ 0 ∧ get s (.tok (σ t)) = some (.tk E n))
  | l, v => lvLe σ v (get s l)

def subLe (σ : Nat → Nat) (s : St) : St → Prop
  | [] => True
  | (l, v) :: r => factLe σ s l v ∧ subLe σ s r

def ren : List (Nat × Nat) → Nat → Nat
  | [], n => n
  | (x, y) :: r, n => if n = x then y else ren r n

def toksOf : St → List Nat
  | [] => []
  | (.tok t, _) :: r => t :: toksOf r
  | _ :: r => toksOf r

theorem svLe_sound {G : Gh} {w : World} {σ : Nat → Nat} {x y : SV} {v : Value} (h : svLe σ x y) (hr : RSV G w y v) : RSV { D := G.D, ν := G.ν, τ := fun t => G.τ (σ t) } w x v := by
  cases x <;> cases y <;> simp only [svLe] at h
  · subst h; exact hr
  · subst h; exact hr.2
  · subst h; exact hr.1
  · obtain ⟨rfl, rfl⟩ := h; exact hr
  · obtain ⟨rfl, rfl, rfl⟩ := h; exact hr
  · obtain ⟨rfl, rfl⟩ := h; exact hr
  · obtain ⟨rfl, rfl⟩ := h; exact hr

theorem svLe_cell {σ : Nat → Nat} {x y : SV} (h : svLe σ x y) (hc : y.isCell = true) : x.isCell = true := by
  cases x <;> cases y <;> simp only [svLe] at h
  · subst h; exact hc
  · subst h; rfl
  · cases hc
  · rfl
  · rfl
  · rfl
  · cases hc

theorem rowLe_sound {σ : Nat → Nat} : ∀ {cs ds : List SV}, rowLe σ cs ds → cs.length = ds.length ∧ ∀ (i : Nat) (x : SV), cs[i]? = some x → ∃ y, ds[i]? = some y ∧ svLe σ x y
  | [], [], _ => ⟨rfl, by simp⟩
  | x :: r, y :: t, h => by
    obtain ⟨h1, h2⟩ := h
    obtain ⟨k1, k2⟩ := rowLe_sound h2
    refine ⟨by simp [k1], fun i z hz => ?_⟩
    cases i with
    | zero => simp at hz; subst hz; exact ⟨y, rfl, h1⟩
    | succ i => obtain ⟨q, hq⟩ := k2 i z (by simpa using hz); exact ⟨q, by simpa using hq.1, hq.2⟩
  | [], _ :: _, h => h.elim
  | _ :: _, [], h => h.elim

theorem subLe_get {σ : Nat → Nat} {s : St} : ∀ {s' : St}, subLe σ s s' → ∀ l v, get s' l = some v → factLe σ s l v
  | [], _, l, v, h => by cases h
  | (m, u) :: r, h, l, v, hg => by
    simp only [get] at hg
    split at hg
    · cases hg; subst_vars; exact h.1
    · exact subLe_get h.2 l v hg

theorem toksOf_mem {s : St} {t : Nat} {v : LV} (h : get s (.tok t) = some v) : t ∈ toksOf s := by
  induction s with
  | nil => cases h
  | cons p r ih =>
    obtain ⟨m, u⟩ := p
    simp only [get] at h
    split at h
    · subst_vars; simp [toksOf]
    · cases m <;> simp only [toksOf] <;> first | exact ih h | exact List.mem_cons_of_mem _ (ih h)

/-- no two rooms that are in use come from one -/
def tokInj (σ : Nat → Nat) : List Nat → Prop
  | [] => True
  | t :: r => (σ t = 0 ∨ ∀ t' ∈ r, t' = t ∨ σ t' ≠ σ t) ∧ tokInj σ r

theorem tokInj_spec {σ : Nat → Nat} : ∀ {l : List Nat}, tokInj σ l → ∀ t ∈ l, ∀ t' ∈ l, σ t ≠ 0 → σ t = σ t' → t = t'
  | [], _, t, h, _, _, _, _ => by cases h
  | x :: r, h, t, ht, t', ht', hne, he => by
    obtain ⟨h1, h2⟩ := h
    rcases List.mem_cons.1 ht with e1 | m1
    · rcases List.mem_cons.1 ht' with e2 | m2
      · rw [e1, e2]
      · rw [e1] at hne he
        rcases h1 with h1 | h1
        · exact absurd h1 hne
        · rcases h1 t' m2 with h | h
          · rw [e1, h]
          · exact absurd he.symm h
    · rcases List.mem_cons.1 ht' with e2 | m2
      · rw [e2] at he
        rcases h1 with h1 | h1
        · exact absurd (he.trans h1) hne
        · rcases h1 t m1 with h | h
          · rw [e2, h]
          · exact absurd he h
      · exact tokInj_spec h2 t m1 t' m2 hne he

theorem Rel.sub {G : Gh} {a : Act} {w : World} (R : Rel X G s a w) (l : List (Nat × Nat)) {s' : St} (h0 : ren l 0 = 0) (hs : subLe (ren l) s s') (hi : tokInj (ren l) (toksOf s')) : Rel X { D := G.D, ν := G.ν, τ := fun t => G.τ (ren l t) } s' a w := by
  have key : ∀ m v, get s' m = some v → (∃ t E n, m = .tok t ∧ v = .tk E n ∧ ((ren l t = 0 ∧ n = 0) ∨ (ren l t ≠ 0 ∧ get s (.tok (ren l t)) = some (.tk E n)))) ∨ (m.isTok = false ∧ ∃ u, get s m = some u ∧ lvLe (ren l) v (some u)) := by
    intro m v hg
    have hf := subLe_get hs m v hg
    unfold factLe at hf
    split at hf
    · rename_i t E n; exact .inl ⟨t, E, n, rfl, rfl, hf⟩
    · rename_i hne
      cases hu : get s m with
      | none => rw [hu] at hf; cases v <;> exact hf.elim
      | some u =>
        rw [hu] at hf
        refine .inr ⟨?_, u, rfl, hf⟩
        cases m with
        | tok t =>
          cases v with
          | tk E n => exact (hne t E n rfl rfl).elim
          | one x =>
            have := R.holds _ _ hu
            cases u with
            | tk E n => exact hf.elim
            | one y => exact this.elim
            | row cs => exact this.elim
            | ob r => exact this.elim
          | row cs =>
            have := R.holds _ _ hu
            cases u with
            | tk E n => exact hf.elim
            | one y => exact this.elim
            | row cs => exact this.elim
            | ob r => exact this.elim
          | ob r =>
            have := R.holds _ _ hu
            cases u with
            | tk E n => exact hf.elim
            | one y => exact this.elim
            | row cs => exact this.elim
            | ob r => exact this.elim
        | _ => rfl
  have hblk : ∀ m v b, get s' m = some v → blkOf { D := G.D, ν := G.ν, τ := fun t => G.τ (ren l t) } m v = some b → (∃ t E n, m = .tok t ∧ v = .tk E n ∧ ren l t ≠ 0 ∧ get s (.tok (ren l t)) = some (.tk E n) ∧ blkOf G (.tok (ren l t)) (.tk E n) = some b) ∨ (m.isTok = false ∧ ∃ u, get s m = some u ∧ blkOf G m u = some b) := by
    intro m v b hg hb
    rcases key m v hg with ⟨t, E, n, rfl, rfl, h⟩ | ⟨h1, u, h2, h3⟩
    · rcases h with ⟨h1, rfl⟩ | ⟨h1, h2⟩
      · simp only [blkOf, tokBlk, h1, R.nil] at hb
        cases hb
      · exact .inl ⟨t, E, n, rfl, rfl, h1, h2, hb⟩
    · refine .inr ⟨h1, u, h2, ?_⟩
      cases m with
      | slot n => cases v <;> cases hb
      | tok t => cases h1
      | loc q => cases v with
        | row cs => cases u with
          | row ds => exact hb
          | _ => exact h3.elim
        | ob r => cases u with
          | ob q => exact hb
          | _ => exact h3.elim
        | _ => cases hb
      | heap q => cases v with
        | row cs => cases u with
          | row ds => exact hb
          | _ => exact h3.elim
        | ob r => cases u with
          | ob q => exact hb
          | _ => exact h3.elim
        | _ => cases hb
  have hrow : ∀ b cs ds, rowLe (ren l) cs ds → BlkAt G w b ds → BlkAt { D := G.D, ν := G.ν, τ := fun t => G.τ (ren l t) } w b cs := by
    rintro b cs ds hle ⟨c, e, h1, h2, h3⟩
    obtain ⟨k1, k2⟩ := rowLe_sound hle
    refine ⟨c, e, h1, by omega, fun i x hx => ?_⟩
    obtain ⟨y, hy, hxy⟩ := k2 i x hx
    obtain ⟨q1, v, q2, q3⟩ := h3 i y hy
    exact ⟨svLe_cell hxy q1, v, q2, svLe_sound hxy q3⟩
  refine ⟨R.size, R.defers, R.ext, R.wf, by simp only [h0]; exact R.nil, fun m v hg => ?_, fun m v m' v' b hg hg' hb hb' => ?_, fun m v b hg hb => ?_, fun m v b o hg hb ht => ?_⟩
  · rcases key m v hg with ⟨t, E, n, rfl, rfl, h⟩ | ⟨h1, u, h2, h3⟩
    · rcases h with ⟨h1, rfl⟩ | ⟨h1, h2⟩
      · simp only [Holds, TokAt, h1, R.nil, and_self]
      · exact R.holds _ _ h2
    · have hh := R.holds _ _ h2
      cases m with
      | tok t => cases h1
      | slot n => cases v with
        | one x => cases u with
          | one y => exact svLe_sound h3 hh
          | _ => exact h3.elim
        | _ => cases u <;> first | exact hh.elim | exact h3.elim
      | loc q => cases v with
        | row cs => cases u with
          | row ds => exact hrow _ _ _ h3 hh
          | _ => exact h3.elim
        | _ => cases u <;> first | exact hh.elim | exact h3.elim
      | heap q => cases v with
        | row cs => cases u with
          | row ds => exact hrow _ _ _ h3 hh
          | _ => exact h3.elim
        | ob r => cases u with
          | ob q => obtain rfl : r = q := h3; exact hh
          | _ => exact h3.elim
        | _ => cases u <;> first | exact hh.elim | exact h3.elim
  · rcases hblk m v b hg hb with ⟨t, E, n, rfl, rfl, h1, h2, h3⟩ | ⟨h1, u, h2, h3⟩
    · rcases hblk m' v' b hg' hb' with ⟨t', E', n', rfl, rfl, k1, k2, k3⟩ | ⟨k1, u', k2, k3⟩
      · have := R.sep _ _ _ _ b h2 k2 h3 k3
        simp only [Loc.tok.injEq] at this
        rw [tokInj_spec hi t (toksOf_mem hg) t' (toksOf_mem hg') h1 this]
      · have := R.sep _ _ _ _ b h2 k2 h3 k3
        subst this
        cases k1
    · rcases hblk m' v' b hg' hb' with ⟨t', E', n', rfl, rfl, k1, k2, k3⟩ | ⟨k1, u', k2, k3⟩
      · have := R.sep _ _ _ _ b h2 k2 h3 k3
        subst this
        cases h1
      · exact R.sep _ _ _ _ b h2 k2 h3 k3
  · rcases hblk m v b hg hb with ⟨t, E, n, rfl, rfl, h1, h2, h3⟩ | ⟨h1, u, h2, h3⟩
    · rcases R.own _ _ b h2 h3 with h | ⟨_, h⟩
      · exact .inl h
      · cases h
    · rcases R.own _ _ b h2 h3 with h | ⟨h, _⟩
      · exact .inl h
      · exact .inr ⟨h, h1⟩
  · rcases hblk m v b hg hb with ⟨t, E, n, rfl, rfl, h1, h2, h3⟩ | ⟨h1, u, h2, h3⟩
    · cases ht
    · exact R.data _ _ b o h2 h3 h1

theorem W_sub (l : List (Nat × Nat)) {s' : St} (h0 : ren l 0 = 0) (hs : subLe (ren l) s s') (hi : tokInj (ren l) (toksOf s')) (h : W X k s') : W X k s :=
  fun _ a w b cs hf hk hr R => h _ a w b cs hf hk hr (R.sub l h0 hs hi)

/-- A LOOP: what holds at the head of each round (I), the state there (S), what goes down (μ) -/
theorem W_rounds {α : Type} (I : α → Prop) (S : α → St) (μ : α → Nat) {c : Code} (x0 : α) (h0 : I x0)
    (round : ∀ x, I x → (∀ y, I y → μ y < μ x → W X (.inLoop c :: k) (S y)) → W X (.code c :: .inLoop c :: k) (S x)) : W X (.code (.loop c) :: k) (S x0) := by
  refine W_loop ?_
  have key : ∀ n x, μ x = n → I x → W X (.code c :: .inLoop c :: k) (S x) := by
    intro n
    induction n using Nat.strongRecOn with
    | _ n ih =>
      intro x hx hi
      exact round x hi fun y hy hlt => W_inLoop (ih (μ y) (hx ▸ hlt) y rfl hy)
  exact key _ x0 rfl h0

/-- a loop over n places, counted from 0 -/
theorem W_for (n : Nat) (S : Nat → St) {c : Code} (round : ∀ i, i < n → W X (.inLoop c :: k) (S (i + 1)) → W X (.code c :: .inLoop c :: k) (S i)) (last : W X (.code c :: .inLoop c :: k) (S n)) : W X (.code (.loop c) :: k) (S 0) := by
  refine W_rounds (fun i => i ≤ n) S (fun i => n - i) 0 (Nat.zero_le _) fun i hi ih => ?_
  by_cases h : i < n
  · exact round i h (ih (i + 1) h (by omega))
  · obtain rfl : i = n := by omega
    exact last

end
end Go.Proofs.YtbmnlkfgkdallaaGreatDoor.Lift
