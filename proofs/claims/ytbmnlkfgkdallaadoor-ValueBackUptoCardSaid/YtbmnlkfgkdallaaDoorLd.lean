/-
  Part D of the small logic: literals of structs and arrays; pval_sound.
-/
import Derived.Test.YtbmnlkfgkdallaaDoorLc
namespace Go.Proofs.YtbmnlkfgkdallaaDoor.Lift
set_option linter.unusedSimpArgs false
set_option linter.unusedVariables false
set_option linter.unnecessarySimpa false
open Go
section
variable {X : Ctx} {G : Gh} {s : St} {a : Act} {w : World}

def RowOf (G : Gh) (w : World) (cs : List SV) (c : Array Value) : Prop :=
  c.size = cs.length ∧ ∀ (i : Nat) (x : SV) (v : Value), cs[i]? = some x → c[i]? = some v → RSV G w x v

theorem length_put : ∀ (off : Nat) (cs xs : List SV), off + xs.length ≤ cs.length → (put cs off xs).length = cs.length
  | 0, cs, xs, h => by simp [put]; omega
  | off + 1, [], xs, h => by simp [put]
  | off + 1, c :: r, xs, h => by simp [put, length_put off r xs (by simp at h; omega)]

theorem get_put : ∀ (off : Nat) (cs xs : List SV) (k : Nat), off + xs.length ≤ cs.length → (put cs off xs)[k]? = if off ≤ k ∧ k < off + xs.length then xs[k - off]? else cs[k]?
  | 0, cs, xs, k, h => by
    simp only [put, Nat.zero_le, true_and, Nat.zero_add, Nat.sub_zero]
    by_cases hk : k < xs.length
    · rw [List.getElem?_append_left hk, if_pos hk]
    · rw [List.getElem?_append_right (by omega), if_neg hk, List.getElem?_drop]
      congr 1; omega
  | off + 1, [], xs, k, h => by simp at h
  | off + 1, c :: r, xs, k, h => by
    cases k with
    | zero => simp [put]
    | succ k =>
      simp only [put, List.getElem?_cons_succ]
      rw [get_put off r xs k (by simp at h; omega)]
      by_cases hk : off ≤ k ∧ k < off + xs.length
      · rw [if_pos hk, if_pos (by omega)]; congr 1; omega
      · rw [if_neg hk, if_neg (by omega)]

def setAll (c : Array Value) (off : Nat) (vs : Array Value) : Array Value := vs.zipIdx.foldl (fun cs (v, j) => cs.setIfInBounds (off + j) v) c

theorem setAll_list (off : Nat) : ∀ (l : List Value) (k : Nat) (c : Array Value), off + k + l.length ≤ c.size →
    ((l.zipIdx k).foldl (fun cs (p : Value × Nat) => cs.setIfInBounds (off + p.2) p.1) c).size = c.size ∧
    ∀ i, ((l.zipIdx k).foldl (fun cs (p : Value × Nat) => cs.setIfInBounds (off + p.2) p.1) c)[i]? = if off + k ≤ i ∧ i < off + k + l.length then l[i - (off + k)]? else c[i]?
  | [], k, c, h => by
    refine ⟨by simp, fun i => ?_⟩
    simp; intro h1 h2; omega
  | v :: r, k, c, h => by
    simp only [List.zipIdx_cons, List.foldl_cons]
    simp only [List.length_cons] at h
    obtain ⟨h1, h2⟩ := setAll_list off r (k + 1) (c.setIfInBounds (off + k) v) (by simp; omega)
    refine ⟨by rw [h1]; simp, fun i => ?_⟩
    rw [h2]
    by_cases hi : off + (k + 1) ≤ i ∧ i < off + (k + 1) + r.length
    · rw [if_pos hi, if_pos (by simp; omega)]
      rw [show i - (off + k) = (i - (off + (k + 1))) + 1 from by omega]
      simp
    · rw [if_neg hi]
      by_cases he : i = off + k
      · subst he
        rw [if_pos (by simp)]
        have : off + k < c.size := by omega
        simp [this]
      · rw [if_neg (by simp; omega), Array.getElem?_setIfInBounds_ne (by omega)]

theorem setAll_spec (c : Array Value) (off : Nat) (vs : Array Value) (h : off + vs.size ≤ c.size) : (setAll c off vs).size = c.size ∧ ∀ i, (setAll c off vs)[i]? = if off ≤ i ∧ i < off + vs.size then vs[i - off]? else c[i]? := by
  have := setAll_list off vs.toList 0 c (by simpa using h)
  unfold setAll
  rw [← Array.foldl_toList, Array.toList_zipIdx]
  simpa using this

theorem RowOf.put {cs xs : List SV} {c vs : Array Value} {off : Nat} (h : RowOf G w cs c) (k : RowOf G w xs vs) (hle : off + xs.length ≤ cs.length) : RowOf G w (put cs off xs) (setAll c off vs) := by
  have hs := setAll_spec c off vs (by rw [k.1, h.1]; exact hle)
  refine ⟨by rw [hs.1, length_put _ _ _ hle]; exact h.1, fun i x v hx hv => ?_⟩
  rw [get_put _ _ _ _ hle] at hx
  rw [hs.2, k.1] at hv
  by_cases hi : off ≤ i ∧ i < off + xs.length
  · rw [if_pos hi] at hx hv; exact k.2 _ _ _ hx hv
  · rw [if_neg hi] at hx hv; exact h.2 _ _ _ hx hv

theorem zeroS_sound (hn : G.τ 0 = (none, 0)) : ∀ {l : List Value} {cs : List SV}, zeroS l = some cs → RowOf G w cs l.toArray
  | [], cs, h => by cases h; exact ⟨rfl, by simp⟩
  | v :: r, cs, h => by
    simp only [zeroS] at h
    split at h
    · rename_i x xs hx hxs
      cases h
      have ih := zeroS_sound hn hxs
      refine ⟨by simpa using ih.1, fun i c u hc hu => ?_⟩
      cases i with
      | zero => simp at hc hu; subst hc hu; exact constS_sound hn hx
      | succ i => exact ih.2 i c u (by simpa using hc) (by simpa using hu)
    · cases h

theorem fillS_sound (R : Rel X G s a w) (pl : List (Nat × Nat)) (place : Nat → Option (Nat × Nat)) (hp : ∀ i q, pl[i]? = some q → place i = some q) : ∀ (parts : List (Nat × Operand)) (cs : List SV) (c : Array Value) (cs' : List SV), RowOf G w cs c → fillS pl X (get s) cs parts = some cs' →
    ∃ c', Instr.fill place c (parts.map fun q => (q.1, a.eval q.2)) = some c' ∧ RowOf G w cs' c'
  | [], cs, c, cs', hr, h => by cases h; exact ⟨c, rfl, hr⟩
  | (i, x) :: rest, cs, c, cs', hr, h => by
    simp only [fillS] at h
    split at h
    · rename_i off size y hpl hy
      split at h
      · rename_i hc
        obtain ⟨hc1, hc2⟩ := hc
        have hv := cellsS_sound R.nil (evl_sound R hy)
        have hrow : RowOf G w (cellsS y) (a.eval x).cells := hv
        obtain ⟨c', h1, h2⟩ := fillS_sound R pl place hp rest _ _ cs' (hr.put hrow (by rw [hc1]; exact hc2)) h
        refine ⟨c', ?_, h2⟩
        simp only [List.map_cons, Instr.fill, hp _ _ hpl]
        rw [if_neg]
        · exact h1
        · have e1 := hr.1
          have e2 := hv.1
          simp only [Bool.or_eq_true, decide_eq_true_eq, not_or]
          omega
      · cases h
    · cases h

theorem toDs_row {cs : List SV} {c : Array Value} {ds : List DV} (h : RowOf G w cs c) (hd : toDs cs = some ds) : c.size = ds.length ∧ ∀ (i : Nat) (d : DV) (v : Value), ds[i]? = some d → c[i]? = some v → RV G.D w d v := by
  obtain ⟨h1, h2⟩ := toDs_get hd
  refine ⟨h.1.trans h1, fun i d v hi hv => ?_⟩
  obtain ⟨x, hx, hxd⟩ := h2 i d hi
  exact toD_sound hxd (h.2 i x v hx hv)

theorem cellB_iff (l : List DV) : cellB l = true ↔ ∀ c ∈ l, c.isCell = true := by
  induction l with
  | nil => simp [cellB]
  | cons c r ih => simp [cellB, ih]

theorem run_build_struct {P : Program} {t : TypeId} {z : List SV} {pl : List (Nat × Nat)} (hz : zeroT P t = some z) (hpl : placesT P t = some pl) (hn : G.τ 0 = (none, 0)) :
    ∃ zc place, RowOf G w z zc ∧ (∀ i q, pl[i]? = some q → place i = some q) ∧ ∀ (parts : Array (Nat × Value)) (c' : Array Value), Instr.fill place zc parts.toList = some c' → (Instr.build t parts).run P w = .ok (.agg c') w := by
  unfold zeroT at hz
  split at hz
  · rename_i it hit
    split at hz
    · rename_i zv hzv
      have hrow := zeroS_sound (w := w) hn hz
      simp only [Array.toArray_toList] at hrow
      unfold placesT at hpl
      split at hpl
      · rename_i fields hu
        refine ⟨zv.cells, (pl.toArray[·]?), hrow, fun i q hq => by simpa using hq, fun parts c' hf => run_build w t parts c' ?_⟩
        unfold Program.built
        simp only [hit, hu, hzv, hpl]
        exact hf
      · rename_i n e hu
        cases hie : P.info? e with
        | none => simp [hie] at hpl
        | some ie =>
          simp [hie] at hpl
          subst hpl
          refine ⟨zv.cells, (fun i => some (i * ie.size, ie.size)), hrow, fun i q hq => ?_, fun parts c' hf => run_build w t parts c' ?_⟩
          · have hi : i < n := by
              have := (List.getElem?_eq_some_iff.1 hq).1; simpa using this
            simp [hi] at hq
            exact hq ▸ rfl
          · unfold Program.built
            simp only [hit, hu, hzv, hie]
            exact hf
      · cases hpl
    · cases hz
  · cases hz

theorem bool_run {P : Program} {t : TypeId} (h : boolT P t = true) : P.underlying t = some .bool := by
  unfold boolT at h
  split at h
  · assumption
  · cases h

theorem elem_run {P : Program} {t E : Nat} (h : elemT P t = some E) : ∃ e i, P.underlying t = some (.slice e) ∧ P.info? e = some i ∧ i.size = E := by
  unfold elemT at h
  split at h
  · rename_i e hu
    cases hi : P.info? e with
    | none => simp [hi] at h
    | some i => simp [hi] at h; exact ⟨e, i, hu, hi, h⟩
  · cases h

theorem arr_run {P : Program} {t n E : Nat} (h : arrT P t = some (n, E)) : ∃ e i, P.underlying t = some (.array n e) ∧ P.info? e = some i ∧ i.size = E := by
  unfold arrT at h
  split at h
  · rename_i n' e hu
    cases hi : P.info? e with
    | none => simp [hi] at h
    | some i => simp [hi] at h; obtain ⟨rfl, h⟩ := h; exact ⟨e, i, hu, hi, h⟩
  · cases h

theorem field_run {P : Program} {t f : Nat} {agg : Bool} {off n : Nat} (h : fieldT P t f = some (agg, off, n)) :
    ∃ fs fl, P.underlying t = some (.struct fs) ∧ fs[f]? = some fl ∧ layT P fl.type = some (agg, n) ∧ n ≠ 0 ∧ fl.offset = off := by
  unfold fieldT at h
  split at h
  · rename_i fs hu
    split at h
    · rename_i fl hf
      split at h
      · rename_i b m hl
        split at h
        · cases h
        · simp only [Option.some.injEq, Prod.mk.injEq] at h
          obtain ⟨rfl, rfl, rfl⟩ := h
          exact ⟨fs, fl, hu, hf, hl, by assumption, rfl⟩
      · cases h
    · cases h
  · cases h

theorem slOf_sound {x : SV} {els : List (List DV)} {v : Value} (h : slOf x = some els) (hr : RSV G w x v) : ∃ b cap, v = .slice b els.length cap ∧ RV G.D w (.sl els) v ∧ els.length ≤ cap := by
  have key : RV G.D w (.sl els) v → ∃ b cap, v = .slice b els.length cap ∧ RV G.D w (.sl els) v ∧ els.length ≤ cap := by
    intro h
    have h' := h
    cases h with
    | sl0 b cap => exact ⟨b, cap, rfl, h', Nat.zero_le _⟩
    | sl _ b o cap E val hlen hcap hE hcell hc hD hh => exact ⟨_, cap, rfl, h', hcap⟩
  cases x with
  | v x =>
    cases x with
    | sl e => cases h; exact key hr
    | _ => cases h
  | own t e => cases h; exact key hr.2
  | loc => cases h
  | dp => cases h
  | ag => cases h

/-- the element of a slice that is known -/
theorem dp_of_sl {els : List (List DV)} {v : Value} (hr : RV G.D w (.sl els) v) {i : Nat} {e : List DV} (he : els[i]? = some e) :
    ∃ b o cap, v = .slice (some ⟨b, o, none⟩) els.length cap ∧ RSV G w (.dp els i 0) (.pointer (some ⟨b, o + i * e.length, none⟩)) := by
  have hi : i < els.length := (List.getElem?_eq_some_iff.1 he).1
  have hr' := hr
  cases hr with
  | sl0 => simp at hi
  | sl _ b o cap E val hlen hcap hE hcell hc hD hh =>
    have : e.length = E := hE e (List.mem_of_getElem? he)
    subst this
    exact ⟨b, o, cap, rfl, b, o, e.length, cap, hr', hE, hi, rfl⟩

theorem field_part {P : Program} {t f : Nat} {agg : Bool} {off n : Nat} (h : fieldT P t f = some (agg, off, n)) {y c : DV} {v : Value} (hy : y.isAgg = true) (hv : RV G.D w y v) (hd : readD (cellsD y) agg off n = some c) :
    ∃ u, (Instr.field t v f).run P w = .ok u w ∧ RV G.D w c u := by
  obtain ⟨fs, fl, hu, hf, hl, hn, rfl⟩ := field_run h
  obtain ⟨l1, l2⟩ := run_lay (w := w) hl
  cases hv with
  | prim => cases hy
  | sl0 => cases hy
  | sl => cases hy
  | iface => cases hy
  | tup => cases hy
  | agg cs vs hl' hcell hh =>
    rw [show cellsD (DV.agg cs) = cs from rfl] at hd
    unfold readD at hd
    cases agg with
    | true =>
      simp only [if_true] at hd
      by_cases hlen : (List.take n (List.drop fl.offset cs)).length = n
      · rw [if_pos hlen] at hd
        cases hd
        simp at hlen
        refine ⟨.agg (vs.extract fl.offset (fl.offset + n)), by simp [Instr.field, run_underlying hu, hf, part, asAgg, l1, l2], ?_⟩
        refine .agg _ _ (by simp; omega) (fun c hc => hcell c (List.mem_of_mem_drop (List.mem_of_mem_take hc))) (fun i c v hc hv => ?_)
        have hi : i < n := by
          have := (List.getElem?_eq_some_iff.1 hc).1; simp at this; omega
        rw [List.getElem?_take_of_lt hi, List.getElem?_drop] at hc
        have hv' : vs[fl.offset + i]? = some v := by
          have := (Array.getElem?_eq_some_iff.1 hv).1
          simp at this
          rw [Array.getElem?_extract, if_pos (by omega)] at hv
          exact hv
        exact hh _ c v hc hv'
      · rw [if_neg hlen] at hd; cases hd
    | false =>
      simp only [Bool.false_eq_true, if_false] at hd
      have hlt : fl.offset < vs.size := by rw [hl']; exact (List.getElem?_eq_some_iff.1 hd).1
      have hv : vs[fl.offset]? = some vs[fl.offset] := Array.getElem?_eq_getElem hlt
      exact ⟨vs[fl.offset], by simp [Instr.field, run_underlying hu, hf, part, asAgg, l1, hv], hh _ c _ hd hv⟩

end
end Go.Proofs.YtbmnlkfgkdallaaDoor.Lift
