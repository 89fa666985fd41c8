/-
  Part H of the small logic: append to a slice of one's own.
-/
import Derived.Test.YtbmnlkfgkdallaaDoorLg
namespace Go.Proofs.YtbmnlkfgkdallaaDoor.Lift
set_option linter.unusedSimpArgs false
set_option linter.unusedVariables false
set_option linter.unnecessarySimpa false
open Go
section
variable {X : Ctx} {G : Gh} {s : St} {a : Act} {w : World}

/-- elements laid one behind the other -/
def Laid (D : Nat → Nat → Prop) (w : World) (E : Nat) (els : List (List DV)) (f : Nat → Value) : Prop :=
  ∀ (i j : Nat) (e : List DV) (d : DV), els[i]? = some e → e[j]? = some d → RV D w d (f (i * E + j))

theorem Laid.mono {D D' : Nat → Nat → Prop} {w w' : World} {E : Nat} {els : List (List DV)} {f : Nat → Value} (g : Grow D w D' w') (h : Laid D w E els f) : Laid D' w' E els f :=
  fun i j e d he hd => (h i j e d he hd).mono g

theorem lt_mul {n E i j : Nat} (hi : i < n) (hj : j < E) : i * E + j < n * E := by
  calc i * E + j < i * E + E := by omega
    _ = (i + 1) * E := by rw [Nat.add_mul, Nat.one_mul]
    _ ≤ n * E := Nat.mul_le_mul_right _ hi

theorem sl_laid {D : Nat → Nat → Prop} {w : World} {els : List (List DV)} {v : Value} {E : Nat} (h : RV D w (.sl els) v) (hE : ∀ e ∈ els, e.length = E) :
    (∀ e ∈ els, ∀ c ∈ e, DV.isCell c = true) ∧ ∃ f, Laid D w E els f ∧ (∀ k, k < els.length * E → (f k).oneCell' = true) ∧
      (els = [] ∧ (∃ b cap, v = .slice b 0 cap) ∨ ∃ b o cap, v = .slice (some ⟨b, o, none⟩) els.length cap ∧ ∀ k, k < els.length * E → w.cell? ⟨b, o + k, none⟩ = some (f k) ∧ D b (o + k)) := by
  cases h with
  | sl0 b cap => exact ⟨by simp, fun _ => undef, by intro _ _ e d he; simp at he, by simp, .inl ⟨rfl, b, cap, rfl⟩⟩
  | sl _ b o cap E' val hlen hcap hE' hcell hc hD hh =>
    refine ⟨hcell, fun k => val (k / E) (k % E), fun i j e d he hd => ?_, fun k hk => ?_, ?_⟩
    · have hj : j < E := by rw [← hE e (List.mem_of_getElem? he)]; exact (List.getElem?_eq_some_iff.1 hd).1
      have h1 : (i * E + j) / E = i := by rw [Nat.mul_comm, Nat.mul_add_div (by omega)]; simp [Nat.div_eq_of_lt hj]
      have h2 : (i * E + j) % E = j := by rw [Nat.mul_comm, Nat.mul_add_mod]; exact Nat.mod_eq_of_lt hj
      simp only [h1, h2]
      exact hh i j e d he hd
    · have hE0 : 0 < E := by rcases Nat.eq_zero_or_pos E with h0 | h0 <;> simp_all
      have hi : k / E < els.length := (Nat.div_lt_iff_lt_mul hE0).2 hk
      have he : els[k / E]? = some els[k / E] := List.getElem?_eq_getElem hi
      have hel := hE _ (List.getElem_mem hi)
      have hj : k % E < els[k / E].length := by rw [hel]; exact Nat.mod_lt _ hE0
      have hd : els[k / E][k % E]? = some els[k / E][k % E] := List.getElem?_eq_getElem hj
      exact RV.one (hh _ _ _ _ he hd) (hcell _ (List.getElem_mem hi) _ (List.getElem_mem hj))
    · cases hels : els with
      | nil => exact .inl ⟨rfl, _, cap, by simp; rfl⟩
      | cons e0 r =>
        rw [← hels]
        have hEE : E' = E := by rw [← hE' e0 (by simp [hels]), hE e0 (by simp [hels])]
        subst hEE
        refine .inr ⟨b, o, cap, rfl, fun k hk => ?_⟩
        have hE0 : 0 < E' := by rcases Nat.eq_zero_or_pos E' with h0 | h0 <;> simp_all
        have hi : k / E' < els.length := (Nat.div_lt_iff_lt_mul hE0).2 hk
        have hj : k % E' < E' := Nat.mod_lt _ hE0
        have e1 : k / E' * E' + k % E' = k := by rw [Nat.mul_comm]; exact Nat.div_add_mod k E'
        have := hc _ _ hi hj
        have hd := hD _ _ hi hj
        rw [e1] at this hd
        exact ⟨this, hd⟩

/-- the cells of a slice as an array -/
def arr (f : Nat → Value) (n : Nat) : Array Value := ((List.range n).map f).toArray

theorem arr_size (f : Nat → Value) (n : Nat) : (arr f n).size = n := by simp [arr]
theorem arr_get (f : Nat → Value) (n k : Nat) (h : k < n) : (arr f n)[k]? = some (f k) := by simp [arr, h]

theorem run_loadCells_f {P : Program} {w : World} (b o n : Nat) (f : Nat → Value) (h : ∀ k, k < n → w.cell? ⟨b, o + k, none⟩ = some (f k)) : (loadCells ⟨b, o, none⟩ n).run P w = .ok (arr f n) w := by
  have := run_loadCells_list (P := P) w ⟨b, o, none⟩ ((List.range n).map f) (fun j v hj => by
    have hj' : j < n := by have := (List.getElem?_eq_some_iff.1 hj).1; simpa using this
    rw [addr_add]
    simp [hj'] at hj
    rw [← hj]; exact h j hj')
  simpa [arr] using this

theorem run_firstCells {P : Program} {D : Nat → Nat → Prop} {w : World} {els : List (List DV)} {v : Value} {E : Nat} {f : Nat → Value}
    (h : els = [] ∧ (∃ b cap, v = .slice b 0 cap) ∨ ∃ b o cap, v = .slice (some ⟨b, o, none⟩) els.length cap ∧ ∀ k, k < els.length * E → w.cell? ⟨b, o + k, none⟩ = some (f k) ∧ D b (o + k)) :
    (Builtin.firstCells E els.length v).run P w = .ok (arr f (els.length * E)) w := by
  rcases h with ⟨rfl, b, cap, rfl⟩ | ⟨b, o, cap, rfl, hc⟩
  · cases b with
    | none => simp [Builtin.firstCells, arr]
    | some p => simp [Builtin.firstCells, arr, loadCells, loadCellsFrom]
  · simp only [Builtin.firstCells]
    exact run_loadCells_f b o _ f (fun k hk => (hc k hk).1)

theorem Laid.join {D : Nat → Nat → Prop} {w : World} {E : Nat} {els ys : List (List DV)} {f g h : Nat → Value} (hf : Laid D w E els f) (hg : Laid D w E ys g) (hE : ∀ e ∈ els, e.length = E) (hE' : ∀ e ∈ ys, e.length = E)
    (h1 : ∀ k, k < els.length * E → h k = f k) (h2 : ∀ k, k < ys.length * E → h (els.length * E + k) = g k) : Laid D w E (els ++ ys) h := by
  intro i j e d he hd
  by_cases hi : i < els.length
  · rw [List.getElem?_append_left hi] at he
    have hj : j < E := by rw [← hE e (List.mem_of_getElem? he)]; exact (List.getElem?_eq_some_iff.1 hd).1
    rw [h1 _ (lt_mul hi hj)]
    exact hf i j e d he hd
  · rw [List.getElem?_append_right (by omega)] at he
    have hj : j < E := by rw [← hE' e (List.mem_of_getElem? he)]; exact (List.getElem?_eq_some_iff.1 hd).1
    have hi' : i - els.length < ys.length := (List.getElem?_eq_some_iff.1 he).1
    have e1 : i * E + j = els.length * E + ((i - els.length) * E + j) := by
      have : i = els.length + (i - els.length) := by omega
      conv => lhs; rw [this, Nat.add_mul]
      omega
    rw [e1, h2 _ (lt_mul hi' hj)]
    exact hg _ j e d he hd

theorem sl_of_laid {D : Nat → Nat → Prop} {w : World} {E b o cap : Nat} {els : List (List DV)} {f : Nat → Value} (hb : els.length ≤ BIG) (hcap : els.length ≤ cap) (hE : ∀ e ∈ els, e.length = E) (hcell : ∀ e ∈ els, ∀ c ∈ e, DV.isCell c = true)
    (hc : ∀ k, k < els.length * E → w.cell? ⟨b, o + k, none⟩ = some (f k) ∧ D b (o + k)) (h : Laid D w E els f) : RV D w (.sl els) (.slice (some ⟨b, o, none⟩) els.length cap) :=
  .sl els b o cap E (fun i j => f (i * E + j)) hb hcap hE hcell (fun i j hi hj => (hc _ (lt_mul hi hj)).1) (fun i j hi hj => (hc _ (lt_mul hi hj)).2) h

/-- one's own slice has a new head and a new room -/
theorem Rel.ownNew (R : Rel X G s a w) {t d E n : Nat} (hd : d < X.n) (hf : freshT d s = true) {G' : Gh} {w' : World} {B : Nat → Prop} (T : Trans X G a w G' a w' B) (hν : G'.ν = G.ν) (hτ : ∀ k, k ≠ d → G'.τ k = G.τ k)
    (hB : ∀ b, B b → ∃ E len, get s (.tok t) = some (.tk E len) ∧ tokBlk G t len = some b) {els : List (List DV)} {v : Value} (hv : RSV G' w' (.own d els) v) (htok : TokAt G' w' d E n)
    (hblk : ∀ b, tokBlk G' d n = some b → w.heap.size ≤ b ∨ B b) : Rel X G' (upd (upd (del s (.tok t)) (.slot d) (.one (.own d els))) (.tok d) (.tk E n)) (a.put (some d) v) w' := by
  have hp := put_tmps a (some d) v
  have T' : Trans X G a w G' (a.put (some d) v) w' B := ⟨hp.1, fun h => (T.defers h).put hp.2, T.os, T.tape, T.output, T.size, T.keep, T.own, T.grow, T.new, T.nil⟩
  refine R.step T' (fun l u => (l = .slot d ∧ u = .one (.own d els)) ∨ (l = .tok d ∧ u = .tk E n)) (fun l u h => ?_) (fun l u h => ?_) (fun l u l' u' b h h' hb hb' => ?_)
  · rw [get_upd, get_upd, get_del] at h
    by_cases h1 : Loc.tok d = l
    · rw [if_pos h1] at h; cases h; exact .inl (.inr ⟨h1.symm, rfl⟩)
    · rw [if_neg h1] at h
      by_cases h2 : Loc.slot d = l
      · rw [if_pos h2] at h; cases h; exact .inl (.inl ⟨h2.symm, rfl⟩)
      · rw [if_neg h2] at h
        by_cases h3 : Loc.tok t = l
        · rw [if_pos h3] at h; cases h
        · rw [if_neg h3] at h
          refine .inr ⟨h, fun n hn => put_get_ne _ _ _ _ (fun e => h2 (by rw [hn, e])), fun b hb hBb => ?_, fun k _ => by rw [hν], fun k hk => hτ k (freshT_get hf h k hk)⟩
          obtain ⟨E', len, hg, hb'⟩ := hB b hBb
          exact h3 (R.sep _ _ _ _ b hg h hb' hb)
  · rcases h with ⟨rfl, rfl⟩ | ⟨rfl, rfl⟩
    · refine ⟨?_, fun b hb => by cases hb⟩
      show RSV G' w' (.own d els) _
      rw [put_get_same _ _ _ (by rw [R.size]; exact hd)]
      exact hv
    · refine ⟨htok, fun b hb => ?_⟩
      have h1 := hblk b hb
      refine ⟨h1, .inl ?_, fun h => by cases h⟩
      rcases h1 with h1 | h1
      · exact Nat.le_trans R.ext.size h1
      · obtain ⟨E', len, hg, hb'⟩ := hB b h1
        rcases R.own _ _ b hg hb' with h2 | ⟨_, h2⟩
        · exact h2
        · cases h2
  · rcases h with ⟨rfl, rfl⟩ | ⟨rfl, rfl⟩
    · cases hb
    · rcases h' with ⟨rfl, rfl⟩ | ⟨rfl, rfl⟩
      · cases hb'
      · rfl

theorem growBy_le (n : Nat) : ∀ (r c : Nat), c < n → Builtin.growBy n r c ≤ 2 * n + 200
  | 0, c, h => by simp [Builtin.growBy]; omega
  | r + 1, c, h => by
    simp only [Builtin.growBy]
    rw [if_neg (by omega)]
    by_cases h2 : c + (c + 768) / 4 < n
    · exact growBy_le n r _ h2
    · cases r with
      | zero => simp [Builtin.growBy]; omega
      | succ r => simp only [Builtin.growBy]; rw [if_pos (by omega)]; omega

theorem nextslicecap_le {need cap : Nat} (h : cap < need) : Builtin.nextslicecap need cap ≤ 2 * need + 600 := by
  unfold Builtin.nextslicecap
  split
  · omega
  · split
    · omega
    · have := growBy_le need 4 cap h; omega

/-- the heads that append gives -/
def setτ (G : Gh) (D : Nat → Nat → Prop) (d : Nat) (h : Option Addr × Nat) : Gh := { D := D, ν := G.ν, τ := fun k => if k = d then h else G.τ k }

theorem run_append_fits {P : Program} {w : World} {t ty t2 E B : Nat} (he : elemZ P t = some (E, B)) (h2 : (elemT P t2).isSome = true) {base : Option Addr} {len cap : Nat} {x : Value} {n : Nat} {new : Array Value}
    (hx : (Builtin.lenOf x).run P w = .ok n w) (hn : (Builtin.firstCells E n x).run P w = .ok new w) (hle : len + n ≤ cap) {w' : World} (hst : match base with | some a => (storeCells (a.add (len * E)) new.toList 0).run P w = .ok () w' | none => w' = w) :
    (Builtin.append_ #[t, t2] ty #[.slice base len cap, x]).run P w = .ok (.slice base (len + n) cap) w' := by
  obtain ⟨e, i, z, hu, hi, hz, hzs, his, hib⟩ := elemZ_run he
  obtain ⟨E2, hE2⟩ := Option.isSome_iff_exists.1 h2
  obtain ⟨e2, i2, hu2, -, -⟩ := elem_run hE2
  unfold Builtin.append_
  cases base with
  | none =>
    subst hst
    simp [run_underlying hu, run_underlying hu2, sizeOf, typeInfo, hi, his, hx, hn, hle]
  | some p =>
    simp only at hst
    simp [run_underlying hu, run_underlying hu2, sizeOf, typeInfo, hi, his, hx, hn, hle, hst]

theorem run_append_new {P : Program} {w : World} {t ty t2 E B : Nat} (he : elemZ P t = some (E, B)) (hB : 0 < B ∧ B ≤ 1024) (h2 : (elemT P t2).isSome = true) {base : Option Addr} {len cap : Nat} {x : Value} {n : Nat} {old new : Array Value}
    (hx : ∀ w', w'.heap = w.heap → (Builtin.lenOf x).run P w' = .ok n w') (hn : ∀ w', w'.heap = w.heap → (Builtin.firstCells E n x).run P w' = .ok new w') (ho : ∀ w', w'.heap = w.heap → (Builtin.firstCells E len (.slice base len cap)).run P w' = .ok old w')
    (hle : ¬ len + n ≤ cap) (hbig : len + n ≤ BIG) (h1 : old.size = len * E) (h3 : new.size = n * E) :
    ∃ c e nc, (Builtin.append_ #[t, t2] ty #[.slice base len cap, x]).run P w = .ok (.slice (some ⟨w.heap.size, 0, none⟩) (len + n) nc) (w.drew.alloc (.cells c e)) ∧ len + n ≤ nc ∧ c.size = nc * E ∧ (∀ k, k < len * E → c[k]? = old[k]?) ∧ (∀ k, k < n * E → c[len * E + k]? = new[k]?) := by
  obtain ⟨e, i, z, hu, hi, hz, hzs, his, hib⟩ := elemZ_run he
  obtain ⟨E2, hE2⟩ := Option.isSome_iff_exists.1 h2
  obtain ⟨e2, i2, hu2, -, -⟩ := elem_run hE2
  unfold BIG at hbig
  have hcap : ¬ (Builtin.nextslicecap (len + n) cap * B > 2 ^ 48) := by
    have := nextslicecap_le (need := len + n) (cap := cap) (by omega)
    have : Builtin.nextslicecap (len + n) cap * B ≤ (2 * (len + n) + 600) * 1024 := Nat.mul_le_mul this hB.2
    omega
  have hmax : ¬ ((((len + n : Nat) : Int) > IntKind.i64.max) ∧ (False ∨ i.bytes = 0)) := by
    rintro ⟨_, h | h⟩
    · exact h
    · omega
  let q : Question := .appendCap (len + n) cap e
  let nc := q.cut (w.tape w.drawn q)
  have hnc : len + n ≤ nc := by show len + n ≤ _; simp [nc, q, Question.cut]
  refine ⟨old ++ new ++ Builtin.zeroCells z.cells (nc - (len + n)), e, nc, ?_, hnc, ?_, fun k hk => ?_, fun k hk => ?_⟩
  · unfold Builtin.append_
    have hc' : ¬ (2 ^ 48 < Builtin.nextslicecap (len + n) cap * B) := hcap
    simp [run_underlying hu, run_underlying hu2, sizeOf, typeInfo, hi, his, hx w rfl, hle, hib, hc', Question.forced, ho (w.drew) rfl, hn (w.drew) rfl, zeroValue, hz, newRow, nc, q]
    intro h
    omega
  · simp [h1, h3, Builtin.zeroCells, hzs]
    rw [← Nat.add_mul, ← Nat.add_mul]
    congr 1; omega
  · rw [Array.getElem?_append_left (by simp [h1, h3]; omega), Array.getElem?_append_left (by omega)]
  · rw [Array.getElem?_append_left (by simp [h1, h3]; omega), Array.getElem?_append_right (by omega), h1]
    congr 1; omega

end
end Go.Proofs.YtbmnlkfgkdallaaDoor.Lift
