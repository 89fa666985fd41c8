/-
  The bridge for trees: arguments that read as types, terms and values are such trees.
-/
import Derived.Test.YtbmnlkfgkdallaaGreatDoorBr
import Derived.Test.YtbmnlkfgkdallaaGreatDoorN1
namespace Go.Proofs.YtbmnlkfgkdallaaGreatDoor.Lift
set_option linter.unusedSimpArgs false
set_option linter.unusedVariables false
set_option linter.unnecessarySimpa false
open Go Go.ChangeShapes Go.WideShapes Go.ChangeAt Go.RowKit

section
variable {H : Type} {enc : TypeId × Value → H} {P : Program} {w : World}

/-- whatever reads as such a type within the fuel is a tree of the kind -/
def Reads (enc : TypeId × Value → H) (P : Program) (w : World) {α : Type} (f : α → List DV) (g : α → Nat) (t : TypeId) (fuel : Nat) : Prop :=
  ∀ (cs : List Value) (x : DataW H × List MemPlace), DataW.trod enc P w 0 (fun _ => true) true fuel t cs = some x → ∃ a : α, cellsR x.1 = f a ∧ g a ≤ Rows.uptoBulk x.1

theorem reads_int {t : TypeId} (h : P.underlying t = some (.int .i64)) (fuel : Nat) : Reads enc P w (fun n : Int => [dint n]) (fun _ => 1) t fuel := by
  intro cs x hx
  cases fuel with
  | zero => simp [DataW.trod] at hx
  | succ fuel =>
    obtain ⟨m, -, rfl, -⟩ := DataW.trod_int h hx
    exact ⟨m, rfl, by simp [Rows.uptoBulk]⟩

theorem reads_slice {α : Type} {f : α → List DV} {g : α → Nat} {t e : TypeId} (ht : P.underlying t = some (.slice e)) {fuel : Nat} (he : ∀ n, n < fuel → Reads enc P w f g e n) :
    Reads enc P w (fun l : List α => [.sl (l.map f)]) (fun l => 1 + (l.map g).sum) t fuel := by
  intro cs x h
  cases fuel with
  | zero => simp [DataW.trod] at h
  | succ fuel =>
  rcases DataW.trod_slice ht h with ⟨-, hx⟩ | ⟨a, len, cap, elems, rest, n, hn, -, hx, -, hl, hm, hlen, hel, hsp, -⟩
  · cases hx; exact ⟨[], rfl, by simp [Rows.uptoBulk]⟩
  · cases hx
    have each : ∀ y ∈ elems, ∃ b : α, cellsR y.1 = f b ∧ g b ≤ Rows.uptoBulk y.1 := by
      intro y hy
      obtain ⟨i, hi⟩ := List.getElem?_of_mem hy
      have hil : i < len := by rw [← hlen]; exact (List.getElem?_eq_some_iff.1 hi).1
      have h1 := hel i hil
      rw [hi, Option.bind_eq_some_iff] at h1
      obtain ⟨us, -, h3⟩ := h1
      exact he n (by omega) us y h3
    have : ∃ l : List α, elems.map (fun y => cellsR y.1) = l.map f ∧ (l.map g).sum ≤ Rows.uptoBulkAll (elems.map (·.1)) := by
      clear hel hlen h hsp
      induction elems with
      | nil => exact ⟨[], rfl, by simp⟩
      | cons y r ih =>
        obtain ⟨m, hm, hg⟩ := each y (by simp)
        obtain ⟨l, hl, hs⟩ := ih fun z hz => each z (by simp [hz])
        exact ⟨m :: l, by simp [hm, hl], by simp only [List.map_cons, List.sum_cons, Rows.uptoBulkAll]; omega⟩
    obtain ⟨l, h1, h2⟩ := this
    refine ⟨l, ?_, ?_⟩
    · simp only [cellsR, cellsRs_map, List.map_map]
      exact congrArg (fun q => [DV.sl q]) h1
    · simp only [Rows.uptoBulk]; omega

theorem ty_sum (l : List Ty) : (l.map Ty.tot).sum = Ty.tot.tots l := by
  induction l with
  | nil => rfl
  | cons a r ih => simp [Ty.tot.tots, ih]
theorem tm_sum (l : List Tm) : (l.map Tm.tot).sum = Tm.tot.tots l := by
  induction l with
  | nil => rfl
  | cons a r ih => simp [Tm.tot.tots, ih]
theorem val_sum (l : List Val) : (l.map Val.tot).sum = Val.tot.tots l := by
  induction l with
  | nil => rfl
  | cons a r ih => simp [Val.tot.tots, ih]
theorem one_sum (l : List Int) : (l.map fun _ => 1).sum = l.length := by
  induction l with
  | nil => rfl
  | cons a r ih => simp [ih]; omega

variable {ti tl ty ts tm ms tv vs : TypeId} {fy fm fv : Array Field}

theorem reads_ty (hi : P.underlying ti = some (.int .i64)) (hy : P.underlying ty = some (.struct fy)) (hs : P.underlying ts = some (.slice ty)) (hf : fy.toList.map (·.type) = [ti, ts]) : ∀ fuel, Reads enc P w Ty.cells Ty.tot ty fuel := by
  intro fuel
  induction fuel using Nat.strongRecOn with
  | _ fuel ih =>
  intro cs x h
  cases fuel with
  | zero => simp [DataW.trod] at h
  | succ fuel =>
  obtain ⟨xs, n, hn, rfl, hcl, hxl, hx⟩ := DataW.trod_struct hy h
  obtain rfl : fuel = n := by omega
  have hlen : fy.size = 2 := by simpa using congrArg List.length hf
  match xs, hxl with
  | [x0, x1], _ =>
    have ht : ∀ (i : Nat) (t : TypeId), [ti, ts][i]? = some t → ∃ f : Field, fy[i]? = some f ∧ f.type = t := by
      intro i t hq
      rw [← hf, List.getElem?_map] at hq
      obtain ⟨f, h1, h2⟩ := Option.map_eq_some_iff.1 hq
      exact ⟨f, by simpa using h1, h2⟩
    obtain ⟨f0, g0, e0⟩ := ht 0 ti rfl
    obtain ⟨f1, g1, e1⟩ := ht 1 ts rfl
    have r0 := hx 0 f0 g0
    have r1 := hx 1 f1 g1
    rw [e0] at r0
    rw [e1] at r1
    obtain ⟨k, a0, b0⟩ := reads_int (enc := enc) (w := w) hi fuel _ x0 r0
    obtain ⟨l, a1, b1⟩ := reads_slice (enc := enc) (w := w) hs (fun n hn => ih n (by omega)) _ x1 r1
    refine ⟨Ty.mk k l, ?_, ?_⟩
    · rw [Ty.cells_mk]
      simp [cellsR, cellsRa, a0, a1]
    · simp only [ty_sum] at b1
      rw [Ty.tot_eq]
      simp only [Ty.args, Rows.uptoBulk, Rows.uptoBulkAll, List.map_cons, List.map_nil]
      omega
  | [], h => simp [hlen] at h
  | [_], h => simp [hlen] at h
  | _ :: _ :: _ :: _, h => simp [hlen] at h

theorem reads_tm (hi : P.underlying ti = some (.int .i64)) (hy : P.underlying ty = some (.struct fy)) (hs : P.underlying ts = some (.slice ty)) (hf : fy.toList.map (·.type) = [ti, ts])
    (hm : P.underlying tm = some (.struct fm)) (hms : P.underlying ms = some (.slice tm)) (hfm : fm.toList.map (·.type) = [ti, ti, ty, ms]) : ∀ fuel, Reads enc P w Tm.cells Tm.tot tm fuel := by
  intro fuel
  induction fuel using Nat.strongRecOn with
  | _ fuel ih =>
  intro cs x h
  cases fuel with
  | zero => simp [DataW.trod] at h
  | succ fuel =>
  obtain ⟨xs, n, hn, rfl, hcl, hxl, hx⟩ := DataW.trod_struct hm h
  obtain rfl : fuel = n := by omega
  have hlen : fm.size = 4 := by simpa using congrArg List.length hfm
  match xs, hxl with
  | [x0, x1, x2, x3], _ =>
    have ht : ∀ (i : Nat) (t : TypeId), [ti, ti, ty, ms][i]? = some t → ∃ f : Field, fm[i]? = some f ∧ f.type = t := by
      intro i t hq
      rw [← hfm, List.getElem?_map] at hq
      obtain ⟨f, h1, h2⟩ := Option.map_eq_some_iff.1 hq
      exact ⟨f, by simpa using h1, h2⟩
    obtain ⟨f0, g0, e0⟩ := ht 0 ti rfl
    obtain ⟨f1, g1, e1⟩ := ht 1 ti rfl
    obtain ⟨f2, g2, e2⟩ := ht 2 ty rfl
    obtain ⟨f3, g3, e3⟩ := ht 3 ms rfl
    have r0 := hx 0 f0 g0
    have r1 := hx 1 f1 g1
    have r2 := hx 2 f2 g2
    have r3 := hx 3 f3 g3
    rw [e0] at r0
    rw [e1] at r1
    rw [e2] at r2
    rw [e3] at r3
    obtain ⟨k, a0, b0⟩ := reads_int (enc := enc) (w := w) hi fuel _ x0 r0
    obtain ⟨i, a1, b1⟩ := reads_int (enc := enc) (w := w) hi fuel _ x1 r1
    obtain ⟨u, a2, b2⟩ := reads_ty (enc := enc) (w := w) hi hy hs hf fuel _ x2 r2
    obtain ⟨l, a3, b3⟩ := reads_slice (enc := enc) (w := w) hms (fun n hn => ih n (by omega)) _ x3 r3
    refine ⟨Tm.mk k i u l, ?_, ?_⟩
    · rw [Tm.cells_mk]
      rw [Ty.cells_eq] at a2
      simp [cellsR, cellsRa, a0, a1, a2, a3]
    · simp only [tm_sum] at b3
      rw [Tm.tot_eq]
      simp only [Tm.args, Tm.type, Rows.uptoBulk, Rows.uptoBulkAll, List.map_cons, List.map_nil]
      omega
  | [], h => simp [hlen] at h
  | [_], h => simp [hlen] at h
  | [_, _], h => simp [hlen] at h
  | [_, _, _], h => simp [hlen] at h
  | _ :: _ :: _ :: _ :: _ :: _, h => simp [hlen] at h

theorem reads_val (hi : P.underlying ti = some (.int .i64)) (hl : P.underlying tl = some (.slice ti))
    (hv : P.underlying tv = some (.struct fv)) (hvs : P.underlying vs = some (.slice tv)) (hfv : fv.toList.map (·.type) = [ti, ti, tl, vs]) : ∀ fuel, Reads enc P w Val.cells Val.tot tv fuel := by
  intro fuel
  induction fuel using Nat.strongRecOn with
  | _ fuel ih =>
  intro cs x h
  cases fuel with
  | zero => simp [DataW.trod] at h
  | succ fuel =>
  obtain ⟨xs, n, hn, rfl, hcl, hxl, hx⟩ := DataW.trod_struct hv h
  obtain rfl : fuel = n := by omega
  have hlen : fv.size = 4 := by simpa using congrArg List.length hfv
  match xs, hxl with
  | [x0, x1, x2, x3], _ =>
    have ht : ∀ (i : Nat) (t : TypeId), [ti, ti, tl, vs][i]? = some t → ∃ f : Field, fv[i]? = some f ∧ f.type = t := by
      intro i t hq
      rw [← hfv, List.getElem?_map] at hq
      obtain ⟨f, h1, h2⟩ := Option.map_eq_some_iff.1 hq
      exact ⟨f, by simpa using h1, h2⟩
    obtain ⟨f0, g0, e0⟩ := ht 0 ti rfl
    obtain ⟨f1, g1, e1⟩ := ht 1 ti rfl
    obtain ⟨f2, g2, e2⟩ := ht 2 tl rfl
    obtain ⟨f3, g3, e3⟩ := ht 3 vs rfl
    have r0 := hx 0 f0 g0
    have r1 := hx 1 f1 g1
    have r2 := hx 2 f2 g2
    have r3 := hx 3 f3 g3
    rw [e0] at r0
    rw [e1] at r1
    rw [e2] at r2
    rw [e3] at r3
    obtain ⟨k, a0, b0⟩ := reads_int (enc := enc) (w := w) hi fuel _ x0 r0
    obtain ⟨i, a1, b1⟩ := reads_int (enc := enc) (w := w) hi fuel _ x1 r1
    obtain ⟨u, a2, b2⟩ := reads_slice (enc := enc) (w := w) hl (fun n _ => reads_int hi n) _ x2 r2
    obtain ⟨l, a3, b3⟩ := reads_slice (enc := enc) (w := w) hvs (fun n hn => ih n (by omega)) _ x3 r3
    refine ⟨Val.mk k i u l, ?_, ?_⟩
    · rw [Val.cells_mk]
      simp [cellsR, cellsRa, a0, a1, a2, a3, ints]
    · simp only [val_sum] at b3
      simp only [one_sum] at b2
      rw [Val.tot_eq]
      simp only [Val.args, Val.list, Rows.uptoBulk, Rows.uptoBulkAll, List.map_cons, List.map_nil]
      omega
  | [], h => simp [hlen] at h
  | [_], h => simp [hlen] at h
  | [_, _], h => simp [hlen] at h
  | [_, _, _], h => simp [hlen] at h
  | _ :: _ :: _ :: _ :: _ :: _, h => simp [hlen] at h

/-- an argument that reads as a tree is one -/
theorem read_tree {α : Type} {f : α → List DV} {g : α → Nat} {TS : List TypeId} {t : TypeId} (hT : tysOK P TS = true) (htm : t ∈ TS) (hR : ∀ fuel, Reads enc P w f g t fuel) (hc : ∀ a, ∀ c ∈ f a, DV.isCell c = true)
    {v : Value} {d : DataW H} {ps : List MemPlace} (h : DataW.Trod enc P w 0 (fun _ => true) true t v d ps) (hv : ∃ vs, v = .agg vs) (hb : Rows.uptoBulk d ≤ 1048576) : ∃ a : α, RV (Old w) w (.agg (f a)) v ∧ g a ≤ 1048576 := by
  obtain ⟨fuel, h⟩ := h
  obtain ⟨vs, rfl⟩ := hv
  obtain ⟨a, h1, h2⟩ := hR fuel _ _ h
  obtain ⟨-, h3⟩ := trod_cells hT fuel t htm _ _ h hb
  have h4 : g a ≤ Rows.uptoBulk d := h2
  refine ⟨a, ?_, by omega⟩
  rw [h1] at h3
  refine .agg _ _ (by rw [h3.1]; simp [Value.cells]) (hc a) fun i c u hi hu => (h3.2 i c u hi (by simpa [Value.cells] using hu)).2
end
end Go.Proofs.YtbmnlkfgkdallaaGreatDoor.Lift
