/-
  'ValueSizes' returns true for every list of numbers that is read, as long as what is read is of bulk at most 1048576; the list reads behind the call as it read before it.
-/
import Derived.Test.YtbmnlkfgkdallaaBr
import Derived.Test.YtbmnlkfgkdallaaG3
namespace Go.Proofs.Ytbmnlkfgkdallaa.valueSizes
set_option linter.unusedSimpArgs false
set_option linter.unusedVariables false
set_option linter.unnecessarySimpa false
open Go Go.ChangeShapes Go.WideShapes Go.ChangeAt Go.RowKit Go.Proofs.Ytbmnlkfgkdallaa.Lift

theorem own : ownKnob Try.prog.godebug = none := by kernel_rfl

theorem contract (H : Type) (enc : TypeId × Value → H) (W : World) (base : Nat) (args : Array Value) (ds gs : List (DataW H)) (before : List MemPlace)
    (hval : ∀ (j : Nat) t v, Try.f3.params[j]? = some t → args[j]? = some v → Value.okWide Try.prog W .any base t v)
    (hW : DataW.Whole enc Try.prog Try.f3.params.toList Rows.valueSizesSpec.vars false W args.toList ds gs before) (hk : Rows.uptoSmall H (ds ++ gs) = true) :
    Calls Try.prog 3 args W fun e W' => ∃ v, e = .returned v ∧ Rows.valueSizesSpec.post enc Try.prog Try.f3 false true false false W args v W' := by
  have hW' := hW
  obtain ⟨p, q, hA0, hV, rfl, hfz, hnd⟩ := hW
  have hA : DataW.TrodAll enc Try.prog W 0 (fun _ => true) true Try.f3.params.toList args.toList ds p := hA0
  rw [Try.params3] at hA hval
  obtain ⟨v0, vs0, d0, ds0, p0, q0, hargs, rfl, rfl, h0, r0⟩ := trodAll_cons hA
  obtain ⟨rfl, rfl, rfl⟩ := trodAll_nil r0
  obtain rfl : args = #[v0] := by cases args; simp_all
  obtain ⟨rfl, rfl⟩ := trodVars_none hV
  have hbulk := of_decide_eq_true hk
  simp only [List.append_nil, Rows.uptoBulkAll] at hbulk
  have hv0 := hval 0 _ v0 rfl rfl
  obtain ⟨l, hrv, hlen⟩ := read_ints Try.underlying22 Try.underlying3 (by kernel_rfl) h0 (slice_cells Try.underlying22 hv0) (by omega)
  refine ((valueSizes_ok (gl := []) l).2 (Old W) W #[v0] (wf_old W) rfl (fun i x v hx hv => ?_) ⟨fun _ _ h => (by cases h), fun _ _ h => (by cases h), List.nodup_nil⟩).mono ?_
  · cases i with
    | zero => simp at hx hv; subst hx hv; exact hrv
    | succ i => simp at hx
  · rintro e W' ⟨v, D', r, φ', rfl, ⟨rfl, rfl⟩, hext, hwf, hr, -, -⟩
    obtain rfl := (prim_of hr).1
    have hsame := ext_same hext
    refine ⟨_, rfl, post_of_ext (pa := p0 ++ []) (pv := []) hW' (fun _ _ _ => trodAll_cons_mk (shut_bool Try.underlying4 _) trodAll_mk0) (fun sp hsp => trodAll_cons_mk (trod_later (TS := [22, 3]) (by kernel_rfl) hsame (by simp) h0 (fun p hp => hsp p (by simp [hp]))) trodAll_mk0) (fun _ _ => rfl) rfl hext (ok_one (by kernel_rfl) rfl (okWide_bool_mk Try.underlying4 _))⟩

set_option maxRecDepth 100000 in
theorem lifted (os : Os) (started : os.Started) (H : Type) (enc : TypeId × Value → H) (F : Stop.Interp) :
    ReturnsInHanded {} Try.checked os 3 .any ((Rows.OpenSpec.upto Rows.valueSizesSpec).pre6 enc Try.prog Try.f3 Rows.valueSizesUptoRow.domain false) (((Rows.OpenSpec.upto Rows.valueSizesSpec).at F).post enc Try.prog Try.f3 false true false false) := by
  refine returnsInHanded_of_cond (C := Try.checked) (s := Rows.OpenSpec.upto Rows.valueSizesSpec) (k := Rows.uptoSmall) rfl own started (by kernel_rfl) Try.func3
    (OpenSpec.witness (enc := enc) (C := Try.checked) (s := Rows.OpenSpec.upto Rows.valueSizesSpec) (k := Rows.uptoSmall) rfl false ⟨#[], #[.slice none 0 0], []⟩ 8 (by kernel_rfl) (by kernel_rfl) (by kernel_rfl)
      (x := ([.nil], [], [])) (by kernel_rfl) rfl (by kernel_rfl)) ?_
  intro W base args ds gs before hval hW _ hk _
  exact contract H enc W base args ds gs before hval hW hk

theorem over : Rows.valueSizesUptoRow.holds Try.pinned (Rows.OpenSpec.upto Rows.valueSizesSpec) :=
  OpenClaim.holds_of_cond 3 Try.f3 rfl rfl rfl rfl rfl rfl rfl ⟨rfl, rfl, rfl, rfl, rfl⟩ rfl rfl rfl rfl rfl (by kernel_rfl) Try.func3 (by kernel_rfl)
    (of_decide_eq_true (by kernel_rfl)) (by unfold Func.isWrapper; first | (rw [if_pos (by decide +kernel)]; kernel_rfl) | (rw [if_neg (by decide +kernel)]; exact ⟨rfl, rfl⟩))
    (fun os started H enc _ F => lifted os started H enc F)

theorem proved : Rows.ValueSizesUptoSaid :=
  over
end Go.Proofs.Ytbmnlkfgkdallaa.valueSizes
