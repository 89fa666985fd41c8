/-
  'CodeBent' returns true for every list of numbers that is read, as long as what is read is of bulk at most 1048576; the list reads behind the call as it read before it.
-/
import Derived.Test.YtmdjiajbnifjpaaDoorY6
import Derived.Test.YtmdjiajbnifjpaaDoorCards
import Derived.Test.YtmdjiajbnifjpaaDoorTie
import Derived.Deep.DeepHandedRow
import Derived.Lib.LaidTab
namespace Go.Proofs.YtmdjiajbnifjpaaDoor.codeBent
set_option linter.unusedSimpArgs false
set_option linter.unusedVariables false
set_option linter.unnecessarySimpa false
open Go Go.ChangeShapes Go.WideShapes Go.ChangeAt Go.RowKit Go.Proofs.YtmdjiajbnifjpaaDoor.Lift

theorem own : ownKnob Tryd.prog.godebug = none := by kernel_rfl
theorem wf_arr {W : World} (h : laidMetH Tryd.prog Rows.codeBentUptoRow.laid W) : Wf [(1, arEls), (0, opEls)] (Old W) W := wf_two h

set_option maxRecDepth 100000 in
theorem contract (H : Type) (enc : TypeId × Value → H) (W : World) (base : Nat) (args : Array Value) (ds gs : List (DataW H)) (before : List MemPlace)
    (hval : ∀ (j : Nat) t v, Tryd.f6.params[j]? = some t → args[j]? = some v → Value.okWide Tryd.prog W .any base t v)
    (hW : DataW.Whole enc Tryd.prog Tryd.f6.params.toList Rows.codeBentSpec.vars false W args.toList ds gs before) (hk : Rows.uptoSmall H (ds ++ gs) = true) (hL : laidMetH Tryd.prog Rows.codeBentUptoRow.laid W) :
    Calls Tryd.prog 6 args W fun e W' => ∃ v, e = .returned v ∧ Rows.codeBentSpec.post enc Tryd.prog Tryd.f6 false true false false W args v W' := by
  have hW' := hW
  obtain ⟨p, q, hA0, hV, rfl, hfz, hnd⟩ := hW
  have hA : DataW.TrodAll enc Tryd.prog W 0 (fun _ => true) true Tryd.f6.params.toList args.toList ds p := hA0
  rw [Tryd.params6] at hA hval
  obtain ⟨v0, vs0, d0, ds0, p0, q0, hargs0, rfl, rfl, h0, r0⟩ := trodAll_cons hA
  obtain ⟨rfl, rfl, rfl⟩ := trodAll_nil r0
  obtain rfl : args = #[v0] := by cases args; simp_all
  obtain ⟨rfl, rfl⟩ := trodVars_none hV
  have hbulk := of_decide_eq_true hk
  simp only [List.append_nil, Rows.uptoBulkAll] at hbulk
  have hv0 : Value.okWide Tryd.prog W .any base 22 v0 := hval 0 _ v0 (by simp) (by simp)
  obtain ⟨a0, hrv0, hlen0⟩ := read_ints Tryd.underlying22 Tryd.underlying3 (by kernel_rfl) h0 (slice_cells Tryd.underlying22 hv0) (by omega)
  refine ((codeBent_ok (gl := [(1, arEls), (0, opEls)]) rfl rfl a0 ).2 (Old W) W #[v0] (wf_arr hL) rfl (fun i x v hx hv => ?_) ⟨fun _ _ h => (by cases h), fun _ _ h => (by cases h), List.nodup_nil⟩).mono ?_
  · match i with
    | 0 => simp at hx hv; subst hx hv; exact hrv0
    | i + 1 => simp at hx
  · rintro e W' ⟨v, D', r, φ', rfl, ⟨rfl, rfl⟩, hext, hwf, hr, -, -⟩
    obtain rfl := (prim_of hr).1
    have hsame := ext_same hext
    refine ⟨_, rfl, post_of_ext (pa := p0 ++ []) (pv := []) hW' (fun _ _ _ => trodAll_cons_mk (shut_bool Tryd.underlying4 _) trodAll_mk0) (fun sp hsp => ?_) (fun _ _ => rfl) rfl hext (ok_one (by kernel_rfl) rfl (okWide_bool_mk Tryd.underlying4 _))⟩
    refine trodAll_cons_mk (trod_later (TS := [22, 3]) (by kernel_rfl) hsame (by simp) h0 (fun p hp => hsp p (by simp [hp]))) ?_
    exact trodAll_mk0

/-- arguments of the witness -/
def wit : Array Value := #[.slice none 0 0]

def putC (cs : Array Value) : Obj → Obj
  | .cells _ t frozen => .cells cs t frozen
  | o => o
/-- A WORLD FOR THE WITNESS: the settled one, the table holding what its initialiser lays. -/
noncomputable def laidWorld (os : Os) : World :=
  { World.holding Tryd.prog os ⟨#[], #[], []⟩ with heap := ((World.holding Tryd.prog os ⟨#[], #[], []⟩).heap.modify 1 (putC #[.int .i64 0, .int .i64 0, .int .i64 1, .int .i64 2, .int .i64 0, .int .i64 1, .int .i64 3, .int .i64 0, .int .i64 2, .int .i64 3, .int .i64 2, .int .i64 1, .int .i64 1, .int .i64 0])).modify 0 (putC #[.int .i64 0, .int .i64 0, .int .i64 0, .int .i64 1, .int .i64 0, .int .i64 2, .int .i64 2, .int .i64 3, .int .i64 0, .int .i64 4, .int .i64 1, .int .i64 5, .int .i64 3, .int .i64 6, .int .i64 0, .int .i64 7, .int .i64 2, .int .i64 8, .int .i64 3, .int .i64 9, .int .i64 2, .int .i64 10, .int .i64 1, .int .i64 11, .int .i64 1, .int .i64 12, .int .i64 0, .int .i64 13]) }
theorem laid_met (os : Os) : laidMet Tryd.prog Rows.codeBentUptoRow.laid ((laidWorld os).forCall (fun _ _ => 0) ⟨#[], wit, []⟩).memory :=
  laidMet_of_run' 8 (by kernel_rfl) (by kernel_rfl)
theorem reads (os : Os) {H : Type} (enc : TypeId × Value → H) : ∃ places, DataW.whole enc Tryd.prog ((laidWorld os).forCall (fun _ _ => 0) ⟨#[], wit, []⟩).memory Tryd.f6.params.toList Rows.codeBentSpec.vars false wit.toList 8 = some ([.nil], [], places) :=
  ⟨[], by kernel_rfl⟩

set_option maxRecDepth 100000 in
theorem lifted (os : Os) (started : os.Started) (H : Type) (enc : TypeId × Value → H) (F : Stop.Interp) :
    ReturnsInHanded {} Tryd.checked os 6 .any ((Rows.OpenSpec.upto Rows.codeBentSpec).preRow enc Tryd.prog Tryd.f6 Rows.codeBentUptoRow.domain false Rows.codeBentUptoRow.laid) (((Rows.OpenSpec.upto Rows.codeBentSpec).at F).post enc Tryd.prog Tryd.f6 false true false false) := by
  obtain ⟨places, hx⟩ := reads os enc
  refine returnsInHanded_of_row (C := Tryd.checked) (s := Rows.OpenSpec.upto Rows.codeBentSpec) own started (by kernel_rfl) Tryd.func6
    (witness_row_at (enc := enc) (C := Tryd.checked) false (laidWorld os) wit rfl (by kernel_rfl) (by kernel_rfl) (by kernel_rfl)
      (OpenSpec.preRow_of_cond 8 hx (by kernel_rfl) (fun k hk => by cases hk; kernel_rfl) (by kernel_rfl) (laid_met os))) ?_
  intro W base args ds gs before hval hW _ hcond _ hL _ _
  exact contract H enc W base args ds gs before hval hW (hcond _ rfl) hL

theorem said : Rows.CodeBentUptoSaid :=
  OpenClaim.holds_of_cond 6 Tryd.f6 rfl rfl rfl rfl rfl rfl rfl ⟨rfl, rfl, rfl, rfl, rfl⟩ rfl rfl rfl rfl rfl (by kernel_rfl) Tryd.func6 (by kernel_rfl)
    (of_decide_eq_true (by kernel_rfl)) (by unfold Func.isWrapper; first | (rw [if_pos (by decide +kernel)]; kernel_rfl) | (rw [if_neg (by decide +kernel)]; exact ⟨rfl, rfl⟩))
    (fun os started H enc _ F => by rw [OpenClaim.pre_eq_preRow]; exact lifted os started H enc F)

theorem plain (f : FuncId) (fn : Func) (hf : Tryd.pinned.checked.prog.funcNamed "proofprograms/proofprogramslaw37.CodeBent" = some f) (hfn : Tryd.pinned.checked.prog.funcs[f]? = some fn) :
    false = Tryd.pinned.checked.prog.looks [] ∧ ∀ (j : Nat) t, fn.params[j]? = some t → Tryd.pinned.checked.prog.wantsStandIn t = false := by
  obtain rfl : f = 6 := Option.some.inj ((show Tryd.prog.funcNamed "proofprograms/proofprogramslaw37.CodeBent" = some 6 by kernel_rfl).symm.trans hf) |>.symm
  obtain rfl : fn = Tryd.f6 := (Option.some.inj (Tryd.func6.symm.trans hfn)).symm
  refine ⟨by kernel_rfl, fun j t ht => ?_⟩
  rw [Tryd.params6] at ht
  obtain rfl : t = 22 := by simpa using Array.mem_of_getElem? ht
  exact (show Tryd.prog.wantsStandIn 22 = false by kernel_rfl)

theorem proved : Rows.CodeBentUptoCardSaid :=
  Claim7.holds_tied_plain_at .later [] _ _ _ _ said (fun _ h => by cases h) (by kernel_rfl) (fun _ h => by cases h) codeBentUpto_row_tie rfl ⟨rfl, rfl⟩ (by kernel_rfl) rfl plain (by kernel_rfl)
end Go.Proofs.YtmdjiajbnifjpaaDoor.codeBent
