/-
  'CodeExact' returns true for every list, term and list of instructions that is read, as long as what is read is of bulk at most 1048576; the arguments read behind the call as they read before it.
-/
import Derived.Test.YtmdjiajbnifjpaaDoorQ7
import Derived.Test.YtmdjiajbnifjpaaDoorCards
import Derived.Test.YtmdjiajbnifjpaaDoorTie
import Derived.Deep.DeepHandedRow
import Derived.Lib.LaidTab
namespace Go.Proofs.YtmdjiajbnifjpaaDoor.codeExact
set_option linter.unusedSimpArgs false
set_option linter.unusedVariables false
set_option linter.unnecessarySimpa false
open Go Go.ChangeShapes Go.WideShapes Go.ChangeAt Go.RowKit Go.Proofs.YtmdjiajbnifjpaaDoor.Lift

theorem own : ownKnob Tryd.prog.godebug = none := by kernel_rfl
theorem wf_arr {W : World} (h : laidMetH Tryd.prog Rows.codeExactUptoRow.laid W) : Wf [(1, arEls), (0, opEls)] (Old W) W := wf_two h

theorem agg_cells {P : Program} {w : World} {r : Reach} {base : Nat} {t : TypeId} {fs : Array Field} (ht : P.underlying t = some (.struct fs)) {v : Value} (h : Value.okWide P w r base t v) : ∃ vs, v = .agg vs := by
  cases v <;> first | exact ⟨_, rfl⟩ | (simp [Value.okWide, Cell.okWide, Cell.ok, ht] at h)

set_option maxRecDepth 100000 in
theorem contract (H : Type) (enc : TypeId × Value → H) (W : World) (base : Nat) (args : Array Value) (ds gs : List (DataW H)) (before : List MemPlace)
    (hval : ∀ (j : Nat) t v, Tryd.f3.params[j]? = some t → args[j]? = some v → Value.okWide Tryd.prog W .any base t v)
    (hW : DataW.Whole enc Tryd.prog Tryd.f3.params.toList Rows.codeExactSpec.vars false W args.toList ds gs before) (hk : Rows.uptoSmall H (ds ++ gs) = true) (hL : laidMetH Tryd.prog Rows.codeExactUptoRow.laid W) :
    Calls Tryd.prog 3 args W fun e W' => ∃ v, e = .returned v ∧ Rows.codeExactSpec.post enc Tryd.prog Tryd.f3 false true false false W args v W' := by
  have hW' := hW
  obtain ⟨p, q, hA0, hV, rfl, hfz, hnd⟩ := hW
  have hA : DataW.TrodAll enc Tryd.prog W 0 (fun _ => true) true Tryd.f3.params.toList args.toList ds p := hA0
  rw [Tryd.params3] at hA hval
  obtain ⟨v0, vs0, d0, ds0, p0, q0, hargs0, rfl, rfl, h0, r0⟩ := trodAll_cons hA
  obtain ⟨v1, vs1, d1, ds1, p1, q1, hargs1, rfl, rfl, h1, r1⟩ := trodAll_cons r0
  obtain ⟨v2, vs2, d2, ds2, p2, q2, hargs2, rfl, rfl, h2, r2⟩ := trodAll_cons r1
  obtain ⟨rfl, rfl, rfl⟩ := trodAll_nil r2
  obtain rfl : args = #[v0, v1, v2] := by cases args; simp_all
  obtain ⟨rfl, rfl⟩ := trodVars_none hV
  have hbulk := of_decide_eq_true hk
  simp only [List.append_nil, Rows.uptoBulkAll] at hbulk
  have hv0 : Value.okWide Tryd.prog W .any base 22 v0 := hval 0 _ v0 (by simp) (by simp)
  obtain ⟨a0, hrv0, hlen0⟩ := read_ints Tryd.underlying22 Tryd.underlying3 (by kernel_rfl) h0 (slice_cells Tryd.underlying22 hv0) (by omega)
  have hv2 : Value.okWide Tryd.prog W .any base 29 v2 := hval 2 _ v2 (by simp) (by simp)
  obtain ⟨a2, hrv2, hb2⟩ := read_ins (TS := [29, 46, 3]) Tryd.underlying3 Tryd.underlying46 (by kernel_rfl) Tryd.underlying29 (by kernel_rfl) (by simp) h2 (slice_cells Tryd.underlying29 hv2) (by omega)
  have hv1 : Value.okWide Tryd.prog W .any base 28 v1 := hval 1 _ v1 (by simp) (by simp)
  obtain ⟨a1, hrv1, hb1⟩ := read_tree (TS := [28, 26, 25, 23, 3]) (by kernel_rfl) (by simp) (reads_tm Tryd.underlying3 Tryd.underlying25 Tryd.underlying23 (by kernel_rfl) Tryd.underlying28 Tryd.underlying26 (by kernel_rfl)) (fun a c hc => by rw [Tm.cells_eq] at hc; simp at hc; rcases hc with rfl | rfl | rfl | rfl | rfl <;> rfl) h1 (agg_cells Tryd.underlying28 hv1) (by omega)
  refine ((codeExact_ok (gl := [(1, arEls), (0, opEls)]) rfl rfl a0 a1 a2 hb1 hb2).2 (Old W) W #[v0, v1, v2] (wf_arr hL) rfl (fun i x v hx hv => ?_) ⟨fun _ _ h => (by cases h), fun _ _ h => (by cases h), List.nodup_nil⟩).mono ?_
  · match i with
    | 0 => simp at hx hv; subst hx hv; exact hrv0
    | 1 => simp at hx hv; subst hx hv; exact hrv1
    | 2 => simp at hx hv; subst hx hv; exact hrv2
    | i + 3 => simp at hx
  · rintro e W' ⟨v, D', r, φ', rfl, ⟨rfl, rfl⟩, hext, hwf, hr, -, -⟩
    obtain rfl := (prim_of hr).1
    have hsame := ext_same hext
    refine ⟨_, rfl, post_of_ext (pa := p0 ++ (p1 ++ (p2 ++ []))) (pv := []) hW' (fun _ _ _ => trodAll_cons_mk (shut_bool Tryd.underlying4 _) trodAll_mk0) (fun sp hsp => ?_) (fun _ _ => rfl) rfl hext (ok_one (by kernel_rfl) rfl (okWide_bool_mk Tryd.underlying4 _))⟩
    refine trodAll_cons_mk (trod_later (TS := [22, 3]) (by kernel_rfl) hsame (by simp) h0 (fun p hp => hsp p (by simp [hp]))) ?_
    refine trodAll_cons_mk (trod_later (TS := [28, 26, 25, 23, 3]) (by kernel_rfl) hsame (by simp) h1 (fun p hp => hsp p (by simp [hp]))) ?_
    refine trodAll_cons_mk (trod_later (TS := [29, 46, 3]) (by kernel_rfl) hsame (by simp) h2 (fun p hp => hsp p (by simp [hp]))) ?_
    exact trodAll_mk0

/-- arguments of the witness -/
def wit : Array Value := #[.slice none 0 0, .agg #[.int .i64 0, .int .i64 0, .int .i64 0, .slice none 0 0, .slice none 0 0], .slice none 0 0]

def putC (cs : Array Value) : Obj → Obj
  | .cells _ t frozen => .cells cs t frozen
  | o => o
/-- A WORLD FOR THE WITNESS: the settled one, the table holding what its initialiser lays. -/
noncomputable def laidWorld (os : Os) : World :=
  { World.holding Tryd.prog os ⟨#[], #[], []⟩ with heap := ((World.holding Tryd.prog os ⟨#[], #[], []⟩).heap.modify 1 (putC #[.int .i64 0, .int .i64 0, .int .i64 1, .int .i64 2, .int .i64 0, .int .i64 1, .int .i64 3, .int .i64 0, .int .i64 2, .int .i64 3, .int .i64 2, .int .i64 1, .int .i64 1, .int .i64 0])).modify 0 (putC #[.int .i64 0, .int .i64 0, .int .i64 0, .int .i64 1, .int .i64 0, .int .i64 2, .int .i64 2, .int .i64 3, .int .i64 0, .int .i64 4, .int .i64 1, .int .i64 5, .int .i64 3, .int .i64 6, .int .i64 0, .int .i64 7, .int .i64 2, .int .i64 8, .int .i64 3, .int .i64 9, .int .i64 2, .int .i64 10, .int .i64 1, .int .i64 11, .int .i64 1, .int .i64 12, .int .i64 0, .int .i64 13]) }
theorem laid_met (os : Os) : laidMet Tryd.prog Rows.codeExactUptoRow.laid ((laidWorld os).forCall (fun _ _ => 0) ⟨#[], wit, []⟩).memory :=
  laidMet_of_run' 8 (by kernel_rfl) (by kernel_rfl)
theorem reads (os : Os) {H : Type} (enc : TypeId × Value → H) : ∃ places, DataW.whole enc Tryd.prog ((laidWorld os).forCall (fun _ _ => 0) ⟨#[], wit, []⟩).memory Tryd.f3.params.toList Rows.codeExactSpec.vars false wit.toList 8 = some ([.nil, .agg [.lit (.int .i64 0), .lit (.int .i64 0), .agg [.lit (.int .i64 0), .nil], .nil], .nil], [], places) :=
  ⟨[], by kernel_rfl⟩

set_option maxRecDepth 100000 in
theorem lifted (os : Os) (started : os.Started) (H : Type) (enc : TypeId × Value → H) (F : Stop.Interp) :
    ReturnsInHanded {} Tryd.checked os 3 .any ((Rows.OpenSpec.upto Rows.codeExactSpec).preRow enc Tryd.prog Tryd.f3 Rows.codeExactUptoRow.domain false Rows.codeExactUptoRow.laid) (((Rows.OpenSpec.upto Rows.codeExactSpec).at F).post enc Tryd.prog Tryd.f3 false true false false) := by
  obtain ⟨places, hx⟩ := reads os enc
  refine returnsInHanded_of_row (C := Tryd.checked) (s := Rows.OpenSpec.upto Rows.codeExactSpec) own started (by kernel_rfl) Tryd.func3
    (witness_row_at (enc := enc) (C := Tryd.checked) false (laidWorld os) wit rfl (by kernel_rfl) (by kernel_rfl) (by kernel_rfl)
      (OpenSpec.preRow_of_cond 8 hx (by kernel_rfl) (fun k hk => by cases hk; kernel_rfl) (by kernel_rfl) (laid_met os))) ?_
  intro W base args ds gs before hval hW _ hcond _ hL _ _
  exact contract H enc W base args ds gs before hval hW (hcond _ rfl) hL

theorem said : Rows.CodeExactUptoSaid :=
  OpenClaim.holds_of_cond 3 Tryd.f3 rfl rfl rfl rfl rfl rfl rfl ⟨rfl, rfl, rfl, rfl, rfl⟩ rfl rfl rfl rfl rfl (by kernel_rfl) Tryd.func3 (by kernel_rfl)
    (of_decide_eq_true (by kernel_rfl)) (by unfold Func.isWrapper; first | (rw [if_pos (by decide +kernel)]; kernel_rfl) | (rw [if_neg (by decide +kernel)]; exact ⟨rfl, rfl⟩))
    (fun os started H enc _ F => by rw [OpenClaim.pre_eq_preRow]; exact lifted os started H enc F)

theorem plain (f : FuncId) (fn : Func) (hf : Tryd.pinned.checked.prog.funcNamed "proofprograms/proofprogramslaw37.CodeExact" = some f) (hfn : Tryd.pinned.checked.prog.funcs[f]? = some fn) :
    false = Tryd.pinned.checked.prog.looks [] ∧ ∀ (j : Nat) t, fn.params[j]? = some t → Tryd.pinned.checked.prog.wantsStandIn t = false := by
  obtain rfl : f = 3 := Option.some.inj ((show Tryd.prog.funcNamed "proofprograms/proofprogramslaw37.CodeExact" = some 3 by kernel_rfl).symm.trans hf) |>.symm
  obtain rfl : fn = Tryd.f3 := (Option.some.inj (Tryd.func3.symm.trans hfn)).symm
  refine ⟨by kernel_rfl, fun j t ht => ?_⟩
  rw [Tryd.params3] at ht
  have hm := Array.mem_of_getElem? ht
  have hor : t = 22 ∨ t = 28 ∨ t = 29 := by simpa using hm
  rcases hor with rfl | rfl | rfl
  · exact (show Tryd.prog.wantsStandIn 22 = false by kernel_rfl)
  · exact (show Tryd.prog.wantsStandIn 28 = false by kernel_rfl)
  · exact (show Tryd.prog.wantsStandIn 29 = false by kernel_rfl)

theorem proved : Rows.CodeExactUptoCardSaid :=
  Claim7.holds_tied_plain_at .later [] _ _ _ _ said (fun _ h => by cases h) (by kernel_rfl) (fun _ h => by cases h) codeExactUpto_row_tie rfl ⟨rfl, rfl⟩ (by kernel_rfl) rfl plain (by kernel_rfl)
end Go.Proofs.YtmdjiajbnifjpaaDoor.codeExact
