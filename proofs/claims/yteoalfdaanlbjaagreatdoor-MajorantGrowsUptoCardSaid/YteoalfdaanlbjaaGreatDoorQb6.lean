import Derived.Test.YteoalfdaanlbjaaGreatDoorQb5
namespace Go.Proofs.YteoalfdaanlbjaaGreatDoor.Lift
set_option linter.unusedSimpArgs false
set_option linter.unusedVariables false
set_option linter.unnecessarySimpa false
open Go
variable {gl : Globs}

theorem take_snoc {α : Type} {L : List α} {i : Nat} {x : α} (h : L[i]? = some x) : L.take (i + 1) = L.take i ++ [x] := by rw [List.take_add_one, h]; rfl

set_option maxHeartbeats 1000000 in
set_option maxRecDepth 100000 in
theorem majorantGrows_ok (har : globOf gl 0 = some arEls) (l : List Int) : Con1 Tryz.prog gl 5 [.sl (ints l)] [] (dbool true) [] := by
  have wa := awake33_ok har
  refine t_in Tryz.func5 ?_
  intro X hP hgl hf hfn hn hR hids hfit
  by_cases hl : l.length ≤ 500
  rotate_left
  · refine t_g0 ?_
    refine t_c2 @hl wa (few_ok l) ?_
    refine t_g0 ?_
    refine t_c1 trivial wa ?_
    refine t_r ?_
    simp [go_sem, hP, hgl, hn] <;> (try omega)
  refine t_g0 ?_
  refine t_c2 @hl wa (few_ok l) ?_
  refine t_g0 ?_
  obtain ⟨ls, Z, r, F, f1, f2, f3, f4, f5, f6, f7, f8, f9⟩ := funD_facts l (p := 0) (by omega)
  have wf := fun b => function_ok (gl := gl) b l 0 hl (by omega)
  generalize funD l 0 = fd at *
  obtain ⟨⟨t, vs⟩, p1⟩ := fd
  simp only at f1 f7 f8 f9 wf
  subst f1
  have hft := Tm.fold t
  have hct := Tm.cells_eq t
  have w2 := mterm_ok har t (sh_tys t (dn_shape f7)) (by omega)
  obtain ⟨P, Gm, g1, g2, g3, g4⟩ := dn_majf f7
  have hbl := bndE_le (N := 5) (by decide) ls Z f2 f3
  obtain ⟨k1, k2⟩ := moreE_facts (l := l) (N := 5) ls (bndE ls Z) p1 f9 f2 hbl
  have w3 := fun hc => call6_walk (gl := gl) (majT t) (ls.map T.maj) r.maj Gm (bndE ls Z) 40000 5 g1 hc (plains_maj f2) (by simp; omega) (maj_plain f5) (maj_ok f6) (by decide) (by decide) (by decide) (by decide) hbl
  have w4 := fun hc => call6_walk (gl := gl) (majT t) (ls.map T.maj) r.maj Gm (moreE l (ls.map T.maj) (bndE ls Z) p1).1 60000 7 g1 hc (plains_maj f2) (by simp; omega) (maj_plain f5) (maj_ok f6) (by decide) (by decide) (by decide) (by decide) k2
  have hc3 := callOut_err g1 (bndE ls Z) 40000
  have hc4 := callOut_err g1 (moreE l (ls.map T.maj) (bndE ls Z) p1).1 60000
  rw [g2] at hc3 hc4
  have hmm := majorizes_ge (T.maj_bare r) (maj_plain f5) (maj_ok f6) (applM_ge ls g4 k1)
  have hnV := (valOf_nodes r.maj (applM ls P (bndE ls Z)) (maj_plain f5)).2
  have hnW := (valOf_nodes r.maj (applM ls P (moreE l (ls.map T.maj) (bndE ls Z) p1).1) (maj_plain f5)).2
  have hro : r.size ≤ 64 := f6
  have hrm : r.maj.size = r.size := maj_size r
  have w5 := majorizes_ok (gl := gl) (valOf r.maj (applM ls P (moreE l (ls.map T.maj) (bndE ls Z) p1).1)) (valOf r.maj (applM ls P (bndE ls Z))) (by omega) (by omega)
  rw [hmm] at w5
  generalize callOut (majT t) (ls.map T.maj) (Gm ()) (bndE ls Z) 40000 = co2 at *
  generalize callOut (majT t) (ls.map T.maj) (Gm ()) (moreE l (ls.map T.maj) (bndE ls Z) p1).1 60000 = co3 at *
  refine t_a ?_
  first | refine W_reg [] fun K hK => ?_ | refine W_regd (by rw [hP]; exact mixed) [] fun K hK => ?_
  refine t_s0 ?_
  repeat (refine ⟨by omega, ?_⟩)
  refine vcK_callR hP hgl (new_ok l) (by simp [go_sem]) rfl (by simp [go_sem]) (by simp) (by rw [hn]; exact Nat.le_of_ble_eq_true rfl) ?_
  rintro rr φ ⟨b, rfl, rfl⟩ -
  simp [go_sem, hP, hgl, hn]
  refine t_e ?_
  clear hK K
  refine t_g0 ?_
  refine t_c1 trivial (wf b) ?_
  refine t_g @hct ?_
  refine t_c1 @hft w2 ?_
  rcases mterm_dn f7 (by decide) with ⟨h1, h2, -⟩ | h4
  rotate_left
  · refine t_g @h4 ?_
    refine t_r ?_
    simp [go_sem, hP, hgl, hn] <;> (try omega)
  rw [h1]
  have w3 := w3 (by omega)
  have w4 := w4 (by omega)
  have hfm := Tm.fold (majT t)
  have hcm := Tm.cells_eq (majT t)
  have hf2 := Val.fold co2.1
  have hc2v := Val.cells_eq co2.1
  have hf3 := Val.fold co3.1
  have hc3v := Val.cells_eq co3.1
  have hat := fun i hi => grow_at (l := l) (N := 5) (by decide) ls Z p1 i hi f2 f3 f9
  have hvl := valsOf_len ls Z
  have hll := valsOf_len (ls.map T.maj) (bndE ls Z)
  have hhl := valsOf_len (ls.map T.maj) (moreE l (ls.map T.maj) (bndE ls Z) p1).1
  simp only [List.length_map] at hll hhl
  have hp0 := moreP_zero l (ls.map T.maj) (bndE ls Z) p1
  obtain ⟨vs, hvs⟩ : ∃ vs, vs = valsOf ls Z := ⟨_, rfl⟩
  obtain ⟨lo, hlo⟩ : ∃ vs, vs = valsOf (ls.map T.maj) (bndE ls Z) := ⟨_, rfl⟩
  obtain ⟨hi', hhi⟩ : ∃ vs, vs = valsOf (ls.map T.maj) (moreE l (ls.map T.maj) (bndE ls Z) p1).1 := ⟨_, rfl⟩
  rw [← hvs] at hat hvl ⊢
  rw [← hlo] at hat w3 hll
  rw [← hhi] at hat w4 hhl
  generalize moreP l (ls.map T.maj) (bndE ls Z) p1 = pos at *
  obtain ⟨tk1, htk1⟩ : ∃ tk : Nat → List Val, ∀ i, tk i = lo.take i := ⟨_, fun i => rfl⟩
  obtain ⟨tk2, htk2⟩ : ∃ tk : Nat → List Val, ∀ i, tk i = hi'.take i := ⟨_, fun i => rfl⟩
  have hz1 : tk1 0 = [] := by rw [htk1]; rfl
  have hz2 : tk2 0 = [] := by rw [htk2]; rfl
  generalize majT t = m at *
  refine t_g @hcm ?_
  refine t_a ?_
  refine t_sub [(1008, 0), (1009, 0)] (j2 @hvl (j2 @hp0 (j2 @hz1 @hz2))) (W_upto (ls.length) (fun i => True) (fun i => [(.slot 3, .one (.v (ptr b))), (.slot 6, .one (.loc 6 0)), (.loc 6, .row ([.v (dint m.kind), .v (dint m.index), .v (dint m.type.kind), .v (.sl (m.type.args.map Ty.cells)), .v (.sl (m.args.map Tm.cells))])), (.slot 8, .one (.own 1008 ((tk1 i).map Val.cells))), (.tok 1008, .tk 4 i), (.slot 9, .one (.own 1009 ((tk2 i).map Val.cells))), (.tok 1009, .tk 4 i), (.slot 44, .one (.v (.sl (vs.map Val.cells)))), (.slot 45, .one (.v (dint ls.length))), (.slot 46, .one (.v (dint i))), (.heap  b, .row ([.v (.sl (ints l)), .v (dint (pos i))]))]) (trivial) ?_ ?_)
  · intro i hi _ hnext
    obtain ⟨a, x, q1, q2, q3, q4, q5, q6, q7, q8⟩ := hat i hi
    have hsz : a.size ≤ 64 := q3
    have hnx := (valOf_nodes a x q2).2
    have wv := refvalue33_ok (gl := gl) (valOf a x) (by omega)
    rw [value33_val x q2 q3] at wv
    have wm := more33_ok (gl := gl) b l hl a.maj (bnd a x) (pos i) q7 (T.maj_bare a) (maj_plain q2) (MV.le_mono (by decide) q8)
    rw [← q6] at wm
    have t1 := take_snoc q4
    have t2 := take_snoc q5
    rw [← htk1, ← htk1] at t1
    rw [← htk2, ← htk2] at t2
    have hvg : (List.map Val.cells vs)[i]? = some (valOf a x).cells := by rw [List.getElem?_map, q1]; rfl
    have mn1 : (tk1 i).length = i := by rw [htk1, List.length_take]; omega
    have mn2 : (tk2 i).length = i := by rw [htk2, List.length_take]; omega
    generalize valOf a x = v at *
    generalize valOf a.maj (bnd a x) = vb at *
    generalize valOf a.maj (moreT l a.maj (bnd a x) (pos i)).1 = vm at *
    have hfv := Val.fold v
    have hcv := Val.cells_eq v
    have hfb := Val.fold vb
    have hcb := Val.cells_eq vb
    have hcmv := Val.cells_eq vm
    refine t_rg0 ?_
    refine t_yes ?_
    refine t_g (j2 @hvg @hcv) ?_
    refine t_c1 @hfv wv ?_
    refine t_g @hcb ?_
    refine t_a ?_
    first | refine W_reg [] fun K hK => ?_ | refine W_regd (by rw [hP]; exact mixed) [] fun K hK => ?_
    simp [go_sem, hP, hgl, hn, hfb, mn1, mn2]
    repeat (refine ⟨by omega, ?_⟩)
    first | refine vcK_call hP hgl (wm) (by simp [go_sem, hP, hgl, hn, hfb, mn1, mn2]) rfl (by simp [go_sem]) (by simp) (by rw [hn]; exact Nat.le_of_ble_eq_true rfl) ?_ | refine vcdC_call (fun _ _ => vcd_sound) hP hgl (wm) (by simp [go_sem, hP, hgl, hn, hfb, mn1, mn2]) rfl (by simp [go_sem]) (by simp) (by rw [hn]; exact Nat.le_of_ble_eq_true rfl) ?_ | refine vcK_callG hP hgl (wm) (by simp [go_sem, hP, hgl, hn, hfb, mn1, mn2]) rfl (by simp [go_sem]) (by simp) (by rw [hn]; exact Nat.le_of_ble_eq_true rfl) (by simp [go_sem]; rfl) (by rw [hn]; exact Nat.le_of_ble_eq_true rfl) (by simp [go_sem]) ?_ | refine vcdC_callG (fun _ _ => vcd_sound) hP hgl (wm) (by simp [go_sem, hP, hgl, hn, hfb, mn1, mn2]) rfl (by simp [go_sem]) (by simp) (by rw [hn]; exact Nat.le_of_ble_eq_true rfl) (by simp [go_sem]; rfl) (by rw [hn]; exact Nat.le_of_ble_eq_true rfl) (by simp [go_sem]) ?_
    simp [go_sem, hP, hgl, hn, hfb, mn1, mn2]
    refine t_e ?_
    clear hK K
    repeat (first | (refine W_sub [(1008, 58), (1009, 64)] (by simp [go_sem]) (by simp [go_sem, t1, t2, hcb, hcmv] <;> omega) (by simp [go_sem]) (hnext trivial)) | refine W_seq ?_ | refine W_skip ?_ | refine W_block ?_ | refine W_inBlock ?_ | refine W_label ?_ | refine W_exit rfl ?_ | ((first | refine W_reg [] fun K hK => ?_ | refine W_regd (by rw [hP]; exact mixed) [] fun K hK => ?_); simp [go_sem, hP, hgl, hn, mn1, mn2, hcb]; (repeat (refine ⟨by omega, ?_⟩)); (first | refine hK _ ?_ | refine ⟨by rfl, hK _ ?_⟩); clear hK K) | refine W_cond rfl (fun _ => ?_) (fun hq => False.elim (by first | (simp [mn1, mn2, hcb]; done) | (simp [mn1, mn2, hcb]; omega) | (simp [mn1, mn2, hcb] at hq; done) | (simp [mn1, mn2, hcb] at hq; omega))) | refine W_cond rfl (fun hq => False.elim (by first | (simp [mn1, mn2, hcb]; done) | (simp [mn1, mn2, hcb]; omega) | (simp [mn1, mn2, hcb] at hq; done) | (simp [mn1, mn2, hcb] at hq; omega))) (fun _ => ?_))
  · intro _
    have e1 : tk1 ls.length = lo := by rw [htk1]; exact List.take_of_length_le (by omega)
    have e2 : tk2 ls.length = hi' := by rw [htk2]; exact List.take_of_length_le (by omega)
    rw [e1, e2]
    have wl0 := limits33_ok (gl := gl) 0
    rw [show limB 0 = false from rfl] at wl0
    have wl4 := limits33_ok (gl := gl) 4
    rw [show limB 4 = true from rfl] at wl4
    have wl5 := limits33_ok (gl := gl) 5
    rw [show limB 5 = true from rfl] at wl5
    rcases hc3 with h | h | ⟨h, hv⟩
    · rw [h] at w3
      refine t_rg0 ?_
      refine t_no ?_
      refine t_g0 ?_
      refine t_c1 @hfm w3 ?_
      refine t_g @hc2v ?_
      refine t_c1 @hfm w4 ?_
      refine t_g @hc3v ?_
      refine t_c1 trivial wl4 ?_
      refine t_r ?_
      simp [go_sem, hP, hgl, hn] <;> (try omega)
    · rw [h] at w3
      refine t_rg0 ?_
      refine t_no ?_
      refine t_g0 ?_
      refine t_c1 @hfm w3 ?_
      refine t_g @hc2v ?_
      refine t_c1 @hfm w4 ?_
      refine t_g @hc3v ?_
      refine t_c1 trivial wl5 ?_
      refine t_r ?_
      simp [go_sem, hP, hgl, hn] <;> (try omega)
    · rw [h] at w3
      rcases hc4 with h' | h' | ⟨h', hv'⟩
      · rw [h'] at w4
        refine t_rg0 ?_
        refine t_no ?_
        refine t_g0 ?_
        refine t_c1 @hfm w3 ?_
        refine t_g @hc2v ?_
        refine t_c1 @hfm w4 ?_
        refine t_g @hc3v ?_
        refine t_c2 trivial wl0 wl4 ?_
        refine t_r ?_
        simp [go_sem, hP, hgl, hn] <;> (try omega)
      · rw [h'] at w4
        refine t_rg0 ?_
        refine t_no ?_
        refine t_g0 ?_
        refine t_c1 @hfm w3 ?_
        refine t_g @hc2v ?_
        refine t_c1 @hfm w4 ?_
        refine t_g @hc3v ?_
        refine t_c2 trivial wl0 wl5 ?_
        refine t_r ?_
        simp [go_sem, hP, hgl, hn] <;> (try omega)
      · rw [h'] at w4
        rw [← hv, ← hv'] at w5
        refine t_rg0 ?_
        refine t_no ?_
        refine t_g0 ?_
        refine t_c1 @hfm w3 ?_
        refine t_g @hc2v ?_
        refine t_c1 @hfm w4 ?_
        refine t_g @hc3v ?_
        refine t_c1 (j2 @hf2 @hf3) w5 ?_
        refine t_r ?_
        simp [go_sem, hP, hgl, hn] <;> (try omega)
end Go.Proofs.YteoalfdaanlbjaaGreatDoor.Lift

