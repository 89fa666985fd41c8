import Derived.Test.YtbmnlkfgkdallaaGreatDoorN4
namespace Go.Proofs.YtbmnlkfgkdallaaGreatDoor.Lift
set_option linter.unusedSimpArgs false
set_option linter.unusedVariables false
set_option linter.unnecessarySimpa false
open Go
variable {gl : Globs}

theorem W_cutXA {α : Type} {X : Ctx} {k kk : List Item} {s : St} (E : α → Prop) (S : α → St) (h1 : (∀ x, E x → W X kk (S x)) → W X k s) (h2 : ∀ x, E x → W X kk (S x)) : W X k s := h1 h2

theorem ty_self (t : Ty) : t.same t = true := (Ty.same_iff t t).2 rfl
theorem tm_self (t : Tm) : t.same t = true := (Tm.same_iff t t).2 rfl
theorem val_self (t : Val) : t.same t = true := (Val.same_iff t t).2 rfl

theorem Val.flat_tot {v : Val} (h : v.flat) : v.tot ≤ 4 ∧ v.list.length ≤ 3 ∧ -100 ≤ v.num ∧ v.num ≤ 100 ∧ v.args = [] := by
  obtain ⟨h1, h2⟩ := h
  rw [Val.tot_eq, h1]
  rcases h2 with ⟨-, a, b, c⟩ | ⟨-, a, b, -⟩ | ⟨-, a, c⟩
  · rw [c]; exact ⟨by decide, by decide, by omega, by omega, rfl⟩
  · refine ⟨?_, b, by omega, by omega, rfl⟩
    show 1 + v.list.length + 0 ≤ 4
    omega
  · rw [c]; exact ⟨by decide, by decide, by omega, by omega, rfl⟩
theorem Val.good_tot {v : Val} (h : v.good) : v.tot ≤ 9 ∧ v.list.length ≤ 3 ∧ -100 ≤ v.num ∧ v.num ≤ 100 ∧ v.args.length ≤ 2 := by
  rcases h with h | ⟨a, b, rfl, ha, hb⟩
  · obtain ⟨h1, h2, h3, h4, h5⟩ := Val.flat_tot h
    exact ⟨by omega, h2, h3, h4, by rw [h5]; decide⟩
  · have h1 := (Val.flat_tot ha).1
    have h2 := (Val.flat_tot hb).1
    refine ⟨?_, Nat.zero_le _, show (-100 : Int) ≤ 0 by decide, show (0 : Int) ≤ 100 by decide, Nat.le_refl _⟩
    show 1 + 0 + (a.tot + (b.tot + 0)) ≤ 9
    omega

set_option maxHeartbeats 8000000 in
theorem valueDoes_ok (har : globOf gl 0 = some arEls) (l : List Int) (raw : Val) (x : Tm) (n : Int) (hraw : raw.tot ≤ 1048576) (hx : x.tot ≤ 1048576) :
    Con1 Tryz.prog gl 3 [.sl (ints l), raw.dv, x.dv, dint n] [] (dbool true) [] := by
  refine t_in Tryz.func3 ?_
  intro X hP hgl hf hfn hn hR hids hfit
  have hn1 : intOK .i64 n := hfit (dint n) (by simp)
  rw [intOK_i64] at hn1
  refine t_g0 ?_
  refine t_c1 trivial sane05_ok ?_
  refine t_g0 ?_
  by_cases hfew : l.length ≤ 500
  rotate_left
  · refine t_c1 @hfew (few_ok l) ?_
    refine t_g0 ?_
    refine t_r ?_
    simp [go_sem, hP, hgl, hn] <;> (try omega)
  by_cases hno : 800 < raw.cntN 20000
  · refine t_c2 (j2 @hfew @hno) (few_ok l) (law05_nodes_ok raw (by omega)) ?_
    refine t_g0 ?_
    refine t_r ?_
    simp [go_sem, hP, hgl, hn] <;> (try omega)
  by_cases hte : 1500 < x.cntN 20000
  · refine t_c3 (j2 @hfew (j2 @hno @hte)) (few_ok l) (law05_nodes_ok raw (by omega)) (law05_terms_ok x (by omega)) ?_
    refine t_g0 ?_
    refine t_r ?_
    simp [go_sem, hP, hgl, hn] <;> (try omega)
  have hrt := Val.tot_count raw
  obtain ⟨hxc, hxt⟩ := Tm.tot_count x
  have hxt := hxt (by omega)
  refine t_c3 (j2 @hfew (j2 @hno @hte)) (few_ok l) (law05_nodes_ok raw (by omega)) (law05_terms_ok x (by omega)) ?_
  refine t_g0 ?_
  refine t_a ?_
  first | refine W_reg [] fun K hK => ?_ | refine W_regd (by rw [hP]; exact mixed) [] fun K hK => ?_
  refine t_s0 ?_
  repeat (refine ⟨by omega, ?_⟩)
  refine vcK_callR hP hgl (new_ok l) (by simp [go_sem]) rfl (by simp [go_sem]) (by simp) (by rw [hn]; exact Nat.le_of_ble_eq_true rfl) ?_
  rintro r φ ⟨b, rfl, rfl⟩ -
  simp [go_sem, hP, hgl, hn]
  refine t_e ?_
  clear hK K
  have hq : (plainD l 0).2 ≤ l.length := nextD_le (n := 6) (by omega)
  have hg := mkVal_good l 0 (plainD l 0).2
  have hp1 := mkVal_le (l := l) (plainD l 0).1 hq
  have cv := mkval_ok (gl := gl) (plainD l 0).1 b l (plainD l 0).2 hfew hq (plainD_plain l 0)
  generalize hvv : mkVal l (plainD l 0).1 (plainD l 0).2 = vp at *
  obtain ⟨own, p1⟩ := vp
  simp only at hg hp1 cv
  obtain ⟨o1, o2, o3, o4, o5⟩ := Val.good_tot hg
  have hoc := Val.tot_count own
  have ho := Val.tot_eq own
  refine t_g0 ?_
  refine t_c2 trivial (plain_ok b l 0 hfew (by omega)) cv ?_
  have hp2 := nextD_le (n := 4) hp1
  have hb4 := nextD_bd (l := l) (p := p1) (n := 4) (by decide)
  refine t_g0 ?_
  refine t_c1 trivial (next_ok b l p1 4 (by decide) (by omega)) ?_
  generalize hd : nextD l p1 4 = d at *
  obtain ⟨c, p2⟩ := d
  simp only at hp2 hb4
  apply W_cutXA (fun y : Val × Nat => y.1.tot ≤ 100 ∧ y.2 ≤ l.length) (fun y : Val × Nat => [(.slot 92, .one (.v (dint 0))), (.slot 91, .one (.v (dint 3))), (.slot 90, .one (.v (.sl ([raw, own, y.1].map Val.cells)))), (.slot 3, .one (.v (dint n))), (.slot 6, .one (.loc 6 0)), (.loc 6, .row ([.v (dint x.kind), .v (dint x.index), .v (dint x.type.kind), .v (.sl (x.type.args.map Ty.cells)), .v (.sl (x.args.map Tm.cells))])), (.slot 9, .one (.v (ptr b))), (.slot 10, .one (.loc 10 0)), (.loc 10, .row ([.v (dint own.kind), .v (dint own.num), .v (.sl (ints own.list)), .v (.sl (own.args.map Val.cells))])), (.heap  b, .row ([.v (.sl (ints l)), .v (dint y.2)]))])
  · intro hrest
    by_cases c0 : c = 0
    · refine t_g @c0 ?_
      refine t_b ?_
      refine t_sub [] (j2 @Val.kind_mk (j2 @Val.num_mk (j2 @Val.list_mk @Val.args_mk))) (hrest (Val.mk own.kind (own.num - 1) own.list own.args, p2) ⟨by rw [Val.tot_eq] at o1 ⊢; simp only [Val.list, Val.args] at o1 ⊢; omega, hp2⟩)
    by_cases c1 : c = 1
    · have h6 := nextD_le (n := 6) hp2
      refine t_g @c1 ?_
      refine t_c1 trivial (next_ok b l p2 6 (by decide) (by omega)) ?_
      refine t_g0 ?_
      refine t_b ?_
      refine t_sub [] (j2 @Val.kind_mk (j2 @Val.num_mk (j2 @Val.list_mk @Val.args_mk))) (hrest (Val.mk (nextD l p2 6).1 own.num own.list own.args, (nextD l p2 6).2) ⟨by rw [Val.tot_eq] at o1 ⊢; simp only [Val.list, Val.args] at o1 ⊢; omega, h6⟩)
    by_cases c2 : c = 2
    · have h5 := nextD_le (n := 5) hp2
      have hb5 := nextD_bd (l := l) (p := p2) (n := 5) (by decide)
      refine t_g @c2 ?_
      refine t_c1 trivial (next_ok b l p2 5 (by decide) (by omega)) ?_
      refine t_g0 ?_
      refine t_b ?_
      refine t_sub [] (j2 @Val.kind_mk (j2 @Val.num_mk (j2 @Val.list_mk (j2 @Val.args_mk (j2 @ints_cons @ints_nil))))) (hrest (Val.mk own.kind own.num (own.list ++ [(nextD l p2 5).1 - 2]) own.args, (nextD l p2 5).2) ⟨by rw [Val.tot_eq] at o1 ⊢; simp only [Val.list, Val.args, List.length_append, List.length_singleton] at o1 ⊢; omega, h5⟩)
    · have c3 : c = 3 := by omega
      refine t_g @c3 ?_
      refine t_b ?_
      refine t_sub [] (j2 @Val.kind_mk (j2 @Val.num_mk (j2 @Val.list_mk (j2 @Val.args_mk (Val.cells_eq own))))) (hrest (Val.mk own.kind own.num own.list (own.args ++ [own]), p2) ⟨by rw [Val.tot_eq]; have o6 := o1; rw [ho] at o6; simp only [Val.list, Val.args, Val.tots_append, Val.tot.tots] at o6 ⊢; omega, hp2⟩)
  rintro ⟨bent, q⟩ ⟨ht0, hq0⟩
  simp only at ht0 hq0 ⊢
  obtain ⟨vs, hvs⟩ : ∃ vs, vs = [raw, own, bent] := ⟨_, rfl⟩
  have hvl : vs.length = 3 := by rw [hvs]; rfl
  have hvt : ∀ v ∈ vs, v.count ≤ 1048576 := by
    intro v hv
    rw [hvs] at hv
    have hbc := Val.tot_count bent
    simp at hv
    rcases hv with rfl | rfl | rfl <;> omega
  refine t_g0 ?_
  refine t_a ?_
  refine t_sub [] @hvs (W_rounds (fun y : List Val × List Val × Nat => vs = y.1 ++ y.2.1 ∧ y.2.2 ≤ l.length) (fun y : List Val × List Val × Nat => [(.slot 92, .one (.v (dint y.1.length))), (.slot 91, .one (.v (dint 3))), (.slot 90, .one (.v (.sl (vs.map Val.cells)))), (.slot 3, .one (.v (dint n))), (.slot 6, .one (.loc 6 0)), (.loc 6, .row ([.v (dint x.kind), .v (dint x.index), .v (dint x.type.kind), .v (.sl (x.type.args.map Ty.cells)), .v (.sl (x.args.map Tm.cells))])), (.slot 9, .one (.v (ptr b))), (.slot 10, .one (.loc 10 0)), (.loc 10, .row ([.v (dint own.kind), .v (dint own.num), .v (.sl (ints own.list)), .v (.sl (own.args.map Val.cells))])), (.heap  b, .row ([.v (.sl (ints l)), .v (dint y.2.2)]))]) (fun y : List Val × List Val × Nat => y.2.1.length) (([] : List Val), vs, q) (⟨by simp, hq0⟩) ?_)
  rintro ⟨done, rest, p⟩ ⟨hL, hp⟩ ih
  simp only at hL hp ⊢
  cases rest with
  | cons v rest =>
    have hlt : done.length < 3 := by rw [← hvl, hL]; simp
    have hg0 : vs[done.length]? = some v := by rw [hL]; simp
    have hvc := hvt v (List.mem_of_getElem? hg0)
    have ck : Con1 Tryz.prog gl 16 [v.dv] [] (dint v.checkN) [] := check_ok v (by omega)
    obtain ⟨te1, te2⟩ := Val.termE_small v
    have ht1 := typeD_small l (n := 1) hp (by decide)
    have ct := mk_type_ok (gl := gl) 1 b l p hfew hp (by decide)
    generalize hty : typeD l 1 p = tp at *
    obtain ⟨t, p3⟩ := tp
    simp only at ht1 ct
    have cm := mk_term_ok (gl := gl) b l hfew 1 (by decide) t [] p3 ht1.2 (by simp) (by simp) ht1.1
    obtain ⟨d1, d2⟩ := termD_facts (l := l) closed_shape 1 t [] p3 ht1.2 (by simp) ht1.1
    have d3 := termD_count l 1 t [] p3 ht1.2 (by simp) ht1.1
    have hB : drawB 1 = 155 := by decide
    rw [hB] at d3
    generalize htm : termD l 1 t [] p3 = tq at *
    obtain ⟨u, p4⟩ := tq
    simp only at d1 d2 d3 cm
    have hfd := Val.fold v
    have hfo := Val.fold own
    refine t_g (j2 @hlt @hg0) ?_
    refine t_c1 @hfd (typeE_ok v hvc) ?_
    refine t_c1 @hfd (typeE5_ok v (by omega)) ?_
    refine t_c1 @hfd (termE_ok v hvc) ?_
    refine t_c1 @hfd (termE5_ok v hvc) ?_
    refine t_c6 (j2 @hfd (j2 @hfo (j2 @ty_self @tm_self))) ck (check5_ok v (by omega)) (ref01_same_ok v.typeE.1 v.typeE.1) (ref02_same_ok v.termE.1 v.termE.1) (value_same_ok v own) (ref05_same_ok v own) ?_
    refine t_g0 ?_
    refine t_c2 trivial ct cm ?_
    obtain ⟨dn0, hdn0⟩ : ∃ dn0, dn0 = done.length := ⟨_, rfl⟩
    obtain ⟨ys, hys⟩ : ∃ ys, ys = [x, v.termE.1, u] := ⟨_, rfl⟩
    have hyl : ys.length = 3 := by rw [hys]; rfl
    have hyt : ∀ y ∈ ys, y.tys ∧ y.count ≤ 1048576 := by
      intro y hy
      rw [hys] at hy
      simp at hy
      rcases hy with rfl | rfl | rfl
      · exact ⟨hxt, by omega⟩
      · exact ⟨te2, by omega⟩
      · exact ⟨shape_tys _ d2, by omega⟩
    refine t_a ?_
    refine t_sub [] (j2 @hys @hdn0) (W_list (ys) (fun done rest => [(.slot 160, .one (.v (dint done.length))), (.slot 159, .one (.v (dint 3))), (.slot 158, .one (.v (.sl (ys.map Tm.cells)))), (.slot 92, .one (.v (dint dn0))), (.slot 91, .one (.v (dint 3))), (.slot 90, .one (.v (.sl (vs.map Val.cells)))), (.slot 3, .one (.v (dint n))), (.slot 6, .one (.loc 6 0)), (.loc 6, .row ([.v (dint x.kind), .v (dint x.index), .v (dint x.type.kind), .v (.sl (x.type.args.map Ty.cells)), .v (.sl (x.args.map Tm.cells))])), (.slot 9, .one (.v (ptr b))), (.slot 10, .one (.loc 10 0)), (.loc 10, .row ([.v (dint own.kind), .v (dint own.num), .v (.sl (ints own.list)), .v (.sl (own.args.map Val.cells))])), (.heap  b, .row ([.v (.sl (ints l)), .v (dint p4)]))]) ?_ ?_)
    · intro dn y rs hL2 hg2 hnext
      have hlt2 : dn.length < 3 := by rw [← hyl, hL2]; simp
      obtain ⟨y1, y2⟩ := hyt y (List.mem_of_getElem? hg2)
      have hfy := Tm.fold y
      refine t_g (j2 @hlt2 @hg2) ?_
      refine t_c1 @hfy (readE_ok har y y1 (by omega)) ?_
      refine t_c1 @hfy (readE5_ok y y1 (by omega)) ?_
      refine t_c1 @val_self (ref05_same_ok y.readE.1 y.readE.1) ?_
      refine t_gt (wr []) trivial trivial hnext
    · refine t_g @hyl ?_
      refine t_gt (wr []) @hdn0 @hdn0 (ih (done ++ [v], rest, p4) ⟨by rw [hL]; simp, d1⟩ (by simp))
  | nil =>
    have hdl : done.length = 3 := by rw [← hvl, hL]; simp
    have hmb := modz_bd n 70 (by decide)
    obtain ⟨ks, hks⟩ : ∃ ks, ks = [n, modz n 70] := ⟨_, rfl⟩
    have hkl : ks.length = 2 := by rw [hks]; rfl
    refine t_g @hdl ?_
    refine t_c1 trivial (mod_ok n 70 (by decide) (by decide)) ?_
    refine t_a ?_
    refine W_sub [] (by simp [go_sem]) (by simp [go_sem, hks, ints] <;> omega) (by simp [go_sem]) (W_list (ks) (fun done rest => [(.slot 190, .one (.v (dint done.length))), (.slot 189, .one (.v (dint 2))), (.slot 188, .one (.v (.sl (ints ks))))]) ?_ ?_)
    · intro dn k rs hL2 hg2 hnext
      have hlt2 : dn.length < 2 := by rw [← hkl, hL2]; simp
      have hgi := ints_get hg2
      refine t_g (j2 @hlt2 @hgi) ?_
      refine t_c1 trivial (numberE_ok k) ?_
      refine t_c1 trivial (numberE5_ok k) ?_
      refine t_c1 @tm_self (ref02_same_ok (numberE k).1 (numberE k).1) ?_
      refine t_gt (wr []) trivial trivial hnext
    · refine t_g @hkl ?_
      refine t_a ?_
      first | refine W_reg [] fun K hK => ?_ | refine W_regd (by rw [hP]; exact mixed) [] fun K hK => ?_
      refine t_s @tm_self ?_
      refine t_c @tm_self (pred_ok) ?_
      refine t_c @tm_self (ref05_pred_ok) ?_
      refine t_c @tm_self (ref02_same_ok predT predT) ?_
      refine t_c @tm_self (plus_ok) ?_
      refine t_c @tm_self (ref05_plus_ok) ?_
      refine t_c @tm_self (ref02_same_ok plusT plusT) ?_
      refine t_c @tm_self (times5_ok) ?_
      refine t_c @tm_self (ref05_times_ok) ?_
      refine t_c @tm_self (ref02_same_ok timesT timesT) ?_
      refine t_c @tm_self (sub_ok) ?_
      refine t_c @tm_self (ref05_sub_ok) ?_
      refine t_c @tm_self (ref02_same_ok subT subT) ?_
      refine t_c @tm_self (dist_ok) ?_
      refine t_c @tm_self (ref05_dist_ok) ?_
      refine t_c @tm_self (ref02_same_ok distT distT) ?_
      refine t_e ?_
      clear hK K
      refine t_r ?_
      simp [go_sem, hP, hgl, hn] <;> (try omega)
end Go.Proofs.YtbmnlkfgkdallaaGreatDoor.Lift
