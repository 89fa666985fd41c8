import Derived.Test.YtgfjcbofbbcnmaaDoorQ4
/-
  Package machine: the walk of a fold.
-/
namespace Go.Proofs.YtgfjcbofbbcnmaaDoor.Lift
set_option linter.unusedSimpArgs false
set_option linter.unusedVariables false
set_option linter.unnecessarySimpa false
open Go
variable {gl : Globs}

/-- the cells of a list, the first one first -/
def cellsOf : List Nat → List DV
  | [] => []
  | n :: l => cellM (n :: l) :: cellsOf l
theorem cellsOf_length : ∀ l, (cellsOf l).length = l.length
  | [] => rfl
  | n :: l => by simp [cellsOf, cellsOf_length l]
theorem cellsOf_get : ∀ {l : List Nat} {i : Nat}, i < l.length → (cellsOf l)[i]? = some (cellM (l.drop i))
  | n :: l, 0, _ => rfl
  | n :: l, i + 1, h => by simpa [cellsOf] using cellsOf_get (l := l) (i := i) (by simpa using h)

theorem fold_drop {ev : Evl} {f r : MV} : ∀ {l : List Nat} {v : MV} {c : Nat} (i : Nat), foldC ev f r l = some (v, c) → ∃ v' c', foldC ev f r (l.drop i) = some (v', c') ∧ c' ≤ c
  | l, v, c, 0, h => ⟨v, c, h, Nat.le_refl _⟩
  | [], v, c, i + 1, h => ⟨v, c, h, Nat.le_refl _⟩
  | x :: l, v, c, i + 1, h => by
    simp only [foldC] at h
    split at h
    · cases h
    rename_i v1 c1 hv1
    split at h
    · cases h
    rename_i w c2 hw
    simp only [Option.some.injEq, Prod.mk.injEq] at h
    obtain ⟨rfl, rfl⟩ := h
    obtain ⟨v', c', h1, h2⟩ := fold_drop i hv1
    exact ⟨v', c', h1, by omega⟩
theorem fold_step {ev : Evl} {f r : MV} {x : Nat} {l : List Nat} {v : MV} {c : Nat} (h : foldC ev f r (x :: l) = some (v, c)) : ∃ v1 c1 c2, foldC ev f r l = some (v1, c1) ∧ callC ev f [.num x, .list l, v1] = some (v, c2) ∧ c = c1 + c2 := by
  simp only [foldC] at h
  split at h
  · cases h
  rename_i v1 c1 hv1
  split at h
  · cases h
  rename_i w c2 hw
  simp only [Option.some.injEq, Prod.mk.injEq] at h
  obtain ⟨rfl, rfl⟩ := h
  exact ⟨v1, c1, c2, hv1, hw, rfl⟩
def foldS (ev : Evl) (f r : MV) (l : List Nat) (i : Nat) : MV × Nat := (foldC ev f r (l.drop i)).getD (.unit, 0)

theorem room_le {M c1 most u : Nat} (h : M + (most - u) ≤ 1073741824) (k : u + c1 ≤ most) : M + c1 + (most - (u + c1)) ≤ 1073741824 := by omega
set_option maxHeartbeats 1000000 in
theorem foldM_ok {most : Nat} (hm : most ≤ 1073741824) {ev : Evl} (H : WalkM Tryd.prog gl 45 most ev) (hN : NleM most ev) : FoldM Tryd.prog gl 72 most ev := by
  intro r f v l u c b M h hu hM hr0 hf0 hl0
  have z0 : at3 [r, f, .list l] 0 = r.thing := rfl
  have z1 : at3 [r, f, .list l] 1 = f.thing := rfl
  have z2 : at3 [r, f, .list l] 2 = .iface 100 (cellM l) := thing_list l
  have hll : (l.length : Int) ≤ 1073741824 := by omega
  unfold arr3
  rw [z0, z1, z2, useM_yes hu]
  refine t_in Tryd.func72 ?_
  intro X hP hgl hf hfn hn hR hids hfit
  refine t_g0 ?_
  refine t_a ?_
  refine W_sub [(1006, 0)] (by simp [go_sem]) (by simp [go_sem, ones] <;> omega) (by simp [go_sem]) (W_rounds (fun x : List DV × List Nat => x.1 ++ cellsOf x.2 = cellsOf l ∧ x.1.length + x.2.length = l.length) (fun x : List DV × List Nat => [(.slot 6, .one (.own 1006 (ones x.1))), (.tok 1006, .tk 1 x.1.length), (.slot 7, .one (.v (cellM x.2))), (.slot 4, .one (.v nilI)), (.slot 5, .one (.v (dbool false))), (.slot 2, .one (.loc 2 0)), (.loc 2, .row ([.v (ptr b)])), (.slot 3, .one (.loc 3 0)), (.loc 3, .row ([.v r.thing, .v f.thing, .v (.iface 100 (cellM l))])), (.heap  b, .row ([.v (dint (u : Int)), .v (dint (most : Int))]))]) (fun x : List DV × List Nat => x.2.length) (([] : List DV), l) (⟨rfl, by simp⟩) ?_)
  rintro ⟨cs, q⟩ ⟨hq1, hq2⟩ ih
  simp only at hq1 hq2
  cases q with
  | cons n q =>
    have hcm := cellM_cons n q
    have hon := ones_length cs
    simp only [List.length_cons] at hq2
    have hle : (cs.length : Int) + 1 ≤ 1073741824 := by omega
    have hcl : cs.length ≤ 2147483647 := by omega
    have hwid : ∀ e : List DV, e ∈ ones cs → e.length = 1 := by intro e he; simp only [ones, List.mem_map] at he; obtain ⟨x, -, rfl⟩ := he; rfl
    have hone : ones cs ++ [[DV.ref [dint (n : Int), cellM q]]] = ones (cs ++ [DV.ref [dint (n : Int), cellM q]]) := by simp [ones]
    have e1 : (cs ++ [DV.ref [dint (n : Int), cellM q]]) ++ cellsOf q = cellsOf l := by rw [← hq1, cellsOf, hcm]; simp
    have e2 : (cs ++ [DV.ref [dint (n : Int), cellM q]]).length + q.length = l.length := by simp; omega
    have e3 : q.length < (n :: q).length := by simp
    rw [hcm]
    refine t_rg0 ?_
    refine t_yes ?_
    refine t_rg (j2 @hcl (j2 @hwid @hon)) ?_
    refine t_rg0 ?_
    have hl1 : (cs ++ [DV.ref [dint (n : Int), cellM q]]).length = cs.length + 1 := by simp
    refine t_b ?_
    refine t_sub [(1006, 24)] (j2 @hone (j2 @hon @hl1)) (ih (cs ++ [DV.ref [dint (n : Int), cellM q]], q) ⟨e1, e2⟩ e3)
  | nil =>
    simp only [cellsOf, List.append_nil] at hq1
    subst hq1
    have hcm := cellM_nil
    rw [hcm]
    refine t_rg0 ?_
    refine t_no ?_
    refine t_rg0 ?_
    refine t_a ?_
    first | refine W_reg [] fun K hK => ?_ | refine W_regd (by rw [hP]; exact mixed) [] fun K hK => ?_
    refine t_s0 ?_
    repeat (refine ⟨by omega, ?_⟩)
    refine vcK_callR hP hgl (backwardM_ok (cellsOf l)) (by simp [go_sem]) rfl (by simp [go_sem]) (by simp) (by rw [hn]; exact Nat.le_of_ble_eq_true rfl) ?_
    rintro rr ψ ⟨b0, rfl, rfl⟩ hdis
    simp [go_sem] at hdis ⊢
    refine t_e ?_
    clear hK K
    refine t_a ?_
    refine W_expose 2 (by simp [go_sem]; rfl) ?_
    intro b2 hb2
    simp [go_sem, hdis] at hb2 ⊢
    refine W_expose 3 (by simp [go_sem]; rfl) ?_
    intro b3 hb3
    simp [go_sem, hdis, hb2] at hb3 ⊢
    refine W_expose 8 (by simp [go_sem]; rfl) ?_
    intro b8 hb8
    simp [go_sem, hdis, hb2, hb3] at hb8 ⊢
    refine W_expose 9 (by simp [go_sem]; rfl) ?_
    intro b9 hb9
    simp [go_sem, hdis, hb2, hb3, hb8] at hb9 ⊢
    have hnds : ¬ b0 = b := fun e => hdis e.symm
    obtain ⟨q1, q2⟩ := hb2
    obtain ⟨q3, q4, q5⟩ := hb3
    obtain ⟨q6, q7, q8, q9⟩ := hb8
    obtain ⟨q10, q11, q12, q13, q14⟩ := hb9
    have q15 : ¬ b9 = b := fun e => q14 e.symm
    have q16 : ¬ b8 = b := fun e => q9 e.symm
    have q17 : ¬ b3 = b := fun e => q5 e.symm
    have q18 : ¬ b2 = b := fun e => q2 e.symm
    have p1 := Ne.symm q1
    have p3 := Ne.symm q3
    have p4 := Ne.symm q4
    have p6 := Ne.symm q6
    have p7 := Ne.symm q7
    have p8 := Ne.symm q8
    have p10 := Ne.symm q10
    have p11 := Ne.symm q11
    have p12 := Ne.symm q12
    have p13 := Ne.symm q13
    have hS : ∀ i, foldC ev f r (l.drop i) = some (foldS ev f r l i) ∧ (foldS ev f r l i).2 ≤ c := by
      intro i
      obtain ⟨v', c', e1, e2⟩ := fold_drop i h
      unfold foldS
      rw [e1]
      exact ⟨rfl, e2⟩
    have hS0 : foldS ev f r l 0 = (v, c) := by unfold foldS; rw [List.drop_zero, h]; rfl
    have hSl : foldS ev f r l l.length = (r, 0) := by unfold foldS; rw [List.drop_length]; rfl
    generalize hSS : foldS ev f r l = S at hS hS0 hSl
    let Φ : Nat → Objs := fun i => [(b2, [ptr b]), (b3, [r.thing, f.thing, .iface 100 (cellM l)]), (b8, [if u + (S i).2 ≤ most then (S i).1.thing else nilI]), (b9, [dbool (decide (u + (S i).2 ≤ most))]), (b, useM most (u + (S i).2))]
    have hlenc : (cellsOf l).length = l.length := cellsOf_length l
    have hΦl : Φ (cellsOf l).length = [(b2, [ptr b]), (b3, [r.thing, f.thing, .iface 100 (cellM l)]), (b8, [r.thing]), (b9, [dbool true]), (b, [dint (u : Int), dint (most : Int)])] := by
      simp only [Φ, hlenc, hSl, Nat.add_zero, if_pos hu, useM_yes hu, decide_eq_true hu]
    refine W_rangeFunc hR.2 (f := 93) (fi := #[]) (ca := #[.pointer (some ⟨b0, 0, none⟩)]) (by simp [go_sem]) (by simp [primOK]) (φ := (b0, [.sl (ones (cellsOf l))]) :: Φ (cellsOf l).length) ?_ ?_ (Y := BackM X.P X.gl (cellsOf l) Φ (fun ψ r' => ∃ i, ψ = Φ i ∧ ¬ u + (S i).2 ≤ most ∧ r'.state = .done ∧ r'.pending = some (.exit 2))) (R := fun φ' r' => (φ' = (b0, [.sl (ones (cellsOf l))]) :: Φ 0 ∧ r'.state = .ready ∧ r'.pending = none) ∨ ∃ i, φ' = (b0, [.sl (ones (cellsOf l))]) :: Φ i ∧ ¬ u + (S i).2 ≤ most ∧ r'.state = .done ∧ r'.pending = some (.exit 2)) (SL := [(2, ptr b2), (3, ptr b3), (8, ptr b8), (9, ptr b9)]) ?_ ?_ ?_ ?_ ?_
    · rw [hΦl]
      refine objsIn_one ?_ (objsIn_one ?_ (objsIn_one ?_ (objsIn_one ?_ (objsIn_one ?_ (objsIn_one ?_ (by simp [objsIn]))))))
      all_goals simp [go_sem, hdis, hnds, q1, q2, q3, q4, q5, q6, q7, q8, q9, q10, q11, q12, q13, q14, q15, q16, q17, q18, p1, p3, p4, p6, p7, p8, p10, p11, p12, p13]
    · rw [hΦl]
      simp [hdis, hnds, q1, q2, q3, q4, q5, q6, q7, q8, q9, q10, q11, q12, q13, q14, q15, q16, q17, q18, p1, p3, p4, p6, p7, p8, p10, p11, p12, p13]
      try (refine ⟨?_, ?_⟩ <;> (intro e; subst e; simp_all))
    · intro n x h
      simp only [List.mem_cons, List.not_mem_nil, or_false, Prod.mk.injEq] at h
      rcases h with ⟨rfl, rfl⟩ | ⟨rfl, rfl⟩ | ⟨rfl, rfl⟩ | ⟨rfl, rfl⟩ <;> simp [go_sem]
    · intro lp rr h1 h2 h3 h4
      have := backItM_ok (gl := gl) (cellsOf l) (by rw [hlenc]; omega) b0 Φ (fun _ => rfl) (by simp only [Φ]; simp [hdis, hnds, q1, q2, q3, q4, q5, q6, q7, q8, q9, q10, q11, q12, q13, q14, q15, q16, q17, q18, p1, p3, p4, p6, p7, p8, p10, p11, p12, p13]; try (intro e; subst e; simp_all)) (by simp only [Φ]; simp [hdis, hnds, q1, q2, q3, q4, q5, q6, q7, q8, q9, q10, q11, q12, q13, q14, q15, q16, q17, q18, p1, p3, p4, p6, p7, p8, p10, p11, p12, p13]) (Stop := fun ψ r' => ∃ i, ψ = Φ i ∧ ¬ u + (S i).2 ≤ most ∧ r'.state = .done ∧ r'.pending = some (.exit 2)) (by rintro ψ r' ⟨i, rfl, -⟩; rfl) lp rr (by rw [h3]; rfl)
      rw [hP, hgl]
      refine ⟨this.1, fun D w vs a1 a2 a3 a4 a5 a6 => (this.2 D w vs a1 a2 a3 a4 a5 a6).mono ?_⟩
      rintro e w' ⟨v1, D', φ', r', rfl, hR', rest⟩
      refine ⟨v1, D', φ', r', rfl, ?_, rest⟩
      rcases hR' with ⟨rfl, rfl⟩ | ⟨ψ, hψ, i, rfl, k1, k2, k3⟩
      · exact .inl ⟨rfl, h1, h2⟩
      · exact .inr ⟨i, hψ, k1, k2, k3⟩
    · intro lp rr D0 w0 h1 h2 h3 h4 h5 h6 h7 h8 h9 i x hx
      rw [hP, hgl]
      have hil : i < l.length := by have := (List.getElem?_eq_some_iff.1 hx).1; rw [hlenc] at this; exact this
      rw [cellsOf_get hil, Option.some.injEq] at hx
      subst hx
      refine YC_round X.n h5 h9 h1 (by rw [h3]; rfl) (by rw [h3, hn]; decide) (by rw [h3]; decide) (by rw [h3]; simp) ?_
      intro X' hP' hgl' hf' hn' hmd' hids' hl' hfit'
      rw [h3, h6, h7]
      rw [hn] at hn'
      clear hP hgl hn
      have hP := hP'
      have hgl := hgl'
      have hn := hn'
      have hl2 : ¬ lp = b2 ∧ ¬ lp = b3 ∧ ¬ lp = b8 ∧ ¬ lp = b9 ∧ ¬ lp = b := by simpa [Φ] using hl'
      obtain ⟨x2, x3, x8, x9, xb⟩ := hl2
      have i2 := Ne.symm x2
      have i3 := Ne.symm x3
      have i8 := Ne.symm x8
      have i9 := Ne.symm x9
      have ib := Ne.symm xb
      obtain ⟨n, hdi⟩ : ∃ n, l.drop i = n :: l.drop (i + 1) := ⟨l[i], List.drop_eq_getElem_cons hil⟩
      have hcm := cellM_cons n (l.drop (i + 1))
      have hfS := (hS i).1
      rw [hdi] at hfS ⊢
      obtain ⟨v1, c1, c2, g1, g2, g3⟩ := fold_step hfS
      have hS1 := (hS (i + 1)).1
      rw [g1, Option.some.injEq] at hS1
      rw [hcm]
      by_cases hfa : u + c1 ≤ most
      · have hΦ1 : Φ (i + 1) = [(b2, [ptr b]), (b3, [r.thing, f.thing, .iface 100 (cellM l)]), (b8, [v1.thing]), (b9, [dbool true]), (b, [dint ((u + c1 : Nat) : Int), dint (most : Int)])] := by
          simp only [Φ, ← hS1, if_pos hfa, useM_yes hfa, decide_eq_true hfa]
        have hbd : ∀ n' ∈ l.drop (i + 1), n' ≤ M := fun n' hn' => hl0.2 n' (List.mem_of_mem_drop hn')
        have hbl : (l.drop (i + 1)).length ≤ M := by have := hl0.1; rw [List.length_drop]; omega
        have hnM : n ≤ M := hl0.2 n (List.mem_of_mem_drop (by rw [hdi]; exact List.mem_cons_self))
        have hv1 := nle_fold hN g1 hf0 hr0 ⟨hbl, hbd⟩
        have w1 : f.nle (M + c1) := MV.nle_mono (Nat.le_add_right M c1) f hf0
        have w2 : M + c1 + (most - (u + c1)) ≤ 1073741824 := room_le hM hfa
        have w3 : MV.nles (M + c1) [.num n, .list (l.drop (i + 1)), v1] := by
          simp only [MV.nles, MV.nle]
          exact ⟨by omega, ⟨by omega, fun n' hn' => Nat.le_trans (hbd n' hn') (Nat.le_add_right M c1)⟩, hv1, trivial⟩
        have W1 := callM_ok hm H hN b (M + c1) g2 hfa w2 w1 w3
        rw [useM_yes hfa] at W1
        simp only [List.map, thing_num, thing_list] at W1
        rw [hΦ1]
        simp only [entryR, h3, parSt, slotSt, heapSt, List.cons_append, List.nil_append]
        refine t_rg (j2 @hdis (j2 @hnds (j2 @q1 (j2 @q2 (j2 @q3 (j2 @q4 (j2 @q5 (j2 @q6 (j2 @q7 (j2 @q8 (j2 @q9 (j2 @q10 (j2 @q11 (j2 @q12 (j2 @q13 (j2 @q14 (j2 @q15 (j2 @q16 (j2 @q17 (j2 @q18 (j2 @p1 (j2 @p3 (j2 @p4 (j2 @p6 (j2 @p7 (j2 @p8 (j2 @p10 (j2 @p11 (j2 @p12 (j2 @p13 (j2 @x2 (j2 @x3 (j2 @x8 (j2 @x9 (j2 @xb (j2 @i2 (j2 @i3 (j2 @i8 (j2 @i9 @ib))))))))))))))))))))))))))))))))))))))) ?_
        refine W_begin (r := rr) (l := lp) (by simp [Ctx.rd, hmd']) (by simp [go_sem]) h1 ?_
        simp [go_sem, hdis, hnds, q1, q2, q3, q4, q5, q6, q7, q8, q9, q10, q11, q12, q13, q14, q15, q16, q17, q18, p1, p3, p4, p6, p7, p8, p10, p11, p12, p13, x2, x3, x8, x9, xb, i2, i3, i8, i9, ib]
        refine t_rg (j2 @hdis (j2 @hnds (j2 @q1 (j2 @q2 (j2 @q3 (j2 @q4 (j2 @q5 (j2 @q6 (j2 @q7 (j2 @q8 (j2 @q9 (j2 @q10 (j2 @q11 (j2 @q12 (j2 @q13 (j2 @q14 (j2 @q15 (j2 @q16 (j2 @q17 (j2 @q18 (j2 @p1 (j2 @p3 (j2 @p4 (j2 @p6 (j2 @p7 (j2 @p8 (j2 @p10 (j2 @p11 (j2 @p12 (j2 @p13 (j2 @x2 (j2 @x3 (j2 @x8 (j2 @x9 (j2 @xb (j2 @i2 (j2 @i3 (j2 @i8 (j2 @i9 @ib))))))))))))))))))))))))))))))))))))))) ?_
        refine t_no ?_
        by_cases hfb : u + c1 + c2 ≤ most
        · have o1 : outM most (u + c1 + c2) (S i).1.thing = .tup [(S i).1.thing, dbool true] := outM_yes hfb _
          have hΦ0 : Φ i = [(b2, [ptr b]), (b3, [r.thing, f.thing, .iface 100 (cellM l)]), (b8, [(S i).1.thing]), (b9, [dbool true]), (b, [dint ((u + c1 + c2 : Nat) : Int), dint (most : Int)])] := by
            have e9 : u + (S i).2 = u + c1 + c2 := by omega
            simp only [Φ, e9, if_pos hfb, useM_yes hfb, decide_eq_true hfb]
          rw [o1, useM_yes hfb] at W1
          refine t_a ?_
          first | refine W_reg [] fun K hK => ?_ | refine W_regd (by rw [hP]; exact mixed) [] fun K hK => ?_
          refine t_s (j2 @hdis (j2 @hnds (j2 @q1 (j2 @q2 (j2 @q3 (j2 @q4 (j2 @q5 (j2 @q6 (j2 @q7 (j2 @q8 (j2 @q9 (j2 @q10 (j2 @q11 (j2 @q12 (j2 @q13 (j2 @q14 (j2 @q15 (j2 @q16 (j2 @q17 (j2 @q18 (j2 @p1 (j2 @p3 (j2 @p4 (j2 @p6 (j2 @p7 (j2 @p8 (j2 @p10 (j2 @p11 (j2 @p12 (j2 @p13 (j2 @x2 (j2 @x3 (j2 @x8 (j2 @x9 (j2 @xb (j2 @i2 (j2 @i3 (j2 @i8 (j2 @i9 @ib))))))))))))))))))))))))))))))))))))))) ?_
          repeat (refine ⟨by omega, ?_⟩)
          first | refine vcK_call hP hgl (W1) (by simp [go_sem, hP, hgl, hn, hdis, hnds, q1, q2, q3, q4, q5, q6, q7, q8, q9, q10, q11, q12, q13, q14, q15, q16, q17, q18, p1, p3, p4, p6, p7, p8, p10, p11, p12, p13, x2, x3, x8, x9, xb, i2, i3, i8, i9, ib]) rfl (by simp [go_sem, hP, hgl, hn, hdis, hnds, q1, q2, q3, q4, q5, q6, q7, q8, q9, q10, q11, q12, q13, q14, q15, q16, q17, q18, p1, p3, p4, p6, p7, p8, p10, p11, p12, p13, x2, x3, x8, x9, xb, i2, i3, i8, i9, ib]) (by simp [hdis, hnds, q1, q2, q3, q4, q5, q6, q7, q8, q9, q10, q11, q12, q13, q14, q15, q16, q17, q18, p1, p3, p4, p6, p7, p8, p10, p11, p12, p13, x2, x3, x8, x9, xb, i2, i3, i8, i9, ib]) (by rw [hn]; exact Nat.le_of_ble_eq_true rfl) ?_ | refine vcdC_call (fun _ _ => vcd_sound) hP hgl (W1) (by simp [go_sem, hP, hgl, hn, hdis, hnds, q1, q2, q3, q4, q5, q6, q7, q8, q9, q10, q11, q12, q13, q14, q15, q16, q17, q18, p1, p3, p4, p6, p7, p8, p10, p11, p12, p13, x2, x3, x8, x9, xb, i2, i3, i8, i9, ib]) rfl (by simp [go_sem, hP, hgl, hn, hdis, hnds, q1, q2, q3, q4, q5, q6, q7, q8, q9, q10, q11, q12, q13, q14, q15, q16, q17, q18, p1, p3, p4, p6, p7, p8, p10, p11, p12, p13, x2, x3, x8, x9, xb, i2, i3, i8, i9, ib]) (by simp [hdis, hnds, q1, q2, q3, q4, q5, q6, q7, q8, q9, q10, q11, q12, q13, q14, q15, q16, q17, q18, p1, p3, p4, p6, p7, p8, p10, p11, p12, p13, x2, x3, x8, x9, xb, i2, i3, i8, i9, ib]) (by rw [hn]; exact Nat.le_of_ble_eq_true rfl) ?_
          simp [go_sem, hP, hgl, hn, hdis, hnds, q1, q2, q3, q4, q5, q6, q7, q8, q9, q10, q11, q12, q13, q14, q15, q16, q17, q18, p1, p3, p4, p6, p7, p8, p10, p11, p12, p13, x2, x3, x8, x9, xb, i2, i3, i8, i9, ib]
          refine t_e ?_
          clear hK K
          refine t_a ?_
          refine W_rdfin hmd' (φ := Φ i) ?_ (by simp only [Φ]; simp [hdis, hnds, q1, q2, q3, q4, q5, q6, q7, q8, q9, q10, q11, q12, q13, q14, q15, q16, q17, q18, p1, p3, p4, p6, p7, p8, p10, p11, p12, p13]) (by simp [go_sem, hdis, hnds, q1, q2, q3, q4, q5, q6, q7, q8, q9, q10, q11, q12, q13, q14, q15, q16, q17, q18, p1, p3, p4, p6, p7, p8, p10, p11, p12, p13, x2, x3, x8, x9, xb, i2, i3, i8, i9, ib]) none rfl ?_
          · rw [hΦ0]
            refine objsIn_one ?_ (objsIn_one ?_ (objsIn_one ?_ (objsIn_one ?_ (objsIn_one ?_ (by simp [objsIn])))))
            all_goals simp [go_sem, hdis, hnds, q1, q2, q3, q4, q5, q6, q7, q8, q9, q10, q11, q12, q13, q14, q15, q16, q17, q18, p1, p3, p4, p6, p7, p8, p10, p11, p12, p13, x2, x3, x8, x9, xb, i2, i3, i8, i9, ib]
          · simp only [Option.isNone_none, if_true, true_and]
            cases rr; simp only [pastL] at h1 h2 ⊢; subst h1 h2; rfl
        · have o1 : outM most (u + c1 + c2) (S i).1.thing = .tup [nilI, dbool false] := outM_no hfb _
          have hΦ0 : Φ i = [(b2, [ptr b]), (b3, [r.thing, f.thing, .iface 100 (cellM l)]), (b8, [nilI]), (b9, [dbool false]), (b, [dint (most : Int), dint (most : Int)])] := by
            have e9 : u + (S i).2 = u + c1 + c2 := by omega
            simp only [Φ, e9, if_neg hfb, useM_no hfb, decide_eq_false hfb]
          rw [o1, useM_no hfb] at W1
          refine t_a ?_
          first | refine W_reg [] fun K hK => ?_ | refine W_regd (by rw [hP]; exact mixed) [] fun K hK => ?_
          refine t_s (j2 @hdis (j2 @hnds (j2 @q1 (j2 @q2 (j2 @q3 (j2 @q4 (j2 @q5 (j2 @q6 (j2 @q7 (j2 @q8 (j2 @q9 (j2 @q10 (j2 @q11 (j2 @q12 (j2 @q13 (j2 @q14 (j2 @q15 (j2 @q16 (j2 @q17 (j2 @q18 (j2 @p1 (j2 @p3 (j2 @p4 (j2 @p6 (j2 @p7 (j2 @p8 (j2 @p10 (j2 @p11 (j2 @p12 (j2 @p13 (j2 @x2 (j2 @x3 (j2 @x8 (j2 @x9 (j2 @xb (j2 @i2 (j2 @i3 (j2 @i8 (j2 @i9 @ib))))))))))))))))))))))))))))))))))))))) ?_
          repeat (refine ⟨by omega, ?_⟩)
          first | refine vcK_call hP hgl (W1) (by simp [go_sem, hP, hgl, hn, hdis, hnds, q1, q2, q3, q4, q5, q6, q7, q8, q9, q10, q11, q12, q13, q14, q15, q16, q17, q18, p1, p3, p4, p6, p7, p8, p10, p11, p12, p13, x2, x3, x8, x9, xb, i2, i3, i8, i9, ib]) rfl (by simp [go_sem, hP, hgl, hn, hdis, hnds, q1, q2, q3, q4, q5, q6, q7, q8, q9, q10, q11, q12, q13, q14, q15, q16, q17, q18, p1, p3, p4, p6, p7, p8, p10, p11, p12, p13, x2, x3, x8, x9, xb, i2, i3, i8, i9, ib]) (by simp [hdis, hnds, q1, q2, q3, q4, q5, q6, q7, q8, q9, q10, q11, q12, q13, q14, q15, q16, q17, q18, p1, p3, p4, p6, p7, p8, p10, p11, p12, p13, x2, x3, x8, x9, xb, i2, i3, i8, i9, ib]) (by rw [hn]; exact Nat.le_of_ble_eq_true rfl) ?_ | refine vcdC_call (fun _ _ => vcd_sound) hP hgl (W1) (by simp [go_sem, hP, hgl, hn, hdis, hnds, q1, q2, q3, q4, q5, q6, q7, q8, q9, q10, q11, q12, q13, q14, q15, q16, q17, q18, p1, p3, p4, p6, p7, p8, p10, p11, p12, p13, x2, x3, x8, x9, xb, i2, i3, i8, i9, ib]) rfl (by simp [go_sem, hP, hgl, hn, hdis, hnds, q1, q2, q3, q4, q5, q6, q7, q8, q9, q10, q11, q12, q13, q14, q15, q16, q17, q18, p1, p3, p4, p6, p7, p8, p10, p11, p12, p13, x2, x3, x8, x9, xb, i2, i3, i8, i9, ib]) (by simp [hdis, hnds, q1, q2, q3, q4, q5, q6, q7, q8, q9, q10, q11, q12, q13, q14, q15, q16, q17, q18, p1, p3, p4, p6, p7, p8, p10, p11, p12, p13, x2, x3, x8, x9, xb, i2, i3, i8, i9, ib]) (by rw [hn]; exact Nat.le_of_ble_eq_true rfl) ?_
          simp [go_sem, hP, hgl, hn, hdis, hnds, q1, q2, q3, q4, q5, q6, q7, q8, q9, q10, q11, q12, q13, q14, q15, q16, q17, q18, p1, p3, p4, p6, p7, p8, p10, p11, p12, p13, x2, x3, x8, x9, xb, i2, i3, i8, i9, ib]
          refine t_e ?_
          clear hK K
          refine t_a ?_
          refine W_rdfin hmd' (φ := Φ i) ?_ (by simp only [Φ]; simp [hdis, hnds, q1, q2, q3, q4, q5, q6, q7, q8, q9, q10, q11, q12, q13, q14, q15, q16, q17, q18, p1, p3, p4, p6, p7, p8, p10, p11, p12, p13]) (by simp [go_sem, hdis, hnds, q1, q2, q3, q4, q5, q6, q7, q8, q9, q10, q11, q12, q13, q14, q15, q16, q17, q18, p1, p3, p4, p6, p7, p8, p10, p11, p12, p13, x2, x3, x8, x9, xb, i2, i3, i8, i9, ib]) none rfl ?_
          · rw [hΦ0]
            refine objsIn_one ?_ (objsIn_one ?_ (objsIn_one ?_ (objsIn_one ?_ (objsIn_one ?_ (by simp [objsIn])))))
            all_goals simp [go_sem, hdis, hnds, q1, q2, q3, q4, q5, q6, q7, q8, q9, q10, q11, q12, q13, q14, q15, q16, q17, q18, p1, p3, p4, p6, p7, p8, p10, p11, p12, p13, x2, x3, x8, x9, xb, i2, i3, i8, i9, ib]
          · simp only [Option.isNone_none, if_true, true_and]
            cases rr; simp only [pastL] at h1 h2 ⊢; subst h1 h2; rfl
      · have hΦ1 : Φ (i + 1) = [(b2, [ptr b]), (b3, [r.thing, f.thing, .iface 100 (cellM l)]), (b8, [nilI]), (b9, [dbool false]), (b, [dint (most : Int), dint (most : Int)])] := by
          simp only [Φ, ← hS1, if_neg hfa, useM_no hfa, decide_eq_false hfa]
        rw [hΦ1]
        simp only [entryR, h3, parSt, slotSt, heapSt, List.cons_append, List.nil_append]
        refine t_rg (j2 @hdis (j2 @hnds (j2 @q1 (j2 @q2 (j2 @q3 (j2 @q4 (j2 @q5 (j2 @q6 (j2 @q7 (j2 @q8 (j2 @q9 (j2 @q10 (j2 @q11 (j2 @q12 (j2 @q13 (j2 @q14 (j2 @q15 (j2 @q16 (j2 @q17 (j2 @q18 (j2 @p1 (j2 @p3 (j2 @p4 (j2 @p6 (j2 @p7 (j2 @p8 (j2 @p10 (j2 @p11 (j2 @p12 (j2 @p13 (j2 @x2 (j2 @x3 (j2 @x8 (j2 @x9 (j2 @xb (j2 @i2 (j2 @i3 (j2 @i8 (j2 @i9 @ib))))))))))))))))))))))))))))))))))))))) ?_
        refine W_begin (r := rr) (l := lp) (by simp [Ctx.rd, hmd']) (by simp [go_sem]) h1 ?_
        simp [go_sem, hdis, hnds, q1, q2, q3, q4, q5, q6, q7, q8, q9, q10, q11, q12, q13, q14, q15, q16, q17, q18, p1, p3, p4, p6, p7, p8, p10, p11, p12, p13, x2, x3, x8, x9, xb, i2, i3, i8, i9, ib]
        refine t_rg (j2 @hdis (j2 @hnds (j2 @q1 (j2 @q2 (j2 @q3 (j2 @q4 (j2 @q5 (j2 @q6 (j2 @q7 (j2 @q8 (j2 @q9 (j2 @q10 (j2 @q11 (j2 @q12 (j2 @q13 (j2 @q14 (j2 @q15 (j2 @q16 (j2 @q17 (j2 @q18 (j2 @p1 (j2 @p3 (j2 @p4 (j2 @p6 (j2 @p7 (j2 @p8 (j2 @p10 (j2 @p11 (j2 @p12 (j2 @p13 (j2 @x2 (j2 @x3 (j2 @x8 (j2 @x9 (j2 @xb (j2 @i2 (j2 @i3 (j2 @i8 (j2 @i9 @ib))))))))))))))))))))))))))))))))))))))) ?_
        refine t_yes ?_
        refine W_rdfin hmd' (φ := Φ (i + 1)) ?_ (by simp only [Φ]; simp [hdis, hnds, q1, q2, q3, q4, q5, q6, q7, q8, q9, q10, q11, q12, q13, q14, q15, q16, q17, q18, p1, p3, p4, p6, p7, p8, p10, p11, p12, p13]) (by simp [go_sem, hdis, hnds, q1, q2, q3, q4, q5, q6, q7, q8, q9, q10, q11, q12, q13, q14, q15, q16, q17, q18, p1, p3, p4, p6, p7, p8, p10, p11, p12, p13, x2, x3, x8, x9, xb, i2, i3, i8, i9, ib]) (some (.exit 2)) ⟨_, rfl, rfl⟩ ?_
        · rw [hΦ1]
          refine objsIn_one ?_ (objsIn_one ?_ (objsIn_one ?_ (objsIn_one ?_ (objsIn_one ?_ (by simp [objsIn])))))
          all_goals simp [go_sem, hdis, hnds, q1, q2, q3, q4, q5, q6, q7, q8, q9, q10, q11, q12, q13, q14, q15, q16, q17, q18, p1, p3, p4, p6, p7, p8, p10, p11, p12, p13, x2, x3, x8, x9, xb, i2, i3, i8, i9, ib]
        · rw [if_neg (by simp)]
          exact ⟨i + 1, rfl, by rw [← hS1]; exact hfa, rfl, rfl⟩
    · rintro φ' r' (⟨-, h, -⟩ | ⟨_, -, -, h, -⟩) <;> (rw [h]; simp)
    · rintro φ' r' (⟨rfl, -, h⟩ | ⟨i, rfl, hi, -, h⟩) -
      · rw [h]
        by_cases hfc : u + c ≤ most
        · rw [outM_yes hfc, useM_yes hfc] at hR
          have hΦ0 : Φ 0 = [(b2, [ptr b]), (b3, [r.thing, f.thing, .iface 100 (cellM l)]), (b8, [v.thing]), (b9, [dbool true]), (b, [dint ((u + c : Nat) : Int), dint (most : Int)])] := by
            simp only [Φ, hS0, if_pos hfc, useM_yes hfc, decide_eq_true hfc]
          rw [hΦ0, hΦl]
          simp [go_sem, hdis, hnds, q1, q2, q3, q4, q5, q6, q7, q8, q9, q10, q11, q12, q13, q14, q15, q16, q17, q18, p1, p3, p4, p6, p7, p8, p10, p11, p12, p13]
          refine t_rg (j2 @hdis (j2 @hnds (j2 @q1 (j2 @q2 (j2 @q3 (j2 @q4 (j2 @q5 (j2 @q6 (j2 @q7 (j2 @q8 (j2 @q9 (j2 @q10 (j2 @q11 (j2 @q12 (j2 @q13 (j2 @q14 (j2 @q15 (j2 @q16 (j2 @q17 (j2 @q18 (j2 @p1 (j2 @p3 (j2 @p4 (j2 @p6 (j2 @p7 (j2 @p8 (j2 @p10 (j2 @p11 (j2 @p12 @p13))))))))))))))))))))))))))))) ?_
          repeat (first | refine W_seq ?_ | refine W_skip ?_ | refine W_block ?_ | refine W_inBlock ?_ | refine W_label ?_ | refine W_exit rfl ?_)
          first | refine W_retR hP hf hfn _ ([(b, [dint ((u + c : Nat) : Int), dint (most : Int)])]) (by first | (simp [go_sem, hP, hgl, hn, hdis, hnds, q1, q2, q3, q4, q5, q6, q7, q8, q9, q10, q11, q12, q13, q14, q15, q16, q17, q18, p1, p3, p4, p6, p7, p8, p10, p11, p12, p13]; done) | (simp [go_sem, hP, hgl, hn, hdis, hnds, q1, q2, q3, q4, q5, q6, q7, q8, q9, q10, q11, q12, q13, q14, q15, q16, q17, q18, p1, p3, p4, p6, p7, p8, p10, p11, p12, p13]; rfl)) (by simp [go_sem, hP, hgl, hn, hdis, hnds, q1, q2, q3, q4, q5, q6, q7, q8, q9, q10, q11, q12, q13, q14, q15, q16, q17, q18, p1, p3, p4, p6, p7, p8, p10, p11, p12, p13]) (by simp) ?_ hR.2 | refine W_endR hP hf hfn _ ([(b, [dint ((u + c : Nat) : Int), dint (most : Int)])]) (by first | (simp [go_sem, hP, hgl, hn, hdis, hnds, q1, q2, q3, q4, q5, q6, q7, q8, q9, q10, q11, q12, q13, q14, q15, q16, q17, q18, p1, p3, p4, p6, p7, p8, p10, p11, p12, p13]; done) | (simp [go_sem, hP, hgl, hn, hdis, hnds, q1, q2, q3, q4, q5, q6, q7, q8, q9, q10, q11, q12, q13, q14, q15, q16, q17, q18, p1, p3, p4, p6, p7, p8, p10, p11, p12, p13]; rfl)) (by simp [go_sem, hP, hgl, hn, hdis, hnds, q1, q2, q3, q4, q5, q6, q7, q8, q9, q10, q11, q12, q13, q14, q15, q16, q17, q18, p1, p3, p4, p6, p7, p8, p10, p11, p12, p13]) (by simp) ?_ hR.2
          rw [hR.1]
          refine ⟨?_, by simp [hdis, hnds, q1, q2, q3, q4, q5, q6, q7, q8, q9, q10, q11, q12, q13, q14, q15, q16, q17, q18, p1, p3, p4, p6, p7, p8, p10, p11, p12, p13]⟩
          try simp [hdis, hnds, q1, q2, q3, q4, q5, q6, q7, q8, q9, q10, q11, q12, q13, q14, q15, q16, q17, q18, p1, p3, p4, p6, p7, p8, p10, p11, p12, p13]
          try all_goals (simp [Ty.dv, Ty.cells_eq, Ty.kind_mk, Ty.args_mk, Tm.dv, Tm.cells_eq, Tm.kind_mk, Tm.index_mk, Tm.type_mk, Tm.args_mk, Val.dv, Val.cells_eq, Val.kind_mk, Val.num_mk, Val.list_mk, Val.args_mk, ints])
        · rw [outM_no hfc, useM_no hfc] at hR
          have hΦ0 : Φ 0 = [(b2, [ptr b]), (b3, [r.thing, f.thing, .iface 100 (cellM l)]), (b8, [nilI]), (b9, [dbool false]), (b, [dint (most : Int), dint (most : Int)])] := by
            simp only [Φ, hS0, if_neg hfc, useM_no hfc, decide_eq_false hfc]
          rw [hΦ0, hΦl]
          simp [go_sem, hdis, hnds, q1, q2, q3, q4, q5, q6, q7, q8, q9, q10, q11, q12, q13, q14, q15, q16, q17, q18, p1, p3, p4, p6, p7, p8, p10, p11, p12, p13]
          refine t_rg (j2 @hdis (j2 @hnds (j2 @q1 (j2 @q2 (j2 @q3 (j2 @q4 (j2 @q5 (j2 @q6 (j2 @q7 (j2 @q8 (j2 @q9 (j2 @q10 (j2 @q11 (j2 @q12 (j2 @q13 (j2 @q14 (j2 @q15 (j2 @q16 (j2 @q17 (j2 @q18 (j2 @p1 (j2 @p3 (j2 @p4 (j2 @p6 (j2 @p7 (j2 @p8 (j2 @p10 (j2 @p11 (j2 @p12 @p13))))))))))))))))))))))))))))) ?_
          repeat (first | refine W_seq ?_ | refine W_skip ?_ | refine W_block ?_ | refine W_inBlock ?_ | refine W_label ?_ | refine W_exit rfl ?_)
          first | refine W_retR hP hf hfn _ ([(b, [dint (most : Int), dint (most : Int)])]) (by first | (simp [go_sem, hP, hgl, hn, hdis, hnds, q1, q2, q3, q4, q5, q6, q7, q8, q9, q10, q11, q12, q13, q14, q15, q16, q17, q18, p1, p3, p4, p6, p7, p8, p10, p11, p12, p13]; done) | (simp [go_sem, hP, hgl, hn, hdis, hnds, q1, q2, q3, q4, q5, q6, q7, q8, q9, q10, q11, q12, q13, q14, q15, q16, q17, q18, p1, p3, p4, p6, p7, p8, p10, p11, p12, p13]; rfl)) (by simp [go_sem, hP, hgl, hn, hdis, hnds, q1, q2, q3, q4, q5, q6, q7, q8, q9, q10, q11, q12, q13, q14, q15, q16, q17, q18, p1, p3, p4, p6, p7, p8, p10, p11, p12, p13]) (by simp) ?_ hR.2 | refine W_endR hP hf hfn _ ([(b, [dint (most : Int), dint (most : Int)])]) (by first | (simp [go_sem, hP, hgl, hn, hdis, hnds, q1, q2, q3, q4, q5, q6, q7, q8, q9, q10, q11, q12, q13, q14, q15, q16, q17, q18, p1, p3, p4, p6, p7, p8, p10, p11, p12, p13]; done) | (simp [go_sem, hP, hgl, hn, hdis, hnds, q1, q2, q3, q4, q5, q6, q7, q8, q9, q10, q11, q12, q13, q14, q15, q16, q17, q18, p1, p3, p4, p6, p7, p8, p10, p11, p12, p13]; rfl)) (by simp [go_sem, hP, hgl, hn, hdis, hnds, q1, q2, q3, q4, q5, q6, q7, q8, q9, q10, q11, q12, q13, q14, q15, q16, q17, q18, p1, p3, p4, p6, p7, p8, p10, p11, p12, p13]) (by simp) ?_ hR.2
          rw [hR.1]
          refine ⟨?_, by simp [hdis, hnds, q1, q2, q3, q4, q5, q6, q7, q8, q9, q10, q11, q12, q13, q14, q15, q16, q17, q18, p1, p3, p4, p6, p7, p8, p10, p11, p12, p13]⟩
          try simp [hdis, hnds, q1, q2, q3, q4, q5, q6, q7, q8, q9, q10, q11, q12, q13, q14, q15, q16, q17, q18, p1, p3, p4, p6, p7, p8, p10, p11, p12, p13]
          try all_goals (simp [Ty.dv, Ty.cells_eq, Ty.kind_mk, Ty.args_mk, Tm.dv, Tm.cells_eq, Tm.kind_mk, Tm.index_mk, Tm.type_mk, Tm.args_mk, Val.dv, Val.cells_eq, Val.kind_mk, Val.num_mk, Val.list_mk, Val.args_mk, ints])
      · rw [h]
        have hfc : ¬ u + c ≤ most := by have := (hS i).2; omega
        rw [outM_no hfc, useM_no hfc] at hR
        have hΦ0 : Φ i = [(b2, [ptr b]), (b3, [r.thing, f.thing, .iface 100 (cellM l)]), (b8, [nilI]), (b9, [dbool false]), (b, [dint (most : Int), dint (most : Int)])] := by
          simp only [Φ, if_neg hi, useM_no hi, decide_eq_false hi]
        rw [hΦ0, hΦl]
        simp [go_sem, hdis, hnds, q1, q2, q3, q4, q5, q6, q7, q8, q9, q10, q11, q12, q13, q14, q15, q16, q17, q18, p1, p3, p4, p6, p7, p8, p10, p11, p12, p13]
        refine t_rg (j2 @hdis (j2 @hnds (j2 @q1 (j2 @q2 (j2 @q3 (j2 @q4 (j2 @q5 (j2 @q6 (j2 @q7 (j2 @q8 (j2 @q9 (j2 @q10 (j2 @q11 (j2 @q12 (j2 @q13 (j2 @q14 (j2 @q15 (j2 @q16 (j2 @q17 (j2 @q18 (j2 @p1 (j2 @p3 (j2 @p4 (j2 @p6 (j2 @p7 (j2 @p8 (j2 @p10 (j2 @p11 (j2 @p12 @p13))))))))))))))))))))))))))))) ?_
        repeat (first | refine W_seq ?_ | refine W_skip ?_ | refine W_block ?_ | refine W_inBlock ?_ | refine W_label ?_ | refine W_exit rfl ?_)
        first | refine W_retR hP hf hfn _ ([(b, [dint (most : Int), dint (most : Int)])]) (by first | (simp [go_sem, hP, hgl, hn, hdis, hnds, q1, q2, q3, q4, q5, q6, q7, q8, q9, q10, q11, q12, q13, q14, q15, q16, q17, q18, p1, p3, p4, p6, p7, p8, p10, p11, p12, p13]; done) | (simp [go_sem, hP, hgl, hn, hdis, hnds, q1, q2, q3, q4, q5, q6, q7, q8, q9, q10, q11, q12, q13, q14, q15, q16, q17, q18, p1, p3, p4, p6, p7, p8, p10, p11, p12, p13]; rfl)) (by simp [go_sem, hP, hgl, hn, hdis, hnds, q1, q2, q3, q4, q5, q6, q7, q8, q9, q10, q11, q12, q13, q14, q15, q16, q17, q18, p1, p3, p4, p6, p7, p8, p10, p11, p12, p13]) (by simp) ?_ hR.2 | refine W_endR hP hf hfn _ ([(b, [dint (most : Int), dint (most : Int)])]) (by first | (simp [go_sem, hP, hgl, hn, hdis, hnds, q1, q2, q3, q4, q5, q6, q7, q8, q9, q10, q11, q12, q13, q14, q15, q16, q17, q18, p1, p3, p4, p6, p7, p8, p10, p11, p12, p13]; done) | (simp [go_sem, hP, hgl, hn, hdis, hnds, q1, q2, q3, q4, q5, q6, q7, q8, q9, q10, q11, q12, q13, q14, q15, q16, q17, q18, p1, p3, p4, p6, p7, p8, p10, p11, p12, p13]; rfl)) (by simp [go_sem, hP, hgl, hn, hdis, hnds, q1, q2, q3, q4, q5, q6, q7, q8, q9, q10, q11, q12, q13, q14, q15, q16, q17, q18, p1, p3, p4, p6, p7, p8, p10, p11, p12, p13]) (by simp) ?_ hR.2
        rw [hR.1]
        refine ⟨?_, by simp [hdis, hnds, q1, q2, q3, q4, q5, q6, q7, q8, q9, q10, q11, q12, q13, q14, q15, q16, q17, q18, p1, p3, p4, p6, p7, p8, p10, p11, p12, p13]⟩
        try simp [hdis, hnds, q1, q2, q3, q4, q5, q6, q7, q8, q9, q10, q11, q12, q13, q14, q15, q16, q17, q18, p1, p3, p4, p6, p7, p8, p10, p11, p12, p13]
        try all_goals (simp [Ty.dv, Ty.cells_eq, Ty.kind_mk, Ty.args_mk, Tm.dv, Tm.cells_eq, Tm.kind_mk, Tm.index_mk, Tm.type_mk, Tm.args_mk, Val.dv, Val.cells_eq, Val.kind_mk, Val.num_mk, Val.list_mk, Val.args_mk, ints])
end Go.Proofs.YtgfjcbofbbcnmaaDoor.Lift

/-
  Package machine: eval, kind by kind.
-/
namespace Go.Proofs.YtgfjcbofbbcnmaaDoor.Lift
set_option linter.unusedSimpArgs false
set_option linter.unusedVariables false
set_option linter.unnecessarySimpa false
open Go
variable {gl : Globs}

/-- nothing is left -/
theorem evalM_0 {most : Nat} (hm : most ≤ 1073741824) (t : Tm) {e : List MV} {u : Nat} (b : Nat) (hu : u ≤ most) (hf1 : ¬ u + 1 ≤ most) :
    Con1 Tryd.prog gl 45 [ptr b, t.dv, MV.envM e] [(b, useM most u)] (.tup [nilI, dbool false]) [(b, [dint (most : Int), dint (most : Int)])] := by
  rw [useM_yes hu]
  have hum : (most : Int) ≤ (u : Int) := by omega
  have hue : (u : Int) = (most : Int) := by omega
  refine t_in Tryd.func45 ?_
  intro X hP hgl hf hfn hn hR hids hfit
  refine t_g @hum ?_
  repeat (first | refine W_seq ?_ | refine W_skip ?_ | refine W_block ?_ | refine W_inBlock ?_ | refine W_label ?_ | refine W_exit rfl ?_)
  first | refine W_retR hP hf hfn _ ([(b, [dint (most : Int), dint (most : Int)])]) (by first | (simp [go_sem, hP, hgl, hn, hue]; done) | (simp [go_sem, hP, hgl, hn, hue]; rfl)) (by simp [go_sem, hP, hgl, hn, hue]) (by simp) ?_ hR.2 | refine W_endR hP hf hfn _ ([(b, [dint (most : Int), dint (most : Int)])]) (by first | (simp [go_sem, hP, hgl, hn, hue]; done) | (simp [go_sem, hP, hgl, hn, hue]; rfl)) (by simp [go_sem, hP, hgl, hn, hue]) (by simp) ?_ hR.2
  rw [hR.1]
  refine ⟨?_, by simp [hue]⟩
  try simp [hue]
  try all_goals (simp [Ty.dv, Ty.cells_eq, Ty.kind_mk, Ty.args_mk, Tm.dv, Tm.cells_eq, Tm.kind_mk, Tm.index_mk, Tm.type_mk, Tm.args_mk, Val.dv, Val.cells_eq, Val.kind_mk, Val.num_mk, Val.list_mk, Val.args_mk, ints])

/-- the parts are too much -/
theorem evalM_all {most : Nat} (hm : most ≤ 1073741824) {ev : Evl} (H : WalkM Tryd.prog gl 45 most ev) (hN : NleM most ev) (t : Tm) {e : List MV} {u : Nat} (b M : Nat) (hu : u ≤ most) (hM : M + (most - u) ≤ 1073741824) (he : MV.nles M e)
    (h3 : t.args.length ≤ 3) (hk1 : ¬ t.kind = 1) (hk2 : ¬ t.kind = 2) {vs : List MV} {c1 : Nat} (hall : allC ev t.args e = some (vs, c1)) (hf1 : u + 1 ≤ most) (hf2 : ¬ u + 1 + c1 ≤ most) :
    Con1 Tryd.prog gl 45 [ptr b, t.dv, MV.envM e] [(b, useM most u)] (.tup [nilI, dbool false]) [(b, [dint (most : Int), dint (most : Int)])] := by
  rw [useM_yes hu]
  have hum : ¬ (most : Int) ≤ (u : Int) := by omega
  have A1 := allM_ok hm H hN b (M + 1) hall h3 hf1 (by omega) (MV.nles_mono (by omega) _ he)
  have o6 : decide (u + 1 + c1 ≤ most) = false := decide_eq_false hf2
  unfold outA arr3 at A1
  rw [useM_yes hf1, useM_no hf2, o6] at A1
  generalize preC ev most e (u + 1) t.args = pp at A1
  refine t_in Tryd.func45 ?_
  intro X hP hgl hf hfn hn hR hids hfit
  refine t_g (j2 @hum (j2 @hk1 @hk2)) ?_
  refine t_c1 trivial A1 ?_
  refine t_g0 ?_
  repeat (first | refine W_seq ?_ | refine W_skip ?_ | refine W_block ?_ | refine W_inBlock ?_ | refine W_label ?_ | refine W_exit rfl ?_)
  first | refine W_retR hP hf hfn _ ([(b, [dint (most : Int), dint (most : Int)])]) (by first | (simp [go_sem, hP, hgl, hn]; done) | (simp [go_sem, hP, hgl, hn]; rfl)) (by simp [go_sem, hP, hgl, hn]) (by simp) ?_ hR.2 | refine W_endR hP hf hfn _ ([(b, [dint (most : Int), dint (most : Int)])]) (by first | (simp [go_sem, hP, hgl, hn]; done) | (simp [go_sem, hP, hgl, hn]; rfl)) (by simp [go_sem, hP, hgl, hn]) (by simp) ?_ hR.2
  rw [hR.1]
  refine ⟨?_, by simp⟩
  try simp
  try all_goals (simp [Ty.dv, Ty.cells_eq, Ty.kind_mk, Ty.args_mk, Tm.dv, Tm.cells_eq, Tm.kind_mk, Tm.index_mk, Tm.type_mk, Tm.args_mk, Val.dv, Val.cells_eq, Val.kind_mk, Val.num_mk, Val.list_mk, Val.args_mk, ints])

theorem evalM_k3 {most : Nat} (hm : most ≤ 1073741824) {ev : Evl} (H : WalkM Tryd.prog gl 45 most ev) (hN : NleM most ev) (t : Tm) {e : List MV} {u : Nat} (b M : Nat) (hu : u ≤ most) (hM : M + (most - u) ≤ 1073741824) (he : MV.nles M e)
    (h3 : t.args.length ≤ 3) (hk : t.kind = 3) {f x : MV} {v : MV} {c2 : Nat} {c1 : Nat} (hall : allC ev t.args e = some ([f, x], c1)) (hf1 : u + 1 ≤ most) (hf2 : u + 1 + c1 ≤ most) (hnode : callC ev f [x] = some (v, c2)) :
    Con1 Tryd.prog gl 45 [ptr b, t.dv, MV.envM e] [(b, useM most u)] (outM most (u + 1 + c1 + c2) v.thing) [(b, useM most (u + 1 + c1 + c2))] := by
  rw [useM_yes hu]
  have hum : ¬ (most : Int) ≤ (u : Int) := by omega
  have A1 := allM_ok hm H hN b (M + 1) hall h3 hf1 (by omega) (MV.nles_mono (by omega) _ he)
  have B1 := nle_all hN hall he
  have o6 : decide (u + 1 + c1 ≤ most) = true := decide_eq_true hf2
  unfold outA arr3 at A1
  rw [useM_yes hf1, useM_yes hf2, o6, preC_all hall hf2] at A1
  have z0 : at3 [f, x] 0 = f.thing := by first | rfl | (simp only [at3]; rw [MV.thing]; done) | exact rfl
  have z1 : at3 [f, x] 1 = x.thing := by first | rfl | (simp only [at3]; rw [MV.thing]; done) | exact rfl
  have z2 : at3 [f, x] 2 = nilI := by first | rfl | (simp only [at3]; rw [MV.thing]; done) | exact rfl
  rw [z0, z1, z2] at A1
  simp only [MV.nles] at B1
  have W1 := callM_ok hm H hN b (M + c1) hnode hf2 (by omega) B1.1 (by simp only [MV.nles]; exact ⟨B1.2.1, trivial⟩)
  rw [useM_yes hf2] at W1
  simp only [List.map] at W1
  by_cases hf3 : u + 1 + c1 + c2 ≤ most
  · rw [useM_yes hf3, outM_yes hf3] at W1 ⊢
    refine t_in Tryd.func45 ?_
    intro X hP hgl hf hfn hn hR hids hfit
    refine t_g (j2 @hum @hk) ?_
    refine t_c1 trivial A1 ?_
    refine t_g @hk ?_
    refine t_c1 trivial W1 ?_
    repeat (first | refine W_seq ?_ | refine W_skip ?_ | refine W_block ?_ | refine W_inBlock ?_ | refine W_label ?_ | refine W_exit rfl ?_)
    first | refine W_retR hP hf hfn _ ([(b, [dint ((u + 1 + c1 + c2 : Nat) : Int), dint (most : Int)])]) (by first | (simp [go_sem, hP, hgl, hn]; done) | (simp [go_sem, hP, hgl, hn]; rfl)) (by simp [go_sem, hP, hgl, hn]) (by simp) ?_ hR.2 | refine W_endR hP hf hfn _ ([(b, [dint ((u + 1 + c1 + c2 : Nat) : Int), dint (most : Int)])]) (by first | (simp [go_sem, hP, hgl, hn]; done) | (simp [go_sem, hP, hgl, hn]; rfl)) (by simp [go_sem, hP, hgl, hn]) (by simp) ?_ hR.2
    rw [hR.1]
    refine ⟨?_, by simp⟩
    try simp
    try all_goals (simp [Ty.dv, Ty.cells_eq, Ty.kind_mk, Ty.args_mk, Tm.dv, Tm.cells_eq, Tm.kind_mk, Tm.index_mk, Tm.type_mk, Tm.args_mk, Val.dv, Val.cells_eq, Val.kind_mk, Val.num_mk, Val.list_mk, Val.args_mk, ints])
  · rw [useM_no hf3, outM_no hf3] at W1 ⊢
    refine t_in Tryd.func45 ?_
    intro X hP hgl hf hfn hn hR hids hfit
    refine t_g (j2 @hum @hk) ?_
    refine t_c1 trivial A1 ?_
    refine t_g @hk ?_
    refine t_c1 trivial W1 ?_
    repeat (first | refine W_seq ?_ | refine W_skip ?_ | refine W_block ?_ | refine W_inBlock ?_ | refine W_label ?_ | refine W_exit rfl ?_)
    first | refine W_retR hP hf hfn _ ([(b, [dint (most : Int), dint (most : Int)])]) (by first | (simp [go_sem, hP, hgl, hn]; done) | (simp [go_sem, hP, hgl, hn]; rfl)) (by simp [go_sem, hP, hgl, hn]) (by simp) ?_ hR.2 | refine W_endR hP hf hfn _ ([(b, [dint (most : Int), dint (most : Int)])]) (by first | (simp [go_sem, hP, hgl, hn]; done) | (simp [go_sem, hP, hgl, hn]; rfl)) (by simp [go_sem, hP, hgl, hn]) (by simp) ?_ hR.2
    rw [hR.1]
    refine ⟨?_, by simp⟩
    try simp
    try all_goals (simp [Ty.dv, Ty.cells_eq, Ty.kind_mk, Ty.args_mk, Tm.dv, Tm.cells_eq, Tm.kind_mk, Tm.index_mk, Tm.type_mk, Tm.args_mk, Val.dv, Val.cells_eq, Val.kind_mk, Val.num_mk, Val.list_mk, Val.args_mk, ints])

theorem evalM_k4 {most : Nat} (hm : most ≤ 1073741824) {ev : Evl} (H : WalkM Tryd.prog gl 45 most ev) (hN : NleM most ev) (t : Tm) {e : List MV} {u : Nat} (b M : Nat) (hu : u ≤ most) (hM : M + (most - u) ≤ 1073741824) (he : MV.nles M e)
    (h3 : t.args.length ≤ 3) (hk : t.kind = 4) {vs : List MV} {c1 : Nat} (hall : allC ev t.args e = some (vs, c1)) (hf1 : u + 1 ≤ most) (hf2 : u + 1 + c1 ≤ most) :
    Con1 Tryd.prog gl 45 [ptr b, t.dv, MV.envM e] [(b, useM most u)] (.tup [(.iface 3 (dint (0 : Int))), dbool true]) [(b, [dint ((u + 1 + c1 : Nat) : Int), dint (most : Int)])] := by
  rw [useM_yes hu]
  have hum : ¬ (most : Int) ≤ (u : Int) := by omega
  have A1 := allM_ok hm H hN b (M + 1) hall h3 hf1 (by omega) (MV.nles_mono (by omega) _ he)
  have B1 := nle_all hN hall he
  have o6 : decide (u + 1 + c1 ≤ most) = true := decide_eq_true hf2
  unfold outA arr3 at A1
  rw [useM_yes hf1, useM_yes hf2, o6, preC_all hall hf2] at A1
  refine t_in Tryd.func45 ?_
  intro X hP hgl hf hfn hn hR hids hfit
  refine t_g (j2 @hum @hk) ?_
  refine t_c1 trivial A1 ?_
  refine t_g @hk ?_
  repeat (first | refine W_seq ?_ | refine W_skip ?_ | refine W_block ?_ | refine W_inBlock ?_ | refine W_label ?_ | refine W_exit rfl ?_)
  first | refine W_retR hP hf hfn _ ([(b, [dint ((u + 1 + c1 : Nat) : Int), dint (most : Int)])]) (by first | (simp [go_sem, hP, hgl, hn]; done) | (simp [go_sem, hP, hgl, hn]; rfl)) (by simp [go_sem, hP, hgl, hn]) (by simp) ?_ hR.2 | refine W_endR hP hf hfn _ ([(b, [dint ((u + 1 + c1 : Nat) : Int), dint (most : Int)])]) (by first | (simp [go_sem, hP, hgl, hn]; done) | (simp [go_sem, hP, hgl, hn]; rfl)) (by simp [go_sem, hP, hgl, hn]) (by simp) ?_ hR.2
  rw [hR.1]
  refine ⟨?_, by simp⟩
  try simp
  try all_goals (simp [Ty.dv, Ty.cells_eq, Ty.kind_mk, Ty.args_mk, Tm.dv, Tm.cells_eq, Tm.kind_mk, Tm.index_mk, Tm.type_mk, Tm.args_mk, Val.dv, Val.cells_eq, Val.kind_mk, Val.num_mk, Val.list_mk, Val.args_mk, ints])

theorem evalM_k5 {most : Nat} (hm : most ≤ 1073741824) {ev : Evl} (H : WalkM Tryd.prog gl 45 most ev) (hN : NleM most ev) (t : Tm) {e : List MV} {u : Nat} (b M : Nat) (hu : u ≤ most) (hM : M + (most - u) ≤ 1073741824) (he : MV.nles M e)
    (h3 : t.args.length ≤ 3) (hk : t.kind = 5) {n : Nat} {c1 : Nat} (hall : allC ev t.args e = some ([.num n], c1)) (hf1 : u + 1 ≤ most) (hf2 : u + 1 + c1 ≤ most) :
    Con1 Tryd.prog gl 45 [ptr b, t.dv, MV.envM e] [(b, useM most u)] (.tup [(.iface 3 (dint (((n + 1 : Nat)) : Int))), dbool true]) [(b, [dint ((u + 1 + c1 : Nat) : Int), dint (most : Int)])] := by
  rw [useM_yes hu]
  have hum : ¬ (most : Int) ≤ (u : Int) := by omega
  have A1 := allM_ok hm H hN b (M + 1) hall h3 hf1 (by omega) (MV.nles_mono (by omega) _ he)
  have B1 := nle_all hN hall he
  have o6 : decide (u + 1 + c1 ≤ most) = true := decide_eq_true hf2
  unfold outA arr3 at A1
  rw [useM_yes hf1, useM_yes hf2, o6, preC_all hall hf2] at A1
  have z0 : at3 [.num n] 0 = (.iface 3 (dint (n : Int))) := by first | rfl | (simp only [at3]; rw [MV.thing]; done) | exact thing_num _
  have z1 : at3 [.num n] 1 = nilI := by first | rfl | (simp only [at3]; rw [MV.thing]; done) | exact rfl
  have z2 : at3 [.num n] 2 = nilI := by first | rfl | (simp only [at3]; rw [MV.thing]; done) | exact rfl
  rw [z0, z1, z2] at A1
  refine t_in Tryd.func45 ?_
  intro X hP hgl hf hfn hn hR hids hfit
  refine t_g (j2 @hum @hk) ?_
  refine t_c1 trivial A1 ?_
  simp only [MV.nles, MV.nle] at B1
  have hn1 : (n : Int) ≤ 1073741824 := by omega
  have hn2 : ((n + 1 : Nat) : Int) = (n : Int) + 1 := by omega
  refine t_g (j2 @hk @hn1) ?_
  repeat (first | refine W_seq ?_ | refine W_skip ?_ | refine W_block ?_ | refine W_inBlock ?_ | refine W_label ?_ | refine W_exit rfl ?_)
  first | refine W_retR hP hf hfn _ ([(b, [dint ((u + 1 + c1 : Nat) : Int), dint (most : Int)])]) (by first | (simp [go_sem, hP, hgl, hn, hn2]; done) | (simp [go_sem, hP, hgl, hn, hn2]; rfl)) (by simp [go_sem, hP, hgl, hn, hn2]) (by simp) ?_ hR.2 | refine W_endR hP hf hfn _ ([(b, [dint ((u + 1 + c1 : Nat) : Int), dint (most : Int)])]) (by first | (simp [go_sem, hP, hgl, hn, hn2]; done) | (simp [go_sem, hP, hgl, hn, hn2]; rfl)) (by simp [go_sem, hP, hgl, hn, hn2]) (by simp) ?_ hR.2
  rw [hR.1]
  refine ⟨?_, by simp [hn2]⟩
  try simp [hn2]
  try all_goals (simp [Ty.dv, Ty.cells_eq, Ty.kind_mk, Ty.args_mk, Tm.dv, Tm.cells_eq, Tm.kind_mk, Tm.index_mk, Tm.type_mk, Tm.args_mk, Val.dv, Val.cells_eq, Val.kind_mk, Val.num_mk, Val.list_mk, Val.args_mk, ints])

theorem evalM_k6 {most : Nat} (hm : most ≤ 1073741824) {ev : Evl} (H : WalkM Tryd.prog gl 45 most ev) (hN : NleM most ev) (t : Tm) {e : List MV} {u : Nat} (b M : Nat) (hu : u ≤ most) (hM : M + (most - u) ≤ 1073741824) (he : MV.nles M e)
    (h3 : t.args.length ≤ 3) (hk : t.kind = 6) {r f : MV} {n : Nat} {v : MV} {c2 : Nat} {c1 : Nat} (hall : allC ev t.args e = some ([r, f, .num n], c1)) (hf1 : u + 1 ≤ most) (hf2 : u + 1 + c1 ≤ most) (hnode : recC ev f n 0 r = some (v, c2)) :
    Con1 Tryd.prog gl 45 [ptr b, t.dv, MV.envM e] [(b, useM most u)] (outM most (u + 1 + c1 + c2) v.thing) [(b, useM most (u + 1 + c1 + c2))] := by
  rw [useM_yes hu]
  have hum : ¬ (most : Int) ≤ (u : Int) := by omega
  have A1 := allM_ok hm H hN b (M + 1) hall h3 hf1 (by omega) (MV.nles_mono (by omega) _ he)
  have B1 := nle_all hN hall he
  have o6 : decide (u + 1 + c1 ≤ most) = true := decide_eq_true hf2
  unfold outA arr3 at A1
  rw [useM_yes hf1, useM_yes hf2, o6, preC_all hall hf2] at A1
  simp only [MV.nles, MV.nle] at B1
  have W1 := recM_ok hm H hN (fun h => nle_call hN h) b (M + c1) hnode hf2 (by omega) B1.1 B1.2.1 B1.2.2.1
  unfold arr3 at W1
  rw [useM_yes hf2] at W1
  by_cases hf3 : u + 1 + c1 + c2 ≤ most
  · rw [useM_yes hf3, outM_yes hf3] at W1 ⊢
    refine t_in Tryd.func45 ?_
    intro X hP hgl hf hfn hn hR hids hfit
    refine t_g (j2 @hum @hk) ?_
    refine t_c1 trivial A1 ?_
    refine t_g @hk ?_
    refine t_c1 trivial W1 ?_
    repeat (first | refine W_seq ?_ | refine W_skip ?_ | refine W_block ?_ | refine W_inBlock ?_ | refine W_label ?_ | refine W_exit rfl ?_)
    first | refine W_retR hP hf hfn _ ([(b, [dint ((u + 1 + c1 + c2 : Nat) : Int), dint (most : Int)])]) (by first | (simp [go_sem, hP, hgl, hn]; done) | (simp [go_sem, hP, hgl, hn]; rfl)) (by simp [go_sem, hP, hgl, hn]) (by simp) ?_ hR.2 | refine W_endR hP hf hfn _ ([(b, [dint ((u + 1 + c1 + c2 : Nat) : Int), dint (most : Int)])]) (by first | (simp [go_sem, hP, hgl, hn]; done) | (simp [go_sem, hP, hgl, hn]; rfl)) (by simp [go_sem, hP, hgl, hn]) (by simp) ?_ hR.2
    rw [hR.1]
    refine ⟨?_, by simp⟩
    try simp
    try all_goals (simp [Ty.dv, Ty.cells_eq, Ty.kind_mk, Ty.args_mk, Tm.dv, Tm.cells_eq, Tm.kind_mk, Tm.index_mk, Tm.type_mk, Tm.args_mk, Val.dv, Val.cells_eq, Val.kind_mk, Val.num_mk, Val.list_mk, Val.args_mk, ints])
  · rw [useM_no hf3, outM_no hf3] at W1 ⊢
    refine t_in Tryd.func45 ?_
    intro X hP hgl hf hfn hn hR hids hfit
    refine t_g (j2 @hum @hk) ?_
    refine t_c1 trivial A1 ?_
    refine t_g @hk ?_
    refine t_c1 trivial W1 ?_
    repeat (first | refine W_seq ?_ | refine W_skip ?_ | refine W_block ?_ | refine W_inBlock ?_ | refine W_label ?_ | refine W_exit rfl ?_)
    first | refine W_retR hP hf hfn _ ([(b, [dint (most : Int), dint (most : Int)])]) (by first | (simp [go_sem, hP, hgl, hn]; done) | (simp [go_sem, hP, hgl, hn]; rfl)) (by simp [go_sem, hP, hgl, hn]) (by simp) ?_ hR.2 | refine W_endR hP hf hfn _ ([(b, [dint (most : Int), dint (most : Int)])]) (by first | (simp [go_sem, hP, hgl, hn]; done) | (simp [go_sem, hP, hgl, hn]; rfl)) (by simp [go_sem, hP, hgl, hn]) (by simp) ?_ hR.2
    rw [hR.1]
    refine ⟨?_, by simp⟩
    try simp
    try all_goals (simp [Ty.dv, Ty.cells_eq, Ty.kind_mk, Ty.args_mk, Tm.dv, Tm.cells_eq, Tm.kind_mk, Tm.index_mk, Tm.type_mk, Tm.args_mk, Val.dv, Val.cells_eq, Val.kind_mk, Val.num_mk, Val.list_mk, Val.args_mk, ints])

theorem evalM_k7 {most : Nat} (hm : most ≤ 1073741824) {ev : Evl} (H : WalkM Tryd.prog gl 45 most ev) (hN : NleM most ev) (t : Tm) {e : List MV} {u : Nat} (b M : Nat) (hu : u ≤ most) (hM : M + (most - u) ≤ 1073741824) (he : MV.nles M e)
    (h3 : t.args.length ≤ 3) (hk : t.kind = 7) {vs : List MV} {c1 : Nat} (hall : allC ev t.args e = some (vs, c1)) (hf1 : u + 1 ≤ most) (hf2 : u + 1 + c1 ≤ most) :
    Con1 Tryd.prog gl 45 [ptr b, t.dv, MV.envM e] [(b, useM most u)] (.tup [(.iface 100 (cellM [])), dbool true]) [(b, [dint ((u + 1 + c1 : Nat) : Int), dint (most : Int)])] := by
  rw [useM_yes hu]
  have hum : ¬ (most : Int) ≤ (u : Int) := by omega
  have A1 := allM_ok hm H hN b (M + 1) hall h3 hf1 (by omega) (MV.nles_mono (by omega) _ he)
  have B1 := nle_all hN hall he
  have o6 : decide (u + 1 + c1 ≤ most) = true := decide_eq_true hf2
  unfold outA arr3 at A1
  rw [useM_yes hf1, useM_yes hf2, o6, preC_all hall hf2] at A1
  refine t_in Tryd.func45 ?_
  intro X hP hgl hf hfn hn hR hids hfit
  refine t_g (j2 @hum @hk) ?_
  refine t_c1 trivial A1 ?_
  have hnil := cellM_nil
  refine t_g @hk ?_
  repeat (first | refine W_seq ?_ | refine W_skip ?_ | refine W_block ?_ | refine W_inBlock ?_ | refine W_label ?_ | refine W_exit rfl ?_)
  first | refine W_retR hP hf hfn _ ([(b, [dint ((u + 1 + c1 : Nat) : Int), dint (most : Int)])]) (by first | (simp [go_sem, hP, hgl, hn, cellM_nil]; done) | (simp [go_sem, hP, hgl, hn, cellM_nil]; rfl)) (by simp [go_sem, hP, hgl, hn, cellM_nil]) (by simp) ?_ hR.2 | refine W_endR hP hf hfn _ ([(b, [dint ((u + 1 + c1 : Nat) : Int), dint (most : Int)])]) (by first | (simp [go_sem, hP, hgl, hn, cellM_nil]; done) | (simp [go_sem, hP, hgl, hn, cellM_nil]; rfl)) (by simp [go_sem, hP, hgl, hn, cellM_nil]) (by simp) ?_ hR.2
  rw [hR.1]
  refine ⟨?_, by simp [cellM_nil]⟩
  try simp [cellM_nil]
  try all_goals (simp [Ty.dv, Ty.cells_eq, Ty.kind_mk, Ty.args_mk, Tm.dv, Tm.cells_eq, Tm.kind_mk, Tm.index_mk, Tm.type_mk, Tm.args_mk, Val.dv, Val.cells_eq, Val.kind_mk, Val.num_mk, Val.list_mk, Val.args_mk, ints])

theorem evalM_k9 {most : Nat} (hm : most ≤ 1073741824) {ev : Evl} (H : WalkM Tryd.prog gl 45 most ev) (hN : NleM most ev) (hFold : FoldM Tryd.prog gl 72 most ev) (t : Tm) {e : List MV} {u : Nat} (b M : Nat) (hu : u ≤ most) (hM : M + (most - u) ≤ 1073741824) (he : MV.nles M e)
    (h3 : t.args.length ≤ 3) (hk : t.kind = 9) {r f : MV} {l : List Nat} {v : MV} {c2 : Nat} {c1 : Nat} (hall : allC ev t.args e = some ([r, f, .list l], c1)) (hf1 : u + 1 ≤ most) (hf2 : u + 1 + c1 ≤ most) (hnode : foldC ev f r l = some (v, c2)) :
    Con1 Tryd.prog gl 45 [ptr b, t.dv, MV.envM e] [(b, useM most u)] (outM most (u + 1 + c1 + c2) v.thing) [(b, useM most (u + 1 + c1 + c2))] := by
  rw [useM_yes hu]
  have hum : ¬ (most : Int) ≤ (u : Int) := by omega
  have A1 := allM_ok hm H hN b (M + 1) hall h3 hf1 (by omega) (MV.nles_mono (by omega) _ he)
  have B1 := nle_all hN hall he
  have o6 : decide (u + 1 + c1 ≤ most) = true := decide_eq_true hf2
  unfold outA arr3 at A1
  rw [useM_yes hf1, useM_yes hf2, o6, preC_all hall hf2] at A1
  simp only [MV.nles, MV.nle] at B1
  have W1 := hFold b (M + c1) hnode hf2 (by omega) B1.1 B1.2.1 B1.2.2.1
  unfold arr3 at W1
  rw [useM_yes hf2] at W1
  by_cases hf3 : u + 1 + c1 + c2 ≤ most
  · rw [useM_yes hf3, outM_yes hf3] at W1 ⊢
    refine t_in Tryd.func45 ?_
    intro X hP hgl hf hfn hn hR hids hfit
    refine t_g (j2 @hum @hk) ?_
    refine t_c1 trivial A1 ?_
    refine t_g @hk ?_
    refine t_c1 trivial W1 ?_
    repeat (first | refine W_seq ?_ | refine W_skip ?_ | refine W_block ?_ | refine W_inBlock ?_ | refine W_label ?_ | refine W_exit rfl ?_)
    first | refine W_retR hP hf hfn _ ([(b, [dint ((u + 1 + c1 + c2 : Nat) : Int), dint (most : Int)])]) (by first | (simp [go_sem, hP, hgl, hn]; done) | (simp [go_sem, hP, hgl, hn]; rfl)) (by simp [go_sem, hP, hgl, hn]) (by simp) ?_ hR.2 | refine W_endR hP hf hfn _ ([(b, [dint ((u + 1 + c1 + c2 : Nat) : Int), dint (most : Int)])]) (by first | (simp [go_sem, hP, hgl, hn]; done) | (simp [go_sem, hP, hgl, hn]; rfl)) (by simp [go_sem, hP, hgl, hn]) (by simp) ?_ hR.2
    rw [hR.1]
    refine ⟨?_, by simp⟩
    try simp
    try all_goals (simp [Ty.dv, Ty.cells_eq, Ty.kind_mk, Ty.args_mk, Tm.dv, Tm.cells_eq, Tm.kind_mk, Tm.index_mk, Tm.type_mk, Tm.args_mk, Val.dv, Val.cells_eq, Val.kind_mk, Val.num_mk, Val.list_mk, Val.args_mk, ints])
  · rw [useM_no hf3, outM_no hf3] at W1 ⊢
    refine t_in Tryd.func45 ?_
    intro X hP hgl hf hfn hn hR hids hfit
    refine t_g (j2 @hum @hk) ?_
    refine t_c1 trivial A1 ?_
    refine t_g @hk ?_
    refine t_c1 trivial W1 ?_
    repeat (first | refine W_seq ?_ | refine W_skip ?_ | refine W_block ?_ | refine W_inBlock ?_ | refine W_label ?_ | refine W_exit rfl ?_)
    first | refine W_retR hP hf hfn _ ([(b, [dint (most : Int), dint (most : Int)])]) (by first | (simp [go_sem, hP, hgl, hn]; done) | (simp [go_sem, hP, hgl, hn]; rfl)) (by simp [go_sem, hP, hgl, hn]) (by simp) ?_ hR.2 | refine W_endR hP hf hfn _ ([(b, [dint (most : Int), dint (most : Int)])]) (by first | (simp [go_sem, hP, hgl, hn]; done) | (simp [go_sem, hP, hgl, hn]; rfl)) (by simp [go_sem, hP, hgl, hn]) (by simp) ?_ hR.2
    rw [hR.1]
    refine ⟨?_, by simp⟩
    try simp
    try all_goals (simp [Ty.dv, Ty.cells_eq, Ty.kind_mk, Ty.args_mk, Tm.dv, Tm.cells_eq, Tm.kind_mk, Tm.index_mk, Tm.type_mk, Tm.args_mk, Val.dv, Val.cells_eq, Val.kind_mk, Val.num_mk, Val.list_mk, Val.args_mk, ints])

theorem evalM_k11 {most : Nat} (hm : most ≤ 1073741824) {ev : Evl} (H : WalkM Tryd.prog gl 45 most ev) (hN : NleM most ev) (t : Tm) {e : List MV} {u : Nat} (b M : Nat) (hu : u ≤ most) (hM : M + (most - u) ≤ 1073741824) (he : MV.nles M e)
    (h3 : t.args.length ≤ 3) (hk : t.kind = 11) {x y : MV} {c1 : Nat} (hall : allC ev t.args e = some ([.both x y], c1)) (hf1 : u + 1 ≤ most) (hf2 : u + 1 + c1 ≤ most) :
    Con1 Tryd.prog gl 45 [ptr b, t.dv, MV.envM e] [(b, useM most u)] (.tup [x.thing, dbool true]) [(b, [dint ((u + 1 + c1 : Nat) : Int), dint (most : Int)])] := by
  rw [useM_yes hu]
  have hum : ¬ (most : Int) ≤ (u : Int) := by omega
  have A1 := allM_ok hm H hN b (M + 1) hall h3 hf1 (by omega) (MV.nles_mono (by omega) _ he)
  have B1 := nle_all hN hall he
  have o6 : decide (u + 1 + c1 ≤ most) = true := decide_eq_true hf2
  unfold outA arr3 at A1
  rw [useM_yes hf1, useM_yes hf2, o6, preC_all hall hf2] at A1
  have z0 : at3 [.both x y] 0 = (.iface 106 (.ref [x.thing, y.thing])) := by first | rfl | (simp only [at3]; rw [MV.thing]; done) | exact thing_both _ _
  have z1 : at3 [.both x y] 1 = nilI := by first | rfl | (simp only [at3]; rw [MV.thing]; done) | exact rfl
  have z2 : at3 [.both x y] 2 = nilI := by first | rfl | (simp only [at3]; rw [MV.thing]; done) | exact rfl
  rw [z0, z1, z2] at A1
  refine t_in Tryd.func45 ?_
  intro X hP hgl hf hfn hn hR hids hfit
  refine t_g (j2 @hum @hk) ?_
  refine t_c1 trivial A1 ?_
  refine t_g @hk ?_
  repeat (first | refine W_seq ?_ | refine W_skip ?_ | refine W_block ?_ | refine W_inBlock ?_ | refine W_label ?_ | refine W_exit rfl ?_)
  first | refine W_retR hP hf hfn _ ([(b, [dint ((u + 1 + c1 : Nat) : Int), dint (most : Int)])]) (by first | (simp [go_sem, hP, hgl, hn]; done) | (simp [go_sem, hP, hgl, hn]; rfl)) (by simp [go_sem, hP, hgl, hn]) (by simp) ?_ hR.2 | refine W_endR hP hf hfn _ ([(b, [dint ((u + 1 + c1 : Nat) : Int), dint (most : Int)])]) (by first | (simp [go_sem, hP, hgl, hn]; done) | (simp [go_sem, hP, hgl, hn]; rfl)) (by simp [go_sem, hP, hgl, hn]) (by simp) ?_ hR.2
  rw [hR.1]
  refine ⟨?_, by simp⟩
  try simp
  try all_goals (simp [Ty.dv, Ty.cells_eq, Ty.kind_mk, Ty.args_mk, Tm.dv, Tm.cells_eq, Tm.kind_mk, Tm.index_mk, Tm.type_mk, Tm.args_mk, Val.dv, Val.cells_eq, Val.kind_mk, Val.num_mk, Val.list_mk, Val.args_mk, ints])

theorem evalM_k12 {most : Nat} (hm : most ≤ 1073741824) {ev : Evl} (H : WalkM Tryd.prog gl 45 most ev) (hN : NleM most ev) (t : Tm) {e : List MV} {u : Nat} (b M : Nat) (hu : u ≤ most) (hM : M + (most - u) ≤ 1073741824) (he : MV.nles M e)
    (h3 : t.args.length ≤ 3) (hk : t.kind = 12) {x y : MV} {c1 : Nat} (hall : allC ev t.args e = some ([.both x y], c1)) (hf1 : u + 1 ≤ most) (hf2 : u + 1 + c1 ≤ most) :
    Con1 Tryd.prog gl 45 [ptr b, t.dv, MV.envM e] [(b, useM most u)] (.tup [y.thing, dbool true]) [(b, [dint ((u + 1 + c1 : Nat) : Int), dint (most : Int)])] := by
  rw [useM_yes hu]
  have hum : ¬ (most : Int) ≤ (u : Int) := by omega
  have A1 := allM_ok hm H hN b (M + 1) hall h3 hf1 (by omega) (MV.nles_mono (by omega) _ he)
  have B1 := nle_all hN hall he
  have o6 : decide (u + 1 + c1 ≤ most) = true := decide_eq_true hf2
  unfold outA arr3 at A1
  rw [useM_yes hf1, useM_yes hf2, o6, preC_all hall hf2] at A1
  have z0 : at3 [.both x y] 0 = (.iface 106 (.ref [x.thing, y.thing])) := by first | rfl | (simp only [at3]; rw [MV.thing]; done) | exact thing_both _ _
  have z1 : at3 [.both x y] 1 = nilI := by first | rfl | (simp only [at3]; rw [MV.thing]; done) | exact rfl
  have z2 : at3 [.both x y] 2 = nilI := by first | rfl | (simp only [at3]; rw [MV.thing]; done) | exact rfl
  rw [z0, z1, z2] at A1
  refine t_in Tryd.func45 ?_
  intro X hP hgl hf hfn hn hR hids hfit
  refine t_g (j2 @hum @hk) ?_
  refine t_c1 trivial A1 ?_
  refine t_g @hk ?_
  repeat (first | refine W_seq ?_ | refine W_skip ?_ | refine W_block ?_ | refine W_inBlock ?_ | refine W_label ?_ | refine W_exit rfl ?_)
  first | refine W_retR hP hf hfn _ ([(b, [dint ((u + 1 + c1 : Nat) : Int), dint (most : Int)])]) (by first | (simp [go_sem, hP, hgl, hn]; done) | (simp [go_sem, hP, hgl, hn]; rfl)) (by simp [go_sem, hP, hgl, hn]) (by simp) ?_ hR.2 | refine W_endR hP hf hfn _ ([(b, [dint ((u + 1 + c1 : Nat) : Int), dint (most : Int)])]) (by first | (simp [go_sem, hP, hgl, hn]; done) | (simp [go_sem, hP, hgl, hn]; rfl)) (by simp [go_sem, hP, hgl, hn]) (by simp) ?_ hR.2
  rw [hR.1]
  refine ⟨?_, by simp⟩
  try simp
  try all_goals (simp [Ty.dv, Ty.cells_eq, Ty.kind_mk, Ty.args_mk, Tm.dv, Tm.cells_eq, Tm.kind_mk, Tm.index_mk, Tm.type_mk, Tm.args_mk, Val.dv, Val.cells_eq, Val.kind_mk, Val.num_mk, Val.list_mk, Val.args_mk, ints])

theorem evalM_k13 {most : Nat} (hm : most ≤ 1073741824) {ev : Evl} (H : WalkM Tryd.prog gl 45 most ev) (hN : NleM most ev) (t : Tm) {e : List MV} {u : Nat} (b M : Nat) (hu : u ≤ most) (hM : M + (most - u) ≤ 1073741824) (he : MV.nles M e)
    (h3 : t.args.length ≤ 3) (hk : t.kind = 13) {vs : List MV} {c1 : Nat} (hall : allC ev t.args e = some (vs, c1)) (hf1 : u + 1 ≤ most) (hf2 : u + 1 + c1 ≤ most) :
    Con1 Tryd.prog gl 45 [ptr b, t.dv, MV.envM e] [(b, useM most u)] (.tup [(.iface 110 (.agg [])), dbool true]) [(b, [dint ((u + 1 + c1 : Nat) : Int), dint (most : Int)])] := by
  rw [useM_yes hu]
  have hum : ¬ (most : Int) ≤ (u : Int) := by omega
  have A1 := allM_ok hm H hN b (M + 1) hall h3 hf1 (by omega) (MV.nles_mono (by omega) _ he)
  have B1 := nle_all hN hall he
  have o6 : decide (u + 1 + c1 ≤ most) = true := decide_eq_true hf2
  unfold outA arr3 at A1
  rw [useM_yes hf1, useM_yes hf2, o6, preC_all hall hf2] at A1
  refine t_in Tryd.func45 ?_
  intro X hP hgl hf hfn hn hR hids hfit
  refine t_g (j2 @hum @hk) ?_
  refine t_c1 trivial A1 ?_
  refine t_g @hk ?_
  repeat (first | refine W_seq ?_ | refine W_skip ?_ | refine W_block ?_ | refine W_inBlock ?_ | refine W_label ?_ | refine W_exit rfl ?_)
  first | refine W_retR hP hf hfn _ ([(b, [dint ((u + 1 + c1 : Nat) : Int), dint (most : Int)])]) (by first | (simp [go_sem, hP, hgl, hn]; done) | (simp [go_sem, hP, hgl, hn]; rfl)) (by simp [go_sem, hP, hgl, hn]) (by simp) ?_ hR.2 | refine W_endR hP hf hfn _ ([(b, [dint ((u + 1 + c1 : Nat) : Int), dint (most : Int)])]) (by first | (simp [go_sem, hP, hgl, hn]; done) | (simp [go_sem, hP, hgl, hn]; rfl)) (by simp [go_sem, hP, hgl, hn]) (by simp) ?_ hR.2
  rw [hR.1]
  refine ⟨?_, by simp⟩
  try simp
  try all_goals (simp [Ty.dv, Ty.cells_eq, Ty.kind_mk, Ty.args_mk, Tm.dv, Tm.cells_eq, Tm.kind_mk, Tm.index_mk, Tm.type_mk, Tm.args_mk, Val.dv, Val.cells_eq, Val.kind_mk, Val.num_mk, Val.list_mk, Val.args_mk, ints])

theorem evalM_k10 {most : Nat} (hm : most ≤ 1073741824) {ev : Evl} (H : WalkM Tryd.prog gl 45 most ev) (hN : NleM most ev) (t : Tm) {e : List MV} {u : Nat} (b M : Nat) (hu : u ≤ most) (hM : M + (most - u) ≤ 1073741824) (he : MV.nles M e)
    (h3 : t.args.length ≤ 3) (hk : t.kind = 10) {x y : MV} {c1 : Nat} (hall : allC ev t.args e = some ([x, y], c1)) (hf1 : u + 1 ≤ most) (hf2 : u + 1 + c1 ≤ most) :
    Con1 Tryd.prog gl 45 [ptr b, t.dv, MV.envM e] [(b, useM most u)] (.tup [(.iface 106 (.ref [x.thing, y.thing])), dbool true]) [(b, [dint ((u + 1 + c1 : Nat) : Int), dint (most : Int)])] := by
  rw [useM_yes hu]
  have hum : ¬ (most : Int) ≤ (u : Int) := by omega
  have A1 := allM_ok hm H hN b (M + 1) hall h3 hf1 (by omega) (MV.nles_mono (by omega) _ he)
  have B1 := nle_all hN hall he
  have o6 : decide (u + 1 + c1 ≤ most) = true := decide_eq_true hf2
  unfold outA arr3 at A1
  rw [useM_yes hf1, useM_yes hf2, o6, preC_all hall hf2] at A1
  have z0 : at3 [x, y] 0 = x.thing := by first | rfl | (simp only [at3]; rw [MV.thing]; done) | exact rfl
  have z1 : at3 [x, y] 1 = y.thing := by first | rfl | (simp only [at3]; rw [MV.thing]; done) | exact rfl
  have z2 : at3 [x, y] 2 = nilI := by first | rfl | (simp only [at3]; rw [MV.thing]; done) | exact rfl
  rw [z0, z1, z2] at A1
  refine t_in Tryd.func45 ?_
  intro X hP hgl hf hfn hn hR hids hfit
  refine t_g (j2 @hum @hk) ?_
  refine t_c1 trivial A1 ?_
  refine t_g @hk ?_
  refine W_reg [109] fun K hK => ?_
  simp [go_sem, hP, hgl, hn]
  refine vcK_boxR (cs := [x.thing, y.thing]) (y := .ag [x.thing, y.thing] []) (by simp [go_sem, hP, hgl, hn]) (by simp [go_sem]) (by simp [go_sem]) (by rw [hn]; exact Nat.le_of_ble_eq_true rfl) (by rfl) ?_
  simp [go_sem, hP, hgl, hn]
  refine t_e ?_
  clear hK K
  repeat (first | refine W_seq ?_ | refine W_skip ?_ | refine W_block ?_ | refine W_inBlock ?_ | refine W_label ?_ | refine W_exit rfl ?_)
  first | refine W_retR hP hf hfn _ ([(b, [dint ((u + 1 + c1 : Nat) : Int), dint (most : Int)])]) (by first | (simp [go_sem, hP, hgl, hn]; done) | (simp [go_sem, hP, hgl, hn]; rfl)) (by simp [go_sem, hP, hgl, hn]) (by simp) ?_ hR.2 | refine W_endR hP hf hfn _ ([(b, [dint ((u + 1 + c1 : Nat) : Int), dint (most : Int)])]) (by first | (simp [go_sem, hP, hgl, hn]; done) | (simp [go_sem, hP, hgl, hn]; rfl)) (by simp [go_sem, hP, hgl, hn]) (by simp) ?_ hR.2
  rw [hR.1]
  refine ⟨?_, by simp⟩
  try simp
  try all_goals (simp [Ty.dv, Ty.cells_eq, Ty.kind_mk, Ty.args_mk, Tm.dv, Tm.cells_eq, Tm.kind_mk, Tm.index_mk, Tm.type_mk, Tm.args_mk, Val.dv, Val.cells_eq, Val.kind_mk, Val.num_mk, Val.list_mk, Val.args_mk, ints])

theorem evalM_k8 {most : Nat} (hm : most ≤ 1073741824) {ev : Evl} (H : WalkM Tryd.prog gl 45 most ev) (hN : NleM most ev) (t : Tm) {e : List MV} {u : Nat} (b M : Nat) (hu : u ≤ most) (hM : M + (most - u) ≤ 1073741824) (he : MV.nles M e)
    (h3 : t.args.length ≤ 3) (hk : t.kind = 8) {n : Nat} {l : List Nat} {c1 : Nat} (hall : allC ev t.args e = some ([.num n, .list l], c1)) (hf1 : u + 1 ≤ most) (hf2 : u + 1 + c1 ≤ most) :
    Con1 Tryd.prog gl 45 [ptr b, t.dv, MV.envM e] [(b, useM most u)] (.tup [(.iface 100 (cellM (n :: l))), dbool true]) [(b, [dint ((u + 1 + c1 : Nat) : Int), dint (most : Int)])] := by
  rw [useM_yes hu]
  have hum : ¬ (most : Int) ≤ (u : Int) := by omega
  have A1 := allM_ok hm H hN b (M + 1) hall h3 hf1 (by omega) (MV.nles_mono (by omega) _ he)
  have B1 := nle_all hN hall he
  have o6 : decide (u + 1 + c1 ≤ most) = true := decide_eq_true hf2
  unfold outA arr3 at A1
  rw [useM_yes hf1, useM_yes hf2, o6, preC_all hall hf2] at A1
  have z0 : at3 [.num n, .list l] 0 = (.iface 3 (dint (n : Int))) := by first | rfl | (simp only [at3]; rw [MV.thing]; done) | exact thing_num _
  have z1 : at3 [.num n, .list l] 1 = (.iface 100 (cellM l)) := by first | rfl | (simp only [at3]; rw [MV.thing]; done) | exact thing_list _
  have z2 : at3 [.num n, .list l] 2 = nilI := by first | rfl | (simp only [at3]; rw [MV.thing]; done) | exact rfl
  rw [z0, z1, z2] at A1
  refine t_in Tryd.func45 ?_
  intro X hP hgl hf hfn hn hR hids hfit
  refine t_g (j2 @hum @hk) ?_
  refine t_c1 trivial A1 ?_
  refine t_g @hk ?_
  refine W_regd (by rw [hP]; exact mixed) [93] fun K hK => ?_
  simp [go_sem, hP, hgl, hn]
  refine vcdC_boxR (cs := [dint (n : Int), cellM l]) (y := .ag [dint (n : Int), cellM l] []) (fun _ _ => vcd_sound) (by simp [go_sem, hP, hgl, hn]) (by simp [go_sem]) (by simp [go_sem]) (by rw [hn]; exact Nat.le_of_ble_eq_true rfl) (by rfl) ?_
  simp [go_sem, hP, hgl, hn]
  refine t_e ?_
  clear hK K
  repeat (first | refine W_seq ?_ | refine W_skip ?_ | refine W_block ?_ | refine W_inBlock ?_ | refine W_label ?_ | refine W_exit rfl ?_)
  first | refine W_retR hP hf hfn _ ([(b, [dint ((u + 1 + c1 : Nat) : Int), dint (most : Int)])]) (by first | (simp [go_sem, hP, hgl, hn, cellM_cons]; done) | (simp [go_sem, hP, hgl, hn, cellM_cons]; rfl)) (by simp [go_sem, hP, hgl, hn, cellM_cons]) (by simp) ?_ hR.2 | refine W_endR hP hf hfn _ ([(b, [dint ((u + 1 + c1 : Nat) : Int), dint (most : Int)])]) (by first | (simp [go_sem, hP, hgl, hn, cellM_cons]; done) | (simp [go_sem, hP, hgl, hn, cellM_cons]; rfl)) (by simp [go_sem, hP, hgl, hn, cellM_cons]) (by simp) ?_ hR.2
  rw [hR.1]
  refine ⟨?_, by simp [cellM_cons]⟩
  try simp [cellM_cons]
  try all_goals (simp [Ty.dv, Ty.cells_eq, Ty.kind_mk, Ty.args_mk, Tm.dv, Tm.cells_eq, Tm.kind_mk, Tm.index_mk, Tm.type_mk, Tm.args_mk, Val.dv, Val.cells_eq, Val.kind_mk, Val.num_mk, Val.list_mk, Val.args_mk, ints])

end Go.Proofs.YtgfjcbofbbcnmaaDoor.Lift

/-
  Package machine: eval as a whole, by the depth.
-/
namespace Go.Proofs.YtgfjcbofbbcnmaaDoor.Lift
set_option linter.unusedSimpArgs false
set_option linter.unusedVariables false
set_option linter.unnecessarySimpa false
open Go
variable {gl : Globs}

theorem evalM_step {most : Nat} (hm : most ≤ 1073741824) {d : Nat} (H : WalkM Tryd.prog gl 45 most (evS d)) (hFold : FoldM Tryd.prog gl 72 most (evS d)) :
    WalkM Tryd.prog gl 45 most (evS (d + 1)) := by
  intro t e u v c b M h hu hM he
  have hN := nle_evS most d
  have hpos := evS_pos h
  by_cases hf1 : u + 1 ≤ most
  rotate_left
  · have hbig : ¬ u + c ≤ most := by omega
    rw [outM_no hbig, useM_no hbig]
    exact evalM_0 hm t b hu hf1
  rw [evS] at h
  by_cases h1 : t.kind = 1
  · rw [if_pos h1] at h
    split at h
    · rename_i hi
      simp only [Option.some.injEq, Prod.mk.injEq] at h
      obtain ⟨rfl, rfl⟩ := h
      exact evalM_1 hm t b hu h1 hi
    · cases h
  rw [if_neg h1] at h
  by_cases h2 : t.kind = 2
  · rw [if_pos h2] at h
    split at h
    · cases h
    · rename_i ha
      simp only [Option.some.injEq, Prod.mk.injEq] at h
      obtain ⟨rfl, rfl⟩ := h
      cases hargs : t.args with
      | nil => rw [hargs] at ha; exact absurd rfl ha
      | cons body rest =>
        have : t.argN 0 = body := by simp [Tm.argN, hargs]
        rw [this]
        exact evalM_2 hm t b hu h2 hargs
  rw [if_neg h2] at h
  split at h
  · cases h
  rename_i h3
  have h3 : t.args.length ≤ 3 := by omega
  split at h
  · cases h
  rename_i vs c1 hall
  split at h
  · cases h
  rename_i w c2 hnode
  simp only [Option.some.injEq, Prod.mk.injEq] at h
  obtain ⟨rfl, rfl⟩ := h
  have e0 : u + (1 + c1 + c2) = u + 1 + c1 + c2 := by omega
  rw [e0]
  by_cases hf2 : u + 1 + c1 ≤ most
  rotate_left
  · have hbig : ¬ u + 1 + c1 + c2 ≤ most := by omega
    rw [outM_no hbig, useM_no hbig]
    exact evalM_all hm H hN t b M hu hM he h3 h1 h2 hall hf1 hf2
  unfold nodeS at hnode
  split at hnode
  rotate_left
  · cases hnode
  rename_i hk
  unfold nodeC at hnode
  by_cases k3 : t.kind = 3
  · rw [if_pos k3] at hnode
    split at hnode
    · exact evalM_k3 hm H hN t b M hu hM he h3 k3 hall hf1 hf2 hnode
    · cases hnode
  rw [if_neg k3] at hnode
  by_cases k4 : t.kind = 4
  · rw [if_pos k4] at hnode
    simp only [Option.some.injEq, Prod.mk.injEq] at hnode
    obtain ⟨rfl, rfl⟩ := hnode
    rw [Nat.add_zero, outM_yes hf2, useM_yes hf2, thing_num]
    exact evalM_k4 hm H hN t b M hu hM he h3 k4 hall hf1 hf2
  rw [if_neg k4] at hnode
  by_cases k5 : t.kind = 5
  · rw [if_pos k5] at hnode
    split at hnode
    · simp only [Option.some.injEq, Prod.mk.injEq] at hnode
      obtain ⟨rfl, rfl⟩ := hnode
      rw [Nat.add_zero, outM_yes hf2, useM_yes hf2, thing_num]
      exact evalM_k5 hm H hN t b M hu hM he h3 k5 hall hf1 hf2
    · cases hnode
  rw [if_neg k5] at hnode
  by_cases k6 : t.kind = 6
  · rw [if_pos k6] at hnode
    split at hnode
    · exact evalM_k6 hm H hN t b M hu hM he h3 k6 hall hf1 hf2 hnode
    · cases hnode
  rw [if_neg k6] at hnode
  by_cases k7 : t.kind = 7
  · rw [if_pos k7] at hnode
    simp only [Option.some.injEq, Prod.mk.injEq] at hnode
    obtain ⟨rfl, rfl⟩ := hnode
    rw [Nat.add_zero, outM_yes hf2, useM_yes hf2, thing_list]
    exact evalM_k7 hm H hN t b M hu hM he h3 k7 hall hf1 hf2
  rw [if_neg k7] at hnode
  by_cases k8 : t.kind = 8
  · rw [if_pos k8] at hnode
    split at hnode
    · simp only [Option.some.injEq, Prod.mk.injEq] at hnode
      obtain ⟨rfl, rfl⟩ := hnode
      rw [Nat.add_zero, outM_yes hf2, useM_yes hf2, thing_list]
      exact evalM_k8 hm H hN t b M hu hM he h3 k8 hall hf1 hf2
    · cases hnode
  rw [if_neg k8] at hnode
  by_cases k9 : t.kind = 9
  · rw [if_pos k9] at hnode
    split at hnode
    · exact evalM_k9 hm H hN hFold t b M hu hM he h3 k9 hall hf1 hf2 hnode
    · cases hnode
  rw [if_neg k9] at hnode
  by_cases k10 : t.kind = 10
  · rw [if_pos k10] at hnode
    split at hnode
    · simp only [Option.some.injEq, Prod.mk.injEq] at hnode
      obtain ⟨rfl, rfl⟩ := hnode
      rw [Nat.add_zero, outM_yes hf2, useM_yes hf2, thing_both]
      exact evalM_k10 hm H hN t b M hu hM he h3 k10 hall hf1 hf2
    · cases hnode
  rw [if_neg k10] at hnode
  by_cases k11 : t.kind = 11
  · rw [if_pos k11] at hnode
    split at hnode
    · simp only [Option.some.injEq, Prod.mk.injEq] at hnode
      obtain ⟨rfl, rfl⟩ := hnode
      rw [Nat.add_zero, outM_yes hf2, useM_yes hf2]
      exact evalM_k11 hm H hN t b M hu hM he h3 k11 hall hf1 hf2
    · cases hnode
  rw [if_neg k11] at hnode
  by_cases k12 : t.kind = 12
  · rw [if_pos k12] at hnode
    split at hnode
    · simp only [Option.some.injEq, Prod.mk.injEq] at hnode
      obtain ⟨rfl, rfl⟩ := hnode
      rw [Nat.add_zero, outM_yes hf2, useM_yes hf2]
      exact evalM_k12 hm H hN t b M hu hM he h3 k12 hall hf1 hf2
    · cases hnode
  rw [if_neg k12] at hnode
  have k13 : t.kind = 13 := by omega
  simp only [Option.some.injEq, Prod.mk.injEq] at hnode
  obtain ⟨rfl, rfl⟩ := hnode
  rw [Nat.add_zero, outM_yes hf2, useM_yes hf2, thing_unit]
  exact evalM_k13 hm H hN t b M hu hM he h3 k13 hall hf1 hf2

/-- the walk of a run, if that of a fold is known -/
theorem walkM_all {most : Nat} (hm : most ≤ 1073741824) (hFold : ∀ ev, WalkM Tryd.prog gl 45 most ev → NleM most ev → FoldM Tryd.prog gl 72 most ev) :
    ∀ d, WalkM Tryd.prog gl 45 most (evS d)
  | 0 => by intro t e u v c b M h; cases h
  | d + 1 => evalM_step hm (walkM_all hm hFold d) (hFold _ (walkM_all hm hFold d) (nle_evS most d))
end Go.Proofs.YtgfjcbofbbcnmaaDoor.Lift

/-
  Package typing, the small functions: types with their sizes.
-/
namespace Go.Proofs.YtgfjcbofbbcnmaaDoor.Lift
set_option linter.unusedSimpArgs false
set_option linter.unusedVariables false
set_option linter.unnecessarySimpa false
open Go
variable {gl : Globs}

/-- a type with its size, as cells -/
def szC (t : Ty) : List DV := [dint t.kind, .sl (t.args.map Ty.cells), dint (t.count : Int)]
theorem szC_eq (t : Ty) : szC t = [dint t.kind, .sl (t.args.map Ty.cells), dint (t.count : Int)] := rfl

theorem sameType_ok (a b : Ty) : Con1 Tryd.prog gl 42 [a.dv, b.dv] [] (dbool (a.same b)) [] := by
  induction a using Ty.ind generalizing b with
  | h a ih =>
  refine t_in Tryd.func42 ?_
  intro X hP hgl hf hfn hn hR hids hfit
  have hla := Ty.fit_len (hfit a.dv (by simp))
  have hlb := Ty.fit_len (hfit b.dv (by simp))
  by_cases hk : a.kind = b.kind
  · by_cases hl : a.args.length = b.args.length
    · refine t_g (j2 @hk @hl) ?_
      refine t_a ?_
      refine t_sub [] (j2 @hk @hl) (W_upto (a.args.length) (fun i => ∀ (j : Nat) (x y : Ty), j < i → a.args[j]? = some x → b.args[j]? = some y → x.same y = true) (fun i => [(.slot 24, .one (.v (dint i))), (.slot 23, .one (.v (dint a.args.length))), (.slot 22, .one (.v (.sl (a.args.map Ty.cells)))), (.slot 3, .one (.loc 3 0)), (.loc 3, .row ([.v (dint b.kind), .v (.sl (b.args.map Ty.cells))]))]) (by intro j x y h; omega) ?_ ?_)
      · intro i hlt hI hnext
        obtain ⟨x, hx⟩ : ∃ x, a.args[i]? = some x := ⟨_, List.getElem?_eq_getElem hlt⟩
        obtain ⟨y, hy⟩ : ∃ y, b.args[i]? = some y := ⟨_, List.getElem?_eq_getElem (by omega)⟩
        refine t_rg0 ?_
        refine t_yes ?_
        refine t_g (j2 @hx @hy) ?_
        refine t_c1 (j2 @hx @hy) (ih x (List.mem_of_getElem? hx) y) ?_
        by_cases hs : x.same y = true
        · refine t_gt (wr []) trivial @hs (hnext ?_)
          intro j x' y' hj hx' hy'
          by_cases hji : j = i
          · subst hji; rw [hx] at hx'; rw [hy] at hy'; cases hx'; cases hy'; exact hs
          · exact hI j x' y' (by omega) hx' hy'
        · refine t_g @hs ?_
          refine t_r ?_
          simp [go_sem, hP, hgl, hn] <;> (try omega)
          refine Bool.eq_false_iff.2 ?_
          intro h
          rw [Ty.same_eq, Bool.and_eq_true, Ty.sames_iff] at h
          exact hs (h.2.2 i x y hx hy)
      · intro hI
        refine t_rg0 ?_
        refine t_no ?_
        refine t_g0 ?_
        refine t_r ?_
        simp [go_sem, hP, hgl, hn] <;> (try omega)
        rw [Ty.same_eq, Bool.and_eq_true, Ty.sames_iff]
        exact ⟨by simp [hk], hl, fun i x y hx hy => hI i x y (List.getElem?_eq_some_iff.1 hx).1 hx hy⟩
    · refine t_g (j2 @hk @hl) ?_
      refine t_r ?_
      simp [go_sem, hP, hgl, hn] <;> (try omega)
      refine Bool.eq_false_iff.2 ?_
      intro h
      rw [Ty.same_eq, Bool.and_eq_true, Ty.sames_iff] at h
      exact hl h.2.1
  · refine t_g @hk ?_
    refine t_r ?_
    simp [go_sem, hP, hgl, hn] <;> (try omega)
    simp [Ty.same_eq, hk]

theorem ownType_ok (t : Ty) : Con1 Tryd.prog gl 63 [t.dv] [] t.dv [] := by
  induction t using Ty.ind with
  | h t ih =>
  refine t_in Tryd.func63 ?_
  intro X hP hgl hf hfn hn hR hids hfit
  have hlen := Ty.fit_len (hfit t.dv (by simp))
  refine t_g0 ?_
  refine t_a ?_
  refine t_sub [(1003, 0)] trivial (W_list (t.args) (fun done rest => [(.slot 12, .one (.v (dint done.length))), (.slot 11, .one (.v (dint t.args.length))), (.slot 10, .one (.v (.sl (t.args.map Ty.cells)))), (.slot 3, .one (.loc 3 0)), (.loc 3, .row ([.v (dint t.kind), .own 1003 (done.map Ty.cells)])), (.tok 1003, .tk 2 done.length), (.slot 2, .one (.loc 2 0)), (.loc 2, .row ([.v (dint 0), .own 0 []]))]) ?_ ?_)
  · intro done x rest hL hg hnext
    have hlt : done.length < t.args.length := by rw [hL]; simp
    have hfo := Ty.fold x
    refine t_rg0 ?_
    refine t_yes ?_
    refine t_rg @hg ?_
    refine t_a ?_
    first | refine W_reg [] fun K hK => ?_ | refine W_regd (by rw [hP]; exact mixed) [] fun K hK => ?_
    refine t_s0 ?_
    refine t_c trivial (ih x (List.mem_of_getElem? hg)) ?_
    refine t_e ?_
    clear hK K
    refine t_rg0 ?_
    refine t_b ?_
    refine t_sub [(1003, 21)] trivial hnext
  · refine t_rg0 ?_
    refine t_no ?_
    refine t_g0 ?_
    refine t_r ?_
    simp [go_sem, hP, hgl, hn] <;> (try omega)
    all_goals exact t_f

theorem ty_of_ok (t : Ty) (ht : t.ok) : Con1 Tryd.prog gl 74 [t.dv] [] (.agg (szC t)) [] := by
  refine t_in Tryd.func74 ?_
  intro X hP hgl hf hfn hn hR hids hfit
  have hc := ht.2
  have h0 := (Ty.checkN_iff t).2 ht
  have hfo := Ty.fold t
  refine t_g0 ?_
  refine t_c1 (j2 @hfo @h0) (checktype_ok t (by omega)) ?_
  refine t_g @h0 ?_
  refine t_r ?_
  simp [go_sem, hP, hgl, hn, szC_eq t] <;> (try omega)

theorem ty_part_ok (t x : Ty) (i : Nat) (hx : t.args[i]? = some x) (ho : x.ok) : Con1 Tryd.prog gl 87 [.agg (szC t), dint (i : Int)] [] (.agg (szC x)) [] := by
  refine t_in Tryd.func87 ?_
  intro X hP hgl hf hfn hn hR hids hfit
  have hsz := szC_eq t
  have hfo := Ty.fold x
  refine t_rg @hsz ?_
  refine t_c1 (j2 @hx (j2 @hfo (szC_eq x))) (ty_of_ok x ho) ?_
  refine t_r ?_
  simp [go_sem, hP, hgl, hn, szC_eq x] <;> (try omega)

theorem ty_is_ok (t : Ty) (k : Int) : Con1 Tryd.prog gl 86 [.agg (szC t), dint k] [] (dbool (decide (t.kind = k))) [] := by
  refine t_in Tryd.func86 ?_
  intro X hP hgl hf hfn hn hR hids hfit
  have hsz := szC_eq t
  refine t_g @hsz ?_
  refine t_r ?_
  simp [go_sem, hP, hgl, hn] <;> (try omega)

theorem ty_same_ok (a b : Ty) : Con1 Tryd.prog gl 88 [.agg (szC a), .agg (szC b)] [] (dbool (a.same b)) [] := by
  refine t_in Tryd.func88 ?_
  intro X hP hgl hf hfn hn hR hids hfit
  have ha := szC_eq a
  have hb := szC_eq b
  have fa := Ty.fold a
  have fb := Ty.fold b
  by_cases h : a.count = b.count
  · refine t_rg (j2 @ha @hb) ?_
    refine t_c1 (j2 @ha (j2 @hb (j2 @h (j2 @fa @fb)))) (sameType_ok a b) ?_
    refine t_r ?_
    simp [go_sem, hP, hgl, hn] <;> (try omega)
  · have hs : a.same b = false := by
      refine Bool.eq_false_iff.2 fun e => h ?_
      rw [(Ty.same_iff a b).1 e]
    have hi : ¬ (a.count : Int) = (b.count : Int) := by omega
    refine t_g (j2 @ha (j2 @hb @hi)) ?_
    refine t_r ?_
    simp [go_sem, hP, hgl, hn, hs] <;> (try omega)

theorem ty_join_ok (k : Int) (a b : Ty) (hc : 1 + a.count + b.count ≤ 64) : Con1 Tryd.prog gl 75 [dint k, .agg (szC a), .agg (szC b)] [] (.tup [.agg (szC (Ty.mk k [a, b])), dint 0]) [] := by
  refine t_in Tryd.func75 ?_
  intro X hP hgl hf hfn hn hR hids hfit
  have ha := szC_eq a
  have hb := szC_eq b
  have hc1 : (1 : Int) + a.count + b.count ≤ 64 := by omega
  have hr : szC (Ty.mk k [a, b]) = [dint k, .sl [a.cells, b.cells], dint (1 + (a.count : Int) + (b.count : Int))] := by
    rw [szC_eq, count_two]
    simp [Ty.kind, Ty.args]
    omega
  refine t_g (j2 @ha (j2 @hb @hc1)) ?_
  refine t_r ?_
  simp [go_sem, hP, hgl, hn, hr, Ty.cells_eq a, Ty.cells_eq b] <;> (try omega)

theorem ty_plain_ok (k : Int) : Con1 Tryd.prog gl 85 [dint k] [] (.sl (ints (if k = 4 then [1] else if k = 5 then [1, 1] else if k = 7 then [2] else if k = 8 then [2, 1, 2] else if k = 13 then [5] else []))) [] := by
  refine t_in Tryd.func85 ?_
  intro X hP hgl hf hfn hn hR hids hfit
  by_cases hs0 : k = 4
  · refine t_g @hs0 ?_
    refine t_r ?_
    simp [go_sem, hP, hgl, hn, ints, hs0] <;> (try omega)
  by_cases hs1 : k = 5
  · refine t_g @hs1 ?_
    refine t_r ?_
    simp [go_sem, hP, hgl, hn, ints, hs1] <;> (try omega)
  by_cases hs2 : k = 7
  · refine t_g @hs2 ?_
    refine t_r ?_
    simp [go_sem, hP, hgl, hn, ints, hs2] <;> (try omega)
  by_cases hs3 : k = 8
  · refine t_g @hs3 ?_
    refine t_r ?_
    simp [go_sem, hP, hgl, hn, ints, hs3] <;> (try omega)
  by_cases hs4 : k = 13
  · refine t_g @hs4 ?_
    refine t_r ?_
    simp [go_sem, hP, hgl, hn, ints, hs4] <;> (try omega)
  refine t_g (j2 @hs0 (j2 @hs1 (j2 @hs2 (j2 @hs3 @hs4)))) ?_
  refine t_r ?_
  simp [go_sem, hP, hgl, hn, ints, hs0, hs1, hs2, hs3, hs4] <;> (try omega)

theorem nat_t_ok : Con1 Tryd.prog gl 79 [] [] (Ty.mk 1 []).dv [] := by
  refine t_in Tryd.func79 ?_
  intro X hP hgl hf hfn hn hR hids hfit
  refine t_g0 ?_
  refine t_r ?_
  simp [go_sem, hP, hgl, hn] <;> (try omega)
  all_goals exact t_f
theorem list_t_ok : Con1 Tryd.prog gl 78 [] [] (Ty.mk 2 []).dv [] := by
  refine t_in Tryd.func78 ?_
  intro X hP hgl hf hfn hn hR hids hfit
  refine t_g0 ?_
  refine t_r ?_
  simp [go_sem, hP, hgl, hn] <;> (try omega)
  all_goals exact t_f

/-- the type of a function of some arguments -/
def funT (r : Ty) (l : List Ty) : Ty := l.foldr (fun a r => Ty.mk 4 [a, r]) r

theorem fun_t_ok (r : Ty) (l : List Ty) : Con1 Tryd.prog gl 97 [r.dv, .sl (l.map Ty.cells)] [] (funT r l).dv [] := by
  refine t_in Tryd.func97 ?_
  intro X hP hgl hf hfn hn hR hids hfit
  have hll := sl_len (hfit (.sl (l.map Ty.cells)) (by simp))
  simp at hll
  have h0 : l.drop l.length = [] := List.drop_length
  refine t_g0 ?_
  refine t_a ?_
  refine W_sub [] (by simp [go_sem]) (by simp [go_sem, h0, funT, List.foldr_nil] <;> omega) (by simp [go_sem]) (W_rounds (fun k : Nat => k ≤ l.length) (fun k : Nat => [(.slot 1, .one (.v (.sl (l.map Ty.cells)))), (.slot 2, .one (.loc 2 0)), (.loc 2, .row ([.v (dint (funT r (l.drop k)).kind), .v (.sl ((funT r (l.drop k)).args.map Ty.cells))])), (.slot 4, .one (.loc 4 0)), (.loc 4, .row ([.v (dint 0), .own 0 []])), (.slot 5, .one (.v (dint ((k : Int) - 1))))]) (fun k : Nat => k) l.length (Nat.le_refl _) ?_)
  intro k hk ih
  cases k with
  | zero =>
    refine t_rg0 ?_
    refine t_no ?_
    refine t_g0 ?_
    refine t_r ?_
    simp [go_sem, hP, hgl, hn, Ty.cells_eq] <;> (try omega)
  | succ k =>
    have hlt : k < l.length := by omega
    obtain ⟨a, ha⟩ : ∃ a, l[k]? = some a := ⟨_, List.getElem?_eq_getElem hlt⟩
    have hd : l.drop k = a :: l.drop (k + 1) := by
      rw [List.drop_eq_getElem_cons hlt]
      rw [List.getElem?_eq_getElem hlt, Option.some.injEq] at ha
      rw [ha]
    have hfd : funT r (l.drop k) = Ty.mk 4 [a, funT r (l.drop (k + 1))] := by rw [hd]; rfl
    have hk1 : ((k + 1 : Nat) : Int) - 1 = (k : Int) := by omega
    have hle : (k : Int) ≤ 2147483648 := by omega
    have hcl := Ty.cells_eq (funT r (l.drop (k + 1)))
    have hih := ih k (by omega) (by omega)
    rw [hfd] at hih
    simp only [Ty.kind, Ty.args] at hih
    rw [hk1]
    refine t_rg0 ?_
    refine t_yes ?_
    refine t_rg @ha ?_
    refine t_rg0 ?_
    refine t_b ?_
    refine t_sub [] (Ty.cells_eq (funT r (l.drop (k + 1)))) hih
end Go.Proofs.YtgfjcbofbbcnmaaDoor.Lift

/-
  Package typing: the type of a node whose parts have types that fit.
-/
namespace Go.Proofs.YtgfjcbofbbcnmaaDoor.Lift
set_option linter.unusedSimpArgs false
set_option linter.unusedVariables false
set_option linter.unnecessarySimpa false
open Go
variable {gl : Globs}

def szZ : List DV := [dint 0, .sl [], dint 0]
def szO : Option Ty → List DV
  | some t => szC t
  | none => szZ
/-- three types with their sizes, as an array's cells -/
def sz3 (l : List Ty) : List DV := szO l[0]? ++ (szO l[1]? ++ szO l[2]?)
theorem sz3_0 : sz3 [] = [dint 0, .sl [], dint 0, dint 0, .sl [], dint 0, dint 0, .sl [], dint 0] := rfl
theorem sz3_1 (a : Ty) : sz3 [a] = [dint a.kind, .sl (a.args.map Ty.cells), dint (a.count : Int), dint 0, .sl [], dint 0, dint 0, .sl [], dint 0] := rfl
theorem sz3_2 (a b : Ty) : sz3 [a, b] = [dint a.kind, .sl (a.args.map Ty.cells), dint (a.count : Int), dint b.kind, .sl (b.args.map Ty.cells), dint (b.count : Int), dint 0, .sl [], dint 0] := rfl
theorem sz3_3 (a b c : Ty) : sz3 [a, b, c] = [dint a.kind, .sl (a.args.map Ty.cells), dint (a.count : Int), dint b.kind, .sl (b.args.map Ty.cells), dint (b.count : Int), dint c.kind, .sl (c.args.map Ty.cells), dint (c.count : Int)] := rfl

theorem ty_step_ok (t : Tm) : Con1 Tryd.prog gl 89 [t.dv] [] (funT t.type (if t.kind = 9 then [Ty.mk 1 [], Ty.mk 2 [], t.type] else [Ty.mk 1 [], t.type])).dv [] := by
  refine t_in Tryd.func89 ?_
  intro X hP hgl hf hfn hn hR hids hfit
  have hfo := Ty.fold t.type
  have hc := Ty.cells_eq t.type
  by_cases h : t.kind = 9
  · have w := fun_t_ok (gl := gl) t.type [Ty.mk 1 [], Ty.mk 2 [], t.type]
    refine t_g @h ?_
    refine t_c3 (j2 @h (j2 @hfo (j2 @hc (j2 @nat_v @list_v)))) nat_t_ok list_t_ok w ?_
    refine t_r ?_
    simp [go_sem, hP, hgl, hn, h] <;> (try omega)
    all_goals exact t_f
  · have w := fun_t_ok (gl := gl) t.type [Ty.mk 1 [], t.type]
    refine t_g @h ?_
    refine t_c2 (j2 @h (j2 @hfo (j2 @hc @nat_v))) nat_t_ok w ?_
    refine t_r ?_
    simp [go_sem, hP, hgl, hn, h] <;> (try omega)
    all_goals exact t_f

theorem of_dv (k : Int) : (Ty.mk k []).dv = .agg [dint k, .sl []] := rfl
theorem szC_k (k : Int) : szC (Ty.mk k []) = [dint k, .sl [], dint 1] := rfl

theorem node_k4 (t : Tm) (h : t.kind = 4) : Con1 Tryd.prog gl 76 [t.dv, .agg (sz3 [])] [] (.tup [.agg (szC (Ty.mk 1 [])), dint 0]) [] := by
  rw [sz3_0]
  have wp := ty_plain_ok (gl := gl) 4
  rw [if_pos rfl] at wp
  have wo := ty_of_ok (gl := gl) (Ty.mk 1 []) ok_nat
  rw [of_dv, szC_k] at wo
  rw [szC_k]
  refine t_in Tryd.func76 ?_
  intro X hP hgl hf hfn hn hR hids hfit
  have hi : ints [1] = [[dint 1]] := rfl
  rw [hi] at wp
  refine t_g @h ?_
  refine t_c1 @h wp ?_
  refine t_g0 ?_
  refine W_loop ?_
  refine t_g0 ?_
  refine t_c1 trivial wo ?_
  refine t_r ?_
  simp [go_sem, hP, hgl, hn] <;> (try omega)

theorem node_k7 (t : Tm) (h : t.kind = 7) : Con1 Tryd.prog gl 76 [t.dv, .agg (sz3 [])] [] (.tup [.agg (szC (Ty.mk 2 [])), dint 0]) [] := by
  rw [sz3_0]
  have wp := ty_plain_ok (gl := gl) 7
  rw [if_neg (by decide), if_neg (by decide), if_pos rfl] at wp
  have wo := ty_of_ok (gl := gl) (Ty.mk 2 []) ok_list
  rw [of_dv, szC_k] at wo
  rw [szC_k]
  refine t_in Tryd.func76 ?_
  intro X hP hgl hf hfn hn hR hids hfit
  have hi : ints [2] = [[dint 2]] := rfl
  rw [hi] at wp
  refine t_g @h ?_
  refine t_c1 @h wp ?_
  refine t_g0 ?_
  refine W_loop ?_
  refine t_g0 ?_
  refine t_c1 trivial wo ?_
  refine t_r ?_
  simp [go_sem, hP, hgl, hn] <;> (try omega)

theorem node_k13 (t : Tm) (h : t.kind = 13) : Con1 Tryd.prog gl 76 [t.dv, .agg (sz3 [])] [] (.tup [.agg (szC (Ty.mk 5 [])), dint 0]) [] := by
  rw [sz3_0]
  have wp := ty_plain_ok (gl := gl) 13
  rw [if_neg (by decide), if_neg (by decide), if_neg (by decide), if_neg (by decide), if_pos rfl] at wp
  have wo := ty_of_ok (gl := gl) (Ty.mk 5 []) ok_unit
  rw [of_dv, szC_k] at wo
  rw [szC_k]
  refine t_in Tryd.func76 ?_
  intro X hP hgl hf hfn hn hR hids hfit
  have hi : ints [5] = [[dint 5]] := rfl
  rw [hi] at wp
  refine t_g @h ?_
  refine t_c1 @h wp ?_
  refine t_g0 ?_
  refine W_loop ?_
  refine t_g0 ?_
  refine t_c1 trivial wo ?_
  refine t_r ?_
  simp [go_sem, hP, hgl, hn] <;> (try omega)

theorem node_k5 (t : Tm) (h : t.kind = 5) : Con1 Tryd.prog gl 76 [t.dv, .agg (sz3 [Ty.mk 1 []])] [] (.tup [.agg (szC (Ty.mk 1 [])), dint 0]) [] := by
  rw [sz3_1]
  have wp := ty_plain_ok (gl := gl) 5
  rw [if_neg (by decide), if_pos rfl] at wp
  have wo := ty_of_ok (gl := gl) (Ty.mk 1 []) ok_nat
  have wi := ty_is_ok (gl := gl) (Ty.mk 1 []) 1
  rw [of_dv, szC_k] at wo
  rw [szC_k] at wi ⊢
  have hi : ints [1, 1] = [[dint 1], [dint 1]] := rfl
  have hd : decide ((Ty.mk 1 []).kind = 1) = true := rfl
  have hk : (Ty.mk 1 []).kind = 1 := rfl
  have ha : (Ty.mk 1 []).args = [] := rfl
  have hc : (Ty.mk 1 []).count = 1 := rfl
  rw [hi] at wp
  rw [hd] at wi
  rw [hk, ha, hc]
  refine t_in Tryd.func76 ?_
  intro X hP hgl hf hfn hn hR hids hfit
  refine t_g @h ?_
  refine t_c1 @h wp ?_
  refine t_g0 ?_
  refine W_loop ?_
  refine t_g0 ?_
  refine t_c1 trivial wi ?_
  refine t_g0 ?_
  refine W_inLoop ?_
  refine t_g0 ?_
  refine t_c1 trivial wo ?_
  refine t_r ?_
  simp [go_sem, hP, hgl, hn] <;> (try omega)

theorem node_k8 (t : Tm) (h : t.kind = 8) : Con1 Tryd.prog gl 76 [t.dv, .agg (sz3 [Ty.mk 1 [], Ty.mk 2 []])] [] (.tup [.agg (szC (Ty.mk 2 [])), dint 0]) [] := by
  rw [sz3_2]
  have wp := ty_plain_ok (gl := gl) 8
  rw [if_neg (by decide), if_neg (by decide), if_neg (by decide), if_pos rfl] at wp
  have wo := ty_of_ok (gl := gl) (Ty.mk 2 []) ok_list
  have wi := ty_is_ok (gl := gl) (Ty.mk 1 []) 1
  have wj := ty_is_ok (gl := gl) (Ty.mk 2 []) 2
  rw [of_dv, szC_k] at wo
  rw [szC_k] at wi wj ⊢
  have hi : ints [2, 1, 2] = [[dint 2], [dint 1], [dint 2]] := rfl
  have hd : decide ((Ty.mk 1 []).kind = 1) = true := rfl
  have hk : (Ty.mk 1 []).kind = 1 := rfl
  have ha : (Ty.mk 1 []).args = [] := rfl
  have hc : (Ty.mk 1 []).count = 1 := rfl
  have hd2 : decide ((Ty.mk 2 []).kind = 2) = true := rfl
  have hk2 : (Ty.mk 2 []).kind = 2 := rfl
  have ha2 : (Ty.mk 2 []).args = [] := rfl
  have hc2 : (Ty.mk 2 []).count = 1 := rfl
  rw [hi] at wp
  rw [hd] at wi
  rw [hd2] at wj
  rw [hk, ha, hc, hk2, ha2, hc2]
  refine t_in Tryd.func76 ?_
  intro X hP hgl hf hfn hn hR hids hfit
  refine t_g @h ?_
  refine t_c1 @h wp ?_
  refine t_g0 ?_
  refine W_loop ?_
  refine t_g0 ?_
  refine t_c1 trivial wi ?_
  refine t_g0 ?_
  refine W_inLoop ?_
  refine t_g0 ?_
  refine t_c1 trivial wj ?_
  refine t_g0 ?_
  refine W_inLoop ?_
  refine t_g0 ?_
  refine t_c1 trivial wo ?_
  refine t_r ?_
  simp [go_sem, hP, hgl, hn] <;> (try omega)

theorem node_k3 (t : Tm) (h : t.kind = 3) (x y a r : Ty) (hk : x.kind = 4) (hx : x.args = [a, r]) (ha : a.ok) (hr : r.ok) (hs : a.same y = true) :
    Con1 Tryd.prog gl 76 [t.dv, .agg (sz3 [x, y])] [] (.tup [.agg (szC r), dint 0]) [] := by
  rw [sz3_2]
  have wp := ty_plain_ok (gl := gl) 3
  rw [if_neg (by decide), if_neg (by decide), if_neg (by decide), if_neg (by decide), if_neg (by decide)] at wp
  have wi := ty_is_ok (gl := gl) x 4
  have w0 := ty_part_ok (gl := gl) x a 0 (by rw [hx]; rfl) ha
  have w1 := ty_part_ok (gl := gl) x r 1 (by rw [hx]; rfl) hr
  have ws := ty_same_ok (gl := gl) a y
  have hi : ints [] = [] := rfl
  have hd : decide (x.kind = 4) = true := decide_eq_true hk
  rw [hi] at wp
  rw [hd] at wi
  rw [hs] at ws
  simp only [szC_eq] at wi w0 w1 ws ⊢
  refine t_in Tryd.func76 ?_
  intro X hP hgl hf hfn hn hR hids hfit
  refine t_g @h ?_
  refine t_c1 @h wp ?_
  refine t_g @h ?_
  refine t_c3 trivial wi w0 ws ?_
  refine t_g0 ?_
  refine t_c1 trivial w1 ?_
  refine t_r ?_
  simp [go_sem, hP, hgl, hn] <;> (try omega)

theorem node_k69 (t : Tm) (h : t.kind = 6 ∨ t.kind = 9) (ht : t.type.ok) (x y z : Ty) (hx : x.same t.type = true) (hy : y.same (funT t.type (if t.kind = 9 then [Ty.mk 1 [], Ty.mk 2 [], t.type] else [Ty.mk 1 [], t.type])) = true) (hz : z.kind = if t.kind = 9 then 2 else 1) :
    Con1 Tryd.prog gl 76 [t.dv, .agg (sz3 [x, y, z])] [] (.tup [.agg (szC t.type), dint 0]) [] := by
  rw [sz3_3]
  have wo := ty_of_ok (gl := gl) t.type ht
  have ws := ty_same_ok (gl := gl) x t.type
  have wt := ty_step_ok (gl := gl) t
  have wy := sameType_ok (gl := gl) y (funT t.type (if t.kind = 9 then [Ty.mk 1 [], Ty.mk 2 [], t.type] else [Ty.mk 1 [], t.type]))
  have fty := Ty.fold t.type
  have fy := Ty.fold y
  have ftt := Tm.fold t
  rw [hx] at ws
  rw [hy] at wy
  generalize funT t.type (if t.kind = 9 then [Ty.mk 1 [], Ty.mk 2 [], t.type] else [Ty.mk 1 [], t.type]) = st at *
  have fst := Ty.fold st
  have cst := Ty.cells_eq st
  simp only [szC_eq] at wo ws ⊢
  rcases h with h | h
  · have wp := ty_plain_ok (gl := gl) 6
    rw [if_neg (by decide), if_neg (by decide), if_neg (by decide), if_neg (by decide), if_neg (by decide)] at wp
    have hi : ints [] = [] := rfl
    rw [hi] at wp
    rw [if_neg (by omega)] at hz
    have wi := ty_is_ok (gl := gl) z 1
    rw [decide_eq_true hz] at wi
    simp only [szC_eq] at wi
    rw [h] at ftt
    refine t_in Tryd.func76 ?_
    intro X hP hgl hf hfn hn hR hids hfit
    refine t_g @h ?_
    refine t_c1 @h wp ?_
    refine t_g @h ?_
    refine t_c1 (j2 @h @fty) wo ?_
    refine t_g @h ?_
    refine t_c4 (j2 @h (j2 @fy (j2 @ftt @fst))) ws wt wy wi ?_
    refine t_g0 ?_
    refine t_r ?_
    simp [go_sem, hP, hgl, hn] <;> (try omega)
  · have wp := ty_plain_ok (gl := gl) 9
    rw [if_neg (by decide), if_neg (by decide), if_neg (by decide), if_neg (by decide), if_neg (by decide)] at wp
    have hi : ints [] = [] := rfl
    rw [hi] at wp
    rw [if_pos h] at hz
    have wi := ty_is_ok (gl := gl) z 2
    rw [decide_eq_true hz] at wi
    simp only [szC_eq] at wi
    rw [h] at ftt
    refine t_in Tryd.func76 ?_
    intro X hP hgl hf hfn hn hR hids hfit
    refine t_g @h ?_
    refine t_c1 @h wp ?_
    refine t_g @h ?_
    refine t_c1 (j2 @h @fty) wo ?_
    refine t_g @h ?_
    refine t_c4 (j2 @h (j2 @fy (j2 @ftt @fst))) ws wt wy wi ?_
    refine t_g0 ?_
    refine t_r ?_
    simp [go_sem, hP, hgl, hn] <;> (try omega)

theorem node_k10 (t : Tm) (h : t.kind = 10) (x y : Ty) (hc : 1 + x.count + y.count ≤ 64) :
    Con1 Tryd.prog gl 76 [t.dv, .agg (sz3 [x, y])] [] (.tup [.agg (szC (Ty.mk 3 [x, y])), dint 0]) [] := by
  rw [sz3_2]
  have wp := ty_plain_ok (gl := gl) 10
  rw [if_neg (by decide), if_neg (by decide), if_neg (by decide), if_neg (by decide), if_neg (by decide)] at wp
  have hi : ints [] = [] := rfl
  rw [hi] at wp
  have wj := ty_join_ok (gl := gl) 3 x y hc
  generalize Ty.mk 3 [x, y] = r at *
  simp only [szC_eq] at wj ⊢
  refine t_in Tryd.func76 ?_
  intro X hP hgl hf hfn hn hR hids hfit
  refine t_g @h ?_
  refine t_c1 @h wp ?_
  refine t_g @h ?_
  refine t_c1 trivial wj ?_
  refine t_r ?_
  simp [go_sem, hP, hgl, hn] <;> (try omega)

theorem node_k11 (t : Tm) (h : t.kind = 11) (x a b : Ty) (hk : x.kind = 3) (hx : x.args = [a, b]) (ha : a.ok) :
    Con1 Tryd.prog gl 76 [t.dv, .agg (sz3 [x])] [] (.tup [.agg (szC a), dint 0]) [] := by
  rw [sz3_1]
  have wp := ty_plain_ok (gl := gl) 11
  rw [if_neg (by decide), if_neg (by decide), if_neg (by decide), if_neg (by decide), if_neg (by decide)] at wp
  have hi : ints [] = [] := rfl
  rw [hi] at wp
  have wi := ty_is_ok (gl := gl) x 3
  have w0 := ty_part_ok (gl := gl) x a 0 (by rw [hx]; rfl) ha
  rw [decide_eq_true hk] at wi
  simp only [szC_eq] at wi w0 ⊢
  refine t_in Tryd.func76 ?_
  intro X hP hgl hf hfn hn hR hids hfit
  refine t_g @h ?_
  refine t_c1 @h wp ?_
  refine t_g @h ?_
  refine t_c1 trivial wi ?_
  refine t_g @h ?_
  refine t_c1 trivial w0 ?_
  refine t_r ?_
  simp [go_sem, hP, hgl, hn] <;> (try omega)

theorem node_k12 (t : Tm) (h : t.kind = 12) (x a b : Ty) (hk : x.kind = 3) (hx : x.args = [a, b]) (hb : b.ok) :
    Con1 Tryd.prog gl 76 [t.dv, .agg (sz3 [x])] [] (.tup [.agg (szC b), dint 0]) [] := by
  rw [sz3_1]
  have wp := ty_plain_ok (gl := gl) 12
  rw [if_neg (by decide), if_neg (by decide), if_neg (by decide), if_neg (by decide), if_neg (by decide)] at wp
  have hi : ints [] = [] := rfl
  rw [hi] at wp
  have wi := ty_is_ok (gl := gl) x 3
  have w0 := ty_part_ok (gl := gl) x b 1 (by rw [hx]; rfl) hb
  rw [decide_eq_true hk] at wi
  simp only [szC_eq] at wi w0 ⊢
  refine t_in Tryd.func76 ?_
  intro X hP hgl hf hfn hn hR hids hfit
  refine t_g @h ?_
  refine t_c1 @h wp ?_
  refine t_g @h ?_
  refine t_c1 trivial wi ?_
  refine t_g @h ?_
  refine t_c1 trivial w0 ?_
  refine t_r ?_
  simp [go_sem, hP, hgl, hn] <;> (try omega)
end Go.Proofs.YtgfjcbofbbcnmaaDoor.Lift

/-
  Package typing: the types of terms that have types; terms.TypeOf.
-/
namespace Go.Proofs.YtgfjcbofbbcnmaaDoor.Lift
set_option linter.unusedSimpArgs false
set_option linter.unusedVariables false
set_option linter.unnecessarySimpa false
open Go
variable {gl : Globs}

/-- a rule that gives a type gives it in the program's form too -/
theorem tnode_ok {t : Tm} (ht : t.shape = true) (hk1 : ¬ t.kind = 1) (hk2 : ¬ t.kind = 2) {ds : List Ty} (hl : ds.length = t.args.length) (hd : ∀ d ∈ ds, d.ok) {r : Ty} (hr : ruleN t.kind t.type ds = (r, 0)) :
    Con1 Tryd.prog gl 76 [t.dv, .agg (sz3 ds)] [] (.tup [.agg (szC r), dint 0]) [] := by
  obtain ⟨ha, hi, hv, hty, hs⟩ := Tm.shape_node ht
  rw [← hl] at ha
  unfold ruleN at hr
  rw [if_neg hk2] at hr
  by_cases h3 : t.kind = 3
  · rw [if_pos h3] at hr
    rw [h3] at ha
    match ds, ha with
    | [x, y], _ =>
      split at hr
      · rename_i hx
        obtain ⟨hx1, hx2⟩ := hx
        have hx1 : x.kind = 4 := hx1
        obtain ⟨p, q, hp, op, oq, e0, e1⟩ := Ty.ok_args (hd x (by simp)) (.inr hx1)
        have hx2 : (x.arg 0).same y = true := hx2
        rw [e0] at hx2
        have e2 : ([x, y].getD 0 zeroTy).arg 1 = q := e1
        rw [e2] at hr
        cases hr
        exact node_k3 t h3 x y p _ hx1 hp op oq hx2
      · cases hr
  rw [if_neg h3] at hr
  by_cases h4 : t.kind = 4
  · rw [if_pos h4] at hr
    rw [h4] at ha
    match ds, ha with
    | [], _ => cases hr; exact node_k4 t h4
  rw [if_neg h4] at hr
  by_cases h5 : t.kind = 5
  · rw [if_pos h5] at hr
    rw [h5] at ha
    match ds, ha with
    | [x], _ =>
      split at hr
      · rename_i hx
        have hx : x.same (Ty.mk 1 []) = true := hx
        obtain rfl := (Ty.same_iff _ _).1 hx
        cases hr
        exact node_k5 t h5
      · cases hr
  rw [if_neg h5] at hr
  by_cases h6 : t.kind = 6
  · rw [if_pos h6] at hr
    rw [h6] at ha
    rw [if_pos (.inr (.inl h6))] at hty
    match ds, ha with
    | [x, y, z], _ =>
      split at hr
      · rename_i hx
        obtain ⟨hx, hy, hz⟩ := hx
        have hz : z.same (Ty.mk 1 []) = true := hz
        obtain rfl := (Ty.same_iff _ _).1 hz
        cases hr
        refine node_k69 t (.inl h6) hty x y _ hx ?_ ?_
        · rw [if_neg (by omega)]; exact hy
        · rw [if_neg (by omega)]; rfl
      · cases hr
  rw [if_neg h6] at hr
  by_cases h7 : t.kind = 7
  · rw [if_pos h7] at hr
    rw [h7] at ha
    match ds, ha with
    | [], _ => cases hr; exact node_k7 t h7
  rw [if_neg h7] at hr
  by_cases h8 : t.kind = 8
  · rw [if_pos h8] at hr
    rw [h8] at ha
    match ds, ha with
    | [x, y], _ =>
      split at hr
      · rename_i hx
        obtain ⟨hx, hy⟩ := hx
        have hx : x.same (Ty.mk 1 []) = true := hx
        have hy : y.same (Ty.mk 2 []) = true := hy
        obtain rfl := (Ty.same_iff _ _).1 hx
        obtain rfl := (Ty.same_iff _ _).1 hy
        cases hr
        exact node_k8 t h8
      · cases hr
  rw [if_neg h8] at hr
  by_cases h9 : t.kind = 9
  · rw [if_pos h9] at hr
    rw [h9] at ha
    rw [if_pos (.inr (.inr h9))] at hty
    match ds, ha with
    | [x, y, z], _ =>
      split at hr
      · rename_i hx
        obtain ⟨hx, hy, hz⟩ := hx
        have hz : z.same (Ty.mk 2 []) = true := hz
        obtain rfl := (Ty.same_iff _ _).1 hz
        cases hr
        refine node_k69 t (.inr h9) hty x y _ hx ?_ ?_
        · rw [if_pos h9]; exact hy
        · rw [if_pos h9]; rfl
      · cases hr
  rw [if_neg h9] at hr
  by_cases h10 : t.kind = 10
  · rw [if_pos h10] at hr
    rw [h10] at ha
    match ds, ha with
    | [x, y], _ =>
      have hr : okN (Ty.mk 3 [x, y]) = (r, 0) := hr
      obtain ⟨o1, o2⟩ := okN_ok (Ty.mk 3 [x, y]) (by rw [hr])
      rw [o2] at hr
      rw [o2] at o1
      cases hr
      have := o1.2
      rw [count_two] at this
      exact node_k10 t h10 x y (by omega)
  rw [if_neg h10] at hr
  by_cases h11 : t.kind = 11
  · rw [if_pos h11] at hr
    rw [h11] at ha
    match ds, ha with
    | [x], _ =>
      split at hr
      · rename_i hx
        have hx : x.kind = 3 := hx
        obtain ⟨p, q, hp, op, oq, e0, e1⟩ := Ty.ok_args (hd x (by simp)) (.inl hx)
        have e2 : ([x].getD 0 zeroTy).arg 0 = p := e0
        rw [e2] at hr
        cases hr
        exact node_k11 t h11 x _ q hx hp op
      · cases hr
  rw [if_neg h11] at hr
  by_cases h12 : t.kind = 12
  · rw [if_pos h12] at hr
    rw [h12] at ha
    match ds, ha with
    | [x], _ =>
      split at hr
      · rename_i hx
        have hx : x.kind = 3 := hx
        obtain ⟨p, q, hp, op, oq, e0, e1⟩ := Ty.ok_args (hd x (by simp)) (.inl hx)
        have e2 : ([x].getD 0 zeroTy).arg 1 = q := e1
        rw [e2] at hr
        cases hr
        exact node_k12 t h12 x p _ hx hp oq
      · cases hr
  rw [if_neg h12] at hr
  have hkn : known t.kind = true := by rw [arityI_known]; simp; omega
  have h13 : t.kind = 13 := by
    simp [known] at hkn
    omega
  rw [h13] at ha
  match ds, ha with
  | [], _ => cases hr; exact node_k13 t h13

set_option maxHeartbeats 1000000 in
theorem typeof_t_ok (t : Tm) (g : List Ty) (hgt : g.length + t.count ≤ 2147483648) (ht : t.shape = true) (hg : ∀ x ∈ g, x.ok) (h : (t.inferN g).2 = 0) :
    Con1 Tryd.prog gl 62 [.sl (g.map szC), t.dv] [] (.tup [.agg (szC (t.inferN g).1), dint 0]) [] := by
  induction t using Tm.ind generalizing g with
  | h t ih =>
  obtain ⟨ha, hi, hv, hty, hs⟩ := Tm.shape_node ht
  refine t_in Tryd.func62 ?_
  intro X hP hgl hf hfn hn hR hids hfit
  have hlg := sl_len (hfit (.sl (g.map szC)) (by simp))
  simp at hlg
  rw [Tm.inferN_eq t] at h hR
  by_cases h1 : t.kind = 1
  · rw [if_pos h1] at h hR
    by_cases h2 : (g.length : Int) ≤ t.index
    · rw [if_pos h2] at h; cases h
    rw [if_neg h2] at hR
    have hlt : g.length - 1 - t.index.toNat < g.length := by omega
    have hx := List.getElem?_eq_getElem hlt
    rw [List.getD_eq_getElem?_getD] at hR
    generalize hge : g[g.length - 1 - t.index.toNat] = x at hx
    have hx' : g[(g.length - 1 - t.index : Int).toNat]? = some x := by rw [← hx]; congr 1; omega
    rw [hx, Option.getD_some] at hR
    refine t_g (j2 @h1 (j2 @h2 (j2 @hx' (szC_eq x)))) ?_
    refine t_r ?_
    simp [go_sem, hP, hgl, hn, szC_eq x] <;> (try omega)
  rw [if_neg h1] at h hR
  by_cases hk2 : t.kind = 2
  · rw [if_pos hk2] at h hR
    rw [hk2] at ha
    obtain ⟨b, hb⟩ : ∃ b, t.args = [b] := by
      match hh : t.args, ha with
      | [b], _ => exact ⟨b, rfl⟩
    have hbm : b ∈ t.args := by rw [hb]; simp
    rw [if_pos (.inl hk2)] at hty
    have hg' : ∀ x ∈ g ++ [t.type], x.ok := by
      intro x hx
      rcases List.mem_append.1 hx with hx | hx
      · exact hg x hx
      · rw [List.mem_singleton.1 hx]; exact hty
    have hcb1 : t.count = 1 + (b.count + 0) := by rw [Tm.count_eq, hb]; rfl
    have hcb2 := Tm.count_pos b
    have hgl1 : g.length ≤ 2147483647 := by omega
    rw [hb] at h hR
    simp only [Tm.inferN.infers] at h hR
    have hb0 : (b.inferN (g ++ [t.type])).2 = 0 := by
      by_cases e : (b.inferN (g ++ [t.type])).2 = 0
      · exact e
      · rw [if_neg e] at h
        simp only at h
        rw [if_neg e] at h
        exact absurd h e
    rw [if_pos hb0] at h hR
    simp only [if_true] at h hR
    have hbo := Tm.inferN_ok b (g ++ [t.type]) (hs b hbm) hg' hb0
    have w1 := ih b hbm (g ++ [t.type]) (by simp; omega) (hs b hbm) hg' hb0
    generalize (b.inferN (g ++ [t.type])).1 = rb at *
    have hrule : ruleN t.kind t.type [rb] = okN (Ty.mk 4 [t.type, rb]) := by rw [hk2]; rfl
    rw [hrule] at h hR
    obtain ⟨o1, o2⟩ := okN_ok (Ty.mk 4 [t.type, rb]) h
    rw [o2] at o1 hR
    have hcc := o1.2
    rw [count_two] at hcc
    have wo := ty_of_ok (gl := gl) t.type hty
    have wj := ty_join_ok (gl := gl) 4 t.type rb (by omega)
    have fty := Ty.fold t.type
    have fb := Tm.fold b
    have hszm : List.map szC (g ++ [t.type]) = List.map szC g ++ [szC t.type] := by simp
    have hlm : (List.map szC g).length = g.length := by simp
    generalize Ty.mk 4 [t.type, rb] = r4 at *
    rw [hszm] at w1
    simp only [szC_eq t.type, szC_eq rb, szC_eq r4] at w1 wo wj hR
    have hwid : ∀ e : List DV, e ∈ List.map szC g → e.length = 3 := by intro e he; simp only [List.mem_map] at he; obtain ⟨x, -, rfl⟩ := he; rfl
    generalize List.map szC g = G at *
    have htake : List.take g.length G = G := by rw [List.take_of_length_le]; omega
    refine t_g @hk2 ?_
    refine t_c1 (j2 @hk2 @fty) wo ?_
    refine t_c1 (j2 @hk2 (j2 @hb (j2 @htake (j2 @hlm (j2 @hwid @hgl1))))) w1 ?_
    refine t_g0 ?_
    refine t_c1 trivial wj ?_
    refine t_r ?_
    simp [go_sem, hP, hgl, hn] <;> (try omega)
  rw [if_neg hk2] at h hR
  have hlen := Tm.fit_len (hfit t.dv (by simp))
  have hI : (Tm.inferN.infers t.args g).2 = 0 := by
    by_cases e : (Tm.inferN.infers t.args g).2 = 0
    · exact e
    · rw [if_neg e] at h; exact absurd h e
  rw [if_pos hI] at h hR
  obtain ⟨hdl, hall⟩ := Tm.infers_all t.args g hI
  have hdo : ∀ a ∈ (Tm.inferN.infers t.args g).1, a.ok := by
    intro a ha
    obtain ⟨i, hi, rfl⟩ := List.mem_iff_getElem.1 ha
    obtain ⟨x1, x2⟩ := hall i t.args[i] (List.getElem?_eq_getElem (by omega))
    rw [List.getElem?_eq_getElem hi] at x2
    rw [Option.some.inj x2]
    exact Tm.inferN_ok _ g (hs _ (List.getElem_mem _)) hg x1
  have wn := tnode_ok (gl := gl) (t := t) ht h1 hk2 hdl hdo (r := (ruleN t.kind t.type (Tm.inferN.infers t.args g).1).1) (by rw [← h])
  generalize (ruleN t.kind t.type (Tm.inferN.infers t.args g).1).1 = r at *
  generalize (Tm.inferN.infers t.args g).1 = ds at *
  have h3 : t.args.length ≤ 3 := by
    have : arityI t.kind ≤ 3 := by unfold arityI; repeat' split
                                   all_goals omega
    omega
  have ftt := Tm.fold t
  simp only [szC_eq r] at wn hR
  have step : ∀ (i : Nat) (x : Tm), t.args[i]? = some x → ∃ d, ds[i]? = some d ∧ Con1 Tryd.prog gl 62 [.sl (g.map szC), x.dv] [] (.tup [.agg (szC d), dint 0]) [] := by
    intro i x hx
    obtain ⟨x1, x2⟩ := hall i x hx
    have hm := List.mem_of_getElem? hx
    have hcx := Tm.count_mem hm
    have hct := Tm.count_eq t
    exact ⟨_, x2, ih x hm g (by omega) (hs x hm) hg x1⟩
  clear ih
  have hgm : List.map szC g = List.map szC g := rfl
  generalize List.map szC g = G at *
  have done0 : ∀ (p : List Ty), t.args.length = p.length → ds = p → sz3 ds = sz3 p := by intro p _ e; rw [e]
  match hargs : t.args, h3 with
  | [], _ =>
    rw [hargs] at hdl
    obtain rfl : ds = [] := List.length_eq_zero_iff.1 hdl
    rw [sz3_0] at wn
    rw [hargs] at ftt
    simp only [List.map_nil] at ftt
    refine t_g (j2 @h1 (j2 @hk2 @hargs)) ?_
    refine W_loop ?_
    refine t_g @hargs ?_
    refine t_c1 (j2 @hargs @ftt) wn ?_
    refine t_r ?_
    simp [go_sem, hP, hgl, hn] <;> (try omega)
  | [x], _ =>
    obtain ⟨d, hd, w⟩ := step 0 x (by rw [hargs]; rfl)
    rw [hargs] at hdl
    obtain rfl : ds = [d] := by
      match ds, hdl, hd with
      | [_], _, hd => simp at hd; rw [hd]
    rw [sz3_1] at wn
    simp only [szC_eq] at w
    rw [hargs] at ftt
    simp only [List.map_cons, List.map_nil] at ftt
    rw [Tm.cells_eq x] at ftt
    refine t_g (j2 @h1 (j2 @hk2 @hargs)) ?_
    refine W_loop ?_
    refine t_g @hargs ?_
    refine t_c1 trivial w ?_
    refine t_g0 ?_
    refine W_sub [] (s' := [(.slot 0, .one (.v (.sl G))), (.slot 67, .one (.v (dint 1))), (.slot 66, .one (.v (dint 1))), (.slot 65, .one (.v (.sl [x.cells]))), (.slot 3, .one (.loc 3 0)), (.loc 3, .row ([.v (dint t.kind), .v (dint t.index), .v (dint t.type.kind), .v (.sl (t.type.args.map Ty.cells)), .v (.sl [x.cells])])), (.slot 4, .one (.loc 4 0)), (.loc 4, .row ([.v (dint 0), .own 0 [], .v (dint 0)])), (.slot 9, .one (.loc 9 0)), (.loc 9, .row ([.v (dint d.kind), .v (.sl (d.args.map Ty.cells)), .v (dint (d.count : Int)), .v (dint 0), .own 0 [], .v (dint 0), .v (dint 0), .own 0 [], .v (dint 0)]))]) (by simp [go_sem]) (by simp [go_sem, hargs]) (by simp [go_sem]) ?_
    refine W_inLoop ?_
    refine t_g0 ?_
    refine t_c1 @ftt wn ?_
    refine t_r ?_
    simp [go_sem, hP, hgl, hn] <;> (try omega)
  | [x, y], _ =>
    obtain ⟨d, hd, w⟩ := step 0 x (by rw [hargs]; rfl)
    obtain ⟨e, he, v⟩ := step 1 y (by rw [hargs]; rfl)
    rw [hargs] at hdl
    obtain rfl : ds = [d, e] := by
      match ds, hdl, hd, he with
      | [_, _], _, hd, he => simp at hd he; rw [hd, he]
    rw [sz3_2] at wn
    simp only [szC_eq] at w v
    rw [hargs] at ftt
    simp only [List.map_cons, List.map_nil] at ftt
    rw [Tm.cells_eq x, Tm.cells_eq y] at ftt
    refine t_g (j2 @h1 (j2 @hk2 @hargs)) ?_
    refine W_loop ?_
    refine t_g @hargs ?_
    refine t_c1 trivial w ?_
    refine t_g0 ?_
    refine W_sub [] (s' := [(.slot 0, .one (.v (.sl G))), (.slot 67, .one (.v (dint 1))), (.slot 66, .one (.v (dint 2))), (.slot 65, .one (.v (.sl [x.cells, y.cells]))), (.slot 3, .one (.loc 3 0)), (.loc 3, .row ([.v (dint t.kind), .v (dint t.index), .v (dint t.type.kind), .v (.sl (t.type.args.map Ty.cells)), .v (.sl [x.cells, y.cells])])), (.slot 4, .one (.loc 4 0)), (.loc 4, .row ([.v (dint 0), .own 0 [], .v (dint 0)])), (.slot 9, .one (.loc 9 0)), (.loc 9, .row ([.v (dint d.kind), .v (.sl (d.args.map Ty.cells)), .v (dint (d.count : Int)), .v (dint 0), .own 0 [], .v (dint 0), .v (dint 0), .own 0 [], .v (dint 0)]))]) (by simp [go_sem]) (by simp [go_sem, hargs]) (by simp [go_sem]) ?_
    refine W_inLoop ?_
    refine t_g @hargs ?_
    refine t_c1 trivial v ?_
    refine t_g0 ?_
    refine W_sub [] (s' := [(.slot 0, .one (.v (.sl G))), (.slot 67, .one (.v (dint 2))), (.slot 66, .one (.v (dint 2))), (.slot 65, .one (.v (.sl [x.cells, y.cells]))), (.slot 3, .one (.loc 3 0)), (.loc 3, .row ([.v (dint t.kind), .v (dint t.index), .v (dint t.type.kind), .v (.sl (t.type.args.map Ty.cells)), .v (.sl [x.cells, y.cells])])), (.slot 4, .one (.loc 4 0)), (.loc 4, .row ([.v (dint 0), .own 0 [], .v (dint 0)])), (.slot 9, .one (.loc 9 0)), (.loc 9, .row ([.v (dint d.kind), .v (.sl (d.args.map Ty.cells)), .v (dint (d.count : Int)), .v (dint e.kind), .v (.sl (e.args.map Ty.cells)), .v (dint (e.count : Int)), .v (dint 0), .own 0 [], .v (dint 0)]))]) (by simp [go_sem]) (by simp [go_sem, hargs]) (by simp [go_sem]) ?_
    refine W_inLoop ?_
    refine t_g0 ?_
    refine t_c1 @ftt wn ?_
    refine t_r ?_
    simp [go_sem, hP, hgl, hn] <;> (try omega)
  | [x, y, z], _ =>
    obtain ⟨d, hd, w⟩ := step 0 x (by rw [hargs]; rfl)
    obtain ⟨e, he, v⟩ := step 1 y (by rw [hargs]; rfl)
    obtain ⟨k, hf3, u⟩ := step 2 z (by rw [hargs]; rfl)
    rw [hargs] at hdl
    obtain rfl : ds = [d, e, k] := by
      match ds, hdl, hd, he, hf3 with
      | [_, _, _], _, hd, he, hf3 => simp at hd he hf3; rw [hd, he, hf3]
    rw [sz3_3] at wn
    simp only [szC_eq] at w v u
    rw [hargs] at ftt
    simp only [List.map_cons, List.map_nil] at ftt
    rw [Tm.cells_eq x, Tm.cells_eq y, Tm.cells_eq z] at ftt
    refine t_g (j2 @h1 (j2 @hk2 @hargs)) ?_
    refine W_loop ?_
    refine t_g @hargs ?_
    refine t_c1 trivial w ?_
    refine t_g0 ?_
    refine W_sub [] (s' := [(.slot 0, .one (.v (.sl G))), (.slot 67, .one (.v (dint 1))), (.slot 66, .one (.v (dint 3))), (.slot 65, .one (.v (.sl [x.cells, y.cells, z.cells]))), (.slot 3, .one (.loc 3 0)), (.loc 3, .row ([.v (dint t.kind), .v (dint t.index), .v (dint t.type.kind), .v (.sl (t.type.args.map Ty.cells)), .v (.sl [x.cells, y.cells, z.cells])])), (.slot 4, .one (.loc 4 0)), (.loc 4, .row ([.v (dint 0), .own 0 [], .v (dint 0)])), (.slot 9, .one (.loc 9 0)), (.loc 9, .row ([.v (dint d.kind), .v (.sl (d.args.map Ty.cells)), .v (dint (d.count : Int)), .v (dint 0), .own 0 [], .v (dint 0), .v (dint 0), .own 0 [], .v (dint 0)]))]) (by simp [go_sem]) (by simp [go_sem, hargs]) (by simp [go_sem]) ?_
    refine W_inLoop ?_
    refine t_g @hargs ?_
    refine t_c1 trivial v ?_
    refine t_g0 ?_
    refine W_sub [] (s' := [(.slot 0, .one (.v (.sl G))), (.slot 67, .one (.v (dint 2))), (.slot 66, .one (.v (dint 3))), (.slot 65, .one (.v (.sl [x.cells, y.cells, z.cells]))), (.slot 3, .one (.loc 3 0)), (.loc 3, .row ([.v (dint t.kind), .v (dint t.index), .v (dint t.type.kind), .v (.sl (t.type.args.map Ty.cells)), .v (.sl [x.cells, y.cells, z.cells])])), (.slot 4, .one (.loc 4 0)), (.loc 4, .row ([.v (dint 0), .own 0 [], .v (dint 0)])), (.slot 9, .one (.loc 9 0)), (.loc 9, .row ([.v (dint d.kind), .v (.sl (d.args.map Ty.cells)), .v (dint (d.count : Int)), .v (dint e.kind), .v (.sl (e.args.map Ty.cells)), .v (dint (e.count : Int)), .v (dint 0), .own 0 [], .v (dint 0)]))]) (by simp [go_sem]) (by simp [go_sem, hargs]) (by simp [go_sem]) ?_
    refine W_inLoop ?_
    refine t_g @hargs ?_
    refine t_c1 trivial u ?_
    refine t_g0 ?_
    refine W_sub [] (s' := [(.slot 0, .one (.v (.sl G))), (.slot 67, .one (.v (dint 3))), (.slot 66, .one (.v (dint 3))), (.slot 65, .one (.v (.sl [x.cells, y.cells, z.cells]))), (.slot 3, .one (.loc 3 0)), (.loc 3, .row ([.v (dint t.kind), .v (dint t.index), .v (dint t.type.kind), .v (.sl (t.type.args.map Ty.cells)), .v (.sl [x.cells, y.cells, z.cells])])), (.slot 4, .one (.loc 4 0)), (.loc 4, .row ([.v (dint 0), .own 0 [], .v (dint 0)])), (.slot 9, .one (.loc 9 0)), (.loc 9, .row ([.v (dint d.kind), .v (.sl (d.args.map Ty.cells)), .v (dint (d.count : Int)), .v (dint e.kind), .v (.sl (e.args.map Ty.cells)), .v (dint (e.count : Int)), .v (dint k.kind), .v (.sl (k.args.map Ty.cells)), .v (dint (k.count : Int))]))]) (by simp [go_sem]) (by simp [go_sem, hargs]) (by simp [go_sem]) ?_
    refine W_inLoop ?_
    refine t_g0 ?_
    refine t_c1 @ftt wn ?_
    refine t_r ?_
    simp [go_sem, hP, hgl, hn] <;> (try omega)

/-- contexts without variables -/
theorem types_context_nil : Con1 Tryd.prog gl 59 [.sl []] [] (dint 0) [] := by
  refine t_in Tryd.func59 ?_
  intro X hP hgl hf hfn hn hR hids hfit
  refine t_g0 ?_
  refine W_loop ?_
  refine t_g0 ?_
  refine t_r ?_
  simp [go_sem, hP, hgl, hn] <;> (try omega)
theorem typing_from_nil : Con1 Tryd.prog gl 61 [.sl []] [] (.sl []) [] := by
  refine t_in Tryd.func61 ?_
  intro X hP hgl hf hfn hn hR hids hfit
  refine t_g0 ?_
  refine W_loop ?_
  refine t_g0 ?_
  refine t_r ?_
  simp [go_sem, hP, hgl, hn] <;> (try omega)

theorem terms_typeof_ok (har : globOf gl 0 = some arEls) (t : Tm) (r : Ty) (hc : t.checkN = 0) (h : t.inferN [] = (r, 0)) :
    Con1 Tryd.prog gl 40 [.sl [], t.dv] [] (.tup [r.dv, dint 0]) [] := by
  obtain ⟨hs, hcc⟩ := (Tm.checkN_iff t).1 hc
  have w2 := termscheck_ok har t (shape_tys t hs) (by omega)
  rw [hc] at w2
  have w3 := typeof_t_ok (gl := gl) t [] (by simp; omega) hs (by simp) (by rw [h])
  rw [h] at w3
  have w4 := ownType_ok (gl := gl) r
  have ftt := Tm.fold t
  have fr := Ty.fold r
  simp only [szC_eq, List.map_nil] at w3
  refine t_in Tryd.func40 ?_
  intro X hP hgl hf hfn hn hR hids hfit
  refine t_g0 ?_
  refine t_c1 trivial types_context_nil ?_
  refine t_g0 ?_
  refine t_c1 @ftt w2 ?_
  refine t_g0 ?_
  refine t_c2 @ftt typing_from_nil w3 ?_
  refine t_g0 ?_
  refine t_c1 @fr w4 ?_
  refine t_r ?_
  simp [go_sem, hP, hgl, hn] <;> (try omega)
  all_goals exact t_f
end Go.Proofs.YtgfjcbofbbcnmaaDoor.Lift

/-
  Package types: a type without functions is seen to be one (Data).
-/
namespace Go.Proofs.YtgfjcbofbbcnmaaDoor.Lift
set_option linter.unusedSimpArgs false
set_option linter.unusedVariables false
set_option linter.unnecessarySimpa false
open Go
variable {gl : Globs}

theorem arrRow_at {E : Nat} {full : List (List DV)} (hE : ∀ e ∈ full, e.length = E) {i : Nat} {e : List DV} (h : full[i]? = some e) : toDs (((arrRow full).drop (i * E)).take E) = some e := by
  have he := hE e (List.mem_of_getElem? h)
  have h1 : ((arrRow full).drop (i * E)).take E = e.map SV.v := by
    apply List.ext_getElem?
    intro j
    by_cases hj : j < E
    · rw [List.getElem?_take_of_lt hj, List.getElem?_drop]
      have hje : e[j]? = some (e[j]'(by omega)) := List.getElem?_eq_getElem (by omega)
      simp only [arrRow, List.getElem?_map, flatten_at hE h hje, hje]
    · rw [List.getElem?_eq_none (by simp; omega), List.getElem?_eq_none (by simp; omega)]
  rw [h1]
  exact toDs_map e

theorem anyLoc_arr (d : Nat) (ys : List (List DV)) : anyLoc d (arrRow ys) = false := anyLoc_vs d _
theorem anyTok_arr (d : Nat) (ys : List (List DV)) : anyTok d (arrRow ys) = false := anyTok_vs d _
attribute [go_sem] anyLoc_arr anyTok_arr
theorem rowLe_vs (σ : Nat → Nat) (l : List DV) : rowLe σ (l.map SV.v) (l.map SV.v) := by
  induction l with
  | nil => simp [rowLe]
  | cons x r ih => simp [rowLe, svLe, ih]
theorem rowLe_arr (σ : Nat → Nat) (ys : List (List DV)) : rowLe σ (arrRow ys) (arrRow ys) := rowLe_vs σ _
/-- the sizes of some types -/
def sizes : List T → Nat
  | [] => 0
  | a :: r => a.size + sizes r
theorem sizes_append (l r : List T) : sizes (l ++ r) = sizes l + sizes r := by
  induction l with
  | nil => simp [sizes]
  | cons a l ih => simp [sizes, ih]; omega
theorem size_pos (a : T) : 1 ≤ a.size := by cases a <;> simp only [T.size] <;> omega
theorem len_sizes (l : List T) : l.length ≤ sizes l := by
  induction l with
  | nil => simp [sizes]
  | cons a l ih => have := size_pos a; simp only [sizes, List.length_cons]; omega

/-- the parts of a type without functions -/
def T.parts : T → List T
  | .pair a b => [a, b]
  | _ => []
theorem parts_size (a : T) (h : a.plain) : sizes a.parts + 1 = a.size := by
  cases a with
  | pair a b => simp only [T.parts, sizes, T.size]; omega
  | fn a b => exact h.elim
  | _ => rfl
theorem parts_plain (a : T) (h : a.plain) : ∀ x ∈ a.parts, x.plain := by
  cases a with
  | pair a b => intro x hx; simp [T.parts] at hx; rcases hx with rfl | rfl; exact h.1; exact h.2
  | fn a b => exact h.elim
  | _ => intro x hx; simp [T.parts] at hx
theorem parts_args (a : T) (h : a.plain) : a.ty.args.map Ty.cells = a.parts.map fun x => x.ty.cells := by
  cases a with
  | fn a b => exact h.elim
  | _ => rfl
theorem parts_len (a : T) : a.parts.length ≤ 2 := by cases a <;> simp [T.parts]
theorem plain_kind (a : T) (h : a.plain) : ¬ a.ty.kind = 4 := by
  cases a with
  | fn a b => exact h.elim
  | _ => simp [T.ty, Ty.kind]

def tyRows (l : List T) : List (List DV) := l.map fun x => x.ty.cells
theorem tyRows_len (l : List T) : (tyRows l).length = l.length := by simp [tyRows]
theorem tyRows_wid (l : List T) : ∀ e ∈ tyRows l, e.length = 2 := by
  intro e he
  simp only [tyRows, List.mem_map] at he
  obtain ⟨x, -, rfl⟩ := he
  exact Ty.length_cells _

theorem grow_rows {full : List (List DV)} {init parts : List T} (h : full.take init.length = tyRows init) (rest : List (List DV)) : (full.take init.length ++ tyRows parts ++ rest).take (init ++ parts).length = tyRows (init ++ parts) := by
  rw [h]
  have e : tyRows init ++ tyRows parts = tyRows (init ++ parts) := by simp [tyRows]
  rw [e]
  exact List.take_left' (tyRows_len _)
theorem grow_wid {full : List (List DV)} {n : Nat} {zs rest : List (List DV)} (h : ∀ e ∈ full, e.length = 2) (h1 : ∀ e ∈ zs, e.length = 2) (h2 : ∀ e ∈ rest, e.length = 2) : ∀ e ∈ full.take n ++ zs ++ rest, e.length = 2 := by
  intro e he
  rcases List.mem_append.1 he with he | he
  · rcases List.mem_append.1 he with he | he
    · exact h e (List.mem_of_mem_take he)
    · exact h1 e he
  · exact h2 e he
theorem W_cutA {α : Type} {X : Ctx} {k kk : List Item} {s : St} (E : α → Prop) (S : α → St) (h1 : (∀ x, E x → W X kk (S x)) → W X k s) (h2 : ∀ x, E x → W X kk (S x)) : W X k s := h1 h2

set_option maxHeartbeats 1000000 in
set_option maxRecDepth 10000 in
theorem nodesIt_ok (a0 : T) (hp0 : a0.plain) (hs0 : a0.size ≤ 1000000) (b0 lp : Nat) (r : Loop) (hps : r.params.size = 1) :
    ItC Tryd.prog gl 82 [.prim (.func (.yield lp) #[] #[]), ptr b0] [(b0, a0.ty.cells)] lp r (fun D0 w0 => ∀ a : T, a.plain → YC Tryd.prog gl D0 w0 lp r [a.ty.dv] [] fun b φ' r' => b = true ∧ φ' = [] ∧ r' = r) (fun φ' r' => φ' = [(b0, a0.ty.cells)] ∧ r' = r) := by
  refine ItC_intro Tryd.func82 rfl (by kernel_rfl) (Nat.le_of_ble_eq_true rfl) ?_
  intro X hP hgl hf hfn hn hmd hids hfit hlp hY
  have hlb : ¬ lp = b0 := by simpa using hlp
  have hlb' : ¬ b0 = lp := fun e => hlb e.symm
  simp only [entryL, entry, argSt, heapSt, List.map_cons, List.map_nil, List.cons_append, List.nil_append]
  have hc0 := Ty.cells_eq a0.ty
  refine t_a ?_
  refine W_reg [6] fun K hK => ?_
  simp [go_sem, hP, hgl, hn, hlb, hlb', hc0]
  refine vcK_litX (E := 2) (els := [[dint a0.ty.kind, .sl (a0.ty.args.map Ty.cells)]]) (by simp [go_sem, hP]; rfl) (by simp [go_sem, hP, hgl, hn]) ⟨rfl, by decide⟩ (by rw [hn]; exact Nat.le_of_ble_eq_true rfl) (by rfl) ?_
  intro b hb hw
  simp [go_sem] at hb
  simp [go_sem, hP, hgl, hn, hlb, hlb', hb]
  repeat (refine ⟨by omega, ?_⟩)
  refine hK _ ?_
  clear hK K
  have hb1 : ¬ b = lp := fun e => hb.1 e.symm
  have hb2 : ¬ b = b0 := fun e => hb.2 e.symm
  refine t_a ?_
  refine W_sub [] (by simp [go_sem]) (by simp [go_sem, hb1, hb2, hb, hlb, hlb', tyRows, hc0, rowLe_arr]) (by simp [go_sem]) (W_rounds
    (fun x : Nat × Nat × List (List DV) × List T => x.2.2.1.length = x.2.1 ∧ (∀ e ∈ x.2.2.1, e.length = 2) ∧ x.2.2.1.take x.2.2.2.length = tyRows x.2.2.2 ∧ x.2.2.2.length ≤ x.2.1 ∧ (∀ a ∈ x.2.2.2, a.plain) ∧ sizes x.2.2.2 ≤ 1000000 ∧ ¬ x.1 = lp ∧ ¬ x.1 = b0)
    (fun x => [(.slot 0, .one (.v (.prim (.func (.yield lp) #[] #[])))), (.slot 1, .one (.v (ptr b0))), (.slot 3, .one (.v (rawS x.1 x.2.2.2.length x.2.1))), (.heap lp, .ob r), (.heap b0, .row [.v (dint a0.ty.kind), .v (.sl (a0.ty.args.map Ty.cells))]), (.heap x.1, .row (arrRow x.2.2.1))])
    (fun x => sizes x.2.2.2) (b, 1, tyRows [a0], [a0]) ⟨rfl, tyRows_wid _, rfl, Nat.le_refl _, by simpa using hp0, by simpa [sizes] using hs0, hb1, hb2⟩ ?_)
  clear hb hb1 hb2 b hw
  rintro ⟨b, cap, full, rest⟩ ⟨i1, i2, i3, i4, i5, i6, i7, i8⟩ ih
  simp only at i1 i2 i3 i4 i5 i6 i7 i8
  have i7' : ¬ lp = b := fun e => i7 e.symm
  have i8' : ¬ b0 = b := fun e => i8 e.symm
  rcases List.eq_nil_or_concat rest with rfl | ⟨init, a, hrest⟩
  · refine t_rg (j2 @hlb (j2 @hlb' (j2 @i7 (j2 @i8 (j2 @i7' @i8'))))) ?_
    refine t_no ?_
    refine t_a ?_
    refine W_itfin hmd (φ := [(b0, a0.ty.cells)]) (q := r) (r := .tup []) (by rw [hP, hf, hfn]; exact Tryd.func82) (by rw [hfn]; simp [go_sem]) (objsIn_one ?_ (by simp [objsIn])) (by simp) ?_ ⟨rfl, rfl⟩ outs_end
    · simp [go_sem, hlb, hlb', i7, i8, i7', i8', hc0]
    · simp [go_sem, hlb, hlb', i7, i8, i7', i8']
  · rw [List.concat_eq_append] at hrest
    subst hrest
    have ha := i5 a (by simp)
    have hln : (init ++ [a]).length = init.length + 1 := by simp
    have hls := len_sizes (init ++ [a])
    rw [hln] at hls i3 i4
    rw [hln]
    have hbig : init.length + 1 ≤ BIG := by unfold BIG; omega
    have hfa : full[init.length]? = some a.ty.cells := by
      have h1 : (full.take (init.length + 1))[init.length]? = some a.ty.cells := by rw [i3]; simp [tyRows]
      rw [List.getElem?_take_of_lt (by omega)] at h1
      exact h1
    have hrd := arrRow_at i2 hfa
    rw [Ty.cells_eq a.ty] at hrd
    have hps' := parts_size a ha
    have hpl := parts_len a
    have hargs := parts_args a ha
    have hsz := sizes_append init [a]
    have hsz2 := sizes_append init a.parts
    simp only [sizes] at hsz
    have hls2 := len_sizes (init ++ a.parts)
    rw [List.length_append] at hls2
    have hfo := Ty.fold a.ty
    have htr : tyRows a.parts = a.ty.args.map Ty.cells := hargs.symm
    have hal : (arrRow full).length = cap * 2 := by rw [arrRow_len i2, i1]
    refine t_rg (j2 @hbig (j2 @hlb (j2 @hlb' (j2 @i7 (j2 @i8 (j2 @i7' @i8')))))) ?_
    refine t_yes ?_
    have hlt : ((init.length : Nat) : Int) < (init.length : Nat) + 1 := by omega
    refine t_rg (j2 @hbig (j2 @hlb (j2 @hlb' (j2 @i7 (j2 @i8 (j2 @i7' (j2 @i8' @hrd))))))) ?_
    have hnb : init.length + (a.ty.args.map Ty.cells).length ≤ BIG := by
      rw [hargs, List.length_map]; unfold BIG; omega
    have hzw : ∀ e ∈ a.ty.args.map Ty.cells, e.length = 2 := by rw [hargs]; exact tyRows_wid a.parts
    have hzl : (a.ty.args.map Ty.cells).length = a.parts.length := by rw [hargs, List.length_map]
    have hil : (init ++ a.parts).length = init.length + a.parts.length := List.length_append
    have hfl1 : full.take init.length = tyRows init := by
      have h1 : (full.take (init.length + 1)).take init.length = (tyRows (init ++ [a])).take init.length := by rw [i3]
      rw [List.take_take, Nat.min_eq_left (by omega)] at h1
      rw [h1]; simp [tyRows]
    generalize a.ty.args.map Ty.cells = zs at *
    apply W_cutA (fun x : Nat × Nat × List (List DV) => x.2.2.length = x.2.1 ∧ (∀ e ∈ x.2.2, e.length = 2) ∧ x.2.2.take (init ++ a.parts).length = tyRows (init ++ a.parts) ∧ (init ++ a.parts).length ≤ x.2.1 ∧ ¬ x.1 = lp ∧ ¬ x.1 = b0)
      (fun x => [(.slot 0, .one (.v (.prim (.func (.yield lp) #[] #[])))), (.slot 1, .one (.v (ptr b0))), (.slot 3, .one (.v (rawS x.1 (init ++ a.parts).length x.2.1))), (.slot 4, .one (.loc 4 0)), (.loc 4, .row [.v (dint a.ty.kind), .v (.sl zs)]), (.heap lp, .ob r), (.heap b0, .row [.v (dint a0.ty.kind), .v (.sl (a0.ty.args.map Ty.cells))]), (.heap x.1, .row (arrRow x.2.2))])
    · intro hrest
      refine t_a ?_
      refine W_regT (by rw [hP]; exact mixed) 7 ?_ ?_ [] [23] fun K hK => ?_
      · decide
      · rfl
      simp [go_sem, hP, hgl, hn, hbig, hlb, hlb', i7, i8, i7', i8', hrd]
      repeat (refine ⟨by omega, ?_⟩)
      refine ⟨by rfl, ?_⟩
      refine vcK_appendR (E := 2) (B := 32) (b := b) (n := init.length) (cap := cap) (full := full) (zs := zs) (zd := [dint 0, .sl []]) (by simp [go_sem, hP, hgl, hn]) (by simp [go_sem, hP, hgl, hn]) (by simp [go_sem, hlb, hlb', i7, i8, i7', i8']) (by simp [go_sem, hP]) (by rw [hP]; kernel_rfl) rfl ⟨by decide, by decide⟩ (by rw [hP]; rfl) (by rw [hn]; exact Nat.le_of_ble_eq_true rfl) i1 (by omega) hnb i2 hzw rfl ?_ ?_
      · intro hle
        simp [go_sem, hP, hgl, hn, hlb, hlb', i7, i8, i7', i8']
        refine hK _ ?_
        clear hK K
        rw [hzl] at hle
        have q1 : (full.take init.length ++ zs ++ full.drop (init.length + zs.length)).length = cap := by
          simp only [List.length_append, List.length_take, List.length_drop, i1, hzl]; omega
        have q2 := grow_wid (n := init.length) i2 hzw (rest := full.drop (init.length + zs.length)) fun e he => i2 e (List.mem_of_mem_drop he)
        have q3 := grow_rows (parts := a.parts) hfl1 (full.drop (init.length + zs.length))
        rw [htr] at q3
        have q4 : (init ++ a.parts).length ≤ cap := by rw [hil]; exact hle
        have q5 : init.length + zs.length = (init ++ a.parts).length := by rw [hil, hzl]
        have hres := hrest (b, cap, _) ⟨q1, q2, q3, q4, i7, i8⟩
        simp only at hres
        rw [← q5] at hres
        rw [List.append_assoc] at hres
        generalize full.take init.length ++ (zs ++ full.drop (init.length + zs.length)) = fl at *
        refine t_b ?_
        refine t_sub [] (j2 @hlb (j2 @hlb' (j2 @i7 (j2 @i8 (j2 @i7' (j2 @i8' @rowLe_arr)))))) hres
      · intro hlt b' cap' hc hb' hw'
        simp [go_sem] at hb'
        simp [go_sem, hP, hgl, hn, hlb, hlb', i7, i8, i7', i8', hb']
        refine hK _ ?_
        clear hK K
        have k1 : ¬ b' = lp := fun e => hb'.1 e.symm
        have k2 : ¬ b' = b0 := fun e => hb'.2.1 e.symm
        have k3 : ¬ b = b' := fun e => hb'.2.2 e
        have q1 : (full.take init.length ++ zs ++ List.replicate (cap' - (init.length + zs.length)) [dint 0, DV.sl []]).length = cap' := by
          simp only [List.length_append, List.length_take, List.length_replicate, i1]; omega
        have q2 := grow_wid (n := init.length) i2 hzw (rest := List.replicate (cap' - (init.length + zs.length)) [dint 0, DV.sl []]) fun e he => by rw [(List.mem_replicate.1 he).2]; rfl
        have q3 := grow_rows (parts := a.parts) hfl1 (List.replicate (cap' - (init.length + zs.length)) [dint 0, DV.sl []])
        rw [htr] at q3
        have q5 : init.length + zs.length = (init ++ a.parts).length := by rw [hil, hzl]
        have q4 : (init ++ a.parts).length ≤ cap' := by rw [← q5]; exact hc
        have hres := hrest (b', cap', _) ⟨q1, q2, q3, q4, k1, k2⟩
        simp only at hres
        rw [← q5] at hres
        rw [List.append_assoc] at hres
        generalize full.take init.length ++ (zs ++ List.replicate (cap' - (init.length + zs.length)) [dint 0, DV.sl []]) = fl at *
        refine t_b ?_
        refine t_sub [] (j2 @hlb (j2 @hlb' (j2 @i7 (j2 @i8 (j2 @i7' (j2 @i8' (j2 @hb' (j2 @k1 (j2 @k2 (j2 @k3 @rowLe_arr)))))))))) hres
    · rintro ⟨b', cap', full'⟩ ⟨w1, w2, w3, w4, w5, w6⟩
      simp only at w1 w2 w3 w4 w5 w6 ⊢
      have w5' : ¬ lp = b' := fun e => w5 e.symm
      have w6' : ¬ b0 = b' := fun e => w6 e.symm
      have w7 : ∀ x ∈ init ++ a.parts, x.plain := by
        intro x hx
        rcases List.mem_append.1 hx with hx | hx
        · exact i5 x (by simp [hx])
        · exact parts_plain a ha x hx
      have w8 : sizes (init ++ a.parts) ≤ 1000000 := by omega
      have w9 : sizes (init ++ a.parts) < sizes (init ++ [a]) := by omega
      have hres := ih (b', cap', full', init ++ a.parts) ⟨w1, w2, w3, w4, w7, w8, w5, w6⟩ w9
      simp only at hres
      generalize hnn : (init ++ a.parts).length = nn at *
      refine t_a ?_
      first | refine W_reg [] fun K hK => ?_ | refine W_regd (by rw [hP]; exact mixed) [] fun K hK => ?_
      refine t_s (j2 @hlb (j2 @hlb' (j2 @w5 (j2 @w6 (j2 @w5' (j2 @w6' @hfo)))))) ?_
      repeat (refine ⟨by omega, ?_⟩)
      refine vcK_yieldA (by simp [go_sem]) hP hgl (hY a ha) hps (by simp [go_sem, hlb, hlb', w5, w6, w5', w6', hfo]) rfl (by simp [objsIn]) (by simp) (by simp [go_sem, hlb, hlb', w5, w6, w5', w6']) (by rw [hn]; exact Nat.le_of_ble_eq_true rfl) [(.slot 0, .one (.v (.prim (.func (.yield lp) #[] #[])))), (.slot 1, .one (.v (ptr b0))), (.slot 3, .one (.v (rawS b' nn cap'))), (.heap b0, .row [.v (dint a0.ty.kind), .v (.sl (a0.ty.args.map Ty.cells))]), (.heap b', .row (arrRow full'))] ?_ ?_ ?_
      · intro m v h
        simp only [List.mem_cons, List.not_mem_nil, or_false, Prod.mk.injEq] at h
        rcases h with ⟨rfl, rfl⟩ | ⟨rfl, rfl⟩ | ⟨rfl, rfl⟩ | ⟨rfl, rfl⟩ | ⟨rfl, rfl⟩ <;> simp [go_sem, hlb, hlb', w5, w6, w5', w6']
      · rintro _ _ _ ⟨rfl, rfl, rfl⟩
        simp
      · rintro _ _ _ ⟨rfl, rfl, rfl⟩ -
        simp only [List.cons_append, List.nil_append]
        simp [go_sem, hP, hgl, hn]
        refine t_e ?_
        clear hK K
        refine t_no ?_
        refine t_b ?_
        refine t_sub [] (j2 @hlb (j2 @hlb' (j2 @w5 (j2 @w6 (j2 @w5' (j2 @w6' @rowLe_arr)))))) hres

theorem types_nodes_ok (a : T) : Con Tryd.prog gl 68 [a.ty.dv] [] fun r φ => ∃ b, r = .prim (.func (.func 82) #[] #[.pointer (some ⟨b, 0, none⟩)]) ∧ φ = [(b, a.ty.cells)] := by
  have hc0 := Ty.cells_eq a.ty
  refine t_in Tryd.func68 ?_
  intro X hP hgl hf hfn hn hR hids hfit
  refine t_rg0 ?_
  refine W_expose 1 (by simp [go_sem]; rfl) ?_
  intro b hb
  simp [go_sem]
  refine t_rg0 ?_
  refine t_a ?_
  refine W_retR hP hf hfn (.prim (.func (.func 82) #[] #[.pointer (some ⟨b, 0, none⟩)])) [(b, a.ty.cells)] (by simp [go_sem, hP, hgl, hn]) (by simp [go_sem, hc0]) (by simp) (by rw [hR.1]; exact ⟨b, rfl, rfl⟩) hR.2

set_option maxHeartbeats 1000000 in
theorem data_t_ok (a : T) (hp : a.plain) (ho : a.ok) : Con1 Tryd.prog gl 44 [a.ty.dv] [] (.tup [dbool true, dint 0]) [] := by
  have hs : a.size ≤ 64 := ho
  have hc := T.ty_count a
  have h0 : a.ty.checkN = 0 := (Ty.checkN_iff _).2 (T.ok_ty ho)
  have wc := types_check_ok (gl := gl) a.ty (by omega)
  rw [h0] at wc
  have fa := Ty.fold a.ty
  have hc0 := Ty.cells_eq a.ty
  refine t_in Tryd.func44 ?_
  intro X hP hgl hf hfn hn hR hids hfit
  refine t_g0 ?_
  refine t_c1 @fa wc ?_
  refine t_g0 ?_
  refine t_a ?_
  first | refine W_reg [] fun K hK => ?_ | refine W_regd (by rw [hP]; exact mixed) [] fun K hK => ?_
  refine t_s0 ?_
  repeat (refine ⟨by omega, ?_⟩)
  refine vcK_callR hP hgl (types_nodes_ok a) (by simp [go_sem]) rfl (by simp [go_sem]) (by simp) (by rw [hn]; exact Nat.le_of_ble_eq_true rfl) ?_
  rintro r ψ ⟨b0, rfl, rfl⟩ -
  simp [go_sem]
  refine t_e ?_
  clear hK K
  refine t_a ?_
  refine W_rangeFunc hR.2 (f := 82) (fi := #[]) (ca := #[.pointer (some ⟨b0, 0, none⟩)]) (by simp [go_sem]) (by simp [primOK]) (φ := [(b0, a.ty.cells)]) ?_ ?_ (Y := fun lp r D0 w0 => ∀ x : T, x.plain → YC X.P X.gl D0 w0 lp r [x.ty.dv] [] fun b φ' r' => b = true ∧ φ' = [] ∧ r' = r) (R := fun φ' r' => φ' = [(b0, a.ty.cells)] ∧ r'.state = .ready ∧ r'.pending = none) (SL := []) ?_ ?_ ?_ ?_ ?_
  · exact objsIn_one (by simp [go_sem, hc0]) (by simp [objsIn])
  · simp
  · intro n x h
    cases h
  · intro lp r h1 h2 h3 h4
    have := nodesIt_ok (gl := gl) a hp (by omega) b0 lp r (by rw [h3]; rfl)
    rw [hP, hgl]
    refine ⟨this.1, fun D w vs a1 a2 a3 a4 a5 a6 => (this.2 D w vs a1 a2 a3 a4 a5 a6).mono ?_⟩
    rintro e w' ⟨v1, D', φ', r', rfl, hR', rest⟩
    refine ⟨v1, D', φ', r', rfl, ?_, rest⟩
    obtain ⟨rfl, rfl⟩ := hR'
    exact ⟨rfl, h1, h2⟩
  · intro lp r D0 w0 h1 h2 h3 h4 h5 h6 h7 h8 h9 x hx
    rw [hP, hgl]
    refine YC_round X.n h5 h9 h1 (by rw [h3]; rfl) (by rw [h3, hn]; decide) (by rw [h3]; decide) (by rw [h3]; simp) ?_
    intro X' hP' hgl' hf' hn' hmd' hids' hl' hfit'
    rw [h3, h6, h7]
    rw [hn] at hn'
    clear hP hgl hn
    have hP := hP'
    have hgl := hgl'
    have hn := hn'
    have hk := plain_kind x hx
    have fx := Ty.fold x.ty
    simp only [entryR, h3, parSt, slotSt, heapSt, List.cons_append, List.nil_append, List.map_nil]
    refine t_rg0 ?_
    refine W_begin (r := r) (l := lp) (by simp [Ctx.rd, hmd']) (by simp [go_sem]) h1 ?_
    simp [go_sem]
    refine t_rg0 ?_
    refine t_a ?_
    refine W_cond rfl ?_ ?_
    · intro h; exact absurd (by simpa using h) hk
    intro _
    refine t_a ?_
    refine W_rdfin hmd' (φ := []) (by simp [objsIn]) (by simp) (by simp [go_sem]) none rfl ?_
    simp only [Option.isNone_none, true_and]
    cases r
    simp only [pastL] at h1 h2 ⊢
    subst h1 h2
    rfl
  · rintro φ' r' ⟨-, h, -⟩
    rw [h]; simp
  · rintro φ' r' ⟨rfl, -, h⟩ -
    rw [h]
    simp [go_sem]
    refine t_rg0 ?_
    refine t_r ?_
    simp [go_sem, hP, hgl, hn] <;> (try omega)
end Go.Proofs.YtgfjcbofbbcnmaaDoor.Lift

/-
  Package machine: plain values given to it and read back.
-/
namespace Go.Proofs.YtgfjcbofbbcnmaaDoor.Lift
set_option linter.unusedSimpArgs false
set_option linter.unusedVariables false
set_option linter.unnecessarySimpa false
open Go
variable {gl : Globs}

theorem thing_num' (n : Nat) : (MV.num n).thing = .iface 3 (dint (n : Int)) := by rw [MV.thing]
theorem thing_list' (l : List Nat) : (MV.list l).thing = .iface 100 (cellM l) := by rw [MV.thing]
theorem thing_both' (a b : MV) : (MV.both a b).thing = .iface 106 (.ref [a.thing, b.thing]) := by rw [MV.thing]
theorem thing_unit' : MV.unit.thing = .iface 110 (.agg []) := by rw [MV.thing]


theorem plain_nat_ok (n : Nat) : Con1 Tryd.prog gl 47 [(MV.num n).thing] [] (Val.mk 1 (n : Nat) [] []).dv [] := by
  rw [thing_num']
  refine t_in Tryd.func47 ?_
  intro X hP hgl hf hfn hn hR hids hfit
  refine t_g0 ?_
  refine t_r ?_
  simp [go_sem, hP, hgl, hn] <;> (try omega)
  all_goals exact t_f
theorem plain_unit_ok : Con1 Tryd.prog gl 47 [MV.unit.thing] [] (Val.mk 4 0 [] []).dv [] := by
  rw [thing_unit']
  refine t_in Tryd.func47 ?_
  intro X hP hgl hf hfn hn hR hids hfit
  refine t_g0 ?_
  refine t_r ?_
  simp [go_sem, hP, hgl, hn] <;> (try omega)
  all_goals exact t_f
theorem ints_snoc (l : List Nat) (n : Nat) : ints (List.map Int.ofNat l) ++ [[dint (n : Int)]] = ints (List.map Int.ofNat (l ++ [n])) := by simp [ints]
theorem plain_list_ok (l : List Nat) (hl : l.length ≤ 1073741824) : Con1 Tryd.prog gl 47 [(MV.list l).thing] [] (Val.mk 2 0 (List.map Int.ofNat l) []).dv [] := by
  rw [thing_list']
  refine t_in Tryd.func47 ?_
  intro X hP hgl hf hfn hn hR hids hfit
  refine t_g0 ?_
  refine t_a ?_
  refine W_sub [(1005, 0)] (by simp [go_sem]) (by simp [go_sem, ints] <;> omega) (by simp [go_sem]) (W_rounds (fun x : List Nat × List Nat => x.1 ++ x.2 = l) (fun x : List Nat × List Nat => [(.slot 4, .one (.v (cellM x.2))), (.slot 5, .one (.loc 5 0)), (.loc 5, .row ([.v (dint 2), .v (dint 0), .own 1005 (ints (x.1.map Int.ofNat)), .own 0 []])), (.tok 1005, .tk 1 x.1.length), (.slot 2, .one (.loc 2 0)), (.loc 2, .row ([.v (dint 0), .v (dint 0), .own 0 [], .own 0 []]))]) (fun x : List Nat × List Nat => x.2.length) (([] : List Nat), l) (rfl) ?_)
  rintro ⟨ds, q⟩ hq ih
  simp only at hq
  have hql : ds.length + q.length = l.length := by rw [← hq]; simp
  cases q with
  | nil =>
    have hcm := cellM_nil
    rw [hcm]
    have hds : ds = l := by rw [← hq]; simp
    subst hds
    refine t_rg0 ?_
    refine t_no ?_
    refine t_g0 ?_
    refine t_r ?_
    simp [go_sem, hP, hgl, hn] <;> (try omega)
    all_goals exact t_f
  | cons n q =>
    have hcm := cellM_cons n q
    have hon := ints_snoc ds n
    have hw1 : ∀ e : List DV, e ∈ ints (List.map Int.ofNat ds) → e.length = 1 := by intro e he; simp only [ints, List.mem_map] at he; obtain ⟨x, -, rfl⟩ := he; rfl
    have hl1 : (ints (List.map Int.ofNat ds)).length = ds.length := by simp [ints]
    have hcl : ds.length ≤ 2147483647 := by simp at hql; omega
    have e2 : (ds ++ [n]) ++ q = l := by rw [← hq]; simp
    have e3 : q.length < (n :: q).length := by simp
    have hl2 : (ds ++ [n]).length = ds.length + 1 := by simp
    have hl3 : (ints (List.map Int.ofNat (ds ++ [n]))).length = ds.length + 1 := by simp [ints]
    have hih := ih (ds ++ [n], q) e2 e3
    rw [← hon] at hih
    simp only [hl2] at hih
    rw [hcm]
    generalize ints (List.map Int.ofNat ds) = L at *
    refine t_rg0 ?_
    refine t_yes ?_
    refine t_rg (j2 @hcl (j2 @hw1 @hl1)) ?_
    refine t_rg0 ?_
    refine t_b ?_
    refine t_sub [(1005, 30)] @hl1 hih
theorem plain_pair_ok (a b : T) (x y : MV) (v w : Val) (h1 : Con1 Tryd.prog gl 47 [x.thing] [] v.dv []) (h2 : Con1 Tryd.prog gl 47 [y.thing] [] w.dv []) :
    Con1 Tryd.prog gl 47 [(MV.both x y).thing] [] (Val.mk 3 0 [] [v, w]).dv [] := by
  rw [thing_both']
  have fv := Val.fold v
  have fw := Val.fold w
  refine t_in Tryd.func47 ?_
  intro X hP hgl hf hfn hn hR hids hfit
  refine t_g0 ?_
  refine t_c2 trivial h1 h2 ?_
  refine t_r ?_
  simp [go_sem, hP, hgl, hn] <;> (try omega)
  all_goals exact t_f

theorem machine_plain_ok : ∀ (a : T) (x : a.V), a.plain → (ofM a x).nle 1073741824 → Con1 Tryd.prog gl 47 [(ofM a x).thing] [] (valOf a x).dv []
  | .nat, n, _, _ => plain_nat_ok n
  | .list, l, _, h => plain_list_ok l (by simp only [ofM, MV.nle] at h; exact h.1)
  | .unit, _, _, _ => plain_unit_ok
  | .pair a b, p, hp, h => by
    simp only [ofM, MV.nle] at h
    exact plain_pair_ok a b _ _ _ _ (machine_plain_ok a p.1 hp.1 h.1) (machine_plain_ok b p.2 hp.2 h.2)
  | .fn _ _, _, hp, _ => hp.elim

theorem from_nat_ok (n : Nat) : Con1 Tryd.prog gl 43 [(Val.mk 1 (n : Nat) [] []).dv] [] (MV.num n).thing [] := by
  rw [thing_num']
  refine t_in Tryd.func43 ?_
  intro X hP hgl hf hfn hn hR hids hfit
  refine t_g0 ?_
  refine t_r ?_
  simp [go_sem, hP, hgl, hn] <;> (try omega)
theorem from_unit_ok : Con1 Tryd.prog gl 43 [(Val.mk 4 0 [] []).dv] [] MV.unit.thing [] := by
  rw [thing_unit']
  refine t_in Tryd.func43 ?_
  intro X hP hgl hf hfn hn hR hids hfit
  refine t_g0 ?_
  refine t_r ?_
  simp [go_sem, hP, hgl, hn] <;> (try omega)
theorem from_pair_ok (x y : MV) (v w : Val) (h1 : Con1 Tryd.prog gl 43 [v.dv] [] x.thing []) (h2 : Con1 Tryd.prog gl 43 [w.dv] [] y.thing []) :
    Con1 Tryd.prog gl 43 [(Val.mk 3 0 [] [v, w]).dv] [] (MV.both x y).thing [] := by
  rw [thing_both']
  have fv := Val.fold v
  have fw := Val.fold w
  have lv := Val.length_cells v
  have lw := Val.length_cells w
  refine t_in Tryd.func43 ?_
  intro X hP hgl hf hfn hn hR hids hfit
  refine t_g0 ?_
  refine t_a ?_
  refine W_regd (by rw [hP]; exact mixed) [34] fun K hK => ?_
  simp [go_sem, hP, hgl, hn, fv, fw, lv, lw]
  refine t_c (j2 @fv @fw) (h1) ?_
  refine t_c (j2 @fv @fw) (h2) ?_
  refine vcdC_boxR (cs := [x.thing, y.thing]) (y := .ag [x.thing, y.thing] []) (fun _ _ => vcd_sound) (by simp [go_sem, hP, hgl, hn]) (by simp [go_sem]) (by simp [go_sem]) (by rw [hn]; exact Nat.le_of_ble_eq_true rfl) (by rfl) ?_
  simp [go_sem, hP, hgl, hn]
  refine t_e ?_
  clear hK K
  refine t_r ?_
  simp [go_sem, hP, hgl, hn] <;> (try omega)

set_option maxHeartbeats 1000000 in
theorem from_list_ok (l : List Nat) : Con1 Tryd.prog gl 43 [(Val.mk 2 0 (List.map Int.ofNat l) []).dv] [] (MV.list l).thing [] := by
  rw [thing_list']
  have hll : (List.map Int.ofNat l).length = l.length := by simp
  refine t_in Tryd.func43 ?_
  intro X hP hgl hf hfn hn hR hids hfit
  have hl2 := Val.fit_list (hfit (Val.mk 2 0 (List.map Int.ofNat l) []).dv (by simp))
  rw [show (Val.mk 2 0 (List.map Int.ofNat l) []).list = List.map Int.ofNat l from rfl] at hl2
  refine t_g0 ?_
  refine t_a ?_
  first | refine W_reg [] fun K hK => ?_ | refine W_regd (by rw [hP]; exact mixed) [] fun K hK => ?_
  refine t_s0 ?_
  repeat (refine ⟨by omega, ?_⟩)
  refine vcK_callR hP hgl (backward_ok (List.map Int.ofNat l)) (by simp [go_sem]) rfl (by simp [go_sem]) (by simp) (by rw [hn]; exact Nat.le_of_ble_eq_true rfl) ?_
  rintro r ψ ⟨b0, rfl, rfl⟩ -
  simp [go_sem]
  refine t_e ?_
  clear hK K
  refine t_a ?_
  refine W_expose 3 (by simp [go_sem]; rfl) ?_
  intro b3 hb
  simp [go_sem] at hb ⊢
  have hb' : b0 ≠ b3 := hb
  let Φ : Nat → Objs := fun i => [(b3, [cellM (l.drop i)])]
  have hlast : cellM (l.drop l.length) = nilP := by rw [List.drop_length]; rfl
  refine W_rangeFunc hR.2 (f := 80) (fi := #[]) (ca := #[.pointer (some ⟨b0, 0, none⟩)]) (by simp [go_sem]) (by simp [primOK]) (φ := (b0, [.sl (ints (List.map Int.ofNat l))]) :: Φ l.length) ?_ ?_ (Y := BackY X.P X.gl (List.map Int.ofNat l) Φ (fun _ _ => False)) (R := fun φ' r' => φ' = (b0, [.sl (ints (List.map Int.ofNat l))]) :: Φ 0 ∧ r'.state = .ready ∧ r'.pending = none) (SL := [(3, ptr b3)]) ?_ ?_ ?_ ?_ ?_
  · refine objsIn_one (by simp [go_sem]) (objsIn_one ?_ (by simp [objsIn]))
    simp only [hlast]
    simp [go_sem, hb']
  · simp [Φ, hb']
  · intro n x h
    simp only [List.mem_singleton, Prod.mk.injEq] at h
    obtain ⟨rfl, rfl⟩ := h
    simp [go_sem]
  · intro lp r h1 h2 h3 h4
    have := backIt_ok (gl := gl) (List.map Int.ofNat l) (by omega) b0 Φ (fun _ => rfl) (by simp [Φ]) (by simp [Φ]; exact hb') (Stop := fun _ _ => False) (fun _ _ h => h.elim) lp r (by rw [h3]; rfl)
    rw [hll] at this
    rw [hP, hgl]
    refine ⟨this.1, fun D w vs a1 a2 a3 a4 a5 a6 => (this.2 D w vs a1 a2 a3 a4 a5 a6).mono ?_⟩
    rintro e w' ⟨v1, D', φ', r', rfl, hR', rest⟩
    refine ⟨v1, D', φ', r', rfl, ?_, rest⟩
    rcases hR' with ⟨rfl, rfl⟩ | ⟨ψ, -, h⟩
    · exact ⟨rfl, h1, h2⟩
    · exact h.elim
  · intro lp r D0 w0 h1 h2 h3 h4 h5 h6 h7 h8 h9 i x hx
    rw [hP, hgl]
    refine YC_round X.n h5 h9 h1 (by rw [h3]; rfl) (by rw [h3, hn]; decide) (by rw [h3]; decide) (by rw [h3]; simp) ?_
    intro X' hP' hgl' hf' hn' hmd' hids' hl' hfit'
    rw [h3, h6, h7]
    obtain ⟨n, rfl, hdrop⟩ : ∃ n : Nat, x = Int.ofNat n ∧ l.drop i = n :: l.drop (i + 1) := by
      obtain ⟨hi, hxx⟩ := List.getElem?_eq_some_iff.1 hx
      have hi' : i < l.length := by simpa using hi
      refine ⟨l[i], ?_, List.drop_eq_getElem_cons hi'⟩
      rw [← hxx]; simp
    rw [hn] at hn'
    clear hP hgl hn
    have hP := hP'
    have hgl := hgl'
    have hn := hn'
    have hlb3 : lp ≠ b3 := by simpa [Φ] using hl'
    have hcm := cellM_cons n (l.drop (i + 1))
    simp only [entryR, Φ, h3, parSt, slotSt, heapSt, List.cons_append, List.nil_append]
    refine t_rg @hlb3 ?_
    refine W_begin (r := r) (l := lp) (by simp [Ctx.rd, hmd']) (by simp [go_sem]) h1 ?_
    simp [go_sem, hlb3, hlb3.symm]
    refine t_a ?_
    refine W_reg [18] fun K hK => ?_
    simp [go_sem, hP, hgl, hn, hlb3, hlb3.symm]
    refine vcK_boxR (cs := [dint (n : Int), cellM (l.drop (i + 1))]) (y := .ag [dint (n : Int), cellM (l.drop (i + 1))] []) (by simp [go_sem, hP, hgl, hn]) (by simp [go_sem]) (by simp [go_sem]) (by rw [hn]; exact Nat.le_of_ble_eq_true rfl) (by rfl) ?_
    simp [go_sem, hP, hgl, hn, hlb3, hlb3.symm]
    refine t_e ?_
    clear hK K
    refine t_a ?_
    refine W_rdfin hmd' (φ := Φ i) ?_ (by simp [Φ]) (by simp [go_sem, hlb3.symm]) none rfl ?_
    · refine objsIn_one ?_ (by simp [objsIn])
      rw [hdrop, hcm]
      simp [go_sem, hlb3, hlb3.symm]
    · simp only [Option.isNone_none, if_true, true_and]
      cases r; simp only [pastL] at h1 h2 ⊢; subst h1 h2; rfl
  · rintro φ' r' ⟨-, h, -⟩
    rw [h]; simp
  · rintro φ' r' ⟨rfl, -, h⟩ -
    rw [h]
    simp [go_sem, Φ, hb', hb'.symm]
    refine t_rg @hb' ?_
    refine t_r ?_
    simp [go_sem, hP, hgl, hn] <;> (try omega)

theorem machine_from_ok : ∀ (a : T) (x : a.V), a.plain → Con1 Tryd.prog gl 43 [(valOf a x).dv] [] (ofM a x).thing []
  | .nat, n, _ => from_nat_ok n
  | .list, l, _ => from_list_ok l
  | .unit, _, _ => from_unit_ok
  | .pair a b, p, hp => from_pair_ok _ _ _ _ (machine_from_ok a p.1 hp.1) (machine_from_ok b p.2 hp.2)
  | .fn _ _, _, hp => hp.elim
end Go.Proofs.YtgfjcbofbbcnmaaDoor.Lift

/-
  Plain law: every typed term's run comes to its end (with no bound on the work), and returns what is denoted.
-/
namespace Go.Proofs.YtgfjcbofbbcnmaaDoor.Lift
set_option linter.unusedSimpArgs false
set_option linter.unusedVariables false
set_option linter.unnecessarySimpa false
open Go

/-- what a value of a machine is a value of, where every call comes to its end -/
def Tl : (a : T) → MV → a.V → Prop
  | .nat, v, n => v = .num n
  | .list, v, l => v = .list l
  | .unit, v, _ => v = .unit
  | .pair a b, v, p => ∃ x y, v = .both x y ∧ Tl a x p.1 ∧ Tl b y p.2
  | .fn a b, v, f => ∃ body e, v = .clo body e ∧ ∀ (x : MV) (y : a.V), Tl a x y → ∃ (r : MV) (c d0 : Nat), (∀ d, d0 ≤ d → evS d body (x :: e) = some (r, c)) ∧ Tl b r (f y)
def TlE : (Γ : List T) → List MV → Env Γ → Prop
  | [], e, _ => e = []
  | a :: Γ, e, ρ => ∃ x r, e = x :: r ∧ Tl a x ρ.1 ∧ TlE Γ r ρ.2
theorem TlE.get {Γ : List T} {i : Nat} {a : T} {p : Env Γ → a.V} (h : At Γ i a p) : ∀ {e : List MV} {ρ : Env Γ}, TlE Γ e ρ → i < e.length ∧ Tl a (e.getD i .unit) (p ρ) := by
  induction h with
  | zero => rintro e ρ ⟨x, r, rfl, h1, h2⟩; exact ⟨by simp, h1⟩
  | succ h ih =>
    rintro e ρ ⟨x, r, rfl, h1, h2⟩
    obtain ⟨k1, k2⟩ := ih h2
    exact ⟨by simpa using k1, by simpa using k2⟩

theorem tl_call {a b : T} {f : MV} {F : (T.fn a b).V} (hf : Tl (.fn a b) f F) {x : MV} {X : a.V} (hx : Tl a x X) : ∃ (v : MV) (c d0 : Nat), Tl b v (F X) ∧ ∀ d, d0 ≤ d → ∀ (l : List MV) (w : MV) (c' : Nat), callC (evS d) v l = some (w, c') → callC (evS d) f (x :: l) = some (w, c + c') := by
  obtain ⟨body, e, rfl, hb⟩ := hf
  obtain ⟨r, c, d0, h1, h2⟩ := hb x X hx
  refine ⟨r, c, d0, h2, fun d hd l w c' h => ?_⟩
  simp only [callC, h1 d hd, h]
theorem call_nil (ev : Evl) (v : MV) : callC ev v [] = some (v, 0) := by cases v <;> rfl
theorem tl_rec {a : T} {f : MV} {F : (T.fn .nat (.fn a a)).V} (hf : Tl (.fn .nat (.fn a a)) f F) : ∀ (n k : Nat) {r : MV} {R : a.V}, Tl a r R → ∃ (w : MV) (c d0 : Nat), (∀ d, d0 ≤ d → recC (evS d) f n k r = some (w, c)) ∧ Tl a w ((List.range' k n).foldl (fun r i => F i r) R)
  | 0, k, r, R, hr => ⟨r, 0, 0, fun d _ => rfl, hr⟩
  | n + 1, k, r, R, hr => by
    obtain ⟨v, c1, d1, hv, h1⟩ := tl_call hf (show Tl .nat (.num k) k from rfl)
    obtain ⟨u, c2, d2, hu, h2⟩ := tl_call hv hr
    obtain ⟨w, c3, d3, h3, hw⟩ := tl_rec hf n (k + 1) hu
    refine ⟨w, c1 + (c2 + 0) + c3, max d1 (max d2 d3), fun d hd => ?_, hw⟩
    have e1 : callC (evS d) f [.num k, r] = some (u, c1 + (c2 + 0)) := h1 d (by omega) [r] u _ (h2 d (by omega) [] u 0 (call_nil _ _))
    simp only [recC, e1, h3 d (by omega)]
theorem tl_fold {a : T} {f : MV} {F : (T.fn .nat (.fn .list (.fn a a))).V} (hf : Tl (.fn .nat (.fn .list (.fn a a))) f F) {b : MV} {B : a.V} (hb : Tl a b B) : ∀ (l : List Nat), ∃ (w : MV) (c d0 : Nat), (∀ d, d0 ≤ d → foldC (evS d) f b l = some (w, c)) ∧ Tl a w (listRec B F l)
  | [] => ⟨b, 0, 0, fun d _ => rfl, hb⟩
  | x :: l => by
    obtain ⟨w, c0, d0, h0, hw⟩ := tl_fold hf hb l
    obtain ⟨v, c1, d1, hv, h1⟩ := tl_call hf (show Tl .nat (.num x) x from rfl)
    obtain ⟨u, c2, d2, hu, h2⟩ := tl_call hv (show Tl .list (.list l) l from rfl)
    obtain ⟨z, c3, d3, hz, h3⟩ := tl_call hu hw
    refine ⟨z, c0 + (c1 + (c2 + (c3 + 0))), max d0 (max d1 (max d2 d3)), fun d hd => ?_, hz⟩
    have e1 : callC (evS d) f [.num x, .list l, w] = some (z, c1 + (c2 + (c3 + 0))) := h1 d (by omega) _ _ _ (h2 d (by omega) _ _ _ (h3 d (by omega) [] z 0 (call_nil _ _)))
    simp only [foldC, h0 d (by omega), e1]

theorem evS_node {d : Nat} {t : Tm} {e : List MV} {l : List MV} {c1 c2 : Nat} {v : MV} (h1 : 3 ≤ t.kind ∧ t.kind ≤ 13) (h3 : t.args.length ≤ 3) (hl : allC (evS d) t.args e = some (l, c1)) (hn : nodeC (evS d) t.kind l = some (v, c2)) : evS (d + 1) t e = some (v, 1 + c1 + c2) := by
  rw [evS, if_neg (show ¬ t.kind = 1 by omega), if_neg (show ¬ t.kind = 2 by omega), if_neg (show ¬ 3 < t.args.length by omega), hl]
  simp only
  unfold nodeS
  rw [if_pos h1, hn]

/-- a run's outcome, from some depth on -/
def Ends (t : Tm) (e : List MV) (P : MV → Prop) : Prop := ∃ (v : MV) (c d0 : Nat), (∀ d, d0 ≤ d → evS d t e = some (v, c)) ∧ P v
theorem ends_node {t : Tm} {e l : List MV} {v : MV} {P : MV → Prop} {c1 c2 d0 : Nat} (h1 : 3 ≤ t.kind ∧ t.kind ≤ 13) (h3 : t.args.length ≤ 3) (hl : ∀ d, d0 ≤ d → allC (evS d) t.args e = some (l, c1) ∧ nodeC (evS d) t.kind l = some (v, c2)) (hP : P v) : Ends t e P := by
  refine ⟨v, 1 + c1 + c2, d0 + 1, fun d hd => ?_, hP⟩
  obtain ⟨d', rfl⟩ : ∃ d', d = d' + 1 := ⟨d - 1, by omega⟩
  exact evS_node h1 h3 (hl d' (by omega)).1 (hl d' (by omega)).2

/-- THE THEOREM OF THE END -/
theorem dn_total {Γ : List T} {t : Tm} {a : T} {F : Env Γ → a.V} (h : Dn Γ t a F) : ∀ {e : List MV} {ρ : Env Γ}, TlE Γ e ρ → Ends t e fun v => Tl a v (F ρ) := by
  induction h with
  | var h =>
    intro e ρ he
    rename_i Γ i a p
    obtain ⟨k1, k2⟩ := TlE.get h he
    refine ⟨_, 1, 1, fun d hd => ?_, k2⟩
    obtain ⟨d', rfl⟩ : ∃ d', d = d' + 1 := ⟨d - 1, by omega⟩
    have hi : (vT (i : Nat)).index = (i : Int) := rfl
    rw [evS, if_pos (show (vT (i : Nat)).kind = 1 from rfl), hi, if_pos ⟨by omega, by simpa using k1⟩]
    rfl
  | lam ha hb ih =>
    intro e ρ he
    rename_i Γ a r b f
    refine ⟨.clo b e, 1, 1, fun d hd => ?_, b, e, rfl, fun x y hxy => ?_⟩
    · obtain ⟨d', rfl⟩ : ∃ d', d = d' + 1 := ⟨d - 1, by omega⟩
      rw [evS, if_neg (by simp [lamT, Tm.kind]), if_pos (show (lamT a b).kind = 2 from rfl), if_neg (by simp [lamT, Tm.args])]
      rfl
    · obtain ⟨v, c, d0, h1, h2⟩ := ih (ρ := (y, ρ)) ⟨x, e, rfl, hxy, he⟩
      exact ⟨v, c, d0, h1, h2⟩
  | app hf hx ihf ihx =>
    intro e ρ he
    obtain ⟨f', c1, d1, h1, k1⟩ := ihf he
    obtain ⟨x', c2, d2, h2, k2⟩ := ihx he
    obtain ⟨w, c3, d3, hw, h3⟩ := tl_call k1 k2
    refine ends_node (l := [f', x']) (v := w) (c1 := c1 + (c2 + 0)) (c2 := c3 + 0) (d0 := max d1 (max d2 d3)) (by simp [nT, Tm.kind]) (by simp [nT, Tm.args]) (fun d hd => ⟨?_, h3 d (by omega) [] w 0 (call_nil _ _)⟩) hw
    simp only [nT, Tm.args, allC, h1 d (by omega), h2 d (by omega)]
  | zero =>
    intro e ρ he
    exact ends_node (l := []) (v := .num 0) (c1 := 0) (c2 := 0) (d0 := 0) (by simp [nT, Tm.kind]) (by simp [nT, Tm.args]) (fun d hd => ⟨rfl, rfl⟩) rfl
  | succ hx ih =>
    intro e ρ he
    rename_i Γ x X
    obtain ⟨x', c1, d1, h1, k1⟩ := ih he
    have k1 : x' = .num (X ρ) := k1
    refine ends_node (l := [x']) (v := .num (Nat.succ (X ρ))) (c1 := c1 + 0) (c2 := 0) (d0 := d1) (by simp [nT, Tm.kind]) (by simp [nT, Tm.args]) (fun d hd => ⟨?_, by rw [k1]; rfl⟩) rfl
    simp only [nT, Tm.args, allC, h1 d (by omega)]
  | rc ha hb hf hn ihb ihf ihn =>
    intro e ρ he
    obtain ⟨b', c1, d1, h1, k1⟩ := ihb he
    obtain ⟨f', c2, d2, h2, k2⟩ := ihf he
    obtain ⟨n', c3, d3, h3, k3⟩ := ihn he
    obtain rfl : n' = .num _ := k3
    obtain ⟨w, c4, d4, h4, hw⟩ := tl_rec k2 _ 0 k1
    refine ends_node (l := [b', f', .num _]) (v := w) (c1 := c1 + (c2 + (c3 + 0))) (c2 := c4) (d0 := max d1 (max d2 (max d3 d4))) (by simp [Tm.kind]) (by simp [Tm.args]) (fun d hd => ⟨?_, h4 d (by omega)⟩) (Eq.mpr (congrArg (Tl _ w) (natRec_range _ _ _)) hw)
    simp only [Tm.args, allC, h1 d (by omega), h2 d (by omega), h3 d (by omega)]
  | nil =>
    intro e ρ he
    exact ends_node (l := []) (v := .list []) (c1 := 0) (c2 := 0) (d0 := 0) (by simp [nT, Tm.kind]) (by simp [nT, Tm.args]) (fun d hd => ⟨rfl, rfl⟩) rfl
  | cons hx hl ihx ihl =>
    intro e ρ he
    obtain ⟨x', c1, d1, h1, k1⟩ := ihx he
    obtain ⟨l', c2, d2, h2, k2⟩ := ihl he
    obtain rfl : x' = .num _ := k1
    obtain rfl : l' = .list _ := k2
    refine ends_node (l := [.num _, .list _]) (v := .list (_ :: _)) (c1 := c1 + (c2 + 0)) (c2 := 0) (d0 := max d1 d2) (by simp [nT, Tm.kind]) (by simp [nT, Tm.args]) (fun d hd => ⟨?_, rfl⟩) rfl
    simp only [nT, Tm.args, allC, h1 d (by omega), h2 d (by omega)]
  | fold ha hb hf hn ihb ihf ihn =>
    intro e ρ he
    obtain ⟨b', c1, d1, h1, k1⟩ := ihb he
    obtain ⟨f', c2, d2, h2, k2⟩ := ihf he
    obtain ⟨n', c3, d3, h3, k3⟩ := ihn he
    obtain rfl : n' = .list _ := k3
    obtain ⟨w, c4, d4, h4, hw⟩ := tl_fold k2 k1 _
    refine ends_node (l := [b', f', .list _]) (v := w) (c1 := c1 + (c2 + (c3 + 0))) (c2 := c4) (d0 := max d1 (max d2 (max d3 d4))) (by simp [Tm.kind]) (by simp [Tm.args]) (fun d hd => ⟨?_, h4 d (by omega)⟩) hw
    simp only [Tm.args, allC, h1 d (by omega), h2 d (by omega), h3 d (by omega)]
  | pair hx hy ihx ihy =>
    intro e ρ he
    obtain ⟨x', c1, d1, h1, k1⟩ := ihx he
    obtain ⟨y', c2, d2, h2, k2⟩ := ihy he
    refine ends_node (l := [x', y']) (v := .both x' y') (c1 := c1 + (c2 + 0)) (c2 := 0) (d0 := max d1 d2) (by simp [nT, Tm.kind]) (by simp [nT, Tm.args]) (fun d hd => ⟨?_, rfl⟩) ⟨x', y', rfl, k1, k2⟩
    simp only [nT, Tm.args, allC, h1 d (by omega), h2 d (by omega)]
  | fst hx ih =>
    intro e ρ he
    obtain ⟨x', c1, d1, h1, k1⟩ := ih he
    obtain ⟨p, q, rfl, hp, hq⟩ := k1
    refine ends_node (l := [.both p q]) (v := p) (c1 := c1 + 0) (c2 := 0) (d0 := d1) (by simp [nT, Tm.kind]) (by simp [nT, Tm.args]) (fun d hd => ⟨?_, rfl⟩) hp
    simp only [nT, Tm.args, allC, h1 d (by omega)]
  | snd hx ih =>
    intro e ρ he
    obtain ⟨x', c1, d1, h1, k1⟩ := ih he
    obtain ⟨p, q, rfl, hp, hq⟩ := k1
    refine ends_node (l := [.both p q]) (v := q) (c1 := c1 + 0) (c2 := 0) (d0 := d1) (by simp [nT, Tm.kind]) (by simp [nT, Tm.args]) (fun d hd => ⟨?_, rfl⟩) hq
    simp only [nT, Tm.args, allC, h1 d (by omega)]
  | unit =>
    intro e ρ he
    exact ends_node (l := []) (v := .unit) (c1 := 0) (c2 := 0) (d0 := 0) (by simp [nT, Tm.kind]) (by simp [nT, Tm.args]) (fun d hd => ⟨rfl, rfl⟩) rfl
end Go.Proofs.YtgfjcbofbbcnmaaDoor.Lift

/-
  Plain law: a closed term called with plain values, as a run with its work; it always comes to its end.
-/
namespace Go.Proofs.YtgfjcbofbbcnmaaDoor.Lift
set_option linter.unusedSimpArgs false
set_option linter.unusedVariables false
set_option linter.unnecessarySimpa false
open Go

theorem tl_plain : ∀ (a : T) {v : MV} {x : a.V}, a.plain → Tl a v x → v = ofM a x
  | .nat, _, _, _, h => h
  | .list, _, _, _, h => h
  | .unit, _, _, _, h => h
  | .pair a b, v, p, hp, h => by
    obtain ⟨x, y, rfl, h1, h2⟩ := h
    rw [tl_plain a hp.1 h1, tl_plain b hp.2 h2]
    rfl
  | .fn _ _, _, _, hp, _ => hp.elim
theorem tl_ofM : ∀ (a : T) (x : a.V), a.plain → Tl a (ofM a x) x
  | .nat, _, _ => rfl
  | .list, _, _ => rfl
  | .unit, _, _ => rfl
  | .pair a b, p, hp => ⟨_, _, rfl, tl_ofM a p.1 hp.1, tl_ofM b p.2 hp.2⟩
  | .fn _ _, _, hp => hp.elim

theorem tl_calls {r : T} : ∀ (l : List T) (X : Env l) {g : MV} {F : (FnT l r).V}, Plains l → Tl (FnT l r) g F → ∃ (w : MV) (c d0 : Nat), (∀ d, d0 ≤ d → callC (evS d) g (mvsOf l X) = some (w, c)) ∧ Tl r w (appl l F X)
  | [], _, g, _, _, h => ⟨g, 0, 0, fun d _ => call_nil _ _, h⟩
  | a :: l, X, g, F, hp, h => by
    obtain ⟨v, c1, d1, hv, h1⟩ := tl_call h (tl_ofM a X.1 hp.1)
    obtain ⟨w, c2, d2, h2, hw⟩ := tl_calls l X.2 hp.2.2 hv
    exact ⟨w, c1 + c2, max d1 d2, fun d hd => h1 d (by omega) _ _ _ (h2 d (by omega)), hw⟩

/-- a closed term called with some values -/
def callS (d : Nat) (t : Tm) (xs : List MV) : Option (MV × Nat) :=
  match evS d t [] with
  | none => none
  | some (g, c1) => match callC (evS d) g xs with
    | none => none
    | some (w, c2) => some (w, c1 + c2)
theorem callS_parts {d : Nat} {t : Tm} {xs : List MV} {w : MV} {c : Nat} (h : callS d t xs = some (w, c)) : ∃ g c1 c2, evS d t [] = some (g, c1) ∧ callC (evS d) g xs = some (w, c2) ∧ c = c1 + c2 := by
  unfold callS at h
  split at h
  · cases h
  · rename_i g c1 h1
    split at h
    · cases h
    · rename_i w' c2 h2
      cases h
      exact ⟨g, c1, c2, h1, h2, rfl⟩

theorem calls_total {t : Tm} {l : List T} {r : T} {F : Env [] → (FnT l r).V} (h : Dn [] t (FnT l r) F) (X : Env l) (hp : Plains l) (hr : r.plain) :
    ∃ c d0, ∀ d, d0 ≤ d → callS d t (mvsOf l X) = some (ofM r (appl l (F ()) X), c) := by
  obtain ⟨g, c1, d1, h1, hg⟩ := dn_total h (e := []) (ρ := ()) rfl
  obtain ⟨w, c2, d2, h2, hw⟩ := tl_calls l X hp hg
  have hw' := tl_plain r hr hw
  subst hw'
  refine ⟨c1 + c2, max d1 d2, fun d hd => ?_⟩
  unfold callS
  rw [h1 d (by omega)]
  simp only
  rw [h2 d (by omega)]

/-- what a call of the machine returns -/
def outC (v : Val) (c : Nat) (work : Int) : DV := if (c : Int) ≤ work then .tup [v.dv, dint (c : Int), dint 0] else .tup [zeroV.dv, dint 0, dint 5]
theorem outC_yes {v : Val} {c : Nat} {work : Int} (h : (c : Int) ≤ work) : outC v c work = .tup [v.dv, dint (c : Int), dint 0] := if_pos h
theorem outC_no {v : Val} {c : Nat} {work : Int} (h : ¬ (c : Int) ≤ work) : outC v c work = .tup [zeroV.dv, dint 0, dint 5] := if_neg h
end Go.Proofs.YtgfjcbofbbcnmaaDoor.Lift

/-
  Package machine: Call and Eval, on terms of a type and plain values.
-/
namespace Go.Proofs.YtgfjcbofbbcnmaaDoor.Lift
set_option linter.unusedSimpArgs false
set_option linter.unusedVariables false
set_option linter.unnecessarySimpa false
open Go
variable {gl : Globs}

def things (l : List MV) : List (List DV) := l.map fun x => [x.thing]
theorem things_nil : things [] = [] := rfl
theorem things_len (l : List MV) : (things l).length = l.length := by simp [things]
theorem things_wid (l : List MV) : ∀ e ∈ things l, e.length = 1 := by
  intro e he
  simp only [things, List.mem_map] at he
  obtain ⟨x, -, rfl⟩ := he
  rfl
theorem things_snoc {l : List MV} {i : Nat} {v : MV} (h : l[i]? = some v) : things (l.take (i + 1)) = things (l.take i) ++ [[v.thing]] := by
  rw [List.take_add_one, h]
  simp [things]

set_option maxHeartbeats 4000000 in
set_option maxRecDepth 100000 in
theorem machine_call_ok (har : globOf gl 0 = some arEls) (t : Tm) (l : List T) (r : T) (Z : Env l) (y : r.V) (c d : Nat) (hcs : callS d t (mvsOf l Z) = some (ofM r y, c)) (ht : t.checkN = 0) (hi : t.inferN [] = ((FnT l r).ty, 0)) (hl : Plains l) (hll : l.length ≤ 1000000) (hr : r.plain) (hro : r.ok) (wk : Nat) (hwk : wk ≤ 65536) (M : Nat) (hM : M ≤ 1073000000) (hX : MV.nles M (mvsOf l Z)) :
    Con1 Tryd.prog gl 15 [t.dv, .sl ((valsOf l Z).map Val.cells), dint (wk : Int)] [] (outC (valOf r y) c wk) [] := by
  obtain ⟨g, c1, c2, e1, e2, rfl⟩ := callS_parts hcs
  have hte := terms_typeof_ok (gl := gl) har t _ ht hi
  have hvl := valsOf_len l Z
  have hml := mvsOf_len l Z
  have hft := Tm.fold t
  have hfz : (Ty.mk 0 []).cells = [dint 0, .sl []] := rfl
  have hfr := Ty.fold (FnT l r).ty
  refine t_in Tryd.func15 ?_
  intro X hP hgl hf hfn hn hR hids hfit
  refine t_g0 ?_
  refine t_c1 @hft hte ?_
  refine t_g0 ?_
  refine t_a ?_
  refine t_sub [(1011, 0)] (j2 @hvl @things_nil) (W_upto (l.length) (fun i => True) (fun i => [(.slot 2, .one (.v (dint (wk : Int)))), (.slot 3, .one (.loc 3 0)), (.loc 3, .row ([.v (dint t.kind), .v (dint t.index), .v (dint t.type.kind), .v (.sl (t.type.args.map Ty.cells)), .v (.sl (t.args.map Tm.cells))])), (.slot 6, .one (.loc 6 0)), (.loc 6, .row ([.v (dint 0), .v (dint 0), .own 0 [], .own 0 []])), (.slot 9, .one (.loc 9 0)), (.loc 9, .row ([.v (dint (FnT (l.drop i) r).ty.kind), .v (.sl ((FnT (l.drop i) r).ty.args.map Ty.cells))])), (.slot 11, .one (.own 1011 (things ((mvsOf l Z).take i)))), (.tok 1011, .tk 1 i), (.slot 30, .one (.v (.sl ((valsOf l Z).map Val.cells)))), (.slot 31, .one (.v (dint l.length))), (.slot 32, .one (.v (dint i)))]) (trivial) ?_ ?_)
  · intro i hi _ hnext
    obtain ⟨a, x, g1, g2, g3, g4, g5⟩ := args_at (r := r) l Z i hi hl
    have hvg : (List.map Val.cells (valsOf l Z))[i]? = some (valOf a x).cells := by rw [List.getElem?_map, g1]; rfl
    have hfv := Val.fold (valOf a x)
    have hcv := Val.cells_eq (valOf a x)
    have hvc := (valOf_nodes a x g4).2
    have hsz : a.size ≤ 64 := g5
    have w1 := typeE_ok (gl := gl) (valOf a x) (by omega)
    rw [valOf_typeE x g4 g5] at w1
    have w2 := sameType_ok (gl := gl) a.ty a.ty
    rw [show a.ty.same a.ty = true from (Ty.same_iff _ _).2 rfl] at w2
    have w3 := machine_from_ok (gl := gl) a x g4
    have hti : (FnT (l.drop i) r).ty = Ty.mk 4 [a.ty, (FnT (l.drop (i + 1)) r).ty] := by rw [g3, T.ty_fn]
    have hfa := Ty.fold a.ty
    have hsn := things_snoc g2
    have hln : (things ((mvsOf l Z).take i)).length = i := by rw [things_len, List.length_take]; omega
    have hwid := things_wid ((mvsOf l Z).take i)
    have hil : i ≤ 2147483647 := by omega
    have hil2 : i + 1 ≤ 2147483647 := by omega
    generalize (FnT (l.drop (i + 1)) r).ty = ty' at *
    generalize (FnT (l.drop i) r).ty = ty0 at *
    generalize a.ty = ta at *
    generalize things ((mvsOf l Z).take i) = L at *
    generalize things ((mvsOf l Z).take (i + 1)) = L' at *
    subst hti
    subst hsn
    have hct := Ty.cells_eq ty'
    refine t_rg0 ?_
    refine t_yes ?_
    refine t_g (j2 @hvg @hcv) ?_
    refine t_c1 @hfv w1 ?_
    refine t_g0 ?_
    refine t_c1 @hfa w2 ?_
    refine t_g0 ?_
    refine t_c1 (j2 @hfv (j2 @hwid (j2 @hln (j2 @hil @hil2)))) w3 ?_
    refine t_gt (wr [(1011, 62)]) @hct @hln (hnext trivial)
  · intro _
    have hdl : FnT (l.drop l.length) r = r := by rw [List.drop_length]; rfl
    have htk : (mvsOf l Z).take l.length = mvsOf l Z := by rw [← hml]; exact List.take_length
    rw [hdl, htk]
    have wd := data_t_ok (gl := gl) r hr hro
    have hfr := Ty.fold r.ty
    have hwn : ¬ ((wk : Int) < 0) := by omega
    have hwm : ¬ (65536 < (wk : Int)) := by omega
    have HW := walkM_all (gl := gl) (most := wk) (by omega) (fun ev h1 h2 => foldM_ok (by omega) h1 h2) d
    have HN := nle_evS wk d
    have ng := HN M e1 (by simp only [MV.nles])
    refine t_rg0 ?_
    refine t_no ?_
    refine t_g0 ?_
    refine t_c1 @hfr wd ?_
    refine t_g (j2 @hwn @hwm) ?_
    refine W_expose 85 (by simp [go_sem]; rfl) ?_
    intro b hb
    simp [go_sem] at hb ⊢
    have we := HW b M e1 (Nat.zero_le _) (by omega) (by simp only [MV.nles])
    have henv : MV.envM [] = nilP := by rw [MV.envM]
    rw [henv, Nat.zero_add, useM_yes (Nat.zero_le _)] at we
    by_cases hf1 : c1 ≤ wk
    · rw [outM_yes hf1, useM_yes hf1] at we
      have wc := callM_ok (gl := gl) (most := wk) (by omega) HW HN b (M + c1) e2 hf1 (by omega) ng (MV.nles_mono (by omega) _ hX)
      rw [useM_yes hf1] at wc
      have hmt : (mvsOf l Z).map (fun x => [x.thing]) = things (mvsOf l Z) := rfl
      rw [hmt] at wc
      by_cases hf2 : c1 + c2 ≤ wk
      · rw [outM_yes hf2, useM_yes hf2] at wc
        have hnl := nle_call HN e2 ng (MV.nles_mono (by omega) _ hX)
        have wp := machine_plain_ok (gl := gl) r y hr (MV.nle_mono (by omega) _ hnl)
        have hfy := Val.fold (valOf r y)
        rw [outC_yes (by omega)] at hR
        refine t_c1 @hft we ?_
        refine t_g0 ?_
        refine t_c1 trivial wc ?_
        refine t_g0 ?_
        refine t_c1 trivial wp ?_
        refine t_r ?_
        simp [go_sem, hP, hgl, hn] <;> (try omega)
        all_goals exact t_f
      · rw [outM_no hf2, useM_no hf2] at wc
        rw [outC_no (by omega)] at hR
        refine t_c1 @hft we ?_
        refine t_g0 ?_
        refine t_c1 trivial wc ?_
        refine t_g0 ?_
        refine t_r ?_
        simp [go_sem, hP, hgl, hn, zeroV] <;> (try omega)
        all_goals exact t_f
    · rw [outM_no hf1, useM_no hf1] at we
      rw [outC_no (by omega)] at hR
      refine t_c1 @hft we ?_
      refine t_g0 ?_
      refine t_r ?_
      simp [go_sem, hP, hgl, hn, zeroV] <;> (try omega)
      all_goals exact t_f

theorem machine_eval_ok (har : globOf gl 0 = some arEls) (t : Tm) (r : T) (y : r.V) (c d : Nat) (hcs : callS d t [] = some (ofM r y, c)) (ht : t.checkN = 0) (hi : t.inferN [] = (r.ty, 0)) (hr : r.plain) (hro : r.ok) (wk : Nat) (hwk : wk ≤ 65536) :
    Con1 Tryd.prog gl 16 [t.dv, dint (wk : Int)] [] (outC (valOf r y) c wk) [] := by
  have w := machine_call_ok (gl := gl) har t [] r () y c d hcs ht hi trivial (by simp) hr hro wk hwk 0 (by omega) (by simp only [mvsOf, MV.nles])
  have hft := Tm.fold t
  simp only [valsOf, List.map_nil] at w
  refine t_in Tryd.func16 ?_
  intro X hP hgl hf hfn hn hR hids hfit
  unfold outC at *
  split at w
  · rename_i h
    rw [if_pos h] at hR
    refine t_g0 ?_
    refine t_c1 @hft w ?_
    refine t_r ?_
    simp [go_sem, hP, hgl, hn] <;> (try omega)
    all_goals exact t_f
  · rename_i h
    rw [if_neg h] at hR
    refine t_g0 ?_
    refine t_c1 @hft w ?_
    refine t_r ?_
    simp [go_sem, hP, hgl, hn, zeroV] <;> (try omega)
    all_goals exact t_f
end Go.Proofs.YtgfjcbofbbcnmaaDoor.Lift

/-
  Plain law: what is drawn has its type, by the rules, and at most 4096 nodes.
-/
namespace Go.Proofs.YtgfjcbofbbcnmaaDoor.Lift
set_option linter.unusedSimpArgs false
set_option linter.unusedVariables false
set_option linter.unnecessarySimpa false
open Go

theorem endD_count' {l : List Int} {F : Ty → List Ty → Nat → Tm × Nat} {B : Nat} (hB : 16 ≤ B) (hD : Draws l F (fun _ _ x => x.shape = true)) (hF : Small l F B) : Small l (endD l F) (3 * B + 4) := fun t g p ht hg hp => by
  have := endD_count hD hF t g p ht hg hp
  omega
theorem stepD_count' {l : List Int} {F : Ty → List Ty → Nat → Tm × Nat} {B : Nat} (hB : 16 ≤ B) (hD : Draws l F (fun _ _ x => x.shape = true)) (hF : Small l F B) (k : Int) : Small l (fun t g p => stepD l F t g k p) (3 * B + 4) := by
  intro t g p ht hg hp
  have hg1 : ∀ a : List Ty, (∀ x ∈ a, x.small) → ∀ x ∈ g ++ a, x.small := by
    intro a ha x hx
    rcases List.mem_append.1 hx with hx | hx
    · exact hg x hx
    · exact ha x hx
  have hE := endD_count' hB hD hF t g p ht hg hp
  obtain ⟨s1, s2⟩ := typeD_small l (n := 0) hp (by decide)
  show (stepD l F t g k p).1.count ≤ _
  unfold stepD
  split
  · have gs := hg1 [(typeD l 0 p).1] (by simpa using s2)
    have a := hF t _ _ ht gs s1
    have b := hF _ g _ s2 hg (hD t _ _ ht gs s1).1
    show 1 + ((1 + (_ + 0)) + (_ + 0)) ≤ _; omega
  split
  · have a := hF t g _ ht hg s1
    have b := hF _ g _ s2 hg (hD t g _ ht hg s1).1
    show 1 + ((1 + (_ + (_ + 0))) + 0) ≤ _; omega
  split
  · have gs := hg1 [Ty.mk 1 [], t] (by intro x hx; simp at hx; rcases hx with rfl | rfl; exact small_nat; exact ht)
    have d := (hD t _ _ ht gs hp).1
    have a := hF t _ _ ht gs hp
    have b := hF t g _ ht hg d
    have c := numD_count l (F t g (F t (g ++ [Ty.mk 1 [], t]) p).2).2
    show 1 + (_ + ((1 + ((1 + (_ + 0)) + 0)) + (_ + 0))) ≤ _; omega
  split
  · have gs := hg1 [Ty.mk 1 [], Ty.mk 2 [], t] (by intro x hx; simp at hx; rcases hx with rfl | rfl | rfl; exact small_nat; exact small_list; exact ht)
    have d := (hD t _ _ ht gs hp).1
    have a := hF t _ _ ht gs hp
    have b := hF t g _ ht hg d
    have c := hF (Ty.mk 2 []) g _ small_list hg (hD t g _ ht hg d).1
    show 1 + (_ + ((1 + ((1 + ((1 + (_ + 0)) + 0)) + 0)) + (_ + 0))) ≤ _; omega
  split
  · have a := hF _ g _ s2 hg s1
    have b := hF t g _ ht hg (hD _ g _ s2 hg s1).1
    show 1 + ((1 + (_ + (_ + 0))) + 0) ≤ _; omega
  split
  · split
    · rename_i i hi
      obtain ⟨f1, f2, f3⟩ := funN_some hi
      obtain ⟨c0, c1, -⟩ := (hg _ (varTy_mem f1).1).arg (.inr f2)
      have a := hF _ g _ c0 hg hp
      show 1 + ((1 + 0) + (_ + 0)) ≤ _; omega
    · omega
  · omega
def drawC : Nat → Nat
  | 0 => 45
  | n + 1 => 3 * drawC n + 4
theorem drawC_pos : ∀ n, 16 ≤ drawC n
  | 0 => by decide
  | n + 1 => by have := drawC_pos n; simp only [drawC]; omega
theorem termD_count' (l : List Int) : ∀ n, Small l (termD l n) (drawC n)
  | 0 => by intro t g p ht hg hp; have := leafD_count l t ht g p; have := ht.2; show _ ≤ 45; simp only [termD]; omega
  | n + 1 => by
    intro t g p ht hg hp
    have hq := pickD_le (t := t) (g := g) hp
    have ih := stepD_count' (drawC_pos n) (termD_facts closed_shape n) (termD_count' l n)
    unfold termD
    split
    · rename_i x q hx
      have := pickD_count hx
      simp only [drawC]; omega
    · rename_i q hx
      rw [hx] at hq
      exact ih _ t g _ ht hg (nextD_le hq)

/-- no index leads out of so many variables -/
def Tm.closedN : Tm → Nat → Bool
  | .mk k i _ a, n => if k = 1 then decide (0 ≤ i) && decide (i.toNat < n) else closeds a (if k = 2 then n + 1 else n)
where
  closeds : List Tm → Nat → Bool
    | [], _ => true
    | a :: r, n => a.closedN n && closeds r n
theorem Tm.closedN_eq (t : Tm) (n : Nat) : t.closedN n = if t.kind = 1 then decide (0 ≤ t.index) && decide (t.index.toNat < n) else closedN.closeds t.args (if t.kind = 2 then n + 1 else n) := by cases t; rw [closedN]; rfl
theorem Tm.closeds_iff (l : List Tm) (n : Nat) : closedN.closeds l n = true ↔ ∀ a ∈ l, a.closedN n = true := by
  induction l with
  | nil => simp [closedN.closeds]
  | cons a r ih => simp [closedN.closeds, ih]
theorem infers_congr {l : List Tm} {g h : List Ty} (e : ∀ a ∈ l, a.inferN g = a.inferN h) : Tm.inferN.infers l g = Tm.inferN.infers l h := by
  induction l with
  | nil => rfl
  | cons a r ih => simp only [Tm.inferN.infers, e a (by simp), ih fun x hx => e x (by simp [hx])]
theorem infer_weak (t : Tm) : ∀ (l g : List Ty), t.closedN l.length = true → t.inferN (g ++ l) = t.inferN l := by
  induction t using Tm.ind with
  | h t ih =>
  intro l g hc
  rw [Tm.closedN_eq] at hc
  rw [Tm.inferN_eq t (g ++ l), Tm.inferN_eq t l]
  by_cases h1 : t.kind = 1
  · rw [if_pos h1] at hc ⊢
    rw [if_pos h1]
    simp only [Bool.and_eq_true, decide_eq_true_eq] at hc
    have h2 : ¬ ((g ++ l).length : Int) ≤ t.index := by simp; omega
    have h3 : ¬ (l.length : Int) ≤ t.index := by omega
    rw [if_neg h2, if_neg h3]
    have e : (g ++ l).length - 1 - t.index.toNat = g.length + (l.length - 1 - t.index.toNat) := by simp; omega
    rw [e, List.getD_eq_getElem?_getD, List.getElem?_append_right (by omega), Nat.add_sub_cancel_left, List.getD_eq_getElem?_getD]
  · rw [if_neg h1] at hc ⊢
    rw [if_neg h1]
    rw [Tm.closeds_iff] at hc
    have e : Tm.inferN.infers t.args (if t.kind = 2 then g ++ l ++ [t.type] else g ++ l) = Tm.inferN.infers t.args (if t.kind = 2 then l ++ [t.type] else l) := by
      by_cases h2 : t.kind = 2
      · rw [if_pos h2, if_pos h2]
        rw [if_pos h2] at hc
        refine infers_congr fun a ha => ?_
        rw [List.append_assoc]
        exact ih a ha (l ++ [t.type]) g (by simpa using hc a ha)
      · rw [if_neg h2, if_neg h2]
        rw [if_neg h2] at hc
        exact infers_congr fun a ha => ih a ha l g (hc a ha)
    rw [e]
theorem infer_closed {t : Tm} (h : t.closedN 0 = true) (g : List Ty) : t.inferN g = t.inferN [] := by
  have := infer_weak t [] g (by simpa using h)
  simpa using this

theorem infer_node {k : Int} {y : Ty} {l : List Tm} {g : List Ty} {ts : List Ty} (hk : ¬ k = 1) (h : Tm.inferN.infers l (if k = 2 then g ++ [y] else g) = (ts, 0)) : (Tm.mk k 0 y l).inferN g = ruleN k y ts := by
  rw [Tm.inferN_eq]
  show (if k = 1 then _ else if (Tm.inferN.infers l (if k = 2 then g ++ [y] else g)).2 = 0 then ruleN k y (Tm.inferN.infers l (if k = 2 then g ++ [y] else g)).1 else _) = _
  rw [if_neg hk, h, if_pos rfl]
theorem infers1 {a : Tm} {g : List Ty} {s : Ty} (h : a.inferN g = (s, 0)) : Tm.inferN.infers [a] g = ([s], 0) := by simp [Tm.inferN.infers, h]
theorem infers2 {a b : Tm} {g : List Ty} {s t : Ty} (h : a.inferN g = (s, 0)) (h' : b.inferN g = (t, 0)) : Tm.inferN.infers [a, b] g = ([s, t], 0) := by simp [Tm.inferN.infers, h, h']
theorem infers3 {a b c : Tm} {g : List Ty} {s t u : Ty} (h : a.inferN g = (s, 0)) (h' : b.inferN g = (t, 0)) (h'' : c.inferN g = (u, 0)) : Tm.inferN.infers [a, b, c] g = ([s, t, u], 0) := by simp [Tm.inferN.infers, h, h', h'']
theorem okN_of {y : Ty} (h : y.ok) : okN y = (y, 0) := by unfold okN; rw [if_pos ((Ty.checkN_iff y).2 h)]
theorem same_self (a : Ty) : a.same a = true := (Ty.same_iff a a).2 rfl
theorem two_ok' {k : Int} {s t : Ty} (hk : k = 3 ∨ k = 4) (hs : s.shape = true) (ht : t.shape = true) (hc : 1 + s.count + t.count ≤ 64) : (Ty.mk k [s, t]).ok := ⟨ty_two hk hs ht, by rw [show (Ty.mk k [s, t]).count = 1 + (s.count + (t.count + 0)) from rfl]; omega⟩

theorem infer_app {g : List Ty} {s t : Ty} {f x : Tm} (hf : f.inferN g = (Ty.mk 4 [s, t], 0)) (hx : x.inferN g = (s, 0)) : (nT 3 [f, x]).inferN g = (t, 0) := by
  unfold nT
  rw [infer_node (by decide) (infers2 hf hx)]
  unfold ruleN
  rw [if_neg (by decide), if_pos rfl, if_pos ⟨rfl, same_self s⟩]
  rfl
theorem infer_lam {g : List Ty} {s t : Ty} {x : Tm} (hx : x.inferN (g ++ [s]) = (t, 0)) (ho : (Ty.mk 4 [s, t]).ok) : (Tm.mk 2 0 s [x]).inferN g = (Ty.mk 4 [s, t], 0) := by
  rw [infer_node (by decide) (by rw [if_pos rfl]; exact infers1 hx)]
  unfold ruleN
  rw [if_pos rfl]
  exact okN_of ho
theorem infer_pair {g : List Ty} {s t : Ty} {x y : Tm} (hx : x.inferN g = (s, 0)) (hy : y.inferN g = (t, 0)) (ho : (Ty.mk 3 [s, t]).ok) : (nT 10 [x, y]).inferN g = (Ty.mk 3 [s, t], 0) := by
  unfold nT
  rw [infer_node (by decide) (infers2 hx hy)]
  exact okN_of ho
theorem infer_fst {g : List Ty} {s t : Ty} {x : Tm} (hx : x.inferN g = (Ty.mk 3 [s, t], 0)) : (nT 11 [x]).inferN g = (s, 0) := by
  unfold nT
  rw [infer_node (by decide) (infers1 hx)]
  rfl
theorem infer_snd {g : List Ty} {s t : Ty} {x : Tm} (hx : x.inferN g = (Ty.mk 3 [s, t], 0)) : (nT 12 [x]).inferN g = (t, 0) := by
  unfold nT
  rw [infer_node (by decide) (infers1 hx)]
  rfl
theorem infer_rc {g : List Ty} {t : Ty} {x f n : Tm} (hx : x.inferN g = (t, 0)) (hf : f.inferN g = (Ty.mk 4 [Ty.mk 1 [], Ty.mk 4 [t, t]], 0)) (hn : n.inferN g = (Ty.mk 1 [], 0)) : (Tm.mk 6 0 t [x, f, n]).inferN g = (t, 0) := by
  rw [infer_node (by decide) (infers3 hx hf hn)]
  unfold ruleN
  rw [if_neg (by decide), if_neg (by decide), if_neg (by decide), if_neg (by decide), if_pos rfl, if_pos ⟨same_self t, same_self _, rfl⟩]
theorem infer_fold {g : List Ty} {t : Ty} {x f n : Tm} (hx : x.inferN g = (t, 0)) (hf : f.inferN g = (Ty.mk 4 [Ty.mk 1 [], Ty.mk 4 [Ty.mk 2 [], Ty.mk 4 [t, t]]], 0)) (hn : n.inferN g = (Ty.mk 2 [], 0)) : (Tm.mk 9 0 t [x, f, n]).inferN g = (t, 0) := by
  rw [infer_node (by decide) (infers3 hx hf hn)]
  unfold ruleN
  rw [if_neg (by decide), if_neg (by decide), if_neg (by decide), if_neg (by decide), if_neg (by decide), if_neg (by decide), if_neg (by decide), if_pos rfl, if_pos ⟨same_self t, same_self _, rfl⟩]
theorem infer_succ {g : List Ty} {x : Tm} (hx : x.inferN g = (Ty.mk 1 [], 0)) : (nT 5 [x]).inferN g = (Ty.mk 1 [], 0) := by
  unfold nT
  rw [infer_node (by decide) (infers1 hx)]
  rfl
theorem infer_cons {g : List Ty} {x y : Tm} (hx : x.inferN g = (Ty.mk 1 [], 0)) (hy : y.inferN g = (Ty.mk 2 [], 0)) : (nT 8 [x, y]).inferN g = (Ty.mk 2 [], 0) := by
  unfold nT
  rw [infer_node (by decide) (infers2 hx hy)]
  rfl
theorem infer_zero (g : List Ty) : (nT 4 []).inferN g = (Ty.mk 1 [], 0) := by unfold nT; rw [infer_node (by decide) rfl]; rfl
theorem infer_nil (g : List Ty) : (nT 7 []).inferN g = (Ty.mk 2 [], 0) := by unfold nT; rw [infer_node (by decide) rfl]; rfl
theorem infer_unit (g : List Ty) : (nT 13 []).inferN g = (Ty.mk 5 [], 0) := by unfold nT; rw [infer_node (by decide) rfl]; rfl
theorem infer_num (g : List Ty) : ∀ n : Nat, (numTm n).inferN g = (Ty.mk 1 [], 0)
  | 0 => infer_zero g
  | n + 1 => infer_succ (infer_num g n)
theorem infer_var {g : List Ty} {i : Nat} (hi : i < g.length) : (vT (i : Nat)).inferN g = (varTy g i, 0) := by
  rw [Tm.inferN_eq]
  show (if (1 : Int) = 1 then if (g.length : Int) ≤ (i : Int) then _ else (g.getD (g.length - 1 - (i : Int).toNat) zeroTy, 0) else _) = _
  rw [if_pos rfl, if_neg (by omega)]
  rfl
theorem infer_plusT (g : List Ty) : plusT.inferN g = (Ty.mk 4 [Ty.mk 1 [], Ty.mk 4 [Ty.mk 1 [], Ty.mk 1 []]], 0) := by
  rw [infer_closed (by decide) g]; rfl
theorem infer_subT (g : List Ty) : subT.inferN g = (Ty.mk 4 [Ty.mk 1 [], Ty.mk 4 [Ty.mk 1 [], Ty.mk 1 []]], 0) := by
  rw [infer_closed (by decide) g]; rfl

theorem draw_infer : DrawOK (fun t g x => x.inferN g = (t, 0)) where
  var g i hi := infer_var hi
  num g n _ := infer_num g n
  app g s t f x hs ht hf hx := infer_app hf hx
  lam g s t x hs ht hx := infer_lam hx (two_ok' (.inr rfl) hs.1 ht.1 (by have := hs.2; have := ht.2; omega))
  lam2 g s t r x hs ht hr hx := by
    have c1 := hs.2; have c2 := ht.2; have c3 := hr.2
    have h1 := infer_lam (g := g ++ [s]) (s := t) (t := r) (x := x) (by rw [List.append_assoc]; exact hx) (two_ok' (.inr rfl) ht.1 hr.1 (by omega))
    exact infer_lam h1 (two_ok' (.inr rfl) hs.1 (ty_two (.inr rfl) ht.1 hr.1) (by rw [show (Ty.mk 4 [t, r]).count = 1 + (t.count + (r.count + 0)) from rfl]; omega))
  lam3 g s t u r x hs ht hu hr hx := by
    have c1 := hs.2; have c2 := ht.2; have c3 := hr.2; have c4 := hu.2
    have h1 := infer_lam (g := g ++ [s] ++ [t]) (s := u) (t := r) (x := x) (by simp only [List.append_assoc]; exact hx) (two_ok' (.inr rfl) hu.1 hr.1 (by omega))
    have e1 : (Ty.mk 4 [u, r]).count = 1 + (u.count + (r.count + 0)) := rfl
    have h2 := infer_lam h1 (two_ok' (.inr rfl) ht.1 (ty_two (.inr rfl) hu.1 hr.1) (by rw [e1]; omega))
    have e2 : (Ty.mk 4 [t, Ty.mk 4 [u, r]]).count = 1 + (t.count + ((Ty.mk 4 [u, r]).count + 0)) := rfl
    exact infer_lam h2 (two_ok' (.inr rfl) hs.1 (ty_two (.inr rfl) ht.1 (ty_two (.inr rfl) hu.1 hr.1)) (by rw [e2, e1]; omega))
  pair g s t x y hs ht hx hy := infer_pair hx hy (two_ok' (.inl rfl) hs.1 ht.1 (by have := hs.2; have := ht.2; omega))
  fst g s t x hs ht hx := infer_fst hx
  snd g s t x hs ht hx := infer_snd hx
  rc g t x f n ht hx hf hn := infer_rc hx hf hn
  fold g t x f n ht hx hf hn := infer_fold hx hf hn
  succ g x hx := infer_succ hx
  plus g x y hx hy := infer_app (infer_app (infer_plusT g) hx) hy
  sub g x y hx hy := infer_app (infer_app (infer_subT g) hx) hy
  nil g := infer_nil g
  cons g x y hx hy := infer_cons hx hy
  unit g := infer_unit g
end Go.Proofs.YtgfjcbofbbcnmaaDoor.Lift

/-
  Laws of layer 6: what is drawn comes to its end in the machine; the sanity check.
-/
namespace Go.Proofs.YtgfjcbofbbcnmaaDoor.Lift
set_option linter.unusedSimpArgs false
set_option linter.unusedVariables false
set_option linter.unnecessarySimpa false
open Go
variable {gl : Globs}

/-- a closed term of a plain type -/
theorem callS_nil {d : Nat} {t : Tm} {w : MV} {c : Nat} : callS d t [] = some (w, c) ↔ evS d t [] = some (w, c) := by
  unfold callS
  cases h : evS d t [] with
  | none => simp
  | some p =>
    obtain ⟨g, c1⟩ := p
    simp [call_nil]

/-- what is asked of a closed term of a plain type: it is checked, has its type, and its run comes to its end -/
structure Runs (x : Tm) (a : T) (y : a.V) (c d0 : Nat) : Prop where
  shape : x.shape = true
  type : x.inferN [] = (a.ty, 0)
  run : ∀ d, d0 ≤ d → evS d x [] = some (ofM a y, c)
  pos : 1 ≤ c
theorem Runs.check {x : Tm} {a : T} {y : a.V} {c d0 : Nat} (h : Runs x a y c d0) (hc : x.count ≤ 4096) : x.checkN = 0 := (Tm.checkN_iff x).2 ⟨h.shape, hc⟩

theorem drawn_run (l : List Int) (n : Nat) {p : Nat} (hp : p ≤ l.length) {a : T} (ha : a.plain) (hs : a.size ≤ 15) :
    ∃ (y : a.V) (c d0 : Nat), Runs (termD l n a.ty [] p).1 a y c d0 := by
  have hsm := small_ty hs
  have hg : ∀ x ∈ ([] : List Ty), x.small := fun x h => by cases h
  obtain ⟨F, hF⟩ := termD_dn l n hsm hg hp (G := []) rfl rfl
  have hi := (termD_facts draw_infer n a.ty [] p hsm hg hp).2
  have hsh := (termD_facts closed_shape n a.ty [] p hsm hg hp).2
  obtain ⟨c, d0, h⟩ := calls_total (l := []) (r := a) hF () trivial ha
  have h' : ∀ d, d0 ≤ d → evS d (termD l n a.ty [] p).1 [] = some (ofM a (F ()), c) := fun d hd => callS_nil.1 (h d hd)
  exact ⟨F (), c, d0, hsh, hi, h', evS_pos (h' d0 (Nat.le_refl _))⟩

theorem draw_le (l : List Int) (n : Nat) {p : Nat} (hp : p ≤ l.length) {a : T} (hs : a.size ≤ 15) : (termD l n a.ty [] p).2 ≤ l.length := (termD_facts draw_infer n a.ty [] p (small_ty hs) (fun x h => by cases h) hp).1
theorem draw_count (l : List Int) (n : Nat) {p : Nat} (hp : p ≤ l.length) {a : T} (hs : a.size ≤ 15) : (termD l n a.ty [] p).1.count ≤ drawC n := termD_count' l n a.ty [] p (small_ty hs) (fun x h => by cases h) hp

theorem runs_pair {x y : Tm} {a b : T} {v : a.V} {w : b.V} {c1 c2 d1 d2 : Nat} (hx : Runs x a v c1 d1) (hy : Runs y b w c2 d2) (ha : a.size ≤ 15) (hb : b.size ≤ 15) : Runs (nT 10 [x, y]) (.pair a b) (v, w) (1 + (c1 + (c2 + 0)) + 0) (max d1 d2 + 1) := by
  refine ⟨closed_shape.pair [] a.ty b.ty x y (small_ty ha) (small_ty hb) hx.shape hy.shape, infer_pair hx.type hy.type (two_ok' (.inl rfl) (T.ty_shape a) (T.ty_shape b) (by rw [T.ty_count, T.ty_count]; omega)), fun d hd => ?_, by omega⟩
  obtain ⟨d', rfl⟩ : ∃ d', d = d' + 1 := ⟨d - 1, by omega⟩
  refine evS_node (l := [ofM a v, ofM b w]) (by simp [nT, Tm.kind]) (by simp [nT, Tm.args]) ?_ rfl
  simp only [nT, Tm.args, allC, hx.run d' (by omega), hy.run d' (by omega)]
theorem runs_fst {x : Tm} {a b : T} {v : a.V} {w : b.V} {c d0 : Nat} (hx : Runs x (.pair a b) (v, w) c d0) (ha : a.size ≤ 15) (hb : b.size ≤ 15) : Runs (nT 11 [x]) a v (1 + (c + 0) + 0) (d0 + 1) := by
  refine ⟨closed_shape.fst [] a.ty b.ty x (small_ty ha) (small_ty hb) hx.shape, infer_fst hx.type, fun d hd => ?_, by omega⟩
  obtain ⟨d', rfl⟩ : ∃ d', d = d' + 1 := ⟨d - 1, by omega⟩
  have h := hx.run d' (by omega)
  refine evS_node (l := [.both (ofM a v) (ofM b w)]) (by simp [nT, Tm.kind]) (by simp [nT, Tm.args]) ?_ rfl
  simp only [nT, Tm.args, allC, h]
  rfl
theorem runs_snd {x : Tm} {a b : T} {v : a.V} {w : b.V} {c d0 : Nat} (hx : Runs x (.pair a b) (v, w) c d0) (ha : a.size ≤ 15) (hb : b.size ≤ 15) : Runs (nT 12 [x]) b w (1 + (c + 0) + 0) (d0 + 1) := by
  refine ⟨closed_shape.snd [] a.ty b.ty x (small_ty ha) (small_ty hb) hx.shape, infer_snd hx.type, fun d hd => ?_, by omega⟩
  obtain ⟨d', rfl⟩ : ∃ d', d = d' + 1 := ⟨d - 1, by omega⟩
  have h := hx.run d' (by omega)
  refine evS_node (l := [.both (ofM a v) (ofM b w)]) (by simp [nT, Tm.kind]) (by simp [nT, Tm.args]) ?_ rfl
  simp only [nT, Tm.args, allC, h]
  rfl

theorem eval_runs (har : globOf gl 0 = some arEls) {x : Tm} {a : T} {y : a.V} {c d0 : Nat} (h : Runs x a y c d0) (hc : x.count ≤ 4096) (ha : a.plain) (hs : a.size ≤ 64) (wk : Nat) (hwk : wk ≤ 65536) :
    Con1 Tryd.prog gl 16 [x.dv, dint (wk : Int)] [] (outC (valOf a y) c wk) [] :=
  machine_eval_ok har x a y c d0 (callS_nil.2 (h.run d0 (Nat.le_refl _))) (h.check hc) h.type ha hs wk hwk

/-! the sanity check of law 6 -/
def tS : Tm := nT 5 [nT 5 [nT 4 []]]
theorem tS_run : callS 5 tS [] = some (.num 2, 3) := by kernel_rfl
theorem sane06_ok (har : globOf gl 0 = some arEls) : Con1 Tryd.prog gl 7 [] [] (dbool true) [] := by
  have w1 := machine_eval_ok (gl := gl) har tS .nat (2 : Nat) 3 5 tS_run (by decide) (by rfl) trivial (by unfold T.ok; decide) 100 (by decide)
  rw [outC_yes (by decide)] at w1
  have w1 : Con1 Tryd.prog gl 16 [.agg [dint 5, dint 0, dint 0, .sl [], .sl [[dint 5, dint 0, dint 0, .sl [], .sl [[dint 4, dint 0, dint 0, .sl [], .sl []]]]]], dint 100] [] (.tup [.agg [dint 1, dint 2, .sl [], .sl []], dint 3, dint 0]) [] := w1
  have n0 : Con1 Tryd.prog gl 17 [dint 4, .sl []] [] (.agg [dint 4, dint 0, dint 0, .sl [], .sl []]) [] := n5 4 []
  have n1 : Con1 Tryd.prog gl 17 [dint 5, .sl [[dint 4, dint 0, dint 0, .sl [], .sl []]]] [] (.agg [dint 5, dint 0, dint 0, .sl [], .sl [[dint 4, dint 0, dint 0, .sl [], .sl []]]]) [] := n5 5 [nT 4 []]
  have n2 : Con1 Tryd.prog gl 17 [dint 5, .sl [[dint 5, dint 0, dint 0, .sl [], .sl [[dint 4, dint 0, dint 0, .sl [], .sl []]]]]] [] (.agg [dint 5, dint 0, dint 0, .sl [], .sl [[dint 5, dint 0, dint 0, .sl [], .sl [[dint 4, dint 0, dint 0, .sl [], .sl []]]]]]) [] := n5 5 [nT 5 [nT 4 []]]
  refine t_in Tryd.func7 ?_
  intro X hP hgl hf hfn hn hR hids hfit
  refine t_g0 ?_
  refine t_c4 trivial n0 n1 n2 w1 ?_
  refine t_g0 ?_
  refine t_r ?_
  simp [go_sem, hP, hgl, hn] <;> (try omega)
end Go.Proofs.YtgfjcbofbbcnmaaDoor.Lift

namespace Go.Proofs.YtgfjcbofbbcnmaaDoor.Lift
set_option linter.unusedSimpArgs false
set_option linter.unusedVariables false
set_option linter.unnecessarySimpa false
open Go
variable {gl : Globs}

theorem val_self (t : Val) : t.same t = true := (Val.same_iff t t).2 rfl

set_option maxHeartbeats 1000000 in
set_option maxRecDepth 100000 in
theorem machineWork_ok (har : globOf gl 0 = some arEls) (l : List Int) (k : Int) (hk : 0 ≤ k ∧ k ≤ 65535) : Con1 Tryd.prog gl 4 [.sl (ints l), .prim (.int .u16 k)] [] (dbool true) [] := by
  have ws := sane06_ok har
  refine t_in Tryd.func4 ?_
  intro X hP hgl hf hfn hn hR hids hfit
  by_cases hl : l.length ≤ 500
  rotate_left
  · refine t_g0 ?_
    refine t_c1 trivial ws ?_
    refine t_g0 ?_
    refine t_c1 @hl (few_ok l) ?_
    refine t_g0 ?_
    refine t_r ?_
    simp [go_sem, hP, hgl, hn] <;> (try omega)
  refine t_g0 ?_
  refine t_c1 trivial ws ?_
  refine t_g0 ?_
  refine t_c1 @hl (few_ok l) ?_
  refine t_g0 ?_
  refine t_a ?_
  first | refine W_reg [] fun K hK => ?_ | refine W_regd (by rw [hP]; exact mixed) [] fun K hK => ?_
  refine t_s0 ?_
  repeat (refine ⟨by omega, ?_⟩)
  refine vcK_callR hP hgl (new_ok l) (by simp [go_sem]) rfl (by simp [go_sem]) (by simp) (by rw [hn]; exact Nat.le_of_ble_eq_true rfl) ?_
  rintro r φ ⟨b, rfl, rfl⟩ -
  simp [go_sem, hP, hgl, hn]
  refine t_e ?_
  clear hK K
  have wp := plain_ok (gl := gl) b l 0 hl (by omega)
  have hp1 := plainD_le (l := l) (p := 0) (by omega)
  obtain ⟨a, ha, hpl, hsz⟩ := plainD_T l 0
  generalize plainD l 0 = pd at *
  obtain ⟨s, p1⟩ := pd
  simp only at ha hp1 wp
  subst ha
  have wt := mk_term_ok (gl := gl) b l hl 4 (by decide) a.ty [] p1 (small_ty (by omega)) (by simp) (by simp) hp1
  obtain ⟨y, c, d0, hr⟩ := drawn_run l 4 hp1 hpl (show a.size ≤ 15 by omega)
  have hco := termD_count' l 4 a.ty [] p1 (small_ty (by omega)) (by simp) hp1
  generalize termD l 4 a.ty [] p1 = xd at *
  obtain ⟨x, p2⟩ := xd
  have hdc : drawC 4 = 3805 := rfl
  rw [hdc] at hco
  simp only [List.map_nil] at hr hco wt
  have hpos := hr.pos
  have w1 := eval_runs (gl := gl) har hr (by omega) hpl (by omega) 3000 (by decide)
  have hfa := Ty.fold a.ty
  have hfx := Tm.fold x
  have hfy := Val.fold (valOf a y)
  refine t_g0 ?_
  refine t_c2 @hfa wp wt ?_
  by_cases hc : c ≤ 3000
  rotate_left
  · rw [outC_no (by omega)] at w1
    refine t_g0 ?_
    refine t_c1 @hfx w1 ?_
    refine t_g0 ?_
    refine t_r ?_
    simp [go_sem, hP, hgl, hn] <;> (try omega)
  rw [outC_yes (by omega)] at w1
  refine t_g0 ?_
  refine t_c1 @hfx w1 ?_
  obtain ⟨wk, hwk⟩ : ∃ wk : Nat, min ((c : Int) + k) 65536 = (wk : Int) := ⟨(min ((c : Int) + k) 65536).toNat, by omega⟩
  have hwk1 : wk ≤ 65536 := by omega
  have hwk2 : c ≤ wk := by omega
  have w2 := eval_runs (gl := gl) har hr (by omega) hpl (by omega) wk hwk1
  rw [outC_yes (by omega)] at w2
  have w3 := eval_runs (gl := gl) har hr (by omega) hpl (by omega) (c - 1) (by omega)
  rw [outC_no (by omega), show ((c - 1 : Nat) : Int) = (c : Int) - 1 by omega] at w3
  have w4 := ref05_same_ok (gl := gl) (valOf a y) (valOf a y)
  rw [val_self] at w4
  refine t_g0 ?_
  refine t_c1 (j2 @hwk (j2 @hfx @hk)) w2 ?_
  refine t_g0 ?_
  refine t_c1 @hfx w3 ?_
  refine t_g0 ?_
  have hpos2 : 0 < c := hpos
  refine t_c1 (j2 @hfy @hpos2) w4 ?_
  refine t_r ?_
  simp [go_sem, hP, hgl, hn] <;> (try omega)
end Go.Proofs.YtgfjcbofbbcnmaaDoor.Lift

namespace Go.Proofs.YtgfjcbofbbcnmaaDoor.Lift
set_option linter.unusedSimpArgs false
set_option linter.unusedVariables false
set_option linter.unnecessarySimpa false
open Go
variable {gl : Globs}

set_option maxHeartbeats 1000000 in
set_option maxRecDepth 100000 in
theorem machineParts_ok (har : globOf gl 0 = some arEls) (l : List Int) : Con1 Tryd.prog gl 6 [.sl (ints l)] [] (dbool true) [] := by
  have ws := sane06_ok har
  refine t_in Tryd.func6 ?_
  intro X hP hgl hf hfn hn hR hids hfit
  by_cases hl : l.length ≤ 500
  rotate_left
  · refine t_g0 ?_
    refine t_c1 trivial ws ?_
    refine t_g0 ?_
    refine t_c1 @hl (few_ok l) ?_
    refine t_g0 ?_
    refine t_r ?_
    simp [go_sem, hP, hgl, hn] <;> (try omega)
  refine t_g0 ?_
  refine t_c1 trivial ws ?_
  refine t_g0 ?_
  refine t_c1 @hl (few_ok l) ?_
  refine t_g0 ?_
  refine t_a ?_
  first | refine W_reg [] fun K hK => ?_ | refine W_regd (by rw [hP]; exact mixed) [] fun K hK => ?_
  refine t_s0 ?_
  repeat (refine ⟨by omega, ?_⟩)
  refine vcK_callR hP hgl (new_ok l) (by simp [go_sem]) rfl (by simp [go_sem]) (by simp) (by rw [hn]; exact Nat.le_of_ble_eq_true rfl) ?_
  rintro r φ ⟨b, rfl, rfl⟩ -
  simp [go_sem, hP, hgl, hn]
  refine t_e ?_
  clear hK K
  have hdc : drawC 3 = 1267 := rfl
  have wp := plain_ok (gl := gl) b l 0 hl (by omega)
  have hp1 := plainD_le (l := l) (p := 0) (by omega)
  obtain ⟨a, ha, hpl, hsz⟩ := plainD_T l 0
  generalize plainD l 0 = pd at *
  obtain ⟨s, p1⟩ := pd
  simp only at ha hp1 wp
  subst ha
  have wt := mk_term_ok (gl := gl) b l hl 3 (by decide) a.ty [] p1 (small_ty (by omega)) (by simp) (by simp) hp1
  obtain ⟨y, c, d0, hr⟩ := drawn_run l 3 hp1 hpl (show a.size ≤ 15 by omega)
  have hco := draw_count l 3 hp1 (show a.size ≤ 15 by omega)
  have hp2 := draw_le l 3 hp1 (show a.size ≤ 15 by omega)
  rw [hdc] at hco
  generalize termD l 3 a.ty [] p1 = xd at *
  obtain ⟨x, p2⟩ := xd
  simp only [List.map_nil] at hr hco hp2 wt
  have wq := plain_ok (gl := gl) b l p2 hl hp2
  have hq1 := plainD_le (l := l) (p := p2) hp2
  obtain ⟨a', ha', hpl', hsz'⟩ := plainD_T l p2
  generalize plainD l p2 = pd at *
  obtain ⟨s, q1⟩ := pd
  simp only at ha' hq1 wq
  subst ha'
  have wu := mk_term_ok (gl := gl) b l hl 3 (by decide) a'.ty [] q1 (small_ty (by omega)) (by simp) (by simp) hq1
  obtain ⟨y', c', d0', hr'⟩ := drawn_run l 3 hq1 hpl' (show a'.size ≤ 15 by omega)
  have hco' := draw_count l 3 hq1 (show a'.size ≤ 15 by omega)
  rw [hdc] at hco'
  generalize termD l 3 a'.ty [] q1 = xd at *
  obtain ⟨x', q2⟩ := xd
  simp only [List.map_nil] at hr' hco' wu
  have w1 := eval_runs (gl := gl) har hr (by omega) hpl (by omega) 3000 (by decide)
  have w2 := eval_runs (gl := gl) har hr' (by omega) hpl' (by omega) 3000 (by decide)
  have hfa := Ty.fold a.ty
  have hfa' := Ty.fold a'.ty
  have hfx := Tm.fold x
  have hfx' := Tm.fold x'
  have hfy := Val.fold (valOf a y)
  have hfy' := Val.fold (valOf a' y')
  have rp := runs_pair hr hr' (by omega) (by omega)
  have r1 := runs_fst rp (by omega) (by omega)
  have r2 := runs_snd rp (by omega) (by omega)
  obtain ⟨kp, hkp⟩ : ∃ k, k = 1 + (c + (c' + 0)) + 0 := ⟨_, rfl⟩
  rw [← hkp] at rp r1 r2
  obtain ⟨kf, hkf⟩ : ∃ k, k = 1 + kp + 0 := ⟨_, rfl⟩
  rw [← hkf] at r1 r2
  have cp : (nT 10 [x, x']).count = 1 + (x.count + (x'.count + 0)) := rfl
  have cf : (nT 11 [nT 10 [x, x']]).count = 1 + ((nT 10 [x, x']).count + 0) := rfl
  have cs : (nT 12 [nT 10 [x, x']]).count = 1 + ((nT 10 [x, x']).count + 0) := rfl
  have w3 := eval_runs (gl := gl) har rp (by omega) ⟨hpl, hpl'⟩ (show (T.pair a a').size ≤ 64 by simp only [T.size]; omega) 7000 (by decide)
  have w4 := eval_runs (gl := gl) har r1 (by omega) hpl (by omega) 7000 (by decide)
  have w5 := eval_runs (gl := gl) har r2 (by omega) hpl' (by omega) 7000 (by decide)
  have n1 := n5 (gl := gl) 10 [x, x']
  simp only [List.map_cons, List.map_nil, Tm.cells_eq x, Tm.cells_eq x'] at n1
  have n2 := n5 (gl := gl) 11 [nT 10 [x, x']]
  have n3 := n5 (gl := gl) 12 [nT 10 [x, x']]
  have e1 := ref05_same_ok (gl := gl) (valOf (.pair a a') (y, y')) (valOf (.pair a a') (y, y'))
  have e2 := ref05_same_ok (gl := gl) (valOf a y) (valOf a y)
  have e3 := ref05_same_ok (gl := gl) (valOf a' y') (valOf a' y')
  rw [val_self] at e1 e2 e3
  have hvp : valOf (.pair a a') (y, y') = Val.mk 3 0 [] [valOf a y, valOf a' y'] := rfl
  rw [hvp] at e1 w3
  generalize nT 12 [nT 10 [x, x']] = ts at *
  generalize nT 11 [nT 10 [x, x']] = tf at *
  generalize nT 10 [x, x'] = tp at *
  simp only [List.map_cons, List.map_nil, Tm.cells_eq tp] at n2 n3
  have hfp := Tm.fold tp
  have hff := Tm.fold tf
  have hfs := Tm.fold ts
  generalize valOf a y = u at *
  generalize valOf a' y' = u' at *
  refine t_g0 ?_
  refine t_c4 (j2 @hfa @hfa') wp wt wq wu ?_
  by_cases hc : c ≤ 3000
  rotate_left
  · rw [outC_no (by omega)] at w1
    refine t_g0 ?_
    refine t_c1 @hfx w1 ?_
    by_cases hc' : c' ≤ 3000
    · rw [outC_yes (by omega)] at w2
      refine t_g0 ?_
      refine t_c1 @hfx' w2 ?_
      refine t_g0 ?_
      refine t_r ?_
      simp [go_sem, hP, hgl, hn] <;> (try omega)
    · rw [outC_no (by omega)] at w2
      refine t_g0 ?_
      refine t_c1 @hfx' w2 ?_
      refine t_g0 ?_
      refine t_r ?_
      simp [go_sem, hP, hgl, hn] <;> (try omega)
  rw [outC_yes (by omega)] at w1
  refine t_g0 ?_
  refine t_c1 @hfx w1 ?_
  by_cases hc' : c' ≤ 3000
  rotate_left
  · rw [outC_no (by omega)] at w2
    refine t_g0 ?_
    refine t_c1 @hfx' w2 ?_
    refine t_g0 ?_
    refine t_r ?_
    simp [go_sem, hP, hgl, hn] <;> (try omega)
  rw [outC_yes (by omega)] at w2 w3 w4 w5
  have fp : DV.agg [dint 3, dint 0, .sl [], .sl [[dint u.kind, dint u.num, .sl (ints u.list), .sl (u.args.map Val.cells)], [dint u'.kind, dint u'.num, .sl (ints u'.list), .sl (u'.args.map Val.cells)]]] = (Val.mk 3 0 [] [u, u']).dv := by
    have : (Val.mk 3 0 [] [u, u']).dv = DV.agg [dint 3, dint 0, .sl [], .sl [u.cells, u'.cells]] := rfl
    rw [this, Val.cells_eq u, Val.cells_eq u']
  have fv := Val.fold (Val.mk 3 0 [] [u, u'])
  generalize Val.mk 3 0 [] [u, u'] = pv at *
  have hk1 : (kp : Int) = (c : Int) + (c' : Int) + 1 := by omega
  have hk2 : (kf : Int) = (kp : Int) + 1 := by omega
  have hk3 : kp = c + c' + 1 := by omega
  have hk4 : kf = kp + 1 := by omega
  refine t_g0 ?_
  refine t_c1 @hfx' w2 ?_
  refine t_g0 ?_
  refine t_c1 (j2 @hfx @hfx') n1 ?_
  refine t_g0 ?_
  refine t_c1 @hfp w3 ?_
  refine t_g0 ?_
  refine t_c2 (j2 @hfp @hff) n2 w4 ?_
  refine t_g0 ?_
  refine t_c2 (j2 @hfp @hfs) n3 w5 ?_
  refine t_c3 (j2 @fp (j2 @fv (j2 @hfy (j2 @hfy' (j2 @hk1 @hk2))))) e1 e2 e3 ?_
  refine t_r ?_
  simp [go_sem, hP, hgl, hn] <;> (try omega)
end Go.Proofs.YtgfjcbofbbcnmaaDoor.Lift

namespace Go.Proofs.YtgfjcbofbbcnmaaDoor.Lift
set_option linter.unusedSimpArgs false
set_option linter.unusedVariables false
set_option linter.unnecessarySimpa false
open Go
variable {gl : Globs}

theorem dn_nat (Γ : List T) : ∀ n : Nat, Dn Γ (numTm n) .nat (fun _ => (n : Nat))
  | 0 => .zero
  | n + 1 => .succ (dn_nat Γ n)
theorem dn_nats : ∀ l : List Nat, Dn [] (listTm (l.map Int.ofNat)) .list (fun _ => l)
  | [] => .nil
  | n :: l => .cons (dn_nat [] n) (dn_nats l)
/-- the term of a value means the value -/
theorem dn_val : ∀ (a : T) (x : a.V), a.plain → Dn [] (valOf a x).termN a (fun _ => x)
  | .nat, n, _ => by
    have e : (valOf .nat n).termN = numTm n := by rw [Val.termN_eq]; rfl
    rw [e]; exact dn_nat [] n
  | .list, l, _ => by
    have e : (valOf .list l).termN = listTm (List.map Int.ofNat l) := by rw [Val.termN_eq]; rfl
    rw [e]; exact dn_nats l
  | .unit, _, _ => by
    have e : (valOf .unit ()).termN = nT 13 [] := by rw [Val.termN_eq]; rfl
    exact (show Dn [] (valOf .unit ()).termN .unit (fun _ => ()) by rw [e]; exact .unit)
  | .pair a b, p, hp => by
    have e : (valOf (.pair a b) p).termN = nT 10 [(valOf a p.1).termN, (valOf b p.2).termN] := by rw [Val.termN_eq]; rfl
    rw [e]; exact .pair (dn_val a p.1 hp.1) (dn_val b p.2 hp.2)
  | .fn _ _, _, hp => hp.elim

mutual
theorem le_nle {n : Nat} : ∀ v : MV, v.le (n : Int) → v.nle n
  | .num k, h => by simp only [MV.le, MV.nle] at h ⊢; omega
  | .list l, h => by
    simp only [MV.le, MV.nle] at h ⊢
    exact ⟨by omega, fun x hx => by have := h.2 x hx; omega⟩
  | .both a b, h => by simp only [MV.le, MV.nle] at h ⊢; exact ⟨le_nle a h.1, le_nle b h.2⟩
  | .unit, _ => by simp only [MV.nle]
  | .clo _ e, h => by simp only [MV.le, MV.nle] at h ⊢; exact les_nles e h.2
theorem les_nles {n : Nat} : ∀ l : List MV, MV.les (n : Int) l → MV.nles n l
  | [], _ => by simp only [MV.nles]
  | v :: l, h => by simp only [MV.les, MV.nles] at h ⊢; exact ⟨le_nle v h.1, les_nles l h.2⟩
end

/-- a closed function of one plain argument, and its argument's term -/
theorem calls_parts {t : Tm} {l : List T} {r : T} {F : Env [] → (FnT l r).V} (h : Dn [] t (FnT l r) F) (X : Env l) (hp : Plains l) (hr : r.plain) :
    ∃ g c1 c2 d0, ∀ d, d0 ≤ d → evS d t [] = some (g, c1) ∧ callC (evS d) g (mvsOf l X) = some (ofM r (appl l (F ()) X), c2) := by
  obtain ⟨g, c1, d1, h1, hg⟩ := dn_total h (e := []) (ρ := ()) rfl
  obtain ⟨w, c2, d2, h2, hw⟩ := tl_calls l X hp hg
  have hw' := tl_plain r hr hw
  subst hw'
  exact ⟨g, c1, c2, max d1 d2, fun d hd => ⟨h1 d (by omega), h2 d (by omega)⟩⟩

theorem val_runs {a : T} (x : a.V) (ha : a.plain) (hf : TmFacts (valOf a x).termN a.ty (valOf a x)) : ∃ c d0, Runs (valOf a x).termN a x c d0 := by
  obtain ⟨c, d0, h⟩ := calls_total (l := []) (r := a) (dn_val a x ha) () trivial ha
  have h' : ∀ d, d0 ≤ d → evS d (valOf a x).termN [] = some (ofM a x, c) := fun d hd => callS_nil.1 (h d hd)
  exact ⟨c, d0, hf.shape, hf.infer, h', evS_pos (h' d0 (Nat.le_refl _))⟩

theorem drawn_call (l : List Int) (n : Nat) {p : Nat} (hp : p ≤ l.length) {a s : T} (ha : a.plain) (hs : s.plain) (has : a.size ≤ 5) (hss : s.size ≤ 5) (x : a.V) (hf : TmFacts (valOf a x).termN a.ty (valOf a x)) :
    ∃ (y : s.V) (c1 c2 d0 : Nat), callS d0 (termD l n (T.fn a s).ty [] p).1 (mvsOf [a] (x, ())) = some (ofM s y, c1) ∧ 0 < c1 ∧ c1 < c2 ∧ Runs (nT 3 [(termD l n (T.fn a s).ty [] p).1, (valOf a x).termN]) s y c2 (d0 + 1) ∧ (termD l n (T.fn a s).ty [] p).1.shape = true ∧ (termD l n (T.fn a s).ty [] p).1.inferN [] = ((FnT [a] s).ty, 0) := by
  have hsz : (T.fn a s).size ≤ 15 := by simp only [T.size]; omega
  have hsm := small_ty hsz
  have hg : ∀ x ∈ ([] : List Ty), x.small := fun x h => by cases h
  obtain ⟨F, hF⟩ := termD_dn l n hsm hg hp (G := []) rfl rfl
  have hi := (termD_facts draw_infer n (T.fn a s).ty [] p hsm hg hp).2
  have hsh := (termD_facts closed_shape n (T.fn a s).ty [] p hsm hg hp).2
  generalize (termD l n (T.fn a s).ty [] p).1 = f at *
  obtain ⟨cx, dx, hx⟩ := val_runs x ha hf
  obtain ⟨g, c1, c2, d0, h⟩ := calls_parts (l := [a]) (r := s) hF (x, ()) ⟨ha, show a.size ≤ 64 by omega, trivial⟩ hs
  have hx0 := hx.pos
  have hc1 := evS_pos (h d0 (Nat.le_refl _)).1
  refine ⟨appl [a] (F ()) (x, ()), c1 + c2, 1 + (c1 + (cx + 0)) + c2, max d0 dx, ?_, by omega, by omega, ⟨?_, ?_, fun d hd => ?_, by omega⟩, hsh, hi⟩
  · obtain ⟨k1, k2⟩ := h (max d0 dx) (by omega)
    unfold callS
    rw [k1]
    simp only
    rw [k2]
  · exact closed_shape.app [] a.ty s.ty f _ (small_ty (by omega)) (small_ty (by omega)) hsh hx.shape
  · exact infer_app hi hx.type
  · obtain ⟨d', rfl⟩ : ∃ d', d = d' + 1 := ⟨d - 1, by omega⟩
    obtain ⟨k1, k2⟩ := h d' (by omega)
    refine evS_node (l := [g, ofM a x]) (by simp [nT, Tm.kind]) (by simp [nT, Tm.args]) ?_ k2
    simp only [nT, Tm.args, allC, k1, hx.run d' (by omega)]

set_option maxHeartbeats 1000000 in
set_option maxRecDepth 100000 in
theorem machineCalls_ok (har : globOf gl 0 = some arEls) (l : List Int) : Con1 Tryd.prog gl 3 [.sl (ints l)] [] (dbool true) [] := by
  have ws := sane06_ok har
  refine t_in Tryd.func3 ?_
  intro X hP hgl hf hfn hn hR hids hfit
  by_cases hl : l.length ≤ 500
  rotate_left
  · refine t_g0 ?_
    refine t_c1 trivial ws ?_
    refine t_g0 ?_
    refine t_c1 @hl (few_ok l) ?_
    refine t_g0 ?_
    refine t_r ?_
    simp [go_sem, hP, hgl, hn] <;> (try omega)
  refine t_g0 ?_
  refine t_c1 trivial ws ?_
  refine t_g0 ?_
  refine t_c1 @hl (few_ok l) ?_
  refine t_g0 ?_
  refine t_a ?_
  first | refine W_reg [] fun K hK => ?_ | refine W_regd (by rw [hP]; exact mixed) [] fun K hK => ?_
  refine t_s0 ?_
  repeat (refine ⟨by omega, ?_⟩)
  refine vcK_callR hP hgl (new_ok l) (by simp [go_sem]) rfl (by simp [go_sem]) (by simp) (by rw [hn]; exact Nat.le_of_ble_eq_true rfl) ?_
  rintro r φ ⟨b, rfl, rfl⟩ -
  simp [go_sem, hP, hgl, hn]
  refine t_e ?_
  clear hK K
  have hdc : drawC 4 = 3805 := rfl
  have wp := plain_ok (gl := gl) b l 0 hl (by omega)
  have hp1 := plainD_le (l := l) (p := 0) (by omega)
  have hpp := plainD_plain l 0
  have hgv := mkVal_good l 0
  have hgy := mkVal_ty l 0
  obtain ⟨a, ha, hpl, hsz⟩ := plainD_T l 0
  generalize plainD l 0 = pd at *
  obtain ⟨s0, p1⟩ := pd
  simp only at ha hp1 wp hgv hgy hpp
  subst ha
  have wq := plain_ok (gl := gl) b l p1 hl hp1
  have hq1 := plainD_le (l := l) (p := p1) hp1
  obtain ⟨s, hs, hsp, hss⟩ := plainD_T l p1
  generalize plainD l p1 = pd at *
  obtain ⟨s0, p2⟩ := pd
  simp only at hs hq1 wq
  subst hs
  have wf := ref01_fun_ok (gl := gl) a.ty s.ty
  have hfs : (T.fn a s).size ≤ 15 := by simp only [T.size]; omega
  have wt := mk_term_ok (gl := gl) b l hl 4 (by decide) (T.fn a s).ty [] p2 (small_ty hfs) (by simp) (by simp) hq1
  have hco := draw_count l 4 hq1 hfs
  have hp2 := draw_le l 4 hq1 hfs
  have hdr := fun x hf => drawn_call l 4 hq1 hpl hsp (by omega) (by omega) x hf
  rw [hdc] at hco
  generalize termD l 4 (T.fn a s).ty [] p2 = xd at *
  obtain ⟨f, p3⟩ := xd
  simp only [List.map_nil] at hco hp2 wt hdr
  have wv := mkval_ok (gl := gl) a.ty b l p3 hl hp2 hpp
  have hgv := hgv p3
  have hgy := hgy p3
  obtain ⟨x, hx, hxl⟩ := mkVal_T l a p3 hpl
  generalize mkVal l a.ty p3 = vd at *
  obtain ⟨v, p4⟩ := vd
  simp only at hx wv hgv hgy
  subst hx
  have htf := good_tm hgv
  rw [hgy] at htf
  obtain ⟨y, kc, ke, d0, h1, h2, h3, h4, h5, h6⟩ := hdr x htf
  obtain ⟨g1, -, g3, g4⟩ := Val.good_facts hgv
  have we := termE5_ok (gl := gl) (valOf a x) (by omega)
  rw [g1] at we
  simp only at we
  have w1 := machine_call_ok (gl := gl) har f [a] s (x, ()) y kc d0 h1 ((Tm.checkN_iff f).2 ⟨h5, by omega⟩) h6 ⟨hpl, show a.size ≤ 64 by omega, trivial⟩ (by simp) hsp (show s.size ≤ 64 by omega) 3000 (by decide) 5 (by decide) (les_nles _ ⟨hxl, trivial⟩)
  have cap : (nT 3 [f, (valOf a x).termN]).count = 1 + (f.count + ((valOf a x).termN.count + 0)) := rfl
  have w2 := eval_runs (gl := gl) har h4 (by omega) hsp (by omega) 5000 (by decide)
  have n1 := n5 (gl := gl) 3 [f, (valOf a x).termN]
  have e1 := ref05_same_ok (gl := gl) (valOf s y) (valOf s y)
  rw [val_self] at e1
  have hvs : (valsOf [a] (x, ())).map Val.cells = [(valOf a x).cells] := rfl
  rw [hvs, Val.cells_eq (valOf a x)] at w1
  have hfa := Ty.fold a.ty
  have hfb := Ty.fold s.ty
  have hff := Tm.fold f
  have hfv := Val.fold (valOf a x)
  have hfy := Val.fold (valOf s y)
  rw [T.ty_fn] at wt
  have hfx := Tm.fold (valOf a x).termN
  simp only [List.map_cons, List.map_nil, Tm.cells_eq f, Tm.cells_eq (valOf a x).termN] at n1
  have hfp := Tm.fold (nT 3 [f, (valOf a x).termN])
  generalize nT 3 [f, (valOf a x).termN] = tp at *
  generalize (valOf a x).termN = tx at *
  generalize valOf a x = v at *
  generalize valOf s y = u at *
  refine t_g0 ?_
  refine t_c2 trivial wp wq ?_
  refine t_g0 ?_
  refine t_c2 (j2 @hfa @hfb) wf wt ?_
  refine t_g0 ?_
  refine t_c1 @hfa wv ?_
  refine t_g0 ?_
  refine t_c1 @hfv we ?_
  by_cases hc : kc ≤ 3000
  rotate_left
  · rw [outC_no (by omega)] at w1
    refine t_g0 ?_
    refine t_c1 (j2 @hff @hfv) w1 ?_
    by_cases hc' : ke ≤ 5000
    · rw [outC_yes (by omega)] at w2
      refine t_g0 ?_
      refine t_c2 (j2 @hff (j2 @hfx @hfp)) n1 w2 ?_
      refine t_g0 ?_
      refine t_r ?_
      simp [go_sem, hP, hgl, hn] <;> (try omega)
    · rw [outC_no (by omega)] at w2
      refine t_g0 ?_
      refine t_c2 (j2 @hff (j2 @hfx @hfp)) n1 w2 ?_
      refine t_g0 ?_
      refine t_r ?_
      simp [go_sem, hP, hgl, hn] <;> (try omega)
  rw [outC_yes (by omega)] at w1
  refine t_g0 ?_
  refine t_c1 (j2 @hff @hfv) w1 ?_
  by_cases hc' : ke ≤ 5000
  rotate_left
  · rw [outC_no (by omega)] at w2
    refine t_g0 ?_
    refine t_c2 (j2 @hff (j2 @hfx @hfp)) n1 w2 ?_
    refine t_g0 ?_
    refine t_r ?_
    simp [go_sem, hP, hgl, hn] <;> (try omega)
  rw [outC_yes (by omega)] at w2
  refine t_g0 ?_
  refine t_c2 (j2 @hff (j2 @hfx @hfp)) n1 w2 ?_
  refine t_g0 ?_
  refine t_c1 (j2 @hfy (j2 @h2 @h3)) e1 ?_
  refine t_r ?_
  simp [go_sem, hP, hgl, hn] <;> (try omega)
end Go.Proofs.YtgfjcbofbbcnmaaDoor.Lift

/-
  Plain law: what the closed terms of numbers return, and that their work is small.
-/
namespace Go.Proofs.YtgfjcbofbbcnmaaDoor.Lift
set_option linter.unusedSimpArgs false
set_option linter.unusedVariables false
set_option linter.unnecessarySimpa false
open Go

theorem recC_le {ev : Evl} {f : MV} (R : Nat → MV) (B : Nat) : ∀ (n k : Nat), (∀ j, k ≤ j → j < k + n → ∃ c, c ≤ B ∧ callC ev f [.num j, R j] = some (R (j + 1), c)) → ∃ c, c ≤ n * B ∧ recC ev f n k (R k) = some (R (k + n), c)
  | 0, k, _ => ⟨0, Nat.zero_le _, rfl⟩
  | n + 1, k, h => by
    obtain ⟨c1, h1, e1⟩ := h k (Nat.le_refl _) (by omega)
    obtain ⟨c2, h2, e2⟩ := recC_le R B n (k + 1) fun j hj hj' => h j (by omega) (by omega)
    refine ⟨c1 + c2, by rw [Nat.succ_mul]; omega, ?_⟩
    rw [show k + (n + 1) = k + 1 + n by omega]
    simp only [recC, e1, e2]

theorem ev_rec {d : Nat} {a f b : Tm} {e : List MV} {va vf : MV} {n c1 c2 c3 c : Nat} {w : MV} (ha : evS d a e = some (va, c1)) (hf : evS d f e = some (vf, c2)) (hb : evS d b e = some (.num n, c3)) (hr : recC (evS d) vf n 0 va = some (w, c)) : evS (d + 1) (recN a f b) e = some (w, 1 + (c1 + (c2 + (c3 + 0))) + c) := by
  refine evS_node (l := [va, vf, .num n]) (by simp [recN, Tm.kind]) (by simp [recN, Tm.args]) ?_ hr
  simp only [recN, Tm.args, allC, ha, hf, hb]
theorem ev_app {d : Nat} {f x : Tm} {e : List MV} {vf vx w : MV} {c1 c2 c : Nat} (hf : evS d f e = some (vf, c1)) (hx : evS d x e = some (vx, c2)) (hc : callC (evS d) vf [vx] = some (w, c)) : evS (d + 1) (nT 3 [f, x]) e = some (w, 1 + (c1 + (c2 + 0)) + c) := by
  refine evS_node (l := [vf, vx]) (by simp [nT, Tm.kind]) (by simp [nT, Tm.args]) ?_ hc
  simp only [nT, Tm.args, allC, hf, hx]
theorem ev_lam (d : Nat) (b : Tm) (e : List MV) : evS (d + 1) (lamN b) e = some (.clo b e, 1) := rfl
theorem call_one {ev : Evl} {b : Tm} {e : List MV} {x w : MV} {c : Nat} (h : ev b (x :: e) = some (w, c)) : callC ev (.clo b e) [x] = some (w, c + 0) := by
  simp only [callC, h]
theorem call_two {ev : Evl} {b b' : Tm} {e e' : List MV} {x y w : MV} {c c' : Nat} (h : ev b (x :: e) = some (.clo b' e', c)) (h' : ev b' (y :: e') = some (w, c')) : callC ev (.clo b e) [x, y] = some (w, c + (c' + 0)) := by
  simp only [callC, h, h']

/-! plus -/
def plusR : Tm := recN (vT 1) (lamN (lamN (nT 5 [vT 0]))) (vT 0)
theorem plus_def : plusT = lamN (lamN plusR) := rfl
theorem ev_plusR (d m n : Nat) (e : List MV) : ∃ c, c ≤ 4 + 3 * n ∧ evS (d + 6) plusR (.num n :: .num m :: e) = some (.num (m + n), c) := by
  obtain ⟨c, hc, h⟩ := recC_le (ev := evS (d + 5)) (f := .clo (lamN (nT 5 [vT 0])) (.num n :: .num m :: e)) (fun k => .num (m + k)) 3 n 0 (fun j _ _ => ⟨_, Nat.le_refl _, call_two (c := 1) (c' := 2) (ev_lam _ _ _) rfl⟩)
  refine ⟨_, ?_, ev_rec (va := .num m) (vf := .clo (lamN (nT 5 [vT 0])) (.num n :: .num m :: e)) (n := n) (c1 := 1) (c2 := 1) (c3 := 1) (c := c) rfl rfl rfl (by rw [Nat.zero_add] at h; exact h)⟩
  omega
/-- plus, applied within a term -/
theorem ev_plus {d : Nat} {x y : Tm} {e : List MV} {m n c1 c2 : Nat} (hx : evS (d + 6) x e = some (.num m, c1)) (hy : evS (d + 7) y e = some (.num n, c2)) (hx' : 1 ≤ d) : ∃ c, c ≤ 10 + 3 * n + c1 + c2 ∧ evS (d + 8) (appsT plusT [x, y]) e = some (.num (m + n), c) := by
  obtain ⟨c, hc, h⟩ := ev_plusR (d + 1) m n e
  have h1 : evS (d + 7) (nT 3 [plusT, x]) e = some (.clo plusR (.num m :: e), 1 + (1 + (c1 + 0)) + (1 + 0)) := ev_app (d := d + 6) (by rw [plus_def]; exact ev_lam _ _ _) hx (call_one (ev_lam _ _ _))
  refine ⟨_, ?_, ev_app (d := d + 7) h1 hy (call_one h)⟩
  omega

/-! times -/
def timesR : Tm := recN (nT 4 []) (lamN (lamN (appsT plusT [vT 0, vT 3]))) (vT 0)
theorem times_def : timesT = lamN (lamN timesR) := rfl
theorem ev_timesR (d m n : Nat) (e : List MV) : ∃ c, c ≤ 4 + n * (13 + 3 * m) ∧ evS (d + 11) timesR (.num n :: .num m :: e) = some (.num (m * n), c) := by
  obtain ⟨c, hc, h⟩ := recC_le (ev := evS (d + 10)) (f := .clo (lamN (appsT plusT [vT 0, vT 3])) (.num n :: .num m :: e)) (fun k => .num (m * k)) (13 + 3 * m) n 0 (fun j _ _ => by
    obtain ⟨c', hc', h'⟩ := ev_plus (d := d + 2) (x := vT 0) (y := vT 3) (e := .num (m * j) :: .num j :: .num n :: .num m :: e) (m := m * j) (n := m) (c1 := 1) (c2 := 1) rfl rfl (by omega)
    exact ⟨_, by omega, call_two (ev_lam _ _ _) h'⟩)
  refine ⟨_, ?_, ev_rec (va := .num 0) (vf := .clo (lamN (appsT plusT [vT 0, vT 3])) (.num n :: .num m :: e)) (n := n) (c1 := 1) (c2 := 1) (c3 := 1) (c := c) rfl rfl rfl (by rw [Nat.zero_add] at h; exact h)⟩
  omega

/-! sub -/
def predR : Tm := recN (nT 4 []) (lamN (lamN (vT 1))) (vT 0)
theorem pred_def : predT = lamN predR := rfl
theorem ev_predR (d n : Nat) (e : List MV) : ∃ c, c ≤ 4 + 2 * n ∧ evS (d + 6) predR (.num n :: e) = some (.num (n - 1), c) := by
  obtain ⟨c, hc, h⟩ := recC_le (ev := evS (d + 5)) (f := .clo (lamN (vT 1)) (.num n :: e)) (fun k => .num (k - 1)) 2 n 0 (fun j _ _ => ⟨_, Nat.le_refl _, call_two (c := 1) (c' := 1) (ev_lam _ _ _) rfl⟩)
  refine ⟨_, ?_, ev_rec (va := .num 0) (vf := .clo (lamN (vT 1)) (.num n :: e)) (n := n) (c1 := 1) (c2 := 1) (c3 := 1) (c := c) rfl rfl rfl (by rw [Nat.zero_add] at h; exact h)⟩
  omega
theorem ev_pred {d : Nat} {x : Tm} {e : List MV} {n c1 : Nat} (hx : evS (d + 6) x e = some (.num n, c1)) : ∃ c, c ≤ 6 + 2 * n + c1 ∧ evS (d + 7) (nT 3 [predT, x]) e = some (.num (n - 1), c) := by
  obtain ⟨c, hc, h⟩ := ev_predR d n e
  refine ⟨_, ?_, ev_app (d := d + 6) (by rw [pred_def]; exact ev_lam _ _ _) hx (call_one h)⟩
  omega
def subR : Tm := recN (vT 1) (lamN (lamN (nT 3 [predT, vT 0]))) (vT 0)
theorem sub_def : subT = lamN (lamN subR) := rfl
theorem ev_subR (d m n : Nat) (e : List MV) : ∃ c, c ≤ 4 + n * (8 + 2 * m) ∧ evS (d + 10) subR (.num n :: .num m :: e) = some (.num (m - n), c) := by
  obtain ⟨c, hc, h⟩ := recC_le (ev := evS (d + 9)) (f := .clo (lamN (nT 3 [predT, vT 0])) (.num n :: .num m :: e)) (fun k => .num (m - k)) (8 + 2 * m) n 0 (fun j _ _ => by
    obtain ⟨c', hc', h'⟩ := ev_pred (d := d + 2) (x := vT 0) (e := .num (m - j) :: .num j :: .num n :: .num m :: e) (n := m - j) (c1 := 1) rfl
    exact ⟨_, by omega, call_two (ev_lam _ _ _) h'⟩)
  refine ⟨_, ?_, ev_rec (va := .num m) (vf := .clo (lamN (nT 3 [predT, vT 0])) (.num n :: .num m :: e)) (n := n) (c1 := 1) (c2 := 1) (c3 := 1) (c := c) rfl rfl rfl (by rw [Nat.zero_add] at h; exact h)⟩
  omega
theorem ev_sub {d : Nat} {x y : Tm} {e : List MV} {m n c1 c2 : Nat} (hx : evS (d + 10) x e = some (.num m, c1)) (hy : evS (d + 11) y e = some (.num n, c2)) : ∃ c, c ≤ 10 + n * (8 + 2 * m) + c1 + c2 ∧ evS (d + 12) (appsT subT [x, y]) e = some (.num (m - n), c) := by
  obtain ⟨c, hc, h⟩ := ev_subR (d + 1) m n e
  have h1 : evS (d + 11) (nT 3 [subT, x]) e = some (.clo subR (.num m :: e), 1 + (1 + (c1 + 0)) + (1 + 0)) := ev_app (d := d + 10) (by rw [sub_def]; exact ev_lam _ _ _) hx (call_one (ev_lam _ _ _))
  refine ⟨_, ?_, ev_app (d := d + 11) h1 hy (call_one h)⟩
  omega

/-! distance -/
def distR : Tm := appsT plusT [appsT subT [vT 1, vT 0], appsT subT [vT 0, vT 1]]
theorem dist_def : distT = lamN (lamN distR) := rfl
theorem ev_distR (d m n : Nat) (hm : m < 20) (hn : n < 20) (e : List MV) : ∃ c, c ≤ 60000 ∧ evS (d + 16) distR (.num n :: .num m :: e) = some (.num (m - n + (n - m)), c) := by
  obtain ⟨c1, h1, e1⟩ := ev_sub (d := d + 2) (x := vT 1) (y := vT 0) (e := .num n :: .num m :: e) (m := m) (n := n) (c1 := 1) (c2 := 1) rfl rfl
  obtain ⟨c2, h2, e2⟩ := ev_sub (d := d + 3) (x := vT 0) (y := vT 1) (e := .num n :: .num m :: e) (m := n) (n := m) (c1 := 1) (c2 := 1) rfl rfl
  obtain ⟨c, hc, h⟩ := ev_plus (d := d + 8) e1 e2 (by omega)
  have q1 : n * (8 + 2 * m) ≤ 20 * 48 := Nat.mul_le_mul (by omega) (by omega)
  have q2 : m * (8 + 2 * n) ≤ 20 * 48 := Nat.mul_le_mul (by omega) (by omega)
  exact ⟨c, by omega, h⟩

theorem call_num2 {d m n k c : Nat} {b : Tm} (h : evS (d + 1) b [.num n, .num m] = some (.num k, c)) : callS (d + 1) (lamN (lamN b)) [.num m, .num n] = some (.num k, 1 + (1 + (c + 0))) := by
  unfold callS
  rw [ev_lam d (lamN b) []]
  simp only
  rw [call_two (ev_lam d b [.num m]) h]

/-- what is asked of the four terms, for m and n -/
def numsL (m n : Nat) : List (Tm × Nat) := [(plusT, m + n), (timesT, m * n), (subT, m - n), (distT, m - n + (n - m))]
theorem nums_facts {m n : Nat} (hm : m < 20) (hn : n < 20) {p : Tm × Nat} (h : p ∈ numsL m n) : p.1.checkN = 0 ∧ p.1.inferN [] = ((FnT [.nat, .nat] .nat).ty, 0) ∧ ∃ c d, c ≤ 65536 ∧ callS d p.1 [.num m, .num n] = some (.num p.2, c) := by
  have q1 : n * (13 + 3 * m) ≤ 20 * 73 := Nat.mul_le_mul (by omega) (by omega)
  have q2 : n * (8 + 2 * m) ≤ 20 * 48 := Nat.mul_le_mul (by omega) (by omega)
  simp only [numsL, List.mem_cons, List.not_mem_nil, or_false] at h
  rcases h with rfl | rfl | rfl | rfl
  · obtain ⟨c, hc, h⟩ := ev_plusR 0 m n []
    exact ⟨by show plusT.checkN = 0; kernel_rfl, by show plusT.inferN [] = ((FnT [.nat, .nat] .nat).ty, 0); kernel_rfl, 1 + (1 + (c + 0)), 6, by omega, by show callS 6 plusT _ = _; rw [plus_def]; exact call_num2 h⟩
  · obtain ⟨c, hc, h⟩ := ev_timesR 0 m n []
    exact ⟨by show timesT.checkN = 0; kernel_rfl, by show timesT.inferN [] = ((FnT [.nat, .nat] .nat).ty, 0); kernel_rfl, 1 + (1 + (c + 0)), 11, by omega, by show callS 11 timesT _ = _; rw [times_def]; exact call_num2 h⟩
  · obtain ⟨c, hc, h⟩ := ev_subR 0 m n []
    exact ⟨by show subT.checkN = 0; kernel_rfl, by show subT.inferN [] = ((FnT [.nat, .nat] .nat).ty, 0); kernel_rfl, 1 + (1 + (c + 0)), 10, by omega, by show callS 10 subT _ = _; rw [sub_def]; exact call_num2 h⟩
  · obtain ⟨c, hc, h⟩ := ev_distR 0 m n hm hn []
    exact ⟨by show distT.checkN = 0; kernel_rfl, by show distT.inferN [] = ((FnT [.nat, .nat] .nat).ty, 0); kernel_rfl, 1 + (1 + (c + 0)), 16, by omega, by show callS 16 distT _ = _; rw [dist_def]; exact call_num2 h⟩
end Go.Proofs.YtgfjcbofbbcnmaaDoor.Lift

namespace Go.Proofs.YtgfjcbofbbcnmaaDoor.Lift
set_option linter.unusedSimpArgs false
set_option linter.unusedVariables false
set_option linter.unnecessarySimpa false
open Go
variable {gl : Globs}

def pairN (p : Tm × Nat) : List DV := [dint p.1.kind, dint p.1.index, dint p.1.type.kind, .sl (p.1.type.args.map Ty.cells), .sl (p.1.args.map Tm.cells), dint (p.2 : Int)]
set_option maxHeartbeats 1000000 in
theorem machineNumbers_ok (har : globOf gl 0 = some arEls) (a b : Int) (ha : 0 ≤ a ∧ a ≤ 255) (hb : 0 ≤ b ∧ b ≤ 255) : Con1 Tryd.prog gl 5 [.prim (.int .u8 a), .prim (.int .u8 b)] [] (dbool true) [] := by
  have qa1 : 0 ≤ a.tmod 20 := Int.tmod_nonneg 20 ha.1
  have qa2 : a.tmod 20 < 20 := Int.tmod_lt_of_pos a (by decide)
  have qb1 : 0 ≤ b.tmod 20 := Int.tmod_nonneg 20 hb.1
  have qb2 : b.tmod 20 < 20 := Int.tmod_lt_of_pos b (by decide)
  obtain ⟨m, hm, hm5⟩ : ∃ m : Nat, a.tmod 20 = m ∧ m < 20 := ⟨(a.tmod 20).toNat, by omega, by omega⟩
  obtain ⟨n, hn1, hn5⟩ : ∃ n : Nat, b.tmod 20 = n ∧ n < 20 := ⟨(b.tmod 20).toNat, by omega, by omega⟩
  have hp : 0 ≤ (m : Int) * n ∧ (m : Int) * n ≤ 400 := by
    have h1 : m * n ≤ 20 * 20 := Nat.mul_le_mul (by omega) (by omega)
    have h2 : (m : Int) * n = ((m * n : Nat) : Int) := by simp
    rw [h2]; omega
  have hw3 : max ((m : Int) - n) 0 = ((m - n : Nat) : Int) := by omega
  have hw4 : max ((m : Int) - n) ((n : Int) - m) = ((m - n : Nat) : Int) + ((n - m : Nat) : Int) := by omega
  have ws := sane06_ok (gl := gl) har
  refine t_in Tryd.func5 ?_
  intro X hP hgl hf hfn hn hR hids hfit
  refine t_g0 ?_
  refine t_c1 trivial ws ?_
  refine t_g (j2 @hm @hn1) ?_
  refine t_c4 (j2 @hw3 @hw4) ref05_plus_ok ref05_times_ok ref05_sub_ok ref05_dist_ok ?_
  have hl4 : (numsL m n).length = 4 := rfl
  refine t_a ?_
  refine W_sub [] (by simp [go_sem]) (by simp [go_sem, numsL, pairN] <;> omega) (by simp [go_sem]) (W_list (numsL m n) (fun done rest => [(.slot 7, .one (.v (.sl [[dint 1, dint (m : Int), .sl [], .sl []], [dint 1, dint (n : Int), .sl [], .sl []]]))), (.slot 53, .one (.v (dint done.length))), (.slot 52, .one (.v (dint (numsL m n).length))), (.slot 51, .one (.v (.sl ((numsL m n).map pairN))))]) ?_ ?_)
  · intro done x rest hL hg0 hnext
    have hlt : done.length < (numsL m n).length := by rw [hL]; simp
    obtain ⟨g1, g2, c, d, g3, g4⟩ := nums_facts hm5 hn5 (List.mem_of_getElem? hg0)
    have w1 := machine_call_ok (gl := gl) har x.1 [.nat, .nat] .nat ((m : Nat), (n : Nat), ()) (x.2 : Nat) c d g4 g1 g2 ⟨trivial, by unfold T.ok; decide, trivial, by unfold T.ok; decide, trivial⟩ (by simp) trivial (by unfold T.ok; decide) 65536 (by decide) 20 (by decide) ⟨by show m ≤ 20; omega, by show n ≤ 20; omega, trivial⟩
    rw [outC_yes (by omega)] at w1
    have w1 : Con1 Tryd.prog gl 15 [x.1.dv, .sl [[dint 1, dint (m : Int), .sl [], .sl []], [dint 1, dint (n : Int), .sl [], .sl []]], dint 65536] [] (.tup [.agg [dint 1, dint (x.2 : Int), .sl [], .sl []], dint (c : Int), dint 0]) [] := w1
    have hgp : ((numsL m n).map pairN)[done.length]? = some (pairN x) := by simp [hg0]
    simp only [pairN] at hgp
    have hfd := Tm.fold x.1
    refine t_rg0 ?_
    refine t_yes ?_
    repeat (first | refine W_seq ?_ | refine W_skip ?_ | refine W_block ?_ | refine W_inBlock ?_ | refine W_label ?_ | refine W_exit rfl ?_ | ((first | refine W_reg [] fun K hK => ?_ | refine W_regd (by rw [hP]; exact mixed) [] fun K hK => ?_); simp [go_sem, hP, hgl, hn, hg0, pairN]; (repeat (refine ⟨by omega, ?_⟩)); (first | refine hK _ ?_ | refine ⟨by rfl, hK _ ?_⟩); clear hK K) | refine W_cond rfl (fun _ => ?_) (fun hq => False.elim (by first | (simp [hg0, pairN]; done) | (simp [hg0, pairN]; omega) | (simp [hg0, pairN] at hq; done) | (simp [hg0, pairN] at hq; omega))) | refine W_cond rfl (fun hq => False.elim (by first | (simp [hg0, pairN]; done) | (simp [hg0, pairN]; omega) | (simp [hg0, pairN] at hq; done) | (simp [hg0, pairN] at hq; omega))) (fun _ => ?_))
    refine t_a ?_
    first | refine W_reg [] fun K hK => ?_ | refine W_regd (by rw [hP]; exact mixed) [] fun K hK => ?_
    simp [go_sem, hP, hgl, hn, hg0, pairN, hfd]
    repeat (refine ⟨by omega, ?_⟩)
    first | refine vcK_call hP hgl (w1) (by simp [go_sem, hP, hgl, hn, hg0, pairN, hfd]) rfl (by simp [go_sem]) (by simp) (by rw [hn]; exact Nat.le_of_ble_eq_true rfl) ?_ | refine vcdC_call (fun _ _ => vcd_sound) hP hgl (w1) (by simp [go_sem, hP, hgl, hn, hg0, pairN, hfd]) rfl (by simp [go_sem]) (by simp) (by rw [hn]; exact Nat.le_of_ble_eq_true rfl) ?_ | refine vcK_callG hP hgl (w1) (by simp [go_sem, hP, hgl, hn, hg0, pairN, hfd]) rfl (by simp [go_sem]) (by simp) (by rw [hn]; exact Nat.le_of_ble_eq_true rfl) (by simp [go_sem]; rfl) (by rw [hn]; exact Nat.le_of_ble_eq_true rfl) (by simp [go_sem]) ?_ | refine vcdC_callG (fun _ _ => vcd_sound) hP hgl (w1) (by simp [go_sem, hP, hgl, hn, hg0, pairN, hfd]) rfl (by simp [go_sem]) (by simp) (by rw [hn]; exact Nat.le_of_ble_eq_true rfl) (by simp [go_sem]; rfl) (by rw [hn]; exact Nat.le_of_ble_eq_true rfl) (by simp [go_sem]) ?_
    simp [go_sem, hP, hgl, hn, hg0, pairN, hfd]
    refine t_e ?_
    clear hK K
    refine t_g0 ?_
    refine t_gt (wr []) trivial @hfd hnext
  · refine t_rg0 ?_
    refine t_no ?_
    refine t_g0 ?_
    refine t_r ?_
    simp [go_sem, hP, hgl, hn] <;> (try omega)
end Go.Proofs.YtgfjcbofbbcnmaaDoor.Lift

