import Derived.Test.YtbmnlkfgkdallaaGreatDoorH3
import Derived.Test.YtbmnlkfgkdallaaGreatDoorF6
namespace Go.Proofs.YtbmnlkfgkdallaaGreatDoor.Lift
set_option linter.unusedSimpArgs false
set_option linter.unusedVariables false
set_option linter.unnecessarySimpa false
open Go
variable {gl : Globs}

theorem checkterm_ok (har : globOf gl 0 = some arEls) (t : Tm) (ht : t.tys) (hc : t.count ≤ 2147483648) : Con1 Tryz.prog gl 89 [t.dv] [] (.tup [dint (if t.checkN = 0 then t.count else 0 : Nat), dint t.checkN]) [] := by
  refine t_in Tryz.func89 ?_
  intro X hP hgl hf hfn hn hR hids hfit
  refine t_g0 ?_
  by_cases h : t.shape = true
  · refine t_a ?_
    first | refine W_reg [] fun K hK => ?_ | refine W_regd (by rw [hP]; exact mixed) [] fun K hK => ?_
    simp [go_sem, hP, hgl, hn, Tm.nodesR, h]
    repeat (refine ⟨by omega, ?_⟩)
    first | refine vcK_call hP hgl (termnodes_ok har t ht hc) (by simp [go_sem, hP, hgl, hn, Tm.nodesR, h]) rfl (by simp [go_sem]) (by simp) (by rw [hn]; exact Nat.le_of_ble_eq_true rfl) ?_ | refine vcdC_call (fun _ _ => vcd_sound) hP hgl (termnodes_ok har t ht hc) (by simp [go_sem, hP, hgl, hn, Tm.nodesR, h]) rfl (by simp [go_sem]) (by simp) (by rw [hn]; exact Nat.le_of_ble_eq_true rfl) ?_ | refine vcK_callG hP hgl (termnodes_ok har t ht hc) (by simp [go_sem, hP, hgl, hn, Tm.nodesR, h]) rfl (by simp [go_sem]) (by simp) (by rw [hn]; exact Nat.le_of_ble_eq_true rfl) (by simp [go_sem]; rfl) (by rw [hn]; exact Nat.le_of_ble_eq_true rfl) (by simp [go_sem]) ?_ | refine vcdC_callG (fun _ _ => vcd_sound) hP hgl (termnodes_ok har t ht hc) (by simp [go_sem, hP, hgl, hn, Tm.nodesR, h]) rfl (by simp [go_sem]) (by simp) (by rw [hn]; exact Nat.le_of_ble_eq_true rfl) (by simp [go_sem]; rfl) (by rw [hn]; exact Nat.le_of_ble_eq_true rfl) (by simp [go_sem]) ?_
    simp [go_sem, hP, hgl, hn, Tm.nodesR, h]
    refine t_e ?_
    clear hK K
    by_cases h2 : 4096 < t.count
    · refine t_g (j2 @h @h2) ?_
      refine t_r ?_
      simp [go_sem, hP, hgl, hn, Tm.checkN, h, h2] <;> (try omega)
    · refine t_g (j2 @h @h2) ?_
      refine t_r ?_
      simp [go_sem, hP, hgl, hn, Tm.checkN, h, h2] <;> (try omega)
  · refine t_a ?_
    first | refine W_reg [] fun K hK => ?_ | refine W_regd (by rw [hP]; exact mixed) [] fun K hK => ?_
    simp [go_sem, hP, hgl, hn, Tm.nodesR, h]
    repeat (refine ⟨by omega, ?_⟩)
    first | refine vcK_call hP hgl (termnodes_ok har t ht hc) (by simp [go_sem, hP, hgl, hn, Tm.nodesR, h]) rfl (by simp [go_sem]) (by simp) (by rw [hn]; exact Nat.le_of_ble_eq_true rfl) ?_ | refine vcdC_call (fun _ _ => vcd_sound) hP hgl (termnodes_ok har t ht hc) (by simp [go_sem, hP, hgl, hn, Tm.nodesR, h]) rfl (by simp [go_sem]) (by simp) (by rw [hn]; exact Nat.le_of_ble_eq_true rfl) ?_ | refine vcK_callG hP hgl (termnodes_ok har t ht hc) (by simp [go_sem, hP, hgl, hn, Tm.nodesR, h]) rfl (by simp [go_sem]) (by simp) (by rw [hn]; exact Nat.le_of_ble_eq_true rfl) (by simp [go_sem]; rfl) (by rw [hn]; exact Nat.le_of_ble_eq_true rfl) (by simp [go_sem]) ?_ | refine vcdC_callG (fun _ _ => vcd_sound) hP hgl (termnodes_ok har t ht hc) (by simp [go_sem, hP, hgl, hn, Tm.nodesR, h]) rfl (by simp [go_sem]) (by simp) (by rw [hn]; exact Nat.le_of_ble_eq_true rfl) (by simp [go_sem]; rfl) (by rw [hn]; exact Nat.le_of_ble_eq_true rfl) (by simp [go_sem]) ?_
    simp [go_sem, hP, hgl, hn, Tm.nodesR, h]
    refine t_e ?_
    clear hK K
    refine t_g @h ?_
    refine t_r ?_
    simp [go_sem, hP, hgl, hn, Tm.checkN, h] <;> (try omega)

theorem termscheck_ok (har : globOf gl 0 = some arEls) (t : Tm) (ht : t.tys) (hc : t.count ≤ 2147483648) : Con1 Tryz.prog gl 65 [t.dv] [] (dint t.checkN) [] := by
  refine t_in Tryz.func65 ?_
  intro X hP hgl hf hfn hn hR hids hfit
  refine t_g0 ?_
  refine t_c1 trivial (checkterm_ok har t ht hc) ?_
  refine t_g0 ?_
  refine t_r ?_
  simp [go_sem, hP, hgl, hn] <;> (try omega)

/-- the number of which a term is the term: how many Succ, and what stands behind them -/
def Tm.peel : Tm → Nat × Int
  | .mk 5 _ _ [a] => ((a.peel).1 + 1, (a.peel).2)
  | t => (0, t.kind)
theorem Tm.peel_succ (t a : Tm) (h : t.kind = 5) (ha : t.args = [a]) : t.peel = (a.peel.1 + 1, a.peel.2) := by
  cases t with
  | mk k i ty l => simp only [kind, args] at h ha; subst h ha; rw [peel]
theorem Tm.peel_no (t : Tm) (h : t.kind ≠ 5) : t.peel = (0, t.kind) := by
  cases t with
  | mk k i ty l =>
    simp only [kind] at h
    unfold peel
    split
    · rename_i h1; simp_all
    · rfl

/-- Succ has one part, all the way down -/
theorem Tm.succ_one {t : Tm} (h : t.shape = true) (hk : t.kind = 5) : ∃ a, t.args = [a] ∧ a.shape = true := by
  rw [shape_eq] at h
  simp only [Bool.and_eq_true, tmKind, decide_eq_true_eq, hk] at h
  have hl : t.args.length = 1 := by have := h.1.1.1.1; simp [arityI] at this; omega
  match hq : t.args, hl with
  | [a], _ =>
    have h2 := h.2
    rw [hq] at h2
    simp [shape.shapes] at h2
    exact ⟨a, rfl, h2⟩

theorem readnumber_ok (t : Tm) (h : t.shape = true) (hc : t.count ≤ 2147483648) : Con1 Tryz.prog gl 90 [t.dv] [] (.tup [dint t.peel.1, dbool (decide (t.peel.2 = 4))]) [] := by
  refine t_in Tryz.func90 ?_
  intro X hP hgl hf hfn hn hR hids hfit
  refine t_g0 ?_
  refine t_a ?_
  refine t_sub [] trivial (W_rounds (fun x : Tm × Nat => t.peel = (x.2 + x.1.peel.1, x.1.peel.2) ∧ x.1.shape = true ∧ x.1.count + x.2 ≤ 2147483648) (fun x : Tm × Nat => [(.slot 4, .one (.v (dint x.2))), (.loc 1, .row ([.v (dint x.1.kind), .v (dint x.1.index), .v (dint x.1.type.kind), .v (.sl (x.1.type.args.map Ty.cells)), .v (.sl (x.1.args.map Tm.cells))])), (.slot 1, .one (.loc 1 0))]) (fun x : Tm × Nat => x.1.count) (t, 0) (⟨by simp, h, hc⟩) ?_)
  rintro ⟨u, i⟩ ⟨hp, hu, hb⟩ ih
  simp only at hp hu hb ⊢
  by_cases hk : u.kind = 5
  · obtain ⟨a, ha, has⟩ := Tm.succ_one hu hk
    have hcu : u.count = 1 + (a.count + 0) := by rw [Tm.count_eq, ha]; rfl
    have hpu := Tm.peel_succ u a hk ha
    have hca := Tm.count_pos a
    refine t_gt (wr []) trivial (j2 @hk @ha) (ih (a, i + 1) ⟨by rw [hp, hpu]; simp; omega, has, by simp only; omega⟩ (by simp only; omega))
  · have hpu := Tm.peel_no u hk
    refine t_g @hk ?_
    refine t_r ?_
    simp [go_sem, hP, hgl, hn, hp, hpu] <;> (try omega)

def zeroV : Val := Val.mk 0 0 [] []

/-- the numbers of a list's term, and what stands behind them; none where one of them is no number -/
def Tm.readL : Tm → Option (List Int × Int)
  | .mk 8 _ _ [h, r] => if h.peel.2 = 4 then (r.readL).map fun p => ((h.peel.1 : Int) :: p.1, p.2) else none
  | t => some ([], t.kind)
theorem Tm.readL_cons (t h r : Tm) (hk : t.kind = 8) (ha : t.args = [h, r]) : t.readL = if h.peel.2 = 4 then (r.readL).map fun p => ((h.peel.1 : Int) :: p.1, p.2) else none := by
  cases t with
  | mk k i ty l => simp only [kind, args] at hk ha; subst hk ha; rw [readL]
theorem Tm.readL_no (t : Tm) (h : t.kind ≠ 8) : t.readL = some ([], t.kind) := by
  cases t with
  | mk k i ty l =>
    simp only [kind] at h
    unfold readL
    split
    · rename_i h1; simp_all
    · rfl

/-- the value of which a term is the term -/
def Tm.readV : Tm → Val × Bool
  | .mk k i ty l =>
    if k = 4 ∨ k = 5 then (Val.mk 1 (Tm.mk k i ty l).peel.1 [] [], decide ((Tm.mk k i ty l).peel.2 = 4))
    else if k = 7 ∨ k = 8 then (match (Tm.mk k i ty l).readL with
      | none => (zeroV, false)
      | some p => (Val.mk 2 0 p.1 [], decide (p.2 = 7)))
    else if k = 13 then (Val.mk 4 0 [] [], true)
    else if k = 10 then (Val.mk 3 0 [] (reads l).1, (reads l).2)
    else (zeroV, false)
where
  reads : List Tm → List Val × Bool
    | [] => ([], true)
    | a :: r => ((a.readV).1 :: (reads r).1, (a.readV).2 && (reads r).2)
theorem Tm.readV_eq (t : Tm) : t.readV = if t.kind = 4 ∨ t.kind = 5 then (Val.mk 1 t.peel.1 [] [], decide (t.peel.2 = 4))
    else if t.kind = 7 ∨ t.kind = 8 then (match t.readL with
      | none => (zeroV, false)
      | some p => (Val.mk 2 0 p.1 [], decide (p.2 = 7)))
    else if t.kind = 13 then (Val.mk 4 0 [] [], true)
    else if t.kind = 10 then (Val.mk 3 0 [] (readV.reads t.args).1, (readV.reads t.args).2)
    else (zeroV, false) := by cases t; rw [readV]; rfl

theorem Tm.two_parts {t : Tm} (h : t.shape = true) (ha : arityI t.kind = 2) : ∃ a b, t.args = [a, b] ∧ a.shape = true ∧ b.shape = true := by
  rw [shape_eq] at h
  simp only [Bool.and_eq_true, tmKind, decide_eq_true_eq] at h
  have hl : t.args.length = 2 := by have := h.1.1.1.1; omega
  match hq : t.args, hl with
  | [a, b], _ =>
    have h2 := h.2
    rw [hq] at h2
    simp [shape.shapes] at h2
    exact ⟨a, b, rfl, h2.1, h2.2⟩

theorem read_ok (t : Tm) (h : t.shape = true) (hc : t.count ≤ 1073741824) : Con1 Tryz.prog gl 66 [t.dv] [] (.tup [t.readV.1.dv, dbool t.readV.2]) [] := by
  induction t using Tm.ind with
  | h t ih =>
  refine t_in Tryz.func66 ?_
  intro X hP hgl hf hfn hn hR hids hfit
  by_cases k4 : t.kind = 4
  · have hfd := Tm.fold t
    rw [k4] at hfd
    have hr : t.readV = (Val.mk 1 t.peel.1 [] [], decide (t.peel.2 = 4)) := by rw [Tm.readV_eq]; simp [k4]
    refine t_g @k4 ?_
    refine t_c1 (j2 @k4 @hfd) (readnumber_ok t h (by omega)) ?_
    refine t_g0 ?_
    refine t_r ?_
    simp [go_sem, hP, hgl, hn, hr] <;> (try omega)
    all_goals exact t_f
  by_cases k5 : t.kind = 5
  · have hfd := Tm.fold t
    rw [k5] at hfd
    have hr : t.readV = (Val.mk 1 t.peel.1 [] [], decide (t.peel.2 = 4)) := by rw [Tm.readV_eq]; simp [k5]
    refine t_g @k5 ?_
    refine t_c1 (j2 @k5 @hfd) (readnumber_ok t h (by omega)) ?_
    refine t_g0 ?_
    refine t_r ?_
    simp [go_sem, hP, hgl, hn, hr] <;> (try omega)
    all_goals exact t_f
  by_cases k13 : t.kind = 13
  · refine t_g @k13 ?_
    refine t_r ?_
    simp [go_sem, hP, hgl, hn, Tm.readV_eq, k13] <;> (try omega)
    all_goals exact t_f
  by_cases k10 : t.kind = 10
  · obtain ⟨a, b, ha, sa, sb⟩ := Tm.two_parts h (by rw [k10]; rfl)
    have hcu : t.count = 1 + (a.count + (b.count + 0)) := by rw [Tm.count_eq, ha]; rfl
    refine t_g @k10 ?_
    refine t_c1 (j2 @k10 @ha) (ih a (by rw [ha]; simp) sa (by omega)) ?_
    refine t_g0 ?_
    refine t_c1 (j2 @k10 @ha) (ih b (by rw [ha]; simp) sb (by omega)) ?_
    have hr : t.readV = (Val.mk 3 0 [] [a.readV.1, b.readV.1], (a.readV.2 && (b.readV.2 && true))) := by rw [Tm.readV_eq]; simp [k10, ha, Tm.readV.reads]
    by_cases hb : a.readV.2 = true
    · refine t_g @hb ?_
      refine t_r ?_
      simp [go_sem, hP, hgl, hn, hr, hb] <;> (try omega)
      all_goals exact t_f
    · refine t_g @hb ?_
      refine t_r ?_
      simp [go_sem, hP, hgl, hn, hr, hb] <;> (try omega)
      all_goals exact t_f
  by_cases k78 : t.kind = 7 ∨ t.kind = 8
  · have hr : t.readV = (match t.readL with
      | none => (zeroV, false)
      | some p => (Val.mk 2 0 p.1 [], decide (p.2 = 7))) := by
      rw [Tm.readV_eq]; rw [if_neg (by omega), if_pos k78]
    refine t_g (j2 @k4 @k5) ?_
    repeat (first | refine W_seq ?_ | refine W_skip ?_ | refine W_inBlock ?_ | refine W_label ?_)
    refine W_cut [(.slot 26, .one (.v (dbool true))), (.loc 1, .row ([.v (dint t.kind), .v (dint t.index), .v (dint t.type.kind), .v (.sl (t.type.args.map Ty.cells)), .v (.sl (t.args.map Tm.cells))])), (.slot 1, .one (.loc 1 0)), (.loc 2, .row ([.v (dint 0), .v (dint 0), .own 0 [], .own 0 []])), (.slot 2, .one (.loc 2 0)), (.slot 3, .one (.v (dbool false)))] ?_ ?_
    · intro hrest
      by_cases k7 : t.kind = 7
      · refine t_gt (wr []) @k7 @k7 hrest
      · have k8 : t.kind = 8 := by omega
        refine t_gt (wr []) @k8 @k8 hrest
    · refine t_g0 ?_
      refine t_a ?_
      refine W_sub [(1006, 0)] (by simp [go_sem]) (by simp [go_sem, ints] <;> omega) (by simp [go_sem]) (W_rounds (fun x : Tm × List Int => t.readL = (x.1.readL).map (fun p => (x.2 ++ p.1, p.2)) ∧ x.1.shape = true ∧ x.1.count + x.2.length ≤ 1073741824) (fun x : Tm × List Int => [(.loc 6, .row ([.v (dint 2), .v (dint 0), .own 1006 (ints x.2), .own 0 []])), (.slot 6, .one (.loc 6 0)), (.tok 1006, .tk 1 x.2.length), (.loc 1, .row ([.v (dint x.1.kind), .v (dint x.1.index), .v (dint x.1.type.kind), .v (.sl (x.1.type.args.map Ty.cells)), .v (.sl (x.1.args.map Tm.cells))])), (.slot 1, .one (.loc 1 0)), (.loc 2, .row ([.v (dint 0), .v (dint 0), .own 0 [], .own 0 []])), (.slot 2, .one (.loc 2 0)), (.slot 3, .one (.v (dbool false)))]) (fun x : Tm × List Int => x.1.count) (t, []) (⟨by cases t.readL <;> simp, h, by simpa using hc⟩) ?_)
      rintro ⟨u, l⟩ ⟨hp, hu, hb⟩ ih2
      simp only at hp hu hb ⊢
      by_cases k8 : u.kind = 8
      · obtain ⟨x, r, ha, sx, sr⟩ := Tm.two_parts hu (by rw [k8]; rfl)
        have hcu : u.count = 1 + (x.count + (r.count + 0)) := by rw [Tm.count_eq, ha]; rfl
        have hcx := Tm.count_pos x
        have hrl := Tm.readL_cons u x r k8 ha
        refine t_g @k8 ?_
        refine t_c1 (j2 @k8 @ha) (readnumber_ok x sx (by omega)) ?_
        by_cases h4 : x.peel.2 = 4
        · rw [if_pos h4] at hrl
          repeat (first | (refine W_sub [(1006, 48)] (by simp [go_sem]) (by simp [go_sem, ints] <;> omega) (by simp [go_sem]) (ih2 (r, l ++ [(x.peel.1 : Int)]) ⟨by rw [hp, hrl]; cases r.readL <;> simp, sr, by simp only [List.length_append, List.length_singleton]; omega⟩ (by simp only; omega))) | refine W_seq ?_ | refine W_skip ?_ | refine W_block ?_ | refine W_inBlock ?_ | refine W_label ?_ | refine W_exit rfl ?_ | ((first | refine W_reg [] fun K hK => ?_ | refine W_regd (by rw [hP]; exact mixed) [] fun K hK => ?_); simp [go_sem, hP, hgl, hn, h4, ha]; (repeat (refine ⟨by omega, ?_⟩)); (first | refine hK _ ?_ | refine ⟨by rfl, hK _ ?_⟩); clear hK K) | refine W_cond rfl (fun _ => ?_) (fun hq => False.elim (by first | (simp [h4, ha]; done) | (simp [h4, ha]; omega) | (simp [h4, ha] at hq; done) | (simp [h4, ha] at hq; omega))) | refine W_cond rfl (fun hq => False.elim (by first | (simp [h4, ha]; done) | (simp [h4, ha]; omega) | (simp [h4, ha] at hq; done) | (simp [h4, ha] at hq; omega))) (fun _ => ?_))
        · rw [if_neg h4] at hrl
          refine t_g @h4 ?_
          refine t_r ?_
          simp [go_sem, hP, hgl, hn, hr, hp, hrl, zeroV] <;> (try omega)
          all_goals exact t_f
      · have hrl := Tm.readL_no u k8
        refine t_g @k8 ?_
        refine t_r ?_
        simp [go_sem, hP, hgl, hn, hr, hp, hrl] <;> (try omega)
        all_goals exact t_f
  · have k7 : t.kind ≠ 7 := fun e => k78 (.inl e)
    have k8 : t.kind ≠ 8 := fun e => k78 (.inr e)
    refine t_g (j2 @k4 (j2 @k5 (j2 @k7 (j2 @k8 (j2 @k13 @k10))))) ?_
    refine t_r ?_
    simp [go_sem, hP, hgl, hn, Tm.readV_eq, k4, k5, k7, k8, k13, k10, zeroV] <;> (try omega)
    all_goals exact t_f
end Go.Proofs.YtbmnlkfgkdallaaGreatDoor.Lift
