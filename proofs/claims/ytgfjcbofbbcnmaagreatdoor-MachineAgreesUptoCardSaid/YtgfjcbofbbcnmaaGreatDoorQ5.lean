import Derived.Test.YtgfjcbofbbcnmaaGreatDoorQ4
namespace Go.Proofs.YtgfjcbofbbcnmaaGreatDoor.Lift
set_option linter.unusedSimpArgs false
set_option linter.unusedVariables false
set_option linter.unnecessarySimpa false
open Go
variable {gl : Globs}

theorem number5_ok (t : Tm) (h : t.shape = true) (hc : t.count ≤ 2147483648) : Con1 Tryz.prog gl 57 [t.dv] [] (.tup [dint t.peel.1, dbool (decide (t.peel.2 = 4))]) [] := by
  refine t_in Tryz.func57 ?_
  intro X hP hgl hf hfn hn hR hids hfit
  refine t_g0 ?_
  refine t_a ?_
  refine t_sub [] trivial (W_rounds (fun x : Tm × Nat => t.peel = (x.2 + x.1.peel.1, x.1.peel.2) ∧ x.1.shape = true ∧ x.1.count + x.2 ≤ 2147483648) (fun x : Tm × Nat => [(.slot 4, .one (.v (dint x.2))), (.slot 2, .one (.v (dint 0))), (.slot 3, .one (.v (dbool false))), (.loc 1, .row ([.v (dint x.1.kind), .v (dint x.1.index), .v (dint x.1.type.kind), .v (.sl (x.1.type.args.map Ty.cells)), .v (.sl (x.1.args.map Tm.cells))])), (.slot 1, .one (.loc 1 0))]) (fun x : Tm × Nat => x.1.count) (t, 0) (⟨by simp, h, hc⟩) ?_)
  rintro ⟨u, i⟩ ⟨hp, hu, hb⟩ ih
  simp only at hp hu hb ⊢
  by_cases hk : u.kind = 5
  · obtain ⟨a, ha, has⟩ := Tm.succ_one hu hk
    have hcu : u.count = 1 + (a.count + 0) := by rw [Tm.count_eq, ha]; rfl
    have hpu := Tm.peel_succ u a hk ha
    have hca := Tm.count_pos a
    refine t_gt (wr []) trivial (j2 @hk @ha) (ih (a, i + 1) ⟨by rw [hp, hpu]; simp; omega, has, by simp only; omega⟩ (by simp only; omega))
  · have hpu := Tm.peel_no u hk
    refine t_g @hk ?_
    refine t_r ?_
    simp [go_sem, hP, hgl, hn, hp, hpu] <;> (try omega)

/-- the value of which a term is the term, as the document reads it: it differs where there is none -/
def Tm.readR : Tm → Val × Bool
  | .mk k i ty l =>
    if k = 4 ∨ k = 5 then (Val.mk 1 (Tm.mk k i ty l).peel.1 [] [], decide ((Tm.mk k i ty l).peel.2 = 4))
    else if k = 7 ∨ k = 8 then (match (Tm.mk k i ty l).readL with
      | none => (zeroV, false)
      | some p => (Val.mk 2 0 p.1 [], decide (p.2 = 7)))
    else if k = 10 then (Val.mk 3 0 [] (reads l).1, (reads l).2)
    else (Val.mk 4 0 [] [], decide (k = 13))
where
  reads : List Tm → List Val × Bool
    | [] => ([], true)
    | a :: r => ((a.readR).1 :: (reads r).1, (a.readR).2 && (reads r).2)
theorem Tm.readR_eq (t : Tm) : t.readR = if t.kind = 4 ∨ t.kind = 5 then (Val.mk 1 t.peel.1 [] [], decide (t.peel.2 = 4))
    else if t.kind = 7 ∨ t.kind = 8 then (match t.readL with
      | none => (zeroV, false)
      | some p => (Val.mk 2 0 p.1 [], decide (p.2 = 7)))
    else if t.kind = 10 then (Val.mk 3 0 [] (readR.reads t.args).1, (readR.reads t.args).2)
    else (Val.mk 4 0 [] [], decide (t.kind = 13)) := by cases t; rw [readR]; rfl
theorem Tm.readR_V (t : Tm) : t.readR.2 = t.readV.2 ∧ (t.readV.2 = true → t.readR.1 = t.readV.1) := by
  induction t using Tm.ind with
  | h t ih =>
  rw [readR_eq, readV_eq]
  split
  · exact ⟨rfl, fun _ => rfl⟩
  split
  · cases t.readL <;> exact ⟨rfl, fun _ => rfl⟩
  by_cases h13 : t.kind = 13
  · have h10 : ¬ t.kind = 10 := by omega
    simp [h13]
  by_cases h10 : t.kind = 10
  · rw [if_pos h10, if_neg h13, if_pos h10]
    have key : ∀ l : List Tm, (∀ a ∈ l, a ∈ t.args) → (readR.reads l).2 = (readV.reads l).2 ∧ ((readV.reads l).2 = true → (readR.reads l).1 = (readV.reads l).1) := by
      intro l
      induction l with
      | nil => intro _; exact ⟨rfl, fun _ => rfl⟩
      | cons a r ihr =>
        intro h
        obtain ⟨a1, a2⟩ := ih a (h a (by simp))
        obtain ⟨b1, b2⟩ := ihr fun b hb => h b (by simp [hb])
        simp only [readR.reads, readV.reads]
        refine ⟨by rw [a1, b1], fun hh => ?_⟩
        rw [Bool.and_eq_true] at hh
        rw [a2 hh.1, b2 hh.2]
    obtain ⟨k1, k2⟩ := key t.args fun _ h => h
    exact ⟨k1, fun hh => by simp only at hh ⊢; rw [k2 hh]⟩
  · simp [h13, h10]
theorem Tm.readR_count (t : Tm) : t.readR.1.count ≤ t.count := by
  induction t using Tm.ind with
  | h t ih =>
  have one : ∀ k n l, (Val.mk k n l []).count = 1 := fun k n l => rfl
  have hp := count_pos t
  rw [readR_eq]
  split
  · simp only [one]; omega
  split
  · split <;> simp only [zeroV, one] <;> omega
  split
  · have key : ∀ l : List Tm, (∀ a ∈ l, a ∈ t.args) → Val.count.counts (readR.reads l).1 ≤ count.counts l := by
      intro l
      induction l with
      | nil => intro _; exact Nat.le_refl _
      | cons a r ihr =>
        intro h
        have h1 := ih a (h a (by simp))
        have h2 := ihr fun b hb => h b (by simp [hb])
        simp only [readR.reads, Val.count.counts, count.counts]
        omega
    have := key t.args fun _ h => h
    rw [count_eq t, Val.count_eq]
    simp only [Val.args]
    omega
  · simp only [one]; omega

theorem Tm.readL_pos (t : Tm) : ∀ p, t.readL = some p → ∀ n ∈ p.1, 0 ≤ n := by
  induction t using Tm.ind with
  | h t ih =>
  intro p hp n hn
  by_cases hk : t.kind = 8 ∧ ∃ x r, t.args = [x, r]
  · obtain ⟨hk, x, r, ha⟩ := hk
    rw [readL_cons t x r hk ha] at hp
    split at hp
    · cases hr : r.readL with
      | none => rw [hr] at hp; cases hp
      | some q =>
        rw [hr] at hp
        cases hp
        rcases List.mem_cons.1 hn with rfl | hn
        · omega
        · exact ih r (by rw [ha]; simp) q hr n hn
    · cases hp
  · have : t.readL = some ([], t.kind) := by
      cases t with
      | mk k i ty l =>
        unfold readL
        split
        · rename_i h1
          cases h1
          exact absurd ⟨rfl, _, _, rfl⟩ hk
        · rfl
    rw [this] at hp
    cases hp
    cases hn
theorem Tm.readV_valid (t : Tm) (h : t.shape = true) (hv : t.readV.2 = true) : t.readV.1.nodesN.2 = true := by
  induction t using Tm.ind with
  | h t ih =>
  rw [readV_eq] at hv ⊢
  split at hv
  · rename_i h1
    rw [if_pos h1, Val.nodes_flat rfl]
    simp [Val.okB, Val.kind, Val.num, Val.list, Val.args]
  rename_i h1
  rw [if_neg h1]
  split at hv
  · rename_i h2
    rw [if_pos h2]
    cases hr : t.readL with
    | none => rw [hr] at hv; cases hv
    | some p =>
      have hpos := readL_pos t p hr
      rw [Val.nodes_flat rfl]
      simp [Val.okB, Val.kind, Val.num, Val.list, Val.args]
      exact hpos
  rename_i h2
  rw [if_neg h2]
  split at hv
  · rename_i h3
    rw [if_pos h3]
    rfl
  rename_i h3
  rw [if_neg h3]
  split at hv
  · rename_i h4
    rw [if_pos h4]
    obtain ⟨a, b, ha, sa, sb⟩ := Tm.two_parts h (by rw [h4]; rfl)
    rw [ha] at hv ⊢
    simp only [readV.reads, Bool.and_true, Bool.and_eq_true] at hv ⊢
    rw [Val.nodes_pair (v := Val.mk 3 0 [] [a.readV.1, b.readV.1]) rfl, ih a (by rw [ha]; simp) sa hv.1, ih b (by rw [ha]; simp) sb hv.2]
    rfl
  · cases hv

set_option maxHeartbeats 1000000 in
theorem read5_ok (t : Tm) (h : t.shape = true) (hc : t.count ≤ 1073741824) : Con1 Tryz.prog gl 35 [t.dv] [] (.tup [t.readR.1.dv, dbool t.readR.2]) [] := by
  induction t using Tm.ind with
  | h t ih =>
  refine t_in Tryz.func35 ?_
  intro X hP hgl hf hfn hn hR hids hfit
  by_cases k4 : t.kind = 4
  · have hfd := Tm.fold t
    rw [k4] at hfd
    have hr : t.readR = (Val.mk 1 t.peel.1 [] [], decide (t.peel.2 = 4)) := by rw [Tm.readR_eq]; simp [k4]
    refine t_g @k4 ?_
    refine t_c1 (j2 @k4 @hfd) (number5_ok t h (by omega)) ?_
    refine t_g0 ?_
    refine t_r ?_
    simp [go_sem, hP, hgl, hn, hr] <;> (try omega)
    all_goals exact t_f
  by_cases k5 : t.kind = 5
  · have hfd := Tm.fold t
    rw [k5] at hfd
    have hr : t.readR = (Val.mk 1 t.peel.1 [] [], decide (t.peel.2 = 4)) := by rw [Tm.readR_eq]; simp [k5]
    refine t_g @k5 ?_
    refine t_c1 (j2 @k5 @hfd) (number5_ok t h (by omega)) ?_
    refine t_g0 ?_
    refine t_r ?_
    simp [go_sem, hP, hgl, hn, hr] <;> (try omega)
    all_goals exact t_f
  by_cases k10 : t.kind = 10
  · obtain ⟨a, b, ha, sa, sb⟩ := Tm.two_parts h (by rw [k10]; rfl)
    have hcu : t.count = 1 + (a.count + (b.count + 0)) := by rw [Tm.count_eq, ha]; rfl
    refine t_g @k10 ?_
    refine t_c1 (j2 @k10 @ha) (ih a (by rw [ha]; simp) sa (by omega)) ?_
    refine t_g0 ?_
    refine t_c1 (j2 @k10 @ha) (ih b (by rw [ha]; simp) sb (by omega)) ?_
    have hr : t.readR = (Val.mk 3 0 [] [a.readR.1, b.readR.1], (a.readR.2 && (b.readR.2 && true))) := by rw [Tm.readR_eq]; simp [k10, ha, Tm.readR.reads]
    by_cases hb : a.readR.2 = true
    · refine t_g @hb ?_
      refine t_r ?_
      simp [go_sem, hP, hgl, hn, hr, hb] <;> (try omega)
      all_goals exact t_f
    · refine t_g @hb ?_
      refine t_r ?_
      simp [go_sem, hP, hgl, hn, hr, hb] <;> (try omega)
      all_goals exact t_f
  by_cases k78 : t.kind = 7 ∨ t.kind = 8
  · have hr : t.readR = (match t.readL with
      | none => (zeroV, false)
      | some p => (Val.mk 2 0 p.1 [], decide (p.2 = 7))) := by
      rw [Tm.readR_eq]; rw [if_neg (by omega), if_pos k78]
    refine t_g (j2 @k4 @k5) ?_
    repeat (first | refine W_seq ?_ | refine W_skip ?_ | refine W_inBlock ?_ | refine W_label ?_)
    refine W_cut [(.slot 26, .one (.v (dbool true))), (.loc 1, .row ([.v (dint t.kind), .v (dint t.index), .v (dint t.type.kind), .v (.sl (t.type.args.map Ty.cells)), .v (.sl (t.args.map Tm.cells))])), (.slot 1, .one (.loc 1 0)), (.loc 2, .row ([.v (dint 0), .v (dint 0), .own 0 [], .own 0 []])), (.slot 2, .one (.loc 2 0)), (.slot 3, .one (.v (dbool false)))] ?_ ?_
    · intro hrest
      by_cases k7 : t.kind = 7
      · refine t_gt (wr []) @k7 @k7 hrest
      · have k8 : t.kind = 8 := by omega
        refine t_gt (wr []) @k8 @k8 hrest
    · refine t_g0 ?_
      refine t_a ?_
      refine W_sub [(1006, 0)] (by simp [go_sem]) (by simp [go_sem, ints] <;> omega) (by simp [go_sem]) (W_rounds (fun x : Tm × List Int => t.readL = (x.1.readL).map (fun p => (x.2 ++ p.1, p.2)) ∧ x.1.shape = true ∧ x.1.count + x.2.length ≤ 1073741824) (fun x : Tm × List Int => [(.loc 6, .row ([.v (dint 2), .v (dint 0), .own 1006 (ints x.2), .own 0 []])), (.slot 6, .one (.loc 6 0)), (.tok 1006, .tk 1 x.2.length), (.loc 1, .row ([.v (dint x.1.kind), .v (dint x.1.index), .v (dint x.1.type.kind), .v (.sl (x.1.type.args.map Ty.cells)), .v (.sl (x.1.args.map Tm.cells))])), (.slot 1, .one (.loc 1 0)), (.loc 2, .row ([.v (dint 0), .v (dint 0), .own 0 [], .own 0 []])), (.slot 2, .one (.loc 2 0)), (.slot 3, .one (.v (dbool false)))]) (fun x : Tm × List Int => x.1.count) (t, []) (⟨by cases t.readL <;> simp, h, by simpa using hc⟩) ?_)
      rintro ⟨u, l⟩ ⟨hp, hu, hb⟩ ih2
      simp only at hp hu hb ⊢
      by_cases k8 : u.kind = 8
      · obtain ⟨x, r, ha, sx, sr⟩ := Tm.two_parts hu (by rw [k8]; rfl)
        have hcu : u.count = 1 + (x.count + (r.count + 0)) := by rw [Tm.count_eq, ha]; rfl
        have hcx := Tm.count_pos x
        have hrl := Tm.readL_cons u x r k8 ha
        refine t_g @k8 ?_
        refine t_c1 (j2 @k8 @ha) (number5_ok x sx (by omega)) ?_
        by_cases h4 : x.peel.2 = 4
        · rw [if_pos h4] at hrl
          repeat (first | (refine W_sub [(1006, 48)] (by simp [go_sem]) (by simp [go_sem, ints] <;> omega) (by simp [go_sem]) (ih2 (r, l ++ [(x.peel.1 : Int)]) ⟨by rw [hp, hrl]; cases r.readL <;> simp, sr, by simp only [List.length_append, List.length_singleton]; omega⟩ (by simp only; omega))) | refine W_seq ?_ | refine W_skip ?_ | refine W_block ?_ | refine W_inBlock ?_ | refine W_label ?_ | refine W_exit rfl ?_ | ((first | refine W_reg [] fun K hK => ?_ | refine W_regd (by rw [hP]; exact mixed) [] fun K hK => ?_); simp [go_sem, hP, hgl, hn, h4, ha]; (repeat (refine ⟨by omega, ?_⟩)); (first | refine hK _ ?_ | refine ⟨by rfl, hK _ ?_⟩); clear hK K) | refine W_cond rfl (fun _ => ?_) (fun hq => False.elim (by first | (simp [h4, ha]; done) | (simp [h4, ha]; omega) | (simp [h4, ha] at hq; done) | (simp [h4, ha] at hq; omega))) | refine W_cond rfl (fun hq => False.elim (by first | (simp [h4, ha]; done) | (simp [h4, ha]; omega) | (simp [h4, ha] at hq; done) | (simp [h4, ha] at hq; omega))) (fun _ => ?_))
        · rw [if_neg h4] at hrl
          refine t_g @h4 ?_
          refine t_r ?_
          simp [go_sem, hP, hgl, hn, hr, hp, hrl, zeroV] <;> (try omega)
          all_goals exact t_f
      · have hrl := Tm.readL_no u k8
        refine t_g @k8 ?_
        refine t_r ?_
        simp [go_sem, hP, hgl, hn, hr, hp, hrl] <;> (try omega)
        all_goals exact t_f
  · have k7 : t.kind ≠ 7 := fun e => k78 (.inl e)
    have k8 : t.kind ≠ 8 := fun e => k78 (.inr e)
    refine t_g (j2 @k4 (j2 @k5 (j2 @k7 (j2 @k8 @k10)))) ?_
    refine t_r ?_
    simp [go_sem, hP, hgl, hn, Tm.readR_eq, k4, k5, k7, k8, k10] <;> (try omega)
    all_goals exact t_f

theorem readE5_ok (t : Tm) (ht : t.tys) (hc : t.count ≤ 1073741824) : Con1 Tryz.prog gl 11 [t.dv] [] (.tup [t.readE.1.dv, dint t.readE.2]) [] := by
  refine t_in Tryz.func11 ?_
  intro X hP hgl hf hfn hn hR hids hfit
  refine t_g0 ?_
  refine t_c1 trivial (ref02_check_ok t ht (by omega)) ?_
  by_cases h : t.checkN = 0
  · have hsh : t.shape = true := by
      unfold Tm.checkN at h
      split at h
      · assumption
      · cases h
    have hcv := t.readR_count
    obtain ⟨hr2, hr1⟩ := t.readR_V
    refine t_g @h ?_
    refine t_c1 trivial (read5_ok t hsh hc) ?_
    by_cases h2 : t.readV.2 = true
    · have hval := t.readV_valid hsh h2
      have hnc := Val.nodes_count _ hval
      rw [h2] at hr2
      have hr1' := hr1 h2
      refine t_g @hr2 ?_
      refine t_c1 trivial (nodes5_ok t.readR.1 (by omega)) ?_
      by_cases h3 : 64 < t.readR.1.count
      · have h4 : 64 < t.readV.1.nodesN.1 := by rw [hnc, ← hr1']; omega
        refine t_g @h3 ?_
        refine t_r ?_
        simp [go_sem, hP, hgl, hn, Tm.readE, h, h2, h4, zeroV] <;> (try omega)
        all_goals exact t_f
      · have h4 : ¬ 64 < t.readV.1.nodesN.1 := by rw [hnc, ← hr1']; omega
        refine t_g @h3 ?_
        refine t_r ?_
        simp [go_sem, hP, hgl, hn, Tm.readE, h, h2, h4, hr1'] <;> (try omega)
    · have h2' : t.readV.2 = false := by simpa using h2
      rw [h2'] at hr2
      refine t_g @hr2 ?_
      refine t_r ?_
      simp [go_sem, hP, hgl, hn, Tm.readE, h, h2', zeroV] <;> (try omega)
      all_goals exact t_f
  · refine t_g @h ?_
    refine t_r ?_
    simp [go_sem, hP, hgl, hn, Tm.readE, h, zeroV] <;> (try omega)
    all_goals exact t_f

end Go.Proofs.YtgfjcbofbbcnmaaGreatDoor.Lift

namespace Go.Proofs.YtgfjcbofbbcnmaaGreatDoor.Lift
set_option linter.unusedSimpArgs false
set_option linter.unusedVariables false
set_option linter.unnecessarySimpa false
open Go
variable {gl : Globs}

/-! sizes of what is drawn, and of the terms of values -/
theorem shape_tys (t : Tm) (h : t.shape = true) : t.tys := by
  induction t using Tm.ind with
  | h t ih =>
  obtain ⟨-, -, -, h4, h5⟩ := Tm.shape_node h
  rw [Tm.tys_eq]
  refine ⟨?_, fun a ha => ih a ha (h5 a ha)⟩
  split at h4
  · have := h4.2; omega
  · unfold Ty.zero at h4
    simp at h4
    rw [Ty.count_eq, h4.2]
    decide

theorem pickD_count {l : List Int} {t : Ty} {g : List Ty} {p q : Nat} {x : Tm} (h : pickD l t g p = (some x, q)) : x.count = 1 := by
  obtain ⟨i, rfl, -⟩ := pickD_some h
  rfl
theorem numD_count (l : List Int) (p : Nat) : (numD l p).1.count ≤ 3 := by
  have := nextD_bd (l := l) (p := p) (n := 3) (by decide)
  show (numTm _).count ≤ 3
  rw [numTm_count]
  omega
theorem leafD_count (l : List Int) (t : Ty) : t.small → ∀ (g : List Ty) (p : Nat), (leafD l t g p).1.count ≤ 3 * t.count := by
  generalize hn : t.count = n
  induction n using Nat.strongRecOn generalizing t with
  | _ n ih =>
  intro ht g p
  have h1 : 1 ≤ t.count := by rw [Ty.count_eq]; omega
  rw [leafD_eq l t g p ht.ok]
  split
  · rename_i x q hx
    have := pickD_count hx
    simp only; omega
  · rename_i q hx
    have hN := numD_count l q
    rcases small_kinds ht with ⟨h, e⟩ | ⟨h, e⟩ | ⟨h, e⟩ | ⟨h, e⟩ | ⟨h, e⟩
    · rw [if_pos h]; omega
    · rw [if_neg (by omega), if_pos h]; show 1 + 0 ≤ _; omega
    · rw [if_neg (by omega), if_neg (by omega), if_neg (by omega), if_neg (by omega)]; show 1 + 0 ≤ _; omega
    · rw [if_neg (by omega), if_neg (by omega), if_pos h]
      obtain ⟨s0, s1, hc⟩ := ht.arg (.inl h)
      have a := ih _ (by omega) (t.arg 0) rfl s0 g q
      have b := ih _ (by omega) (t.arg 1) rfl s1 g (leafD l (t.arg 0) g q).2
      show 1 + (_ + (_ + 0)) ≤ _
      omega
    · rw [if_neg (by omega), if_neg (by omega), if_neg (by omega), if_pos h]
      obtain ⟨s0, s1, hc⟩ := ht.arg (.inr h)
      have b := ih _ (by omega) (t.arg 1) rfl s1 (g ++ [t.arg 0]) q
      show 1 + (_ + 0) ≤ _
      omega

def Small (l : List Int) (F : Ty → List Ty → Nat → Tm × Nat) (B : Nat) : Prop := ∀ t g p, t.small → (∀ x ∈ g, x.small) → p ≤ l.length → (F t g p).1.count ≤ B
theorem plusT_count : plusT.count = 9 := by decide
theorem subT_count : subT.count ≤ 16 := by decide
theorem app2_count (f x y : Tm) : (appsT f [x, y]).count = 2 + f.count + x.count + y.count := by
  show 1 + ((1 + (f.count + (x.count + 0))) + (y.count + 0)) = _
  omega
theorem endD_count {l : List Int} {F : Ty → List Ty → Nat → Tm × Nat} {B : Nat} (hD : Draws l F (fun _ _ x => x.shape = true)) (hF : Small l F B) : Small l (endD l F) (2 * B + 20) := by
  intro t g q ht hg hq
  have h5 := nextD_le (n := 5) hq
  have h2 := nextD_le (n := 2) hq
  have c1 := hF t g (nextD l q 5).2 ht hg h5
  have d1 := (hD t g (nextD l q 5).2 ht hg h5).1
  have c2 := hF t g _ ht hg d1
  have e1 := hF (Ty.mk 1 []) g (nextD l q 2).2 small_nat hg h2
  have f1 := (hD (Ty.mk 1 []) g (nextD l q 2).2 small_nat hg h2).1
  have e2 := hF t g _ ht hg f1
  have hN := numD_count l (nextD l q 5).2
  have hp := plusT_count
  have hs := subT_count
  unfold endD
  split
  · split
    · show 1 + (_ + 0) ≤ _; omega
    split
    · simp only [app2_count]; omega
    split
    · simp only [app2_count]; omega
    · omega
  split
  · split
    · show 1 + (_ + (_ + 0)) ≤ _; omega
    · show 1 + 0 ≤ _; omega
  split
  · rename_i h
    obtain ⟨s0, s1, -⟩ := ht.arg (.inl h)
    have a1 := hF (t.arg 0) g q s0 hg hq
    have a2 := hF (t.arg 1) g _ s1 hg (hD (t.arg 0) g q s0 hg hq).1
    show 1 + (_ + (_ + 0)) ≤ _; omega
  split
  · rename_i h
    obtain ⟨s0, s1, -⟩ := ht.arg (.inr h)
    have a2 := hF (t.arg 1) (g ++ [t.arg 0]) q s1 (by intro x hx; rcases List.mem_append.1 hx with hx | hx; exact hg x hx; rw [List.mem_singleton.1 hx]; exact s0) hq
    show 1 + (_ + 0) ≤ _; omega
  · show 1 + 0 ≤ _; omega
end Go.Proofs.YtgfjcbofbbcnmaaGreatDoor.Lift

namespace Go.Proofs.YtgfjcbofbbcnmaaGreatDoor.Lift
set_option linter.unusedSimpArgs false
set_option linter.unusedVariables false
set_option linter.unnecessarySimpa false
open Go

/-! functions of plain types with values for them, as they are drawn -/
theorem plainD_T (l : List Int) (p : Nat) : ∃ a : T, (plainD l p).1 = a.ty ∧ a.plain ∧ a.size ≤ 3 := by
  rcases plainD_cases l p with h | h | h | h | h
  · exact ⟨.nat, h, trivial, by decide⟩
  · exact ⟨.list, h, trivial, by decide⟩
  · exact ⟨.unit, h, trivial, by decide⟩
  · exact ⟨.pair .nat .list, h, ⟨trivial, trivial⟩, by decide⟩
  · exact ⟨.pair .nat .nat, h, ⟨trivial, trivial⟩, by decide⟩
theorem small_ty {a : T} (h : a.size ≤ 15) : a.ty.small := ⟨T.ty_shape a, by rw [T.ty_count]; exact h⟩
theorem plainD_le {l : List Int} {p : Nat} (h : p ≤ l.length) : (plainD l p).2 ≤ l.length := nextD_le (n := 6) h

end Go.Proofs.YtgfjcbofbbcnmaaGreatDoor.Lift

/-
  Part W of the small logic: a box whose cells are data from the start (it is never written): its address is a datum.
-/
namespace Go.Proofs.YtgfjcbofbbcnmaaGreatDoor.Lift
set_option linter.unusedSimpArgs false
set_option linter.unusedVariables false
set_option linter.unnecessarySimpa false
open Go
section
variable {X : Ctx} {s : St}

theorem step_boxR {o : Oper} {t : TypeId} {x : Operand} (ho : o.op = .box t x) {d : Nat} (hd : o.dst = some d) (hn : d < X.n) {y : SV} (hy : evl X (get s) x = some y) {cs : List DV} (hc : toDs (cellsS y) = some cs) (hb : cellB cs = true) :
    StepOK X s o (upd s (.slot d) (.one (.v (.ref cs)))) := by
  intro G a w R next Q hK
  have hrow : RowOf G w (cellsS y) (a.eval x).cells := cellsS_sound R.nil (evl_sound R hy)
  obtain ⟨t1, t2⟩ := toDs_get hc
  have hsz : (a.eval x).cells.size = cs.length := by rw [hrow.1, t1]
  refine opIn (by intro c e; rw [ho] at e; cases e) ?_
  simp only [execOp, ho, Instr.box, newVar, newRow, run_newObj, Sem.run_bind, Sem.run_pure, Result.andThen_ok, upn_value, hd]
  have T : Trans X G a w { G with D := withData G.D w.heap.size 0 cs.length } a (w.alloc (.cells (a.eval x).cells t)) (fun _ => False) := trans_data R (hi := cs.length) (by omega) rfl R.nil
  refine hK { G with D := withData G.D w.heap.size 0 cs.length } _ _ (R.setSlot T rfl rfl (fun _ h => h) hn ?_)
  show RV (withData G.D w.heap.size 0 cs.length) _ _ _
  refine .ref cs w.heap.size 0 (fun j => ((a.eval x).cells[j]?).getD undef) ((cellB_iff _).1 hb) (fun j hj => ?_) (fun j hj => .inr ⟨rfl, Nat.zero_le _, by omega⟩) (fun j c hjc => ?_)
  · have hlt : j < (a.eval x).cells.size := by omega
    simp [World.cell?_alloc_new, hlt]
  · obtain ⟨z, hz, hzd⟩ := t2 j c hjc
    have hlt : j < (a.eval x).cells.size := by rw [hsz]; exact (List.getElem?_eq_some_iff.1 hjc).1
    have hr := toD_sound hzd (hrow.2 j z _ hz (Array.getElem?_eq_getElem hlt))
    simp only [Array.getElem?_eq_getElem hlt, Option.getD_some]
    exact hr.mono (fun b o hd => ⟨.inl hd, World.cell?_alloc_lt _ _ _ (R.wf.lt hd)⟩)

theorem vcK_boxR {esc : List Nat} {ops : Array Oper} {l : List Oper} {K : St → Prop} {d : Tmp} {t : TypeId} {x : Operand} {ty : TypeId} {pos : String} {af : Array Edge} {q : Option (Prop × St)} {y : SV} {cs : List DV}
    (hy : evl X (get s) x = some y) (hc : toDs (cellsS y) = some cs) (hb : cellB cs = true) (hn : d < X.n) (hq : q = none)
    (k : vc X esc ops l (upd s (.slot d) (.one (.v (.ref cs)))) K) :
    vcK X esc ops l K ⟨some d, .box t x, ty, pos, af, none⟩ s q := by
  subst hq
  exact VL_step rfl (step_boxR (o := ⟨some d, .box t x, ty, pos, af, none⟩) rfl rfl hn hy hc hb) (vc_sound k)

theorem vcdC_boxR {ops : Array Oper} {s0 : St} {K : St → Prop} {l : List Oper} {k : St → List Ev → Prop} {ev : List Ev} {fp wr : List Loc} {d : Tmp} {t : TypeId} {x : Operand} {ty : TypeId} {pos : String} {af : Array Edge} {q : Option (Prop × St)} {y : SV} {cs : List DV}
    (hk : ∀ s ev, k s ev → VD X ops s0 l s ev K) (hy : evl X (get (restr s fp)) x = some y) (hc : toDs (cellsS y) = some cs) (hb : cellB cs = true) (hn : d < X.n) (hq : q = none)
    (g : vcdD k ev s fp [d] [(.slot d, some (.one (.v (.ref cs))))]) :
    vcdC X ops s0 l K k ⟨some d, .box t x, ty, pos, af, none⟩ ev s fp wr q := by
  subst hq
  show VD X ops s0 _ s ev K
  refine VD_step ⟨fp, _, [d]⟩ (fun s' hs hfr => opOK_of (.inl rfl) ?_) (hk _ _ g)
  exact step_boxR (o := ⟨some d, .box t x, ty, pos, af, none⟩) rfl rfl hn (evl_mono hs hy) hc hb
end
end Go.Proofs.YtgfjcbofbbcnmaaGreatDoor.Lift

/-
  Package machine's values as data, and how a variable's value is found.
-/
namespace Go.Proofs.YtgfjcbofbbcnmaaGreatDoor.Lift
set_option linter.unusedSimpArgs false
set_option linter.unusedVariables false
set_option linter.unnecessarySimpa false
open Go
variable {gl : Globs}

abbrev nilP : DV := .prim (.pointer none)
abbrev nilI : DV := .prim .nilIface
def cellM : List Nat → DV
  | [] => nilP
  | n :: l => .ref [dint (n : Int), cellM l]
mutual
def MV.thing : MV → DV
  | .num n => .iface 3 (dint (n : Int))
  | .list l => .iface 104 (cellM l)
  | .both a b => .iface 110 (.ref [MV.thing a, MV.thing b])
  | .unit => .iface 114 (.agg [])
  | .clo b e => .iface 121 (.ref (b.cells ++ [MV.envM e]))
def MV.envM : List MV → DV
  | [] => nilP
  | v :: e => .ref [MV.thing v, MV.envM e]
end
theorem cellM_cell : ∀ l, (cellM l).isCell = true
  | [] => rfl
  | _ :: _ => rfl
theorem thing_cell (v : MV) : v.thing.isCell = true := by cases v <;> (simp only [MV.thing]; rfl)
theorem envM_cell (e : List MV) : (MV.envM e).isCell = true := by cases e <;> (simp only [MV.envM]; rfl)
theorem cellsD_thing (v : MV) : cellsD v.thing = [v.thing] := by cases v <;> (simp only [MV.thing]; rfl)
theorem cellsD_envM (e : List MV) : cellsD (MV.envM e) = [MV.envM e] := by cases e <;> (simp only [MV.envM]; rfl)
theorem cellsD_cellM (l : List Nat) : cellsD (cellM l) = [cellM l] := by cases l <;> rfl
attribute [go_sem] cellM_cell thing_cell envM_cell cellsD_thing cellsD_envM cellsD_cellM

theorem env_at_ok (e : List MV) (i : Nat) (hi : i < e.length) : Con1 Tryz.prog gl 69 [MV.envM e, dint (i : Int)] [] (e.getD i .unit).thing [] := by
  refine t_in Tryz.func69 ?_
  intro X hP hgl hf hfn hn hR hids hfit
  have h0 : e.drop (i - i) = e := by simp
  have hi1 : intOK .i64 i := hfit (dint i) (by simp)
  rw [intOK_i64] at hi1
  refine t_g0 ?_
  refine t_a ?_
  refine t_sub [] @h0 (W_rounds (fun k : Nat => k ≤ i) (fun k : Nat => [(.slot 0, .one (.v (MV.envM (e.drop (i - k))))), (.slot 1, .one (.v (dint (k : Int)))), (.slot 4, .one (.v nilI))]) (fun k : Nat => k) i (Nat.le_refl i) ?_)
  intro k hk ih
  obtain ⟨v, r, hr⟩ : ∃ v r, e.drop (i - k) = v :: r := by
    cases hq : e.drop (i - k) with
    | nil => have := List.drop_eq_nil_iff.1 hq; omega
    | cons v r => exact ⟨v, r, rfl⟩
  have hE : MV.envM (e.drop (i - k)) = .ref [v.thing, MV.envM r] := by rw [hr, MV.envM]
  cases k with
  | zero =>
    have hv : (e[i]?.getD MV.unit) = v := by
      have := congrArg (fun l => l.head?) hr
      simp only [Nat.sub_zero, List.head?_drop, List.head?_cons] at this
      simp [this]
    rw [Nat.sub_zero] at hE
    refine t_rg0 ?_
    refine t_no ?_
    refine t_g @hE ?_
    refine t_r ?_
    simp [go_sem, hP, hgl, hn, hv] <;> (try omega)
  | succ k =>
    have hd : e.drop (i - k) = r := by
      have h1 : i - k = (i - (k + 1)) + 1 := by omega
      rw [h1, ← List.drop_drop, hr, List.drop_one, List.tail_cons]
    have hk0 : (0 : Int) < (k : Int) + 1 := by omega
    refine t_rg0 ?_
    refine t_yes ?_
    refine t_rg @hE ?_
    refine t_rg0 ?_
    refine t_b ?_
    refine t_sub [] @hd (ih k (by omega) (by omega))
end Go.Proofs.YtgfjcbofbbcnmaaGreatDoor.Lift

/-
  Package machine: a run as a function (with its work), and the walk of a call.
-/
namespace Go.Proofs.YtgfjcbofbbcnmaaGreatDoor.Lift
set_option linter.unusedSimpArgs false
set_option linter.unusedVariables false
set_option linter.unnecessarySimpa false
open Go
variable {gl : Globs}

def nodeS (ev : Evl) (k : Int) (l : List MV) : Option (MV × Nat) := if 3 ≤ k ∧ k ≤ 13 then nodeC ev k l else none
/-- a run to a depth: none where it would be stuck, or deeper -/
def evS : Nat → Evl
  | 0, _, _ => none
  | d + 1, t, e =>
    if t.kind = 1 then if 0 ≤ t.index ∧ t.index.toNat < e.length then some (e.getD t.index.toNat .unit, 1) else none
    else if t.kind = 2 then if t.args.length = 0 then none else some (.clo (t.argN 0) e, 1)
    else if 3 < t.args.length then none
    else match allC (evS d) t.args e with
      | none => none
      | some (l, c) => match nodeS (evS d) t.kind l with
        | none => none
        | some (v, c') => some (v, 1 + c + c')

/-! numbers up to M -/
mutual
def MV.nle (M : Nat) : MV → Prop
  | .num n => n ≤ M
  | .list l => l.length ≤ M ∧ ∀ n ∈ l, n ≤ M
  | .both a b => MV.nle M a ∧ MV.nle M b
  | .unit => True
  | .clo _ e => MV.nles M e
def MV.nles (M : Nat) : List MV → Prop
  | [] => True
  | v :: e => MV.nle M v ∧ MV.nles M e
end

/-- what is told of a work of n where most is the most -/
def outM (most n : Nat) (v : DV) : DV := if n ≤ most then .tup [v, dbool true] else .tup [nilI, dbool false]
def useM (most n : Nat) : List DV := [dint (if n ≤ most then (n : Int) else (most : Int)), dint (most : Int)]

/-- what is asked of a run, to be walked -/
def WalkM (P : Program) (gl : Globs) (fe : FuncId) (most : Nat) (ev : Evl) : Prop :=
  ∀ ⦃t : Tm⦄ ⦃e : List MV⦄ ⦃u : Nat⦄ ⦃v : MV⦄ ⦃c : Nat⦄ (b : Nat) (M : Nat), ev t e = some (v, c) → u ≤ most → M + (most - u) ≤ 1073741824 → MV.nles M e →
    Con1 P gl fe [ptr b, t.dv, MV.envM e] [(b, useM most u)] (outM most (u + c) v.thing) [(b, useM most (u + c))]
def NleM (most : Nat) (ev : Evl) : Prop :=
  ∀ ⦃t : Tm⦄ ⦃e : List MV⦄ ⦃v : MV⦄ ⦃c : Nat⦄ (M : Nat), ev t e = some (v, c) → MV.nles M e → v.nle (M + c)

theorem thing_clo (b : Tm) (e : List MV) : (MV.clo b e).thing = .iface 121 (.ref [dint b.kind, dint b.index, dint b.type.kind, .sl (b.type.args.map Ty.cells), .sl (b.args.map Tm.cells), MV.envM e]) := by
  rw [MV.thing, Tm.cells_eq]; rfl
theorem envM_cons (v : MV) (e : List MV) : MV.envM (v :: e) = .ref [v.thing, MV.envM e] := by rw [MV.envM]

mutual
theorem MV.nle_mono {M N : Nat} (h : M ≤ N) : ∀ v : MV, v.nle M → v.nle N
  | .num n, k => by simp only [MV.nle] at k ⊢; omega
  | .list l, k => by simp only [MV.nle] at k ⊢; exact ⟨Nat.le_trans k.1 h, fun n hn => Nat.le_trans (k.2 n hn) h⟩
  | .both a b, k => by simp only [MV.nle] at k ⊢; exact ⟨MV.nle_mono h a k.1, MV.nle_mono h b k.2⟩
  | .unit, _ => by simp only [MV.nle]
  | .clo b e, k => by simp only [MV.nle] at k ⊢; exact MV.nles_mono h e k
theorem MV.nles_mono {M N : Nat} (h : M ≤ N) : ∀ e : List MV, MV.nles M e → MV.nles N e
  | [], _ => by simp only [MV.nles]
  | v :: e, k => by simp only [MV.nles] at k ⊢; exact ⟨MV.nle_mono h v k.1, MV.nles_mono h e k.2⟩
end

theorem nles_get {M : Nat} : ∀ {l : List MV} {i : Nat} {a : MV}, MV.nles M l → l[i]? = some a → a.nle M
  | x :: l, 0, a, h, k => by simp only [MV.nles] at h; simp at k; rw [← k]; exact h.1
  | x :: l, i + 1, a, h, k => by simp only [MV.nles] at h; exact nles_get h.2 (by simpa using k)
theorem callM_ok {most : Nat} (hm : most ≤ 1073741824) {ev : Evl} (H : WalkM Tryz.prog gl 50 most ev) (hN : NleM most ev) {f v : MV} {l : List MV} {u c : Nat} (b M : Nat)
    (h : callC ev f l = some (v, c)) (hu : u ≤ most) (hM : M + (most - u) ≤ 1073741824) (hF : f.nle M) (hL : MV.nles M l) :
    Con1 Tryz.prog gl 51 [ptr b, f.thing, .sl (l.map fun x => [x.thing])] [(b, useM most u)] (outM most (u + c) v.thing) [(b, useM most (u + c))] := by
  refine t_in Tryz.func51 ?_
  intro X hP hgl hf hfn hn hR hids hfit
  have hl1 : (l.length : Int) ≤ 2147483648 := by have := hfit (.sl (l.map fun x => [x.thing])) (by simp); simp [DV.fit] at this; have := this.1; simp [BIG] at this; omega
  have hu0 : useM most u = [dint (u : Int), dint (most : Int)] := by unfold useM; rw [if_pos hu]
  rw [hu0]
  refine t_g0 ?_
  refine t_a ?_
  refine t_sub [] trivial (W_rounds (fun x : MV × Nat × Nat => x.2.1 ≤ l.length ∧ x.2.2 ≤ most ∧ u ≤ x.2.2 ∧ x.1.nle (M + (x.2.2 - u)) ∧ ∃ c', callC ev x.1 (l.drop x.2.1) = some (v, c') ∧ x.2.2 + c' = u + c) (fun x : MV × Nat × Nat => [(.slot 15, .one (.v (dint (x.2.1 : Int)))), (.slot 14, .one (.v (dint (l.length : Int)))), (.slot 13, .one (.v (.sl (l.map fun x => [x.thing])))), (.slot 0, .one (.v (ptr b))), (.slot 1, .one (.v x.1.thing)), (.slot 6, .one (.v nilI)), (.slot 7, .one (.v (dbool false))), (.heap  b, .row ([.v (dint (x.2.2 : Int)), .v (dint (most : Int))]))]) (fun x : MV × Nat × Nat => l.length - x.2.1) (f, 0, u) (⟨Nat.zero_le _, hu, Nat.le_refl u, by simpa using hF, c, by simpa using h, rfl⟩) ?_)
  rintro ⟨g, i, u'⟩ ⟨hi, hu', huu, hg, c', hc, hcc⟩ ih
  simp only at hi hu' huu hg hc hcc
  by_cases hil : i < l.length
  · obtain ⟨a, ha⟩ : ∃ a, l[i]? = some a := ⟨l[i], List.getElem?_eq_getElem hil⟩
    have hd : l.drop i = a :: l.drop (i + 1) := by
      rw [List.drop_eq_getElem_cons hil]
      rw [List.getElem?_eq_getElem hil, Option.some.injEq] at ha
      rw [ha]
    rw [hd] at hc
    have hmem : a.nle M := nles_get hL ha
    cases g with
    | num n => cases hc
    | list q => cases hc
    | both p q => cases hc
    | unit => cases hc
    | clo body e =>
      simp only [callC] at hc
      split at hc
      · cases hc
      · rename_i v1 c1 hv1
        split at hc
        · cases hc
        · rename_i w c2 hw
          simp only [Option.some.injEq, Prod.mk.injEq] at hc
          obtain ⟨rfl, rfl⟩ := hc
          simp only [MV.nle] at hg
          have hes : MV.nles (M + (u' - u)) (a :: e) := by simp only [MV.nles]; exact ⟨MV.nle_mono (by omega) _ hmem, hg⟩
          have W1 := H b (M + (u' - u)) hv1 hu' (by omega) hes
          have hN1 := hN (M + (u' - u)) hv1 hes
          have hth := thing_clo body e
          have hT := Tm.fold body
          have hu1 : useM most u' = [dint (u' : Int), dint (most : Int)] := by unfold useM; rw [if_pos hu']
          rw [hu1, envM_cons] at W1
          have hgi : (l.map fun x => [x.thing])[i]? = some [a.thing] := by rw [List.getElem?_map, ha]; rfl
          rw [hth]
          generalize l.map (fun x => [x.thing]) = L at *
          refine t_rg0 ?_
          refine t_yes ?_
          refine t_rg @hgi ?_
          refine t_rg0 ?_
          refine t_a ?_
          refine W_regd (by rw [hP]; exact mixed) [33] fun K hK => ?_
          simp [go_sem, hP, hgl, hn, hT]
          refine vcdC_boxR (cs := [a.thing, MV.envM e]) (y := .ag [a.thing, MV.envM e] []) (fun _ _ => vcd_sound) (by simp [go_sem, hP, hgl, hn]) (by simp [go_sem]) (by simp [go_sem]) (by rw [hn]; exact Nat.le_of_ble_eq_true rfl) (by rfl) ?_
          simp [go_sem, hP, hgl, hn]
          by_cases hfit1 : u' + c1 ≤ most
          · have o1 : outM most (u' + c1) v1.thing = .tup [v1.thing, dbool true] := by unfold outM; rw [if_pos hfit1]
            have o2 : useM most (u' + c1) = [dint ((u' + c1 : Nat) : Int), dint (most : Int)] := by unfold useM; rw [if_pos hfit1]
            rw [o1, o2] at W1
            refine t_c trivial (W1) ?_
            refine t_e ?_
            clear hK K
            refine t_rg0 ?_
            refine t_no ?_
            refine t_rg0 ?_
            refine t_rg0 ?_
            have a1 : i + 1 ≤ l.length := by omega
            have a2 : u ≤ u' + c1 := by omega
            have a3 : M + (u' - u) + c1 ≤ M + (u' + c1 - u) := by omega
            have a4 : u' + c1 + c2 = u + c := by omega
            have a5 : l.length - (i + 1) < l.length - i := by omega
            refine t_b ?_
            refine t_sub [] trivial (ih (v1, i + 1, u' + c1) ⟨a1, hfit1, a2, MV.nle_mono a3 _ hN1, c2, hw, a4⟩ a5)
          · have o1 : outM most (u' + c1) v1.thing = .tup [nilI, dbool false] := by unfold outM; rw [if_neg hfit1]
            have o2 : useM most (u' + c1) = [dint (most : Int), dint (most : Int)] := by unfold useM; rw [if_neg hfit1]
            have hbig : ¬ u + c ≤ most := by omega
            have o3 : outM most (u + c) w.thing = .tup [nilI, dbool false] := by unfold outM; rw [if_neg hbig]
            have o4 : useM most (u + c) = [dint (most : Int), dint (most : Int)] := by unfold useM; rw [if_neg hbig]
            rw [o3, o4] at hR
            rw [o1, o2] at W1
            refine t_c trivial (W1) ?_
            refine t_e ?_
            clear hK K
            refine t_rg0 ?_
            refine t_yes ?_
            refine t_rg0 ?_
            repeat (first | refine W_seq ?_ | refine W_skip ?_ | refine W_block ?_ | refine W_inBlock ?_ | refine W_label ?_ | refine W_exit rfl ?_)
            first | refine W_retR hP hf hfn _ ([(b, [dint (most : Int), dint (most : Int)])]) (by first | (simp [go_sem, hP, hgl, hn]; done) | (simp [go_sem, hP, hgl, hn]; rfl)) (by simp [go_sem, hP, hgl, hn]) (by simp) ?_ hR.2 | refine W_endR hP hf hfn _ ([(b, [dint (most : Int), dint (most : Int)])]) (by first | (simp [go_sem, hP, hgl, hn]; done) | (simp [go_sem, hP, hgl, hn]; rfl)) (by simp [go_sem, hP, hgl, hn]) (by simp) ?_ hR.2
            rw [hR.1]
            refine ⟨?_, by simp⟩
            try simp
            try all_goals (simp [Ty.dv, Ty.cells_eq, Ty.kind_mk, Ty.args_mk, Tm.dv, Tm.cells_eq, Tm.kind_mk, Tm.index_mk, Tm.type_mk, Tm.args_mk, Val.dv, Val.cells_eq, Val.kind_mk, Val.num_mk, Val.list_mk, Val.args_mk, ints])
  · have hd : l.drop i = [] := List.drop_eq_nil_iff.2 (by omega)
    have hii : i = l.length := by omega
    subst hii
    rw [hd] at hc
    have hc0 : callC ev g [] = some (g, 0) := by cases g <;> rfl
    rw [hc0] at hc
    simp only [Option.some.injEq, Prod.mk.injEq] at hc
    obtain ⟨rfl, rfl⟩ := hc
    have hsm : u + c ≤ most := by omega
    have o3 : outM most (u + c) g.thing = .tup [g.thing, dbool true] := by unfold outM; rw [if_pos hsm]
    have o4 : useM most (u + c) = [dint (u' : Int), dint (most : Int)] := by unfold useM; rw [if_pos hsm]; rw [← hcc]; simp
    rw [o3, o4] at hR
    refine t_rg0 ?_
    refine t_no ?_
    refine t_rg0 ?_
    repeat (first | refine W_seq ?_ | refine W_skip ?_ | refine W_block ?_ | refine W_inBlock ?_ | refine W_label ?_ | refine W_exit rfl ?_)
    first | refine W_retR hP hf hfn _ ([(b, [dint (u' : Int), dint (most : Int)])]) (by first | (simp [go_sem, hP, hgl, hn]; done) | (simp [go_sem, hP, hgl, hn]; rfl)) (by simp [go_sem, hP, hgl, hn]) (by simp) ?_ hR.2 | refine W_endR hP hf hfn _ ([(b, [dint (u' : Int), dint (most : Int)])]) (by first | (simp [go_sem, hP, hgl, hn]; done) | (simp [go_sem, hP, hgl, hn]; rfl)) (by simp [go_sem, hP, hgl, hn]) (by simp) ?_ hR.2
    rw [hR.1]
    refine ⟨?_, by simp⟩
    try simp
    try all_goals (simp [Ty.dv, Ty.cells_eq, Ty.kind_mk, Ty.args_mk, Tm.dv, Tm.cells_eq, Tm.kind_mk, Tm.index_mk, Tm.type_mk, Tm.args_mk, Val.dv, Val.cells_eq, Val.kind_mk, Val.num_mk, Val.list_mk, Val.args_mk, ints])
end Go.Proofs.YtgfjcbofbbcnmaaGreatDoor.Lift

/-
  Package machine: the walk of the parts of a node.
-/
namespace Go.Proofs.YtgfjcbofbbcnmaaGreatDoor.Lift
set_option linter.unusedSimpArgs false
set_option linter.unusedVariables false
set_option linter.unnecessarySimpa false
open Go
variable {gl : Globs}

def at3 (l : List MV) (i : Nat) : DV := match l[i]? with
  | some v => v.thing
  | none => nilI
theorem at3_cell (l : List MV) (i : Nat) : (at3 l i).isCell = true := by unfold at3; split; exact thing_cell _; rfl
theorem cellsD_at3 (l : List MV) (i : Nat) : cellsD (at3 l i) = [at3 l i] := by unfold at3; split; exact cellsD_thing _; rfl
attribute [go_sem] at3_cell cellsD_at3
def arr3 (l : List MV) : List DV := [at3 l 0, at3 l 1, at3 l 2]
/-- the values before the work is out -/
def preC (ev : Evl) (most : Nat) (e : List MV) : Nat → List Tm → List MV
  | _, [] => []
  | u, t :: r => match ev t e with
    | none => []
    | some (v, c) => if u + c ≤ most then v :: preC ev most e (u + c) r else []
def outA (most n : Nat) (l : List MV) : DV := .tup [.agg (arr3 l), dbool (decide (n ≤ most))]
theorem preC_all {ev : Evl} {most : Nat} {e : List MV} : ∀ {l : List Tm} {u : Nat} {vs : List MV} {c : Nat}, allC ev l e = some (vs, c) → u + c ≤ most → preC ev most e u l = vs
  | [], u, vs, c, h, k => by simp only [allC, Option.some.injEq, Prod.mk.injEq] at h; rw [preC, h.1]
  | t :: r, u, vs, c, h, k => by
    simp only [allC] at h
    split at h
    · cases h
    · rename_i v c1 hv
      split at h
      · cases h
      · rename_i l c2 hl
        simp only [Option.some.injEq, Prod.mk.injEq] at h
        obtain ⟨rfl, rfl⟩ := h
        rw [preC, hv]
        simp only
        rw [if_pos (show u + c1 ≤ most by omega), preC_all hl (show u + c1 + c2 ≤ most by omega)]

theorem allM_ok {most : Nat} (hm : most ≤ 1073741824) {ev : Evl} (H : WalkM Tryz.prog gl 50 most ev) (hN : NleM most ev) {l : List Tm} {e vs : List MV} {u c : Nat} (b M : Nat)
    (h : allC ev l e = some (vs, c)) (h3 : l.length ≤ 3) (hu : u ≤ most) (hM : M + (most - u) ≤ 1073741824) (he : MV.nles M e) :
    Con1 Tryz.prog gl 70 [ptr b, .sl (l.map Tm.cells), MV.envM e] [(b, useM most u)] (outA most (u + c) (preC ev most e u l)) [(b, useM most (u + c))] := by
  refine t_in Tryz.func70 ?_
  intro X hP hgl hf hfn hn hR hids hfit
  have hu0 : useM most u = [dint (u : Int), dint (most : Int)] := by unfold useM; rw [if_pos hu]
  rw [hu0]
  have z0 : at3 [] 0 = nilI := rfl
  have z1 : at3 [] 1 = nilI := rfl
  have z2 : at3 [] 2 = nilI := rfl
  refine t_g0 ?_
  refine t_a ?_
  refine t_sub [] (j2 @z0 (j2 @z1 @z2)) (W_rounds (fun x : List MV × Nat × Nat => x.2.1 ≤ l.length ∧ x.2.2 ≤ most ∧ u ≤ x.2.2 ∧ x.1.length = x.2.1 ∧ MV.nles (M + (x.2.2 - u)) e ∧ ∃ c' vs', allC ev (l.drop x.2.1) e = some (vs', c') ∧ x.2.2 + c' = u + c ∧ x.1 ++ preC ev most e x.2.2 (l.drop x.2.1) = preC ev most e u l) (fun x : List MV × Nat × Nat => [(.slot 15, .one (.v (dint (x.2.1 : Int)))), (.slot 14, .one (.v (dint (l.length : Int)))), (.slot 13, .one (.v (.sl (l.map Tm.cells)))), (.slot 0, .one (.v (ptr b))), (.slot 2, .one (.v (MV.envM e))), (.slot 7, .one (.v (dbool false))), (.slot 6, .one (.loc 6 0)), (.slot 8, .one (.loc 8 0)), (.loc 6, .row ([.v nilI, .v nilI, .v nilI])), (.loc 8, .row ([.v (at3 x.1 0), .v (at3 x.1 1), .v (at3 x.1 2)])), (.heap  b, .row ([.v (dint (x.2.2 : Int)), .v (dint (most : Int))]))]) (fun x : List MV × Nat × Nat => l.length - x.2.1) (([] : List MV), 0, u) (⟨Nat.zero_le _, hu, Nat.le_refl u, rfl, by simpa using he, c, vs, by simpa using h, rfl, by simp⟩) ?_)
  rintro ⟨p, i, u'⟩ ⟨hi, hu', huu, hpl, hg, c', vs', hc, hcc, hpre⟩ ih
  simp only at hi hu' huu hpl hg hc hcc hpre
  by_cases hil : i < l.length
  · obtain ⟨t, ht⟩ : ∃ t, l[i]? = some t := ⟨l[i], List.getElem?_eq_getElem hil⟩
    have hd : l.drop i = t :: l.drop (i + 1) := by
      rw [List.drop_eq_getElem_cons hil]
      rw [List.getElem?_eq_getElem hil, Option.some.injEq] at ht
      rw [ht]
    rw [hd] at hc
    rw [hd] at hpre
    simp only [allC] at hc
    split at hc
    · cases hc
    rename_i v1 c1 hv1
    rw [preC, hv1] at hpre
    simp only at hpre
    split at hc
    · cases hc
    rename_i vs1 c2 hw
    simp only [Option.some.injEq, Prod.mk.injEq] at hc
    obtain ⟨rfl, rfl⟩ := hc
    have hgz : MV.nles (M + (u' - u)) e := hg
    have W1 := H b (M + (u' - u)) hv1 hu' (by omega) hg
    have hT := Tm.fold t
    have hu1 : useM most u' = [dint (u' : Int), dint (most : Int)] := by unfold useM; rw [if_pos hu']
    rw [hu1] at W1
    have hgi : (l.map Tm.cells)[i]? = some [dint t.kind, dint t.index, dint t.type.kind, .sl (t.type.args.map Ty.cells), .sl (t.args.map Tm.cells)] := by rw [List.getElem?_map, ht]; simp [Tm.cells_eq]
    have hne : l ≠ [] := by rintro rfl; simp at hil
    rcases (show i = 0 ∨ i = 1 ∨ i = 2 by omega) with rfl | rfl | rfl
    · refine t_rg0 ?_
      refine t_y (j2 @hne @hil) ?_
      refine t_rg (j2 @hgi @hT) ?_
      by_cases hfit1 : u' + c1 ≤ most
      · have o1 : outM most (u' + c1) v1.thing = .tup [v1.thing, dbool true] := by unfold outM; rw [if_pos hfit1]
        have o2 : useM most (u' + c1) = [dint ((u' + c1 : Nat) : Int), dint (most : Int)] := by unfold useM; rw [if_pos hfit1]
        rw [o1, o2] at W1
        refine t_c1 @hT W1 ?_
        refine t_rg0 ?_
        refine t_no ?_
        refine t_rg0 ?_
        refine t_rg0 ?_
        have a4 : u' + c1 + c2 = u + c := by omega
        have a6 : (p ++ [v1]).length = 0 + 1 := by simp [hpl]
        have a7 : at3 (p ++ [v1]) 0 = v1.thing := by simp [at3, hpl]
        have a8 : p ++ [v1] ++ preC ev most e (u' + c1) (l.drop (0 + 1)) = preC ev most e u l := by rw [List.append_assoc]; rw [← hpre, if_pos hfit1]; rfl
        have b1 : at3 (p ++ [v1]) 1 = at3 p 1 := by simp [at3, hpl, List.getElem?_append]
        have b2 : at3 (p ++ [v1]) 2 = at3 p 2 := by simp [at3, hpl, List.getElem?_append]
        have d1 : 0 + 1 ≤ l.length := by omega
        have d2 : u ≤ u' + c1 := by omega
        have d3 : M + (u' - u) ≤ M + (u' + c1 - u) := by omega
        have d5 : l.length - (0 + 1) < l.length - 0 := by omega
        refine t_b ?_
        refine t_sub [] (j2 @a7 (j2 @b1 @b2)) (ih (p ++ [v1], 0 + 1, u' + c1) ⟨d1, hfit1, d2, a6, MV.nles_mono d3 _ hgz, c2, vs1, hw, a4, a8⟩ d5)
      · have o1 : outM most (u' + c1) v1.thing = .tup [nilI, dbool false] := by unfold outM; rw [if_neg hfit1]
        have o2 : useM most (u' + c1) = [dint (most : Int), dint (most : Int)] := by unfold useM; rw [if_neg hfit1]
        have hbig : ¬ u + c ≤ most := by omega
        have o4 : useM most (u + c) = [dint (most : Int), dint (most : Int)] := by unfold useM; rw [if_neg hbig]
        have o5 : preC ev most e u l = p := by rw [← hpre, if_neg hfit1]; simp
        have o6 : decide (u + c ≤ most) = false := decide_eq_false hbig
        unfold outA at hR
        rw [o4, o5, o6] at hR
        rw [o1, o2] at W1
        refine t_c1 @hT W1 ?_
        refine t_rg0 ?_
        refine t_yes ?_
        refine t_rg0 ?_
        repeat (first | refine W_seq ?_ | refine W_skip ?_ | refine W_block ?_ | refine W_inBlock ?_ | refine W_label ?_ | refine W_exit rfl ?_)
        first | refine W_retR hP hf hfn _ ([(b, [dint (most : Int), dint (most : Int)])]) (by first | (simp [go_sem, hP, hgl, hn, arr3]; done) | (simp [go_sem, hP, hgl, hn, arr3]; rfl)) (by simp [go_sem, hP, hgl, hn, arr3]) (by simp) ?_ hR.2 | refine W_endR hP hf hfn _ ([(b, [dint (most : Int), dint (most : Int)])]) (by first | (simp [go_sem, hP, hgl, hn, arr3]; done) | (simp [go_sem, hP, hgl, hn, arr3]; rfl)) (by simp [go_sem, hP, hgl, hn, arr3]) (by simp) ?_ hR.2
        rw [hR.1]
        refine ⟨?_, by simp [arr3]⟩
        try simp [arr3]
        try all_goals (simp [Ty.dv, Ty.cells_eq, Ty.kind_mk, Ty.args_mk, Tm.dv, Tm.cells_eq, Tm.kind_mk, Tm.index_mk, Tm.type_mk, Tm.args_mk, Val.dv, Val.cells_eq, Val.kind_mk, Val.num_mk, Val.list_mk, Val.args_mk, ints])
    · refine t_rg0 ?_
      refine t_y (j2 @hne @hil) ?_
      refine t_rg (j2 @hgi @hT) ?_
      by_cases hfit1 : u' + c1 ≤ most
      · have o1 : outM most (u' + c1) v1.thing = .tup [v1.thing, dbool true] := by unfold outM; rw [if_pos hfit1]
        have o2 : useM most (u' + c1) = [dint ((u' + c1 : Nat) : Int), dint (most : Int)] := by unfold useM; rw [if_pos hfit1]
        rw [o1, o2] at W1
        refine t_c1 @hT W1 ?_
        refine t_rg0 ?_
        refine t_no ?_
        refine t_rg0 ?_
        refine t_rg0 ?_
        have a4 : u' + c1 + c2 = u + c := by omega
        have a6 : (p ++ [v1]).length = 1 + 1 := by simp [hpl]
        have a7 : at3 (p ++ [v1]) 1 = v1.thing := by simp [at3, hpl]
        have a8 : p ++ [v1] ++ preC ev most e (u' + c1) (l.drop (1 + 1)) = preC ev most e u l := by rw [List.append_assoc]; rw [← hpre, if_pos hfit1]; rfl
        have b0 : at3 (p ++ [v1]) 0 = at3 p 0 := by simp [at3, hpl, List.getElem?_append]
        have b2 : at3 (p ++ [v1]) 2 = at3 p 2 := by simp [at3, hpl, List.getElem?_append]
        have d1 : 1 + 1 ≤ l.length := by omega
        have d2 : u ≤ u' + c1 := by omega
        have d3 : M + (u' - u) ≤ M + (u' + c1 - u) := by omega
        have d5 : l.length - (1 + 1) < l.length - 1 := by omega
        refine t_b ?_
        refine t_sub [] (j2 @a7 (j2 @b0 @b2)) (ih (p ++ [v1], 1 + 1, u' + c1) ⟨d1, hfit1, d2, a6, MV.nles_mono d3 _ hgz, c2, vs1, hw, a4, a8⟩ d5)
      · have o1 : outM most (u' + c1) v1.thing = .tup [nilI, dbool false] := by unfold outM; rw [if_neg hfit1]
        have o2 : useM most (u' + c1) = [dint (most : Int), dint (most : Int)] := by unfold useM; rw [if_neg hfit1]
        have hbig : ¬ u + c ≤ most := by omega
        have o4 : useM most (u + c) = [dint (most : Int), dint (most : Int)] := by unfold useM; rw [if_neg hbig]
        have o5 : preC ev most e u l = p := by rw [← hpre, if_neg hfit1]; simp
        have o6 : decide (u + c ≤ most) = false := decide_eq_false hbig
        unfold outA at hR
        rw [o4, o5, o6] at hR
        rw [o1, o2] at W1
        refine t_c1 @hT W1 ?_
        refine t_rg0 ?_
        refine t_yes ?_
        refine t_rg0 ?_
        repeat (first | refine W_seq ?_ | refine W_skip ?_ | refine W_block ?_ | refine W_inBlock ?_ | refine W_label ?_ | refine W_exit rfl ?_)
        first | refine W_retR hP hf hfn _ ([(b, [dint (most : Int), dint (most : Int)])]) (by first | (simp [go_sem, hP, hgl, hn, arr3]; done) | (simp [go_sem, hP, hgl, hn, arr3]; rfl)) (by simp [go_sem, hP, hgl, hn, arr3]) (by simp) ?_ hR.2 | refine W_endR hP hf hfn _ ([(b, [dint (most : Int), dint (most : Int)])]) (by first | (simp [go_sem, hP, hgl, hn, arr3]; done) | (simp [go_sem, hP, hgl, hn, arr3]; rfl)) (by simp [go_sem, hP, hgl, hn, arr3]) (by simp) ?_ hR.2
        rw [hR.1]
        refine ⟨?_, by simp [arr3]⟩
        try simp [arr3]
        try all_goals (simp [Ty.dv, Ty.cells_eq, Ty.kind_mk, Ty.args_mk, Tm.dv, Tm.cells_eq, Tm.kind_mk, Tm.index_mk, Tm.type_mk, Tm.args_mk, Val.dv, Val.cells_eq, Val.kind_mk, Val.num_mk, Val.list_mk, Val.args_mk, ints])
    · refine t_rg0 ?_
      refine t_y (j2 @hne @hil) ?_
      refine t_rg (j2 @hgi @hT) ?_
      by_cases hfit1 : u' + c1 ≤ most
      · have o1 : outM most (u' + c1) v1.thing = .tup [v1.thing, dbool true] := by unfold outM; rw [if_pos hfit1]
        have o2 : useM most (u' + c1) = [dint ((u' + c1 : Nat) : Int), dint (most : Int)] := by unfold useM; rw [if_pos hfit1]
        rw [o1, o2] at W1
        refine t_c1 @hT W1 ?_
        refine t_rg0 ?_
        refine t_no ?_
        refine t_rg0 ?_
        refine t_rg0 ?_
        have a4 : u' + c1 + c2 = u + c := by omega
        have a6 : (p ++ [v1]).length = 2 + 1 := by simp [hpl]
        have a7 : at3 (p ++ [v1]) 2 = v1.thing := by simp [at3, hpl]
        have a8 : p ++ [v1] ++ preC ev most e (u' + c1) (l.drop (2 + 1)) = preC ev most e u l := by rw [List.append_assoc]; rw [← hpre, if_pos hfit1]; rfl
        have b0 : at3 (p ++ [v1]) 0 = at3 p 0 := by simp [at3, hpl, List.getElem?_append]
        have b1 : at3 (p ++ [v1]) 1 = at3 p 1 := by simp [at3, hpl, List.getElem?_append]
        have d1 : 2 + 1 ≤ l.length := by omega
        have d2 : u ≤ u' + c1 := by omega
        have d3 : M + (u' - u) ≤ M + (u' + c1 - u) := by omega
        have d5 : l.length - (2 + 1) < l.length - 2 := by omega
        refine t_b ?_
        refine t_sub [] (j2 @a7 (j2 @b0 @b1)) (ih (p ++ [v1], 2 + 1, u' + c1) ⟨d1, hfit1, d2, a6, MV.nles_mono d3 _ hgz, c2, vs1, hw, a4, a8⟩ d5)
      · have o1 : outM most (u' + c1) v1.thing = .tup [nilI, dbool false] := by unfold outM; rw [if_neg hfit1]
        have o2 : useM most (u' + c1) = [dint (most : Int), dint (most : Int)] := by unfold useM; rw [if_neg hfit1]
        have hbig : ¬ u + c ≤ most := by omega
        have o4 : useM most (u + c) = [dint (most : Int), dint (most : Int)] := by unfold useM; rw [if_neg hbig]
        have o5 : preC ev most e u l = p := by rw [← hpre, if_neg hfit1]; simp
        have o6 : decide (u + c ≤ most) = false := decide_eq_false hbig
        unfold outA at hR
        rw [o4, o5, o6] at hR
        rw [o1, o2] at W1
        refine t_c1 @hT W1 ?_
        refine t_rg0 ?_
        refine t_yes ?_
        refine t_rg0 ?_
        repeat (first | refine W_seq ?_ | refine W_skip ?_ | refine W_block ?_ | refine W_inBlock ?_ | refine W_label ?_ | refine W_exit rfl ?_)
        first | refine W_retR hP hf hfn _ ([(b, [dint (most : Int), dint (most : Int)])]) (by first | (simp [go_sem, hP, hgl, hn, arr3]; done) | (simp [go_sem, hP, hgl, hn, arr3]; rfl)) (by simp [go_sem, hP, hgl, hn, arr3]) (by simp) ?_ hR.2 | refine W_endR hP hf hfn _ ([(b, [dint (most : Int), dint (most : Int)])]) (by first | (simp [go_sem, hP, hgl, hn, arr3]; done) | (simp [go_sem, hP, hgl, hn, arr3]; rfl)) (by simp [go_sem, hP, hgl, hn, arr3]) (by simp) ?_ hR.2
        rw [hR.1]
        refine ⟨?_, by simp [arr3]⟩
        try simp [arr3]
        try all_goals (simp [Ty.dv, Ty.cells_eq, Ty.kind_mk, Ty.args_mk, Tm.dv, Tm.cells_eq, Tm.kind_mk, Tm.index_mk, Tm.type_mk, Tm.args_mk, Val.dv, Val.cells_eq, Val.kind_mk, Val.num_mk, Val.list_mk, Val.args_mk, ints])
  · have hd : l.drop i = [] := List.drop_eq_nil_iff.2 (by omega)
    have hii : i = l.length := by omega
    subst hii
    rw [hd] at hc hpre
    simp only [allC, Option.some.injEq, Prod.mk.injEq] at hc
    obtain ⟨rfl, rfl⟩ := hc
    simp only [preC, List.append_nil] at hpre
    have hsm : u + c ≤ most := by omega
    have o4 : useM most (u + c) = [dint (u' : Int), dint (most : Int)] := by unfold useM; rw [if_pos hsm]; rw [← hcc]; simp
    have o6 : decide (u + c ≤ most) = true := decide_eq_true hsm
    unfold outA at hR
    rw [← hpre, o4, o6] at hR
    refine t_rg0 ?_
    refine t_no ?_
    refine t_rg0 ?_
    repeat (first | refine W_seq ?_ | refine W_skip ?_ | refine W_block ?_ | refine W_inBlock ?_ | refine W_label ?_ | refine W_exit rfl ?_)
    first | refine W_retR hP hf hfn _ ([(b, [dint (u' : Int), dint (most : Int)])]) (by first | (simp [go_sem, hP, hgl, hn, arr3]; done) | (simp [go_sem, hP, hgl, hn, arr3]; rfl)) (by simp [go_sem, hP, hgl, hn, arr3]) (by simp) ?_ hR.2 | refine W_endR hP hf hfn _ ([(b, [dint (u' : Int), dint (most : Int)])]) (by first | (simp [go_sem, hP, hgl, hn, arr3]; done) | (simp [go_sem, hP, hgl, hn, arr3]; rfl)) (by simp [go_sem, hP, hgl, hn, arr3]) (by simp) ?_ hR.2
    rw [hR.1]
    refine ⟨?_, by simp [arr3]⟩
    try simp [arr3]
    try all_goals (simp [Ty.dv, Ty.cells_eq, Ty.kind_mk, Ty.args_mk, Tm.dv, Tm.cells_eq, Tm.kind_mk, Tm.index_mk, Tm.type_mk, Tm.args_mk, Val.dv, Val.cells_eq, Val.kind_mk, Val.num_mk, Val.list_mk, Val.args_mk, ints])
end Go.Proofs.YtgfjcbofbbcnmaaGreatDoor.Lift

/-
  Package machine: the walk of the rounds of a recursion.
-/
namespace Go.Proofs.YtgfjcbofbbcnmaaGreatDoor.Lift
set_option linter.unusedSimpArgs false
set_option linter.unusedVariables false
set_option linter.unnecessarySimpa false
open Go
variable {gl : Globs}

theorem thing_num (n : Nat) : (MV.num n).thing = .iface 3 (dint (n : Int)) := by rw [MV.thing]

theorem recM_ok {most : Nat} (hm : most ≤ 1073741824) {ev : Evl} (H : WalkM Tryz.prog gl 50 most ev) (hN : NleM most ev) (hNc : ∀ {f v : MV} {l : List MV} {c M : Nat}, callC ev f l = some (v, c) → f.nle M → MV.nles M l → v.nle (M + c)) {r f v : MV} {n u c : Nat} (b M : Nat)
    (h : recC ev f n 0 r = some (v, c)) (hu : u ≤ most) (hM : M + (most - u) ≤ 1073741824) (hr0 : r.nle M) (hf0 : f.nle M) (hn0 : n ≤ M) :
    Con1 Tryz.prog gl 71 [ptr b, .agg (arr3 [r, f, .num n])] [(b, useM most u)] (outM most (u + c) v.thing) [(b, useM most (u + c))] := by
  have z0 : at3 [r, f, .num n] 0 = r.thing := rfl
  have z1 : at3 [r, f, .num n] 1 = f.thing := rfl
  have z2 : at3 [r, f, .num n] 2 = .iface 3 (dint (n : Int)) := thing_num n
  have hu0 : useM most u = [dint (u : Int), dint (most : Int)] := by unfold useM; rw [if_pos hu]
  unfold arr3
  rw [z0, z1, z2, hu0]
  refine t_in Tryz.func71 ?_
  intro X hP hgl hf hfn hn hR hids hfit
  refine t_g0 ?_
  refine t_a ?_
  refine t_sub [] trivial (W_rounds (fun x : DV × Bool × Nat × Nat => x.1.isCell = true ∧ cellsD x.1 = [x.1] ∧ (x.2.1 = true → x.2.2.1 ≤ n ∧ x.2.2.2 ≤ most ∧ u ≤ x.2.2.2 ∧ ∃ (q : MV) (c' : Nat), x.1 = q.thing ∧ q.nle (M + (x.2.2.2 - u)) ∧ recC ev f (n - x.2.2.1) x.2.2.1 q = some (v, c') ∧ x.2.2.2 + c' = u + c) ∧ (x.2.1 = false → x.1 = nilI ∧ x.2.2.2 = most ∧ ¬ u + c ≤ most ∧ x.2.2.1 ≤ n + 1)) (fun x : DV × Bool × Nat × Nat => [(.slot 6, .one (.v x.1)), (.slot 7, .one (.v (dbool x.2.1))), (.slot 8, .one (.v (dint (x.2.2.1 : Int)))), (.slot 0, .one (.v (ptr b))), (.slot 4, .one (.v nilI)), (.slot 5, .one (.v (dbool false))), (.slot 3, .one (.loc 3 0)), (.loc 3, .row ([.v r.thing, .v f.thing, .v (.iface 3 (dint (n : Int)))])), (.heap  b, .row ([.v (dint (x.2.2.2 : Int)), .v (dint (most : Int))]))]) (fun x : DV × Bool × Nat × Nat => (if x.2.1 then n - x.2.2.1 + 1 else 0)) (r.thing, true, 0, u) (⟨thing_cell r, cellsD_thing r, fun _ => ⟨Nat.zero_le _, hu, Nat.le_refl u, r, c, rfl, by simpa using hr0, by simpa using h, rfl⟩, fun e => by cases e⟩) ?_)
  rintro ⟨y, ok, k, u'⟩ ⟨hy1, hy2, hy3, hy4⟩ ih
  simp only at hy1 hy2 hy3 hy4
  cases ok with
  | false =>
    obtain ⟨rfl, rfl, hbig, hk⟩ := hy4 rfl
    have o3 : outM u' (u + c) v.thing = .tup [nilI, dbool false] := by unfold outM; rw [if_neg hbig]
    have o4 : useM u' (u + c) = [dint (u' : Int), dint (u' : Int)] := by unfold useM; rw [if_neg hbig]
    rw [o3, o4] at hR
    refine t_rg0 ?_
    refine t_no ?_
    refine t_rg0 ?_
    repeat (first | refine W_seq ?_ | refine W_skip ?_ | refine W_block ?_ | refine W_inBlock ?_ | refine W_label ?_ | refine W_exit rfl ?_)
    first | refine W_retR hP hf hfn _ ([(b, [dint (u' : Int), dint (u' : Int)])]) (by first | (simp [go_sem, hP, hgl, hn]; done) | (simp [go_sem, hP, hgl, hn]; rfl)) (by simp [go_sem, hP, hgl, hn]) (by simp) ?_ hR.2 | refine W_endR hP hf hfn _ ([(b, [dint (u' : Int), dint (u' : Int)])]) (by first | (simp [go_sem, hP, hgl, hn]; done) | (simp [go_sem, hP, hgl, hn]; rfl)) (by simp [go_sem, hP, hgl, hn]) (by simp) ?_ hR.2
    rw [hR.1]
    refine ⟨?_, by simp⟩
    try simp
    try all_goals (simp [Ty.dv, Ty.cells_eq, Ty.kind_mk, Ty.args_mk, Tm.dv, Tm.cells_eq, Tm.kind_mk, Tm.index_mk, Tm.type_mk, Tm.args_mk, Val.dv, Val.cells_eq, Val.kind_mk, Val.num_mk, Val.list_mk, Val.args_mk, ints])
  | true =>
    obtain ⟨hk, hu', huu, q, c', rfl, hq, hc, hcc⟩ := hy3 rfl
    have hn1 : (n : Int) ≤ 1073741824 := by omega
    by_cases hkn : k < n
    · have e1 : n - k = (n - (k + 1)) + 1 := by omega
      rw [e1, recC] at hc
      split at hc
      · cases hc
      rename_i v1 c1 hv1
      split at hc
      · cases hc
      rename_i w c2 hw
      simp only [Option.some.injEq, Prod.mk.injEq] at hc
      obtain ⟨rfl, rfl⟩ := hc
      have hfg : f.nle (M + (u' - u)) := MV.nle_mono (by omega) _ hf0
      have hlg : MV.nles (M + (u' - u)) [.num k, q] := by simp only [MV.nles, MV.nle]; exact ⟨by omega, hq, trivial⟩
      have W1 := callM_ok hm H hN b (M + (u' - u)) hv1 hu' (by omega) hfg hlg
      have hN1 := hNc hv1 hfg hlg
      have hu1 : useM most u' = [dint (u' : Int), dint (most : Int)] := by unfold useM; rw [if_pos hu']
      have hkn' : (k : Int) < (n : Int) := by omega
      rw [hu1] at W1
      simp only [List.map, thing_num] at W1
      refine t_rg0 ?_
      refine t_yes ?_
      by_cases hfit1 : u' + c1 ≤ most
      · have o1 : outM most (u' + c1) v1.thing = .tup [v1.thing, dbool true] := by unfold outM; rw [if_pos hfit1]
        have o2 : useM most (u' + c1) = [dint ((u' + c1 : Nat) : Int), dint (most : Int)] := by unfold useM; rw [if_pos hfit1]
        rw [o1, o2] at W1
        refine t_c1 trivial W1 ?_
        refine t_rg0 ?_
        have d1 : k + 1 ≤ n := by omega
        have d2 : u ≤ u' + c1 := by omega
        have d3 : M + (u' - u) + c1 ≤ M + (u' + c1 - u) := by omega
        have d4 : u' + c1 + c2 = u + c := by omega
        have d5 : n - (k + 1) + 1 < n - k + 1 := by omega
        refine t_b ?_
        refine t_sub [] trivial (ih (v1.thing, true, k + 1, u' + c1) ⟨thing_cell v1, cellsD_thing v1, fun _ => ⟨d1, hfit1, d2, v1, c2, rfl, MV.nle_mono d3 _ hN1, hw, d4⟩, fun e => by cases e⟩ d5)
      · have o1 : outM most (u' + c1) v1.thing = .tup [nilI, dbool false] := by unfold outM; rw [if_neg hfit1]
        have o2 : useM most (u' + c1) = [dint (most : Int), dint (most : Int)] := by unfold useM; rw [if_neg hfit1]
        have hbig : ¬ u + c ≤ most := by omega
        have d1 : k + 1 ≤ n + 1 := by omega
        have d5 : 0 < n - k + 1 := by omega
        rw [o1, o2] at W1
        refine t_c1 trivial W1 ?_
        refine t_rg0 ?_
        refine t_b ?_
        refine t_sub [] trivial (ih (nilI, false, k + 1, most) ⟨rfl, rfl, fun e => (by cases e), fun _ => ⟨rfl, rfl, hbig, d1⟩⟩ d5)
    · have e0 : n - k = 0 := by omega
      rw [e0, recC] at hc
      simp only [Option.some.injEq, Prod.mk.injEq] at hc
      obtain ⟨rfl, rfl⟩ := hc
      have hkn' : (n : Int) ≤ (k : Int) := by omega
      have hsm : u + c ≤ most := by omega
      have o3 : outM most (u + c) q.thing = .tup [q.thing, dbool true] := by unfold outM; rw [if_pos hsm]
      have o4 : useM most (u + c) = [dint (u' : Int), dint (most : Int)] := by unfold useM; rw [if_pos hsm]; rw [← hcc]; simp
      rw [o3, o4] at hR
      refine t_rg0 ?_
      refine t_no ?_
      refine t_rg0 ?_
      repeat (first | refine W_seq ?_ | refine W_skip ?_ | refine W_block ?_ | refine W_inBlock ?_ | refine W_label ?_ | refine W_exit rfl ?_)
      first | refine W_retR hP hf hfn _ ([(b, [dint (u' : Int), dint (most : Int)])]) (by first | (simp [go_sem, hP, hgl, hn]; done) | (simp [go_sem, hP, hgl, hn]; rfl)) (by simp [go_sem, hP, hgl, hn]) (by simp) ?_ hR.2 | refine W_endR hP hf hfn _ ([(b, [dint (u' : Int), dint (most : Int)])]) (by first | (simp [go_sem, hP, hgl, hn]; done) | (simp [go_sem, hP, hgl, hn]; rfl)) (by simp [go_sem, hP, hgl, hn]) (by simp) ?_ hR.2
      rw [hR.1]
      refine ⟨?_, by simp⟩
      try simp
      try all_goals (simp [Ty.dv, Ty.cells_eq, Ty.kind_mk, Ty.args_mk, Tm.dv, Tm.cells_eq, Tm.kind_mk, Tm.index_mk, Tm.type_mk, Tm.args_mk, Val.dv, Val.cells_eq, Val.kind_mk, Val.num_mk, Val.list_mk, Val.args_mk, ints])
end Go.Proofs.YtgfjcbofbbcnmaaGreatDoor.Lift

/-
  Plain law: how large the numbers of a run get; more depth changes nothing.
-/
namespace Go.Proofs.YtgfjcbofbbcnmaaGreatDoor.Lift
set_option linter.unusedSimpArgs false
set_option linter.unusedVariables false
set_option linter.unnecessarySimpa false
open Go

theorem nle_call {most : Nat} {ev : Evl} (hN : NleM most ev) : ∀ {l : List MV} {f v : MV} {c M : Nat}, callC ev f l = some (v, c) → f.nle M → MV.nles M l → v.nle (M + c)
  | [], f, v, c, M, h, hf, hl => by
    have : callC ev f [] = some (f, 0) := by cases f <;> rfl
    rw [this] at h
    simp only [Option.some.injEq, Prod.mk.injEq] at h
    obtain ⟨rfl, rfl⟩ := h
    exact hf
  | a :: l, f, v, c, M, h, hf, hl => by
    cases f with
    | num n => cases h
    | list q => cases h
    | both p q => cases h
    | unit => cases h
    | clo body e =>
      simp only [callC] at h
      split at h
      · cases h
      rename_i v1 c1 hv1
      split at h
      · cases h
      rename_i w c2 hw
      simp only [Option.some.injEq, Prod.mk.injEq] at h
      obtain ⟨rfl, rfl⟩ := h
      simp only [MV.nle] at hf
      simp only [MV.nles] at hl
      have k := hN M hv1 (by simp only [MV.nles]; exact ⟨hl.1, hf⟩)
      have := nle_call hN hw k (MV.nles_mono (by omega) _ hl.2)
      rw [Nat.add_assoc] at this
      exact this
theorem nle_rec {most : Nat} {ev : Evl} (hN : NleM most ev) {f : MV} : ∀ {n k : Nat} {r v : MV} {c M : Nat}, recC ev f n k r = some (v, c) → f.nle M → r.nle M → k + n ≤ M → v.nle (M + c)
  | 0, k, r, v, c, M, h, hf, hr, hk => by
    simp only [recC, Option.some.injEq, Prod.mk.injEq] at h
    obtain ⟨rfl, rfl⟩ := h
    exact hr
  | n + 1, k, r, v, c, M, h, hf, hr, hk => by
    simp only [recC] at h
    split at h
    · cases h
    rename_i v1 c1 hv1
    split at h
    · cases h
    rename_i w c2 hw
    simp only [Option.some.injEq, Prod.mk.injEq] at h
    obtain ⟨rfl, rfl⟩ := h
    have k1 := nle_call hN hv1 hf (by simp only [MV.nles, MV.nle]; exact ⟨by omega, hr, trivial⟩)
    have := nle_rec hN hw (MV.nle_mono (by omega) _ hf) k1 (by omega)
    rw [Nat.add_assoc] at this
    exact this
theorem nle_fold {most : Nat} {ev : Evl} (hN : NleM most ev) {f r : MV} : ∀ {l : List Nat} {v : MV} {c M : Nat}, foldC ev f r l = some (v, c) → f.nle M → r.nle M → (l.length ≤ M ∧ ∀ n ∈ l, n ≤ M) → v.nle (M + c)
  | [], v, c, M, h, hf, hr, hl => by
    simp only [foldC, Option.some.injEq, Prod.mk.injEq] at h
    obtain ⟨rfl, rfl⟩ := h
    exact hr
  | x :: l, v, c, M, h, hf, hr, hl => by
    simp only [foldC] at h
    split at h
    · cases h
    rename_i v1 c1 hv1
    split at h
    · cases h
    rename_i w c2 hw
    simp only [Option.some.injEq, Prod.mk.injEq] at h
    obtain ⟨rfl, rfl⟩ := h
    have hl1 : l.length + 1 ≤ M := by simpa using hl.1
    have k1 := nle_fold hN hv1 hf hr ⟨by omega, fun n hn => hl.2 n (List.mem_cons_of_mem _ hn)⟩
    have hx : x ≤ M := hl.2 x (by simp)
    have k2 := nle_call hN hw (MV.nle_mono (show M ≤ M + c1 by omega) _ hf) (by
      simp only [MV.nles, MV.nle]
      exact ⟨by omega, ⟨by omega, fun n hn => Nat.le_trans (hl.2 n (List.mem_cons_of_mem _ hn)) (by omega)⟩, k1, trivial⟩)
    rw [Nat.add_assoc] at k2
    exact k2
theorem nle_all {most : Nat} {ev : Evl} (hN : NleM most ev) {e : List MV} : ∀ {l : List Tm} {vs : List MV} {c M : Nat}, allC ev l e = some (vs, c) → MV.nles M e → MV.nles (M + c) vs
  | [], vs, c, M, h, he => by
    simp only [allC, Option.some.injEq, Prod.mk.injEq] at h
    obtain ⟨rfl, rfl⟩ := h
    simp only [MV.nles]
  | t :: l, vs, c, M, h, he => by
    simp only [allC] at h
    split at h
    · cases h
    rename_i v1 c1 hv1
    split at h
    · cases h
    rename_i w c2 hw
    simp only [Option.some.injEq, Prod.mk.injEq] at h
    obtain ⟨rfl, rfl⟩ := h
    simp only [MV.nles]
    exact ⟨MV.nle_mono (by omega) _ (hN M hv1 he), MV.nles_mono (by omega) _ (nle_all hN hw he)⟩
theorem nle_node {most : Nat} {ev : Evl} (hN : NleM most ev) {k : Int} {l : List MV} {v : MV} {c M : Nat} (h : nodeC ev k l = some (v, c)) (hl : MV.nles M l) : v.nle (M + 1 + c) := by
  unfold nodeC at h
  repeat' split at h
  all_goals first
    | (cases h; done)
    | skip
  all_goals try simp only [MV.nles, MV.nle] at hl
  · exact nle_call hN h (MV.nle_mono (by omega) _ hl.1) (by simp only [MV.nles]; exact ⟨MV.nle_mono (by omega) _ hl.2.1, trivial⟩)
  · simp only [Option.some.injEq, Prod.mk.injEq] at h
    obtain ⟨rfl, rfl⟩ := h
    simp only [MV.nle]; omega
  · simp only [Option.some.injEq, Prod.mk.injEq] at h
    obtain ⟨rfl, rfl⟩ := h
    simp only [MV.nle]; omega
  · exact nle_rec hN h (MV.nle_mono (by omega) _ hl.2.1) (MV.nle_mono (by omega) _ hl.1) (by omega)
  · simp only [Option.some.injEq, Prod.mk.injEq] at h
    obtain ⟨rfl, rfl⟩ := h
    simp only [MV.nle]; simp
  · simp only [Option.some.injEq, Prod.mk.injEq] at h
    obtain ⟨rfl, rfl⟩ := h
    simp only [MV.nle, List.mem_cons, List.length_cons]
    refine ⟨by omega, ?_⟩
    rintro n (rfl | hn)
    · omega
    · exact Nat.le_trans (hl.2.1.2 n hn) (by omega)
  · exact nle_fold hN h (MV.nle_mono (by omega) _ hl.2.1) (MV.nle_mono (by omega) _ hl.1) ⟨by omega, fun n hn => Nat.le_trans (hl.2.2.1.2 n hn) (by omega)⟩
  · simp only [Option.some.injEq, Prod.mk.injEq] at h
    obtain ⟨rfl, rfl⟩ := h
    simp only [MV.nle]
    exact ⟨MV.nle_mono (by omega) _ hl.1, MV.nle_mono (by omega) _ hl.2.1⟩
  · simp only [Option.some.injEq, Prod.mk.injEq] at h
    obtain ⟨rfl, rfl⟩ := h
    exact MV.nle_mono (by omega) _ hl.1.1
  · simp only [Option.some.injEq, Prod.mk.injEq] at h
    obtain ⟨rfl, rfl⟩ := h
    exact MV.nle_mono (by omega) _ hl.1.2
  · simp only [Option.some.injEq, Prod.mk.injEq] at h
    obtain ⟨rfl, rfl⟩ := h
    simp only [MV.nle]
theorem nle_evS (most : Nat) : ∀ d, NleM most (evS d)
  | 0, t, e, v, c, M, h, he => by cases h
  | d + 1, t, e, v, c, M, h, he => by
    have hN := nle_evS most d
    rw [evS] at h
    split at h
    · split at h
      · rename_i hi
        simp only [Option.some.injEq, Prod.mk.injEq] at h
        obtain ⟨rfl, rfl⟩ := h
        have hg : e[t.index.toNat]? = some (e.getD t.index.toNat .unit) := by simp [List.getD, List.getElem?_eq_getElem hi.2]
        exact MV.nle_mono (by omega) _ (nles_get he hg)
      · cases h
    split at h
    · split at h
      · cases h
      · simp only [Option.some.injEq, Prod.mk.injEq] at h
        obtain ⟨rfl, rfl⟩ := h
        simp only [MV.nle]
        exact MV.nles_mono (by omega) _ he
    split at h
    · cases h
    split at h
    · cases h
    rename_i l c1 hl
    split at h
    · cases h
    rename_i w c2 hw
    simp only [Option.some.injEq, Prod.mk.injEq] at h
    obtain ⟨rfl, rfl⟩ := h
    unfold nodeS at hw
    split at hw
    · have := nle_node hN hw (nle_all hN hl he)
      exact MV.nle_mono (by omega) _ this
    · cases hw
end Go.Proofs.YtgfjcbofbbcnmaaGreatDoor.Lift

/-
  Package machine: the walk of eval.
-/
namespace Go.Proofs.YtgfjcbofbbcnmaaGreatDoor.Lift
set_option linter.unusedSimpArgs false
set_option linter.unusedVariables false
set_option linter.unnecessarySimpa false
open Go
variable {gl : Globs}

theorem evS_pos : ∀ {d : Nat} {t : Tm} {e : List MV} {v : MV} {c : Nat}, evS d t e = some (v, c) → 1 ≤ c
  | 0, t, e, v, c, h => by cases h
  | d + 1, t, e, v, c, h => by
    rw [evS] at h
    repeat' split at h
    all_goals first
      | (cases h; done)
      | (simp only [Option.some.injEq, Prod.mk.injEq] at h; omega)
theorem blC_nil0 : blC [] (some []) = some (True, .ag [] []) := rfl
attribute [go_sem] blC_nil0
theorem thing_list (l : List Nat) : (MV.list l).thing = .iface 104 (cellM l) := by rw [MV.thing]
theorem thing_both (x y : MV) : (MV.both x y).thing = .iface 110 (.ref [x.thing, y.thing]) := by rw [MV.thing]
theorem thing_unit : MV.unit.thing = .iface 114 (.agg []) := by rw [MV.thing]
theorem cellM_nil : cellM [] = nilP := rfl
theorem cellM_cons (n : Nat) (l : List Nat) : cellM (n :: l) = .ref [dint (n : Int), cellM l] := rfl
theorem outM_yes {most n : Nat} (h : n ≤ most) (v : DV) : outM most n v = .tup [v, dbool true] := by unfold outM; rw [if_pos h]
theorem outM_no {most n : Nat} (h : ¬ n ≤ most) (v : DV) : outM most n v = .tup [nilI, dbool false] := by unfold outM; rw [if_neg h]
theorem useM_yes {most n : Nat} (h : n ≤ most) : useM most n = [dint (n : Int), dint (most : Int)] := by unfold useM; rw [if_pos h]
theorem useM_no {most n : Nat} (h : ¬ n ≤ most) : useM most n = [dint (most : Int), dint (most : Int)] := by unfold useM; rw [if_neg h]

def FoldM (P : Program) (gl : Globs) (ff : FuncId) (most : Nat) (ev : Evl) : Prop :=
  ∀ ⦃r f v : MV⦄ ⦃l : List Nat⦄ ⦃u c : Nat⦄ (b M : Nat), foldC ev f r l = some (v, c) → u ≤ most → M + (most - u) ≤ 1073741824 → r.nle M → f.nle M → (l.length ≤ M ∧ ∀ n ∈ l, n ≤ M) →
    Con1 P gl ff [ptr b, .agg (arr3 [r, f, .list l])] [(b, useM most u)] (outM most (u + c) v.thing) [(b, useM most (u + c))]

/-- the first unit is spent; a variable, a function -/
theorem evalM_1 {most : Nat} (hm : most ≤ 1073741824) (t : Tm) {e : List MV} {u : Nat} (b : Nat) (hu : u ≤ most) (h1 : t.kind = 1) (hi : 0 ≤ t.index ∧ t.index.toNat < e.length) :
    Con1 Tryz.prog gl 50 [ptr b, t.dv, MV.envM e] [(b, useM most u)] (outM most (u + 1) (e.getD t.index.toNat .unit).thing) [(b, useM most (u + 1))] := by
  rw [useM_yes hu]
  have hti : (t.index.toNat : Int) = t.index := Int.toNat_of_nonneg hi.1
  have W1 := env_at_ok (gl := gl) e t.index.toNat hi.2
  rw [hti] at W1
  by_cases hf1 : u + 1 ≤ most
  · rw [useM_yes hf1, outM_yes hf1]
    have hum : ¬ (most : Int) ≤ (u : Int) := by omega
    refine t_in Tryz.func50 ?_
    intro X hP hgl hf hfn hn hR hids hfit
    refine t_g (j2 @hum @h1) ?_
    refine t_c1 trivial W1 ?_
    repeat (first | refine W_seq ?_ | refine W_skip ?_ | refine W_block ?_ | refine W_inBlock ?_ | refine W_label ?_ | refine W_exit rfl ?_)
    first | refine W_retR hP hf hfn _ ([(b, [dint ((u + 1 : Nat) : Int), dint (most : Int)])]) (by first | (simp [go_sem, hP, hgl, hn]; done) | (simp [go_sem, hP, hgl, hn]; rfl)) (by simp [go_sem, hP, hgl, hn]) (by simp) ?_ hR.2 | refine W_endR hP hf hfn _ ([(b, [dint ((u + 1 : Nat) : Int), dint (most : Int)])]) (by first | (simp [go_sem, hP, hgl, hn]; done) | (simp [go_sem, hP, hgl, hn]; rfl)) (by simp [go_sem, hP, hgl, hn]) (by simp) ?_ hR.2
    rw [hR.1]
    refine ⟨?_, by simp⟩
    try simp
    try all_goals (simp [Ty.dv, Ty.cells_eq, Ty.kind_mk, Ty.args_mk, Tm.dv, Tm.cells_eq, Tm.kind_mk, Tm.index_mk, Tm.type_mk, Tm.args_mk, Val.dv, Val.cells_eq, Val.kind_mk, Val.num_mk, Val.list_mk, Val.args_mk, ints])
  · rw [useM_no hf1, outM_no hf1]
    have hum : (most : Int) ≤ (u : Int) := by omega
    have hue : (u : Int) = (most : Int) := by omega
    refine t_in Tryz.func50 ?_
    intro X hP hgl hf hfn hn hR hids hfit
    refine t_g @hum ?_
    repeat (first | refine W_seq ?_ | refine W_skip ?_ | refine W_block ?_ | refine W_inBlock ?_ | refine W_label ?_ | refine W_exit rfl ?_)
    first | refine W_retR hP hf hfn _ ([(b, [dint (most : Int), dint (most : Int)])]) (by first | (simp [go_sem, hP, hgl, hn, hue]; done) | (simp [go_sem, hP, hgl, hn, hue]; rfl)) (by simp [go_sem, hP, hgl, hn, hue]) (by simp) ?_ hR.2 | refine W_endR hP hf hfn _ ([(b, [dint (most : Int), dint (most : Int)])]) (by first | (simp [go_sem, hP, hgl, hn, hue]; done) | (simp [go_sem, hP, hgl, hn, hue]; rfl)) (by simp [go_sem, hP, hgl, hn, hue]) (by simp) ?_ hR.2
    rw [hR.1]
    refine ⟨?_, by simp [hue]⟩
    try simp [hue]
    try all_goals (simp [Ty.dv, Ty.cells_eq, Ty.kind_mk, Ty.args_mk, Tm.dv, Tm.cells_eq, Tm.kind_mk, Tm.index_mk, Tm.type_mk, Tm.args_mk, Val.dv, Val.cells_eq, Val.kind_mk, Val.num_mk, Val.list_mk, Val.args_mk, ints])

theorem evalM_2 {most : Nat} (hm : most ≤ 1073741824) (t : Tm) {e : List MV} {u : Nat} (b : Nat) (hu : u ≤ most) (h2 : t.kind = 2) {body : Tm} {rest : List Tm} (ha : t.args = body :: rest) :
    Con1 Tryz.prog gl 50 [ptr b, t.dv, MV.envM e] [(b, useM most u)] (outM most (u + 1) (MV.clo body e).thing) [(b, useM most (u + 1))] := by
  rw [useM_yes hu]
  by_cases hf1 : u + 1 ≤ most
  · rw [useM_yes hf1, outM_yes hf1, thing_clo]
    have hum : ¬ (most : Int) ≤ (u : Int) := by omega
    have hg : (t.args.map Tm.cells)[0]? = some [dint body.kind, dint body.index, dint body.type.kind, .sl (body.type.args.map Ty.cells), .sl (body.args.map Tm.cells)] := by rw [ha]; simp [Tm.cells_eq]
    have hg' : t.args[0]? = some body := by rw [ha]; rfl
    have hT := Tm.fold body
    refine t_in Tryz.func50 ?_
    intro X hP hgl hf hfn hn hR hids hfit
    refine t_g (j2 @hum @h2) ?_
    refine W_reg [42] fun K hK => ?_
    simp [go_sem, hP, hgl, hn, hg, hg', hT, Tm.cells_eq]
    refine vcK_boxR (cs := [dint body.kind, dint body.index, dint body.type.kind, .sl (body.type.args.map Ty.cells), .sl (body.args.map Tm.cells), MV.envM e]) (y := .ag [dint body.kind, dint body.index, dint body.type.kind, .sl (body.type.args.map Ty.cells), .sl (body.args.map Tm.cells), MV.envM e] []) (by simp [go_sem, hP, hgl, hn]) (by simp [go_sem]) (by simp [go_sem]) (by rw [hn]; exact Nat.le_of_ble_eq_true rfl) (by rfl) ?_
    simp [go_sem, hP, hgl, hn]
    refine t_e ?_
    clear hK K
    repeat (first | refine W_seq ?_ | refine W_skip ?_ | refine W_block ?_ | refine W_inBlock ?_ | refine W_label ?_ | refine W_exit rfl ?_)
    first | refine W_retR hP hf hfn _ ([(b, [dint ((u + 1 : Nat) : Int), dint (most : Int)])]) (by first | (simp [go_sem, hP, hgl, hn]; done) | (simp [go_sem, hP, hgl, hn]; rfl)) (by simp [go_sem, hP, hgl, hn]) (by simp) ?_ hR.2 | refine W_endR hP hf hfn _ ([(b, [dint ((u + 1 : Nat) : Int), dint (most : Int)])]) (by first | (simp [go_sem, hP, hgl, hn]; done) | (simp [go_sem, hP, hgl, hn]; rfl)) (by simp [go_sem, hP, hgl, hn]) (by simp) ?_ hR.2
    rw [hR.1]
    refine ⟨?_, by simp⟩
    try simp
    try all_goals (simp [Ty.dv, Ty.cells_eq, Ty.kind_mk, Ty.args_mk, Tm.dv, Tm.cells_eq, Tm.kind_mk, Tm.index_mk, Tm.type_mk, Tm.args_mk, Val.dv, Val.cells_eq, Val.kind_mk, Val.num_mk, Val.list_mk, Val.args_mk, ints])
  · rw [useM_no hf1, outM_no hf1]
    have hum : (most : Int) ≤ (u : Int) := by omega
    have hue : (u : Int) = (most : Int) := by omega
    refine t_in Tryz.func50 ?_
    intro X hP hgl hf hfn hn hR hids hfit
    refine t_g @hum ?_
    repeat (first | refine W_seq ?_ | refine W_skip ?_ | refine W_block ?_ | refine W_inBlock ?_ | refine W_label ?_ | refine W_exit rfl ?_)
    first | refine W_retR hP hf hfn _ ([(b, [dint (most : Int), dint (most : Int)])]) (by first | (simp [go_sem, hP, hgl, hn, hue]; done) | (simp [go_sem, hP, hgl, hn, hue]; rfl)) (by simp [go_sem, hP, hgl, hn, hue]) (by simp) ?_ hR.2 | refine W_endR hP hf hfn _ ([(b, [dint (most : Int), dint (most : Int)])]) (by first | (simp [go_sem, hP, hgl, hn, hue]; done) | (simp [go_sem, hP, hgl, hn, hue]; rfl)) (by simp [go_sem, hP, hgl, hn, hue]) (by simp) ?_ hR.2
    rw [hR.1]
    refine ⟨?_, by simp [hue]⟩
    try simp [hue]
    try all_goals (simp [Ty.dv, Ty.cells_eq, Ty.kind_mk, Ty.args_mk, Tm.dv, Tm.cells_eq, Tm.kind_mk, Tm.index_mk, Tm.type_mk, Tm.args_mk, Val.dv, Val.cells_eq, Val.kind_mk, Val.num_mk, Val.list_mk, Val.args_mk, ints])
end Go.Proofs.YtgfjcbofbbcnmaaGreatDoor.Lift

namespace Go.Proofs.YtgfjcbofbbcnmaaGreatDoor.Lift
set_option linter.unusedSimpArgs false
set_option linter.unusedVariables false
set_option linter.unnecessarySimpa false
open Go
variable {gl : Globs}

/-- a slice of one-cell elements -/
def ones (l : List DV) : List (List DV) := l.map fun x => [x]
theorem ones_length (l : List DV) : (ones l).length = l.length := by simp [ones]
theorem ones_get {l : List DV} {i : Nat} {x : DV} (h : l[i]? = some x) : (ones l)[i]? = some [x] := by simp [ones, h]
attribute [go_sem] ones_length

theorem backwardM_ok (l : List DV) : Con Tryz.prog gl 88 [.sl (ones l)] [] fun r φ => ∃ b, r = .prim (.func (.func 102) #[] #[.pointer (some ⟨b, 0, none⟩)]) ∧ φ = [(b, [.sl (ones l)])] := by
  refine t_in Tryz.func88 ?_
  intro X hP hgl hf hfn hn hR hids hfit
  refine t_rg0 ?_
  refine W_expose 1 (by simp [go_sem]; rfl) ?_
  intro b hb
  simp [go_sem]
  refine t_rg0 ?_
  refine t_a ?_
  refine W_retR hP hf hfn (.prim (.func (.func 102) #[] #[.pointer (some ⟨b, 0, none⟩)])) [(b, [.sl (ones l)])] (by simp [go_sem, hP, hgl, hn]) (by simp [go_sem]) (by simp) (by rw [hR.1]; exact ⟨b, rfl, rfl⟩) hR.2

/-- what is asked of yield: the numbers from the last one on -/
def BackM (P : Program) (gl : Globs) (l : List DV) (φ : Nat → Objs) (Stop : Objs → Loop → Prop) (lp : Nat) (r : Loop) (D0 : Nat → Nat → Prop) (w0 : World) : Prop :=
  ∀ (i : Nat) (x : DV), l[i]? = some x → YC P gl D0 w0 lp r [dint i, x] (φ (i + 1)) fun b φ' r' => if b = true then φ' = φ i ∧ r' = r else Stop φ' r'

theorem backItM_ok (l : List DV) (hlen : l.length ≤ 2147483648) (b0 : Nat) (φ : Nat → Objs) (hφ : ∀ i, (φ i).map (·.1) = (φ 0).map (·.1)) (hnd : ((φ 0).map (·.1)).Nodup) (hb0 : b0 ∉ (φ 0).map (·.1)) {Stop : Objs → Loop → Prop} (hStop : ∀ ψ r', Stop ψ r' → ψ.map (·.1) = (φ 0).map (·.1)) (lp : Nat) (r : Loop) (hps : r.params.size = 2) :
    ItC Tryz.prog gl 102 [.prim (.func (.yield lp) #[] #[]), ptr b0] ((b0, [.sl (ones l)]) :: φ l.length) lp r (BackM Tryz.prog gl l φ Stop lp r) (fun φ' r' => (φ' = (b0, [.sl (ones l)]) :: φ 0 ∧ r' = r) ∨ ∃ ψ, φ' = (b0, [.sl (ones l)]) :: ψ ∧ Stop ψ r') := by
  refine ItC_intro Tryz.func102 rfl (by kernel_rfl) (Nat.le_of_ble_eq_true rfl) ?_
  intro X hP hgl hf hfn hn hmd hids hfit hlp hY
  simp only [List.map_cons, List.mem_cons, not_or, hφ] at hlp
  obtain ⟨hlb, hlφ⟩ := hlp
  have hin : ∀ (i : Nat) (A : St), (∀ m v, (m, v) ∈ A → ∀ b ∈ (φ 0).map (·.1), m ≠ .heap b) → objsIn (get (A ++ heapSt (φ i))) (φ i) := fun i A h => objsIn_tail (by rw [hφ]; exact hnd) (by rw [hφ]; exact h)
  simp only [entryL, entry, argSt, heapSt, List.map_cons, List.map_nil, List.cons_append, List.nil_append]
  refine t_rg @hlb ?_
  refine t_a ?_
  refine W_tail (A' := [(.slot 3, .one (.v (dint ((l.length : Int) - 1 - (0 : Nat))))), (.slot 0, .one (.v (.prim (.func (.yield lp) #[] #[])))), (.slot 1, .one (.v (ptr b0))), (.heap lp, .ob r), (.heap b0, .row [.v (.sl (ones l))])]) (A := [_, _, _, _, _, _, _, _]) ?_ ?_ ?_
  · intro m v h
    simp only [List.mem_cons, List.not_mem_nil, or_false, Prod.mk.injEq] at h
    rcases h with ⟨rfl, rfl⟩ | ⟨rfl, rfl⟩ | ⟨rfl, rfl⟩ | ⟨rfl, rfl⟩ | ⟨rfl, rfl⟩ <;> simp [go_sem, hlb]
  · simp only [List.cons_append, List.nil_append]
    refine W_upto (X := X) l.length (fun _ => True) (fun j => (.slot 3, .one (.v (dint ((l.length : Int) - 1 - (j : Nat))))) :: (.slot 0, .one (.v (.prim (.func (.yield lp) #[] #[])))) :: (.slot 1, .one (.v (ptr b0))) :: (.heap lp, .ob r) :: (.heap b0, .row [.v (.sl (ones l))]) :: heapSt (φ (l.length - j))) trivial ?_ ?_
    · intro j hj _ hnext
      obtain ⟨i, hi⟩ : ∃ i : Nat, l.length = j + 1 + i := ⟨l.length - (j + 1), by omega⟩
      have hi1 : (l.length : Int) - 1 - (j : Nat) = (i : Nat) := by omega
      have hi2 : l.length - j = i + 1 := by omega
      have hi3 : l.length - (j + 1) = i := by omega
      have hx : l[i]? = some l[i] := List.getElem?_eq_getElem (by omega)
      rw [hi1, hi2]
      rw [hi3] at hnext
      generalize l[i] = x at hx
      have hgi := ones_get hx
      refine t_rg0 ?_
      refine t_yes ?_
      refine t_a ?_
      first | refine W_reg [] fun K hK => ?_ | refine W_regd (by rw [hP]; exact mixed) [] fun K hK => ?_
      refine t_s (j2 @hlb @hgi) ?_
      repeat (refine ⟨by omega, ?_⟩)
      refine vcK_yieldA (by simp [go_sem]) hP hgl (hY i x hx) hps (by simp [go_sem]) rfl ?_ (by rw [hφ]; exact hnd) (by simp [go_sem]) (by rw [hn]; exact Nat.le_of_ble_eq_true rfl) [(.slot 3, .one (.v (dint (i : Nat)))), (.slot 0, .one (.v (.prim (.func (.yield lp) #[] #[])))), (.slot 1, .one (.v (ptr b0))), (.heap b0, .row [.v (.sl (ones l))])] ?_ ?_ ?_
      · repeat (first | refine objsIn_slot ?_ | refine objsIn_heap (by rw [hφ]; assumption) ?_)
        exact objsIn_self (by rw [hφ]; exact hnd)
      · intro m v h
        simp only [List.mem_cons, List.not_mem_nil, or_false, Prod.mk.injEq] at h
        rw [hφ]
        rcases h with ⟨rfl, rfl⟩ | ⟨rfl, rfl⟩ | ⟨rfl, rfl⟩ | ⟨rfl, rfl⟩
        · simp [go_sem]
        · simp [go_sem]
        · simp [go_sem]
        · refine ⟨by simp [go_sem, hlb], by simp, by simp; exact fun e => hlb e.symm, fun b hb e => ?_⟩
          cases e; exact hb0 hb
      · intro b φ' r' h
        have : φ'.map (·.1) = (φ 0).map (·.1) := by
          split at h
          · rw [h.1, hφ]
          · exact hStop _ _ h
        rw [this]
        exact ⟨hnd, hlφ⟩
      · intro b φ' r' h _
        simp only [List.cons_append, List.nil_append]
        cases b with
        | true =>
          simp only [if_true] at h
          obtain ⟨rfl, rfl⟩ := h
          simp [go_sem, hP, hgl, hn]
          refine t_e ?_
          clear hK K
          refine t_no ?_
          refine t_rg0 ?_
          refine t_a ?_
          refine W_tail (A' := [(.slot 3, .one (.v (dint ((l.length : Int) - 1 - (j + 1 : Nat))))), (.slot 0, .one (.v (.prim (.func (.yield lp) #[] #[])))), (.slot 1, .one (.v (ptr b0))), (.heap lp, .ob r'), (.heap b0, .row [.v (.sl (ones l))])]) (A := [_, _, _, _, _, _, _, _, _]) ?_ (hnext trivial) ?_
          · intro m v h
            simp only [List.mem_cons, List.not_mem_nil, or_false, Prod.mk.injEq] at h
            rcases h with ⟨rfl, rfl⟩ | ⟨rfl, rfl⟩ | ⟨rfl, rfl⟩ | ⟨rfl, rfl⟩ | ⟨rfl, rfl⟩ <;> simp [go_sem, hlb]
            omega
          · intro m v h
            simp only [List.mem_cons, List.not_mem_nil, or_false, Prod.mk.injEq] at h
            rw [hφ]
            intro b hb
            rcases h with ⟨rfl, rfl⟩ | ⟨rfl, rfl⟩ | ⟨rfl, rfl⟩ | ⟨rfl, rfl⟩ | ⟨rfl, rfl⟩ | ⟨rfl, rfl⟩ | ⟨rfl, rfl⟩ | ⟨rfl, rfl⟩ | ⟨rfl, rfl⟩ <;> first | (simp; done) | (intro e; cases e; first | exact hb0 hb | exact hlφ hb)
        | false =>
          simp only [Bool.false_eq_true, if_false] at h
          have hids' := hStop _ _ h
          simp [go_sem, hP, hgl, hn]
          refine t_e ?_
          clear hK K
          refine t_yes ?_
          refine t_a ?_
          refine W_itfin hmd (φ := (b0, [.sl (ones l)]) :: φ') (q := r') (r := .tup []) (by rw [hP, hf, hfn]; exact Tryz.func102) (by rw [hfn]; simp [go_sem]) (objsIn_one ?_ ?_) ?_ ?_ (.inr ⟨φ', rfl, h⟩) outs_ret
          · simp [go_sem, hlb]
          · repeat (first | refine objsIn_slot ?_ | refine objsIn_heap (by rw [hids']; assumption) ?_)
            exact objsIn_self (by rw [hids']; exact hnd)
          · simp only [List.map_cons, List.nodup_cons, hids']; exact ⟨hb0, hnd⟩
          · simp [go_sem, hlb]
    · intro _
      refine t_rg0 ?_
      refine t_no ?_
      refine t_a ?_
      refine W_itfin hmd (φ := (b0, [.sl (ones l)]) :: φ 0) (q := r) (r := .tup []) (by rw [hP, hf, hfn]; exact Tryz.func102) (by rw [hfn]; simp [go_sem]) (objsIn_one ?_ ?_) ?_ ?_ (.inl ⟨rfl, rfl⟩) outs_end
      · simp [go_sem, hlb]
      · repeat (first | refine objsIn_slot ?_ | refine objsIn_heap (by assumption) ?_)
        exact objsIn_self hnd
      · simp only [List.map_cons, List.nodup_cons]; exact ⟨hb0, hnd⟩
      · simp [go_sem, hlb]
  · intro m v h
    simp only [List.mem_cons, List.not_mem_nil, or_false, Prod.mk.injEq] at h
    rw [hφ]
    intro b hb
    rcases h with ⟨rfl, rfl⟩ | ⟨rfl, rfl⟩ | ⟨rfl, rfl⟩ | ⟨rfl, rfl⟩ | ⟨rfl, rfl⟩ | ⟨rfl, rfl⟩ | ⟨rfl, rfl⟩ | ⟨rfl, rfl⟩ <;> first | (simp; done) | (intro e; cases e; first | exact hb0 hb | exact hlφ hb)
end Go.Proofs.YtgfjcbofbbcnmaaGreatDoor.Lift

/-
  Package machine: the walk of a fold.
-/
namespace Go.Proofs.YtgfjcbofbbcnmaaGreatDoor.Lift
set_option linter.unusedSimpArgs false
set_option linter.unusedVariables false
set_option linter.unnecessarySimpa false
open Go
variable {gl : Globs}

/-- the cells of a list, the first one first -/
def cellsOf : List Nat → List DV
  | [] => []
  | n :: l => cellM (n :: l) :: cellsOf l
theorem cellsOf_length : ∀ l, (cellsOf l).length = l.length
  | [] => rfl
  | n :: l => by simp [cellsOf, cellsOf_length l]
theorem cellsOf_get : ∀ {l : List Nat} {i : Nat}, i < l.length → (cellsOf l)[i]? = some (cellM (l.drop i))
  | n :: l, 0, _ => rfl
  | n :: l, i + 1, h => by simpa [cellsOf] using cellsOf_get (l := l) (i := i) (by simpa using h)

theorem fold_drop {ev : Evl} {f r : MV} : ∀ {l : List Nat} {v : MV} {c : Nat} (i : Nat), foldC ev f r l = some (v, c) → ∃ v' c', foldC ev f r (l.drop i) = some (v', c') ∧ c' ≤ c
  | l, v, c, 0, h => ⟨v, c, h, Nat.le_refl _⟩
  | [], v, c, i + 1, h => ⟨v, c, h, Nat.le_refl _⟩
  | x :: l, v, c, i + 1, h => by
    simp only [foldC] at h
    split at h
    · cases h
    rename_i v1 c1 hv1
    split at h
    · cases h
    rename_i w c2 hw
    simp only [Option.some.injEq, Prod.mk.injEq] at h
    obtain ⟨rfl, rfl⟩ := h
    obtain ⟨v', c', h1, h2⟩ := fold_drop i hv1
    exact ⟨v', c', h1, by omega⟩
theorem fold_step {ev : Evl} {f r : MV} {x : Nat} {l : List Nat} {v : MV} {c : Nat} (h : foldC ev f r (x :: l) = some (v, c)) : ∃ v1 c1 c2, foldC ev f r l = some (v1, c1) ∧ callC ev f [.num x, .list l, v1] = some (v, c2) ∧ c = c1 + c2 := by
  simp only [foldC] at h
  split at h
  · cases h
  rename_i v1 c1 hv1
  split at h
  · cases h
  rename_i w c2 hw
  simp only [Option.some.injEq, Prod.mk.injEq] at h
  obtain ⟨rfl, rfl⟩ := h
  exact ⟨v1, c1, c2, hv1, hw, rfl⟩
def foldS (ev : Evl) (f r : MV) (l : List Nat) (i : Nat) : MV × Nat := (foldC ev f r (l.drop i)).getD (.unit, 0)

theorem room_le {M c1 most u : Nat} (h : M + (most - u) ≤ 1073741824) (k : u + c1 ≤ most) : M + c1 + (most - (u + c1)) ≤ 1073741824 := by omega
set_option maxHeartbeats 1000000 in
theorem foldM_ok {most : Nat} (hm : most ≤ 1073741824) {ev : Evl} (H : WalkM Tryz.prog gl 50 most ev) (hN : NleM most ev) : FoldM Tryz.prog gl 72 most ev := by
  intro r f v l u c b M h hu hM hr0 hf0 hl0
  have z0 : at3 [r, f, .list l] 0 = r.thing := rfl
  have z1 : at3 [r, f, .list l] 1 = f.thing := rfl
  have z2 : at3 [r, f, .list l] 2 = .iface 104 (cellM l) := thing_list l
  have hll : (l.length : Int) ≤ 1073741824 := by omega
  unfold arr3
  rw [z0, z1, z2, useM_yes hu]
  refine t_in Tryz.func72 ?_
  intro X hP hgl hf hfn hn hR hids hfit
  refine t_g0 ?_
  refine t_a ?_
  refine W_sub [(1006, 0)] (by simp [go_sem]) (by simp [go_sem, ones] <;> omega) (by simp [go_sem]) (W_rounds (fun x : List DV × List Nat => x.1 ++ cellsOf x.2 = cellsOf l ∧ x.1.length + x.2.length = l.length) (fun x : List DV × List Nat => [(.slot 6, .one (.own 1006 (ones x.1))), (.tok 1006, .tk 1 x.1.length), (.slot 7, .one (.v (cellM x.2))), (.slot 4, .one (.v nilI)), (.slot 5, .one (.v (dbool false))), (.slot 2, .one (.loc 2 0)), (.loc 2, .row ([.v (ptr b)])), (.slot 3, .one (.loc 3 0)), (.loc 3, .row ([.v r.thing, .v f.thing, .v (.iface 104 (cellM l))])), (.heap  b, .row ([.v (dint (u : Int)), .v (dint (most : Int))]))]) (fun x : List DV × List Nat => x.2.length) (([] : List DV), l) (⟨rfl, by simp⟩) ?_)
  rintro ⟨cs, q⟩ ⟨hq1, hq2⟩ ih
  simp only at hq1 hq2
  cases q with
  | cons n q =>
    have hcm := cellM_cons n q
    have hon := ones_length cs
    simp only [List.length_cons] at hq2
    have hle : (cs.length : Int) + 1 ≤ 1073741824 := by omega
    have hcl : cs.length ≤ 2147483647 := by omega
    have hwid : ∀ e : List DV, e ∈ ones cs → e.length = 1 := by intro e he; simp only [ones, List.mem_map] at he; obtain ⟨x, -, rfl⟩ := he; rfl
    have hone : ones cs ++ [[DV.ref [dint (n : Int), cellM q]]] = ones (cs ++ [DV.ref [dint (n : Int), cellM q]]) := by simp [ones]
    have e1 : (cs ++ [DV.ref [dint (n : Int), cellM q]]) ++ cellsOf q = cellsOf l := by rw [← hq1, cellsOf, hcm]; simp
    have e2 : (cs ++ [DV.ref [dint (n : Int), cellM q]]).length + q.length = l.length := by simp; omega
    have e3 : q.length < (n :: q).length := by simp
    rw [hcm]
    refine t_rg0 ?_
    refine t_yes ?_
    refine t_rg (j2 @hcl (j2 @hwid @hon)) ?_
    refine t_rg0 ?_
    have hl1 : (cs ++ [DV.ref [dint (n : Int), cellM q]]).length = cs.length + 1 := by simp
    refine t_b ?_
    refine t_sub [(1006, 24)] (j2 @hone (j2 @hon @hl1)) (ih (cs ++ [DV.ref [dint (n : Int), cellM q]], q) ⟨e1, e2⟩ e3)
  | nil =>
    simp only [cellsOf, List.append_nil] at hq1
    subst hq1
    have hcm := cellM_nil
    rw [hcm]
    refine t_rg0 ?_
    refine t_no ?_
    refine t_rg0 ?_
    refine t_a ?_
    first | refine W_reg [] fun K hK => ?_ | refine W_regd (by rw [hP]; exact mixed) [] fun K hK => ?_
    refine t_s0 ?_
    repeat (refine ⟨by omega, ?_⟩)
    refine vcK_callR hP hgl (backwardM_ok (cellsOf l)) (by simp [go_sem]) rfl (by simp [go_sem]) (by simp) (by rw [hn]; exact Nat.le_of_ble_eq_true rfl) ?_
    rintro rr ψ ⟨b0, rfl, rfl⟩ hdis
    simp [go_sem] at hdis ⊢
    refine t_e ?_
    clear hK K
    refine t_a ?_
    refine W_expose 2 (by simp [go_sem]; rfl) ?_
    intro b2 hb2
    simp [go_sem, hdis] at hb2 ⊢
    refine W_expose 3 (by simp [go_sem]; rfl) ?_
    intro b3 hb3
    simp [go_sem, hdis, hb2] at hb3 ⊢
    refine W_expose 8 (by simp [go_sem]; rfl) ?_
    intro b8 hb8
    simp [go_sem, hdis, hb2, hb3] at hb8 ⊢
    refine W_expose 9 (by simp [go_sem]; rfl) ?_
    intro b9 hb9
    simp [go_sem, hdis, hb2, hb3, hb8] at hb9 ⊢
    have hnds : ¬ b0 = b := fun e => hdis e.symm
    obtain ⟨q1, q2⟩ := hb2
    obtain ⟨q3, q4, q5⟩ := hb3
    obtain ⟨q6, q7, q8, q9⟩ := hb8
    obtain ⟨q10, q11, q12, q13, q14⟩ := hb9
    have q15 : ¬ b9 = b := fun e => q14 e.symm
    have q16 : ¬ b8 = b := fun e => q9 e.symm
    have q17 : ¬ b3 = b := fun e => q5 e.symm
    have q18 : ¬ b2 = b := fun e => q2 e.symm
    have p1 := Ne.symm q1
    have p3 := Ne.symm q3
    have p4 := Ne.symm q4
    have p6 := Ne.symm q6
    have p7 := Ne.symm q7
    have p8 := Ne.symm q8
    have p10 := Ne.symm q10
    have p11 := Ne.symm q11
    have p12 := Ne.symm q12
    have p13 := Ne.symm q13
    have hS : ∀ i, foldC ev f r (l.drop i) = some (foldS ev f r l i) ∧ (foldS ev f r l i).2 ≤ c := by
      intro i
      obtain ⟨v', c', e1, e2⟩ := fold_drop i h
      unfold foldS
      rw [e1]
      exact ⟨rfl, e2⟩
    have hS0 : foldS ev f r l 0 = (v, c) := by unfold foldS; rw [List.drop_zero, h]; rfl
    have hSl : foldS ev f r l l.length = (r, 0) := by unfold foldS; rw [List.drop_length]; rfl
    generalize hSS : foldS ev f r l = S at hS hS0 hSl
    let Φ : Nat → Objs := fun i => [(b2, [ptr b]), (b3, [r.thing, f.thing, .iface 104 (cellM l)]), (b8, [if u + (S i).2 ≤ most then (S i).1.thing else nilI]), (b9, [dbool (decide (u + (S i).2 ≤ most))]), (b, useM most (u + (S i).2))]
    have hlenc : (cellsOf l).length = l.length := cellsOf_length l
    have hΦl : Φ (cellsOf l).length = [(b2, [ptr b]), (b3, [r.thing, f.thing, .iface 104 (cellM l)]), (b8, [r.thing]), (b9, [dbool true]), (b, [dint (u : Int), dint (most : Int)])] := by
      simp only [Φ, hlenc, hSl, Nat.add_zero, if_pos hu, useM_yes hu, decide_eq_true hu]
    refine W_rangeFunc hR.2 (f := 102) (fi := #[]) (ca := #[.pointer (some ⟨b0, 0, none⟩)]) (by simp [go_sem]) (by simp [primOK]) (φ := (b0, [.sl (ones (cellsOf l))]) :: Φ (cellsOf l).length) ?_ ?_ (Y := BackM X.P X.gl (cellsOf l) Φ (fun ψ r' => ∃ i, ψ = Φ i ∧ ¬ u + (S i).2 ≤ most ∧ r'.state = .done ∧ r'.pending = some (.exit 2))) (R := fun φ' r' => (φ' = (b0, [.sl (ones (cellsOf l))]) :: Φ 0 ∧ r'.state = .ready ∧ r'.pending = none) ∨ ∃ i, φ' = (b0, [.sl (ones (cellsOf l))]) :: Φ i ∧ ¬ u + (S i).2 ≤ most ∧ r'.state = .done ∧ r'.pending = some (.exit 2)) (SL := [(2, ptr b2), (3, ptr b3), (8, ptr b8), (9, ptr b9)]) ?_ ?_ ?_ ?_ ?_
    · rw [hΦl]
      refine objsIn_one ?_ (objsIn_one ?_ (objsIn_one ?_ (objsIn_one ?_ (objsIn_one ?_ (objsIn_one ?_ (by simp [objsIn]))))))
      all_goals simp [go_sem, hdis, hnds, q1, q2, q3, q4, q5, q6, q7, q8, q9, q10, q11, q12, q13, q14, q15, q16, q17, q18, p1, p3, p4, p6, p7, p8, p10, p11, p12, p13]
    · rw [hΦl]
      simp [hdis, hnds, q1, q2, q3, q4, q5, q6, q7, q8, q9, q10, q11, q12, q13, q14, q15, q16, q17, q18, p1, p3, p4, p6, p7, p8, p10, p11, p12, p13]
      try (refine ⟨?_, ?_⟩ <;> (intro e; subst e; simp_all))
    · intro n x h
      simp only [List.mem_cons, List.not_mem_nil, or_false, Prod.mk.injEq] at h
      rcases h with ⟨rfl, rfl⟩ | ⟨rfl, rfl⟩ | ⟨rfl, rfl⟩ | ⟨rfl, rfl⟩ <;> simp [go_sem]
    · intro lp rr h1 h2 h3 h4
      have := backItM_ok (gl := gl) (cellsOf l) (by rw [hlenc]; omega) b0 Φ (fun _ => rfl) (by simp only [Φ]; simp [hdis, hnds, q1, q2, q3, q4, q5, q6, q7, q8, q9, q10, q11, q12, q13, q14, q15, q16, q17, q18, p1, p3, p4, p6, p7, p8, p10, p11, p12, p13]; try (intro e; subst e; simp_all)) (by simp only [Φ]; simp [hdis, hnds, q1, q2, q3, q4, q5, q6, q7, q8, q9, q10, q11, q12, q13, q14, q15, q16, q17, q18, p1, p3, p4, p6, p7, p8, p10, p11, p12, p13]) (Stop := fun ψ r' => ∃ i, ψ = Φ i ∧ ¬ u + (S i).2 ≤ most ∧ r'.state = .done ∧ r'.pending = some (.exit 2)) (by rintro ψ r' ⟨i, rfl, -⟩; rfl) lp rr (by rw [h3]; rfl)
      rw [hP, hgl]
      refine ⟨this.1, fun D w vs a1 a2 a3 a4 a5 a6 => (this.2 D w vs a1 a2 a3 a4 a5 a6).mono ?_⟩
      rintro e w' ⟨v1, D', φ', r', rfl, hR', rest⟩
      refine ⟨v1, D', φ', r', rfl, ?_, rest⟩
      rcases hR' with ⟨rfl, rfl⟩ | ⟨ψ, hψ, i, rfl, k1, k2, k3⟩
      · exact .inl ⟨rfl, h1, h2⟩
      · exact .inr ⟨i, hψ, k1, k2, k3⟩
    · intro lp rr D0 w0 h1 h2 h3 h4 h5 h6 h7 h8 h9 i x hx
      rw [hP, hgl]
      have hil : i < l.length := by have := (List.getElem?_eq_some_iff.1 hx).1; rw [hlenc] at this; exact this
      rw [cellsOf_get hil, Option.some.injEq] at hx
      subst hx
      refine YC_round X.n h5 h9 h1 (by rw [h3]; rfl) (by rw [h3, hn]; decide) (by rw [h3]; decide) (by rw [h3]; simp) ?_
      intro X' hP' hgl' hf' hn' hmd' hids' hl' hfit'
      rw [h3, h6, h7]
      rw [hn] at hn'
      clear hP hgl hn
      have hP := hP'
      have hgl := hgl'
      have hn := hn'
      have hl2 : ¬ lp = b2 ∧ ¬ lp = b3 ∧ ¬ lp = b8 ∧ ¬ lp = b9 ∧ ¬ lp = b := by simpa [Φ] using hl'
      obtain ⟨x2, x3, x8, x9, xb⟩ := hl2
      have i2 := Ne.symm x2
      have i3 := Ne.symm x3
      have i8 := Ne.symm x8
      have i9 := Ne.symm x9
      have ib := Ne.symm xb
      obtain ⟨n, hdi⟩ : ∃ n, l.drop i = n :: l.drop (i + 1) := ⟨l[i], List.drop_eq_getElem_cons hil⟩
      have hcm := cellM_cons n (l.drop (i + 1))
      have hfS := (hS i).1
      rw [hdi] at hfS ⊢
      obtain ⟨v1, c1, c2, g1, g2, g3⟩ := fold_step hfS
      have hS1 := (hS (i + 1)).1
      rw [g1, Option.some.injEq] at hS1
      rw [hcm]
      by_cases hfa : u + c1 ≤ most
      · have hΦ1 : Φ (i + 1) = [(b2, [ptr b]), (b3, [r.thing, f.thing, .iface 104 (cellM l)]), (b8, [v1.thing]), (b9, [dbool true]), (b, [dint ((u + c1 : Nat) : Int), dint (most : Int)])] := by
          simp only [Φ, ← hS1, if_pos hfa, useM_yes hfa, decide_eq_true hfa]
        have hbd : ∀ n' ∈ l.drop (i + 1), n' ≤ M := fun n' hn' => hl0.2 n' (List.mem_of_mem_drop hn')
        have hbl : (l.drop (i + 1)).length ≤ M := by have := hl0.1; rw [List.length_drop]; omega
        have hnM : n ≤ M := hl0.2 n (List.mem_of_mem_drop (by rw [hdi]; exact List.mem_cons_self))
        have hv1 := nle_fold hN g1 hf0 hr0 ⟨hbl, hbd⟩
        have w1 : f.nle (M + c1) := MV.nle_mono (Nat.le_add_right M c1) f hf0
        have w2 : M + c1 + (most - (u + c1)) ≤ 1073741824 := room_le hM hfa
        have w3 : MV.nles (M + c1) [.num n, .list (l.drop (i + 1)), v1] := by
          simp only [MV.nles, MV.nle]
          exact ⟨by omega, ⟨by omega, fun n' hn' => Nat.le_trans (hbd n' hn') (Nat.le_add_right M c1)⟩, hv1, trivial⟩
        have W1 := callM_ok hm H hN b (M + c1) g2 hfa w2 w1 w3
        rw [useM_yes hfa] at W1
        simp only [List.map, thing_num, thing_list] at W1
        rw [hΦ1]
        simp only [entryR, h3, parSt, slotSt, heapSt, List.cons_append, List.nil_append]
        refine t_rg (j2 @hdis (j2 @hnds (j2 @q1 (j2 @q2 (j2 @q3 (j2 @q4 (j2 @q5 (j2 @q6 (j2 @q7 (j2 @q8 (j2 @q9 (j2 @q10 (j2 @q11 (j2 @q12 (j2 @q13 (j2 @q14 (j2 @q15 (j2 @q16 (j2 @q17 (j2 @q18 (j2 @p1 (j2 @p3 (j2 @p4 (j2 @p6 (j2 @p7 (j2 @p8 (j2 @p10 (j2 @p11 (j2 @p12 (j2 @p13 (j2 @x2 (j2 @x3 (j2 @x8 (j2 @x9 (j2 @xb (j2 @i2 (j2 @i3 (j2 @i8 (j2 @i9 @ib))))))))))))))))))))))))))))))))))))))) ?_
        refine W_begin (r := rr) (l := lp) (by simp [Ctx.rd, hmd']) (by simp [go_sem]) h1 ?_
        simp [go_sem, hdis, hnds, q1, q2, q3, q4, q5, q6, q7, q8, q9, q10, q11, q12, q13, q14, q15, q16, q17, q18, p1, p3, p4, p6, p7, p8, p10, p11, p12, p13, x2, x3, x8, x9, xb, i2, i3, i8, i9, ib]
        refine t_rg (j2 @hdis (j2 @hnds (j2 @q1 (j2 @q2 (j2 @q3 (j2 @q4 (j2 @q5 (j2 @q6 (j2 @q7 (j2 @q8 (j2 @q9 (j2 @q10 (j2 @q11 (j2 @q12 (j2 @q13 (j2 @q14 (j2 @q15 (j2 @q16 (j2 @q17 (j2 @q18 (j2 @p1 (j2 @p3 (j2 @p4 (j2 @p6 (j2 @p7 (j2 @p8 (j2 @p10 (j2 @p11 (j2 @p12 (j2 @p13 (j2 @x2 (j2 @x3 (j2 @x8 (j2 @x9 (j2 @xb (j2 @i2 (j2 @i3 (j2 @i8 (j2 @i9 @ib))))))))))))))))))))))))))))))))))))))) ?_
        refine t_no ?_
        by_cases hfb : u + c1 + c2 ≤ most
        · have o1 : outM most (u + c1 + c2) (S i).1.thing = .tup [(S i).1.thing, dbool true] := outM_yes hfb _
          have hΦ0 : Φ i = [(b2, [ptr b]), (b3, [r.thing, f.thing, .iface 104 (cellM l)]), (b8, [(S i).1.thing]), (b9, [dbool true]), (b, [dint ((u + c1 + c2 : Nat) : Int), dint (most : Int)])] := by
            have e9 : u + (S i).2 = u + c1 + c2 := by omega
            simp only [Φ, e9, if_pos hfb, useM_yes hfb, decide_eq_true hfb]
          rw [o1, useM_yes hfb] at W1
          refine t_a ?_
          first | refine W_reg [] fun K hK => ?_ | refine W_regd (by rw [hP]; exact mixed) [] fun K hK => ?_
          refine t_s (j2 @hdis (j2 @hnds (j2 @q1 (j2 @q2 (j2 @q3 (j2 @q4 (j2 @q5 (j2 @q6 (j2 @q7 (j2 @q8 (j2 @q9 (j2 @q10 (j2 @q11 (j2 @q12 (j2 @q13 (j2 @q14 (j2 @q15 (j2 @q16 (j2 @q17 (j2 @q18 (j2 @p1 (j2 @p3 (j2 @p4 (j2 @p6 (j2 @p7 (j2 @p8 (j2 @p10 (j2 @p11 (j2 @p12 (j2 @p13 (j2 @x2 (j2 @x3 (j2 @x8 (j2 @x9 (j2 @xb (j2 @i2 (j2 @i3 (j2 @i8 (j2 @i9 @ib))))))))))))))))))))))))))))))))))))))) ?_
          repeat (refine ⟨by omega, ?_⟩)
          first | refine vcK_call hP hgl (W1) (by simp [go_sem, hP, hgl, hn, hdis, hnds, q1, q2, q3, q4, q5, q6, q7, q8, q9, q10, q11, q12, q13, q14, q15, q16, q17, q18, p1, p3, p4, p6, p7, p8, p10, p11, p12, p13, x2, x3, x8, x9, xb, i2, i3, i8, i9, ib]) rfl (by simp [go_sem, hP, hgl, hn, hdis, hnds, q1, q2, q3, q4, q5, q6, q7, q8, q9, q10, q11, q12, q13, q14, q15, q16, q17, q18, p1, p3, p4, p6, p7, p8, p10, p11, p12, p13, x2, x3, x8, x9, xb, i2, i3, i8, i9, ib]) (by simp [hdis, hnds, q1, q2, q3, q4, q5, q6, q7, q8, q9, q10, q11, q12, q13, q14, q15, q16, q17, q18, p1, p3, p4, p6, p7, p8, p10, p11, p12, p13, x2, x3, x8, x9, xb, i2, i3, i8, i9, ib]) (by rw [hn]; exact Nat.le_of_ble_eq_true rfl) ?_ | refine vcdC_call (fun _ _ => vcd_sound) hP hgl (W1) (by simp [go_sem, hP, hgl, hn, hdis, hnds, q1, q2, q3, q4, q5, q6, q7, q8, q9, q10, q11, q12, q13, q14, q15, q16, q17, q18, p1, p3, p4, p6, p7, p8, p10, p11, p12, p13, x2, x3, x8, x9, xb, i2, i3, i8, i9, ib]) rfl (by simp [go_sem, hP, hgl, hn, hdis, hnds, q1, q2, q3, q4, q5, q6, q7, q8, q9, q10, q11, q12, q13, q14, q15, q16, q17, q18, p1, p3, p4, p6, p7, p8, p10, p11, p12, p13, x2, x3, x8, x9, xb, i2, i3, i8, i9, ib]) (by simp [hdis, hnds, q1, q2, q3, q4, q5, q6, q7, q8, q9, q10, q11, q12, q13, q14, q15, q16, q17, q18, p1, p3, p4, p6, p7, p8, p10, p11, p12, p13, x2, x3, x8, x9, xb, i2, i3, i8, i9, ib]) (by rw [hn]; exact Nat.le_of_ble_eq_true rfl) ?_
          simp [go_sem, hP, hgl, hn, hdis, hnds, q1, q2, q3, q4, q5, q6, q7, q8, q9, q10, q11, q12, q13, q14, q15, q16, q17, q18, p1, p3, p4, p6, p7, p8, p10, p11, p12, p13, x2, x3, x8, x9, xb, i2, i3, i8, i9, ib]
          refine t_e ?_
          clear hK K
          refine t_a ?_
          refine W_rdfin hmd' (φ := Φ i) ?_ (by simp only [Φ]; simp [hdis, hnds, q1, q2, q3, q4, q5, q6, q7, q8, q9, q10, q11, q12, q13, q14, q15, q16, q17, q18, p1, p3, p4, p6, p7, p8, p10, p11, p12, p13]) (by simp [go_sem, hdis, hnds, q1, q2, q3, q4, q5, q6, q7, q8, q9, q10, q11, q12, q13, q14, q15, q16, q17, q18, p1, p3, p4, p6, p7, p8, p10, p11, p12, p13, x2, x3, x8, x9, xb, i2, i3, i8, i9, ib]) none rfl ?_
          · rw [hΦ0]
            refine objsIn_one ?_ (objsIn_one ?_ (objsIn_one ?_ (objsIn_one ?_ (objsIn_one ?_ (by simp [objsIn])))))
            all_goals simp [go_sem, hdis, hnds, q1, q2, q3, q4, q5, q6, q7, q8, q9, q10, q11, q12, q13, q14, q15, q16, q17, q18, p1, p3, p4, p6, p7, p8, p10, p11, p12, p13, x2, x3, x8, x9, xb, i2, i3, i8, i9, ib]
          · simp only [Option.isNone_none, if_true, true_and]
            cases rr; simp only [pastL] at h1 h2 ⊢; subst h1 h2; rfl
        · have o1 : outM most (u + c1 + c2) (S i).1.thing = .tup [nilI, dbool false] := outM_no hfb _
          have hΦ0 : Φ i = [(b2, [ptr b]), (b3, [r.thing, f.thing, .iface 104 (cellM l)]), (b8, [nilI]), (b9, [dbool false]), (b, [dint (most : Int), dint (most : Int)])] := by
            have e9 : u + (S i).2 = u + c1 + c2 := by omega
            simp only [Φ, e9, if_neg hfb, useM_no hfb, decide_eq_false hfb]
          rw [o1, useM_no hfb] at W1
          refine t_a ?_
          first | refine W_reg [] fun K hK => ?_ | refine W_regd (by rw [hP]; exact mixed) [] fun K hK => ?_
          refine t_s (j2 @hdis (j2 @hnds (j2 @q1 (j2 @q2 (j2 @q3 (j2 @q4 (j2 @q5 (j2 @q6 (j2 @q7 (j2 @q8 (j2 @q9 (j2 @q10 (j2 @q11 (j2 @q12 (j2 @q13 (j2 @q14 (j2 @q15 (j2 @q16 (j2 @q17 (j2 @q18 (j2 @p1 (j2 @p3 (j2 @p4 (j2 @p6 (j2 @p7 (j2 @p8 (j2 @p10 (j2 @p11 (j2 @p12 (j2 @p13 (j2 @x2 (j2 @x3 (j2 @x8 (j2 @x9 (j2 @xb (j2 @i2 (j2 @i3 (j2 @i8 (j2 @i9 @ib))))))))))))))))))))))))))))))))))))))) ?_
          repeat (refine ⟨by omega, ?_⟩)
          first | refine vcK_call hP hgl (W1) (by simp [go_sem, hP, hgl, hn, hdis, hnds, q1, q2, q3, q4, q5, q6, q7, q8, q9, q10, q11, q12, q13, q14, q15, q16, q17, q18, p1, p3, p4, p6, p7, p8, p10, p11, p12, p13, x2, x3, x8, x9, xb, i2, i3, i8, i9, ib]) rfl (by simp [go_sem, hP, hgl, hn, hdis, hnds, q1, q2, q3, q4, q5, q6, q7, q8, q9, q10, q11, q12, q13, q14, q15, q16, q17, q18, p1, p3, p4, p6, p7, p8, p10, p11, p12, p13, x2, x3, x8, x9, xb, i2, i3, i8, i9, ib]) (by simp [hdis, hnds, q1, q2, q3, q4, q5, q6, q7, q8, q9, q10, q11, q12, q13, q14, q15, q16, q17, q18, p1, p3, p4, p6, p7, p8, p10, p11, p12, p13, x2, x3, x8, x9, xb, i2, i3, i8, i9, ib]) (by rw [hn]; exact Nat.le_of_ble_eq_true rfl) ?_ | refine vcdC_call (fun _ _ => vcd_sound) hP hgl (W1) (by simp [go_sem, hP, hgl, hn, hdis, hnds, q1, q2, q3, q4, q5, q6, q7, q8, q9, q10, q11, q12, q13, q14, q15, q16, q17, q18, p1, p3, p4, p6, p7, p8, p10, p11, p12, p13, x2, x3, x8, x9, xb, i2, i3, i8, i9, ib]) rfl (by simp [go_sem, hP, hgl, hn, hdis, hnds, q1, q2, q3, q4, q5, q6, q7, q8, q9, q10, q11, q12, q13, q14, q15, q16, q17, q18, p1, p3, p4, p6, p7, p8, p10, p11, p12, p13, x2, x3, x8, x9, xb, i2, i3, i8, i9, ib]) (by simp [hdis, hnds, q1, q2, q3, q4, q5, q6, q7, q8, q9, q10, q11, q12, q13, q14, q15, q16, q17, q18, p1, p3, p4, p6, p7, p8, p10, p11, p12, p13, x2, x3, x8, x9, xb, i2, i3, i8, i9, ib]) (by rw [hn]; exact Nat.le_of_ble_eq_true rfl) ?_
          simp [go_sem, hP, hgl, hn, hdis, hnds, q1, q2, q3, q4, q5, q6, q7, q8, q9, q10, q11, q12, q13, q14, q15, q16, q17, q18, p1, p3, p4, p6, p7, p8, p10, p11, p12, p13, x2, x3, x8, x9, xb, i2, i3, i8, i9, ib]
          refine t_e ?_
          clear hK K
          refine t_a ?_
          refine W_rdfin hmd' (φ := Φ i) ?_ (by simp only [Φ]; simp [hdis, hnds, q1, q2, q3, q4, q5, q6, q7, q8, q9, q10, q11, q12, q13, q14, q15, q16, q17, q18, p1, p3, p4, p6, p7, p8, p10, p11, p12, p13]) (by simp [go_sem, hdis, hnds, q1, q2, q3, q4, q5, q6, q7, q8, q9, q10, q11, q12, q13, q14, q15, q16, q17, q18, p1, p3, p4, p6, p7, p8, p10, p11, p12, p13, x2, x3, x8, x9, xb, i2, i3, i8, i9, ib]) none rfl ?_
          · rw [hΦ0]
            refine objsIn_one ?_ (objsIn_one ?_ (objsIn_one ?_ (objsIn_one ?_ (objsIn_one ?_ (by simp [objsIn])))))
            all_goals simp [go_sem, hdis, hnds, q1, q2, q3, q4, q5, q6, q7, q8, q9, q10, q11, q12, q13, q14, q15, q16, q17, q18, p1, p3, p4, p6, p7, p8, p10, p11, p12, p13, x2, x3, x8, x9, xb, i2, i3, i8, i9, ib]
          · simp only [Option.isNone_none, if_true, true_and]
            cases rr; simp only [pastL] at h1 h2 ⊢; subst h1 h2; rfl
      · have hΦ1 : Φ (i + 1) = [(b2, [ptr b]), (b3, [r.thing, f.thing, .iface 104 (cellM l)]), (b8, [nilI]), (b9, [dbool false]), (b, [dint (most : Int), dint (most : Int)])] := by
          simp only [Φ, ← hS1, if_neg hfa, useM_no hfa, decide_eq_false hfa]
        rw [hΦ1]
        simp only [entryR, h3, parSt, slotSt, heapSt, List.cons_append, List.nil_append]
        refine t_rg (j2 @hdis (j2 @hnds (j2 @q1 (j2 @q2 (j2 @q3 (j2 @q4 (j2 @q5 (j2 @q6 (j2 @q7 (j2 @q8 (j2 @q9 (j2 @q10 (j2 @q11 (j2 @q12 (j2 @q13 (j2 @q14 (j2 @q15 (j2 @q16 (j2 @q17 (j2 @q18 (j2 @p1 (j2 @p3 (j2 @p4 (j2 @p6 (j2 @p7 (j2 @p8 (j2 @p10 (j2 @p11 (j2 @p12 (j2 @p13 (j2 @x2 (j2 @x3 (j2 @x8 (j2 @x9 (j2 @xb (j2 @i2 (j2 @i3 (j2 @i8 (j2 @i9 @ib))))))))))))))))))))))))))))))))))))))) ?_
        refine W_begin (r := rr) (l := lp) (by simp [Ctx.rd, hmd']) (by simp [go_sem]) h1 ?_
        simp [go_sem, hdis, hnds, q1, q2, q3, q4, q5, q6, q7, q8, q9, q10, q11, q12, q13, q14, q15, q16, q17, q18, p1, p3, p4, p6, p7, p8, p10, p11, p12, p13, x2, x3, x8, x9, xb, i2, i3, i8, i9, ib]
        refine t_rg (j2 @hdis (j2 @hnds (j2 @q1 (j2 @q2 (j2 @q3 (j2 @q4 (j2 @q5 (j2 @q6 (j2 @q7 (j2 @q8 (j2 @q9 (j2 @q10 (j2 @q11 (j2 @q12 (j2 @q13 (j2 @q14 (j2 @q15 (j2 @q16 (j2 @q17 (j2 @q18 (j2 @p1 (j2 @p3 (j2 @p4 (j2 @p6 (j2 @p7 (j2 @p8 (j2 @p10 (j2 @p11 (j2 @p12 (j2 @p13 (j2 @x2 (j2 @x3 (j2 @x8 (j2 @x9 (j2 @xb (j2 @i2 (j2 @i3 (j2 @i8 (j2 @i9 @ib))))))))))))))))))))))))))))))))))))))) ?_
        refine t_yes ?_
        refine W_rdfin hmd' (φ := Φ (i + 1)) ?_ (by simp only [Φ]; simp [hdis, hnds, q1, q2, q3, q4, q5, q6, q7, q8, q9, q10, q11, q12, q13, q14, q15, q16, q17, q18, p1, p3, p4, p6, p7, p8, p10, p11, p12, p13]) (by simp [go_sem, hdis, hnds, q1, q2, q3, q4, q5, q6, q7, q8, q9, q10, q11, q12, q13, q14, q15, q16, q17, q18, p1, p3, p4, p6, p7, p8, p10, p11, p12, p13, x2, x3, x8, x9, xb, i2, i3, i8, i9, ib]) (some (.exit 2)) ⟨_, rfl, rfl⟩ ?_
        · rw [hΦ1]
          refine objsIn_one ?_ (objsIn_one ?_ (objsIn_one ?_ (objsIn_one ?_ (objsIn_one ?_ (by simp [objsIn])))))
          all_goals simp [go_sem, hdis, hnds, q1, q2, q3, q4, q5, q6, q7, q8, q9, q10, q11, q12, q13, q14, q15, q16, q17, q18, p1, p3, p4, p6, p7, p8, p10, p11, p12, p13, x2, x3, x8, x9, xb, i2, i3, i8, i9, ib]
        · rw [if_neg (by simp)]
          exact ⟨i + 1, rfl, by rw [← hS1]; exact hfa, rfl, rfl⟩
    · rintro φ' r' (⟨-, h, -⟩ | ⟨_, -, -, h, -⟩) <;> (rw [h]; simp)
    · rintro φ' r' (⟨rfl, -, h⟩ | ⟨i, rfl, hi, -, h⟩) -
      · rw [h]
        by_cases hfc : u + c ≤ most
        · rw [outM_yes hfc, useM_yes hfc] at hR
          have hΦ0 : Φ 0 = [(b2, [ptr b]), (b3, [r.thing, f.thing, .iface 104 (cellM l)]), (b8, [v.thing]), (b9, [dbool true]), (b, [dint ((u + c : Nat) : Int), dint (most : Int)])] := by
            simp only [Φ, hS0, if_pos hfc, useM_yes hfc, decide_eq_true hfc]
          rw [hΦ0, hΦl]
          simp [go_sem, hdis, hnds, q1, q2, q3, q4, q5, q6, q7, q8, q9, q10, q11, q12, q13, q14, q15, q16, q17, q18, p1, p3, p4, p6, p7, p8, p10, p11, p12, p13]
          refine t_rg (j2 @hdis (j2 @hnds (j2 @q1 (j2 @q2 (j2 @q3 (j2 @q4 (j2 @q5 (j2 @q6 (j2 @q7 (j2 @q8 (j2 @q9 (j2 @q10 (j2 @q11 (j2 @q12 (j2 @q13 (j2 @q14 (j2 @q15 (j2 @q16 (j2 @q17 (j2 @q18 (j2 @p1 (j2 @p3 (j2 @p4 (j2 @p6 (j2 @p7 (j2 @p8 (j2 @p10 (j2 @p11 (j2 @p12 @p13))))))))))))))))))))))))))))) ?_
          repeat (first | refine W_seq ?_ | refine W_skip ?_ | refine W_block ?_ | refine W_inBlock ?_ | refine W_label ?_ | refine W_exit rfl ?_)
          first | refine W_retR hP hf hfn _ ([(b, [dint ((u + c : Nat) : Int), dint (most : Int)])]) (by first | (simp [go_sem, hP, hgl, hn, hdis, hnds, q1, q2, q3, q4, q5, q6, q7, q8, q9, q10, q11, q12, q13, q14, q15, q16, q17, q18, p1, p3, p4, p6, p7, p8, p10, p11, p12, p13]; done) | (simp [go_sem, hP, hgl, hn, hdis, hnds, q1, q2, q3, q4, q5, q6, q7, q8, q9, q10, q11, q12, q13, q14, q15, q16, q17, q18, p1, p3, p4, p6, p7, p8, p10, p11, p12, p13]; rfl)) (by simp [go_sem, hP, hgl, hn, hdis, hnds, q1, q2, q3, q4, q5, q6, q7, q8, q9, q10, q11, q12, q13, q14, q15, q16, q17, q18, p1, p3, p4, p6, p7, p8, p10, p11, p12, p13]) (by simp) ?_ hR.2 | refine W_endR hP hf hfn _ ([(b, [dint ((u + c : Nat) : Int), dint (most : Int)])]) (by first | (simp [go_sem, hP, hgl, hn, hdis, hnds, q1, q2, q3, q4, q5, q6, q7, q8, q9, q10, q11, q12, q13, q14, q15, q16, q17, q18, p1, p3, p4, p6, p7, p8, p10, p11, p12, p13]; done) | (simp [go_sem, hP, hgl, hn, hdis, hnds, q1, q2, q3, q4, q5, q6, q7, q8, q9, q10, q11, q12, q13, q14, q15, q16, q17, q18, p1, p3, p4, p6, p7, p8, p10, p11, p12, p13]; rfl)) (by simp [go_sem, hP, hgl, hn, hdis, hnds, q1, q2, q3, q4, q5, q6, q7, q8, q9, q10, q11, q12, q13, q14, q15, q16, q17, q18, p1, p3, p4, p6, p7, p8, p10, p11, p12, p13]) (by simp) ?_ hR.2
          rw [hR.1]
          refine ⟨?_, by simp [hdis, hnds, q1, q2, q3, q4, q5, q6, q7, q8, q9, q10, q11, q12, q13, q14, q15, q16, q17, q18, p1, p3, p4, p6, p7, p8, p10, p11, p12, p13]⟩
          try simp [hdis, hnds, q1, q2, q3, q4, q5, q6, q7, q8, q9, q10, q11, q12, q13, q14, q15, q16, q17, q18, p1, p3, p4, p6, p7, p8, p10, p11, p12, p13]
          try all_goals (simp [Ty.dv, Ty.cells_eq, Ty.kind_mk, Ty.args_mk, Tm.dv, Tm.cells_eq, Tm.kind_mk, Tm.index_mk, Tm.type_mk, Tm.args_mk, Val.dv, Val.cells_eq, Val.kind_mk, Val.num_mk, Val.list_mk, Val.args_mk, ints])
        · rw [outM_no hfc, useM_no hfc] at hR
          have hΦ0 : Φ 0 = [(b2, [ptr b]), (b3, [r.thing, f.thing, .iface 104 (cellM l)]), (b8, [nilI]), (b9, [dbool false]), (b, [dint (most : Int), dint (most : Int)])] := by
            simp only [Φ, hS0, if_neg hfc, useM_no hfc, decide_eq_false hfc]
          rw [hΦ0, hΦl]
          simp [go_sem, hdis, hnds, q1, q2, q3, q4, q5, q6, q7, q8, q9, q10, q11, q12, q13, q14, q15, q16, q17, q18, p1, p3, p4, p6, p7, p8, p10, p11, p12, p13]
          refine t_rg (j2 @hdis (j2 @hnds (j2 @q1 (j2 @q2 (j2 @q3 (j2 @q4 (j2 @q5 (j2 @q6 (j2 @q7 (j2 @q8 (j2 @q9 (j2 @q10 (j2 @q11 (j2 @q12 (j2 @q13 (j2 @q14 (j2 @q15 (j2 @q16 (j2 @q17 (j2 @q18 (j2 @p1 (j2 @p3 (j2 @p4 (j2 @p6 (j2 @p7 (j2 @p8 (j2 @p10 (j2 @p11 (j2 @p12 @p13))))))))))))))))))))))))))))) ?_
          repeat (first | refine W_seq ?_ | refine W_skip ?_ | refine W_block ?_ | refine W_inBlock ?_ | refine W_label ?_ | refine W_exit rfl ?_)
          first | refine W_retR hP hf hfn _ ([(b, [dint (most : Int), dint (most : Int)])]) (by first | (simp [go_sem, hP, hgl, hn, hdis, hnds, q1, q2, q3, q4, q5, q6, q7, q8, q9, q10, q11, q12, q13, q14, q15, q16, q17, q18, p1, p3, p4, p6, p7, p8, p10, p11, p12, p13]; done) | (simp [go_sem, hP, hgl, hn, hdis, hnds, q1, q2, q3, q4, q5, q6, q7, q8, q9, q10, q11, q12, q13, q14, q15, q16, q17, q18, p1, p3, p4, p6, p7, p8, p10, p11, p12, p13]; rfl)) (by simp [go_sem, hP, hgl, hn, hdis, hnds, q1, q2, q3, q4, q5, q6, q7, q8, q9, q10, q11, q12, q13, q14, q15, q16, q17, q18, p1, p3, p4, p6, p7, p8, p10, p11, p12, p13]) (by simp) ?_ hR.2 | refine W_endR hP hf hfn _ ([(b, [dint (most : Int), dint (most : Int)])]) (by first | (simp [go_sem, hP, hgl, hn, hdis, hnds, q1, q2, q3, q4, q5, q6, q7, q8, q9, q10, q11, q12, q13, q14, q15, q16, q17, q18, p1, p3, p4, p6, p7, p8, p10, p11, p12, p13]; done) | (simp [go_sem, hP, hgl, hn, hdis, hnds, q1, q2, q3, q4, q5, q6, q7, q8, q9, q10, q11, q12, q13, q14, q15, q16, q17, q18, p1, p3, p4, p6, p7, p8, p10, p11, p12, p13]; rfl)) (by simp [go_sem, hP, hgl, hn, hdis, hnds, q1, q2, q3, q4, q5, q6, q7, q8, q9, q10, q11, q12, q13, q14, q15, q16, q17, q18, p1, p3, p4, p6, p7, p8, p10, p11, p12, p13]) (by simp) ?_ hR.2
          rw [hR.1]
          refine ⟨?_, by simp [hdis, hnds, q1, q2, q3, q4, q5, q6, q7, q8, q9, q10, q11, q12, q13, q14, q15, q16, q17, q18, p1, p3, p4, p6, p7, p8, p10, p11, p12, p13]⟩
          try simp [hdis, hnds, q1, q2, q3, q4, q5, q6, q7, q8, q9, q10, q11, q12, q13, q14, q15, q16, q17, q18, p1, p3, p4, p6, p7, p8, p10, p11, p12, p13]
          try all_goals (simp [Ty.dv, Ty.cells_eq, Ty.kind_mk, Ty.args_mk, Tm.dv, Tm.cells_eq, Tm.kind_mk, Tm.index_mk, Tm.type_mk, Tm.args_mk, Val.dv, Val.cells_eq, Val.kind_mk, Val.num_mk, Val.list_mk, Val.args_mk, ints])
      · rw [h]
        have hfc : ¬ u + c ≤ most := by have := (hS i).2; omega
        rw [outM_no hfc, useM_no hfc] at hR
        have hΦ0 : Φ i = [(b2, [ptr b]), (b3, [r.thing, f.thing, .iface 104 (cellM l)]), (b8, [nilI]), (b9, [dbool false]), (b, [dint (most : Int), dint (most : Int)])] := by
          simp only [Φ, if_neg hi, useM_no hi, decide_eq_false hi]
        rw [hΦ0, hΦl]
        simp [go_sem, hdis, hnds, q1, q2, q3, q4, q5, q6, q7, q8, q9, q10, q11, q12, q13, q14, q15, q16, q17, q18, p1, p3, p4, p6, p7, p8, p10, p11, p12, p13]
        refine t_rg (j2 @hdis (j2 @hnds (j2 @q1 (j2 @q2 (j2 @q3 (j2 @q4 (j2 @q5 (j2 @q6 (j2 @q7 (j2 @q8 (j2 @q9 (j2 @q10 (j2 @q11 (j2 @q12 (j2 @q13 (j2 @q14 (j2 @q15 (j2 @q16 (j2 @q17 (j2 @q18 (j2 @p1 (j2 @p3 (j2 @p4 (j2 @p6 (j2 @p7 (j2 @p8 (j2 @p10 (j2 @p11 (j2 @p12 @p13))))))))))))))))))))))))))))) ?_
        repeat (first | refine W_seq ?_ | refine W_skip ?_ | refine W_block ?_ | refine W_inBlock ?_ | refine W_label ?_ | refine W_exit rfl ?_)
        first | refine W_retR hP hf hfn _ ([(b, [dint (most : Int), dint (most : Int)])]) (by first | (simp [go_sem, hP, hgl, hn, hdis, hnds, q1, q2, q3, q4, q5, q6, q7, q8, q9, q10, q11, q12, q13, q14, q15, q16, q17, q18, p1, p3, p4, p6, p7, p8, p10, p11, p12, p13]; done) | (simp [go_sem, hP, hgl, hn, hdis, hnds, q1, q2, q3, q4, q5, q6, q7, q8, q9, q10, q11, q12, q13, q14, q15, q16, q17, q18, p1, p3, p4, p6, p7, p8, p10, p11, p12, p13]; rfl)) (by simp [go_sem, hP, hgl, hn, hdis, hnds, q1, q2, q3, q4, q5, q6, q7, q8, q9, q10, q11, q12, q13, q14, q15, q16, q17, q18, p1, p3, p4, p6, p7, p8, p10, p11, p12, p13]) (by simp) ?_ hR.2 | refine W_endR hP hf hfn _ ([(b, [dint (most : Int), dint (most : Int)])]) (by first | (simp [go_sem, hP, hgl, hn, hdis, hnds, q1, q2, q3, q4, q5, q6, q7, q8, q9, q10, q11, q12, q13, q14, q15, q16, q17, q18, p1, p3, p4, p6, p7, p8, p10, p11, p12, p13]; done) | (simp [go_sem, hP, hgl, hn, hdis, hnds, q1, q2, q3, q4, q5, q6, q7, q8, q9, q10, q11, q12, q13, q14, q15, q16, q17, q18, p1, p3, p4, p6, p7, p8, p10, p11, p12, p13]; rfl)) (by simp [go_sem, hP, hgl, hn, hdis, hnds, q1, q2, q3, q4, q5, q6, q7, q8, q9, q10, q11, q12, q13, q14, q15, q16, q17, q18, p1, p3, p4, p6, p7, p8, p10, p11, p12, p13]) (by simp) ?_ hR.2
        rw [hR.1]
        refine ⟨?_, by simp [hdis, hnds, q1, q2, q3, q4, q5, q6, q7, q8, q9, q10, q11, q12, q13, q14, q15, q16, q17, q18, p1, p3, p4, p6, p7, p8, p10, p11, p12, p13]⟩
        try simp [hdis, hnds, q1, q2, q3, q4, q5, q6, q7, q8, q9, q10, q11, q12, q13, q14, q15, q16, q17, q18, p1, p3, p4, p6, p7, p8, p10, p11, p12, p13]
        try all_goals (simp [Ty.dv, Ty.cells_eq, Ty.kind_mk, Ty.args_mk, Tm.dv, Tm.cells_eq, Tm.kind_mk, Tm.index_mk, Tm.type_mk, Tm.args_mk, Val.dv, Val.cells_eq, Val.kind_mk, Val.num_mk, Val.list_mk, Val.args_mk, ints])
end Go.Proofs.YtgfjcbofbbcnmaaGreatDoor.Lift

/-
  Package machine: eval, kind by kind.
-/
namespace Go.Proofs.YtgfjcbofbbcnmaaGreatDoor.Lift
set_option linter.unusedSimpArgs false
set_option linter.unusedVariables false
set_option linter.unnecessarySimpa false
open Go
variable {gl : Globs}

/-- nothing is left -/
theorem evalM_0 {most : Nat} (hm : most ≤ 1073741824) (t : Tm) {e : List MV} {u : Nat} (b : Nat) (hu : u ≤ most) (hf1 : ¬ u + 1 ≤ most) :
    Con1 Tryz.prog gl 50 [ptr b, t.dv, MV.envM e] [(b, useM most u)] (.tup [nilI, dbool false]) [(b, [dint (most : Int), dint (most : Int)])] := by
  rw [useM_yes hu]
  have hum : (most : Int) ≤ (u : Int) := by omega
  have hue : (u : Int) = (most : Int) := by omega
  refine t_in Tryz.func50 ?_
  intro X hP hgl hf hfn hn hR hids hfit
  refine t_g @hum ?_
  repeat (first | refine W_seq ?_ | refine W_skip ?_ | refine W_block ?_ | refine W_inBlock ?_ | refine W_label ?_ | refine W_exit rfl ?_)
  first | refine W_retR hP hf hfn _ ([(b, [dint (most : Int), dint (most : Int)])]) (by first | (simp [go_sem, hP, hgl, hn, hue]; done) | (simp [go_sem, hP, hgl, hn, hue]; rfl)) (by simp [go_sem, hP, hgl, hn, hue]) (by simp) ?_ hR.2 | refine W_endR hP hf hfn _ ([(b, [dint (most : Int), dint (most : Int)])]) (by first | (simp [go_sem, hP, hgl, hn, hue]; done) | (simp [go_sem, hP, hgl, hn, hue]; rfl)) (by simp [go_sem, hP, hgl, hn, hue]) (by simp) ?_ hR.2
  rw [hR.1]
  refine ⟨?_, by simp [hue]⟩
  try simp [hue]
  try all_goals (simp [Ty.dv, Ty.cells_eq, Ty.kind_mk, Ty.args_mk, Tm.dv, Tm.cells_eq, Tm.kind_mk, Tm.index_mk, Tm.type_mk, Tm.args_mk, Val.dv, Val.cells_eq, Val.kind_mk, Val.num_mk, Val.list_mk, Val.args_mk, ints])

/-- the parts are too much -/
theorem evalM_all {most : Nat} (hm : most ≤ 1073741824) {ev : Evl} (H : WalkM Tryz.prog gl 50 most ev) (hN : NleM most ev) (t : Tm) {e : List MV} {u : Nat} (b M : Nat) (hu : u ≤ most) (hM : M + (most - u) ≤ 1073741824) (he : MV.nles M e)
    (h3 : t.args.length ≤ 3) (hk1 : ¬ t.kind = 1) (hk2 : ¬ t.kind = 2) {vs : List MV} {c1 : Nat} (hall : allC ev t.args e = some (vs, c1)) (hf1 : u + 1 ≤ most) (hf2 : ¬ u + 1 + c1 ≤ most) :
    Con1 Tryz.prog gl 50 [ptr b, t.dv, MV.envM e] [(b, useM most u)] (.tup [nilI, dbool false]) [(b, [dint (most : Int), dint (most : Int)])] := by
  rw [useM_yes hu]
  have hum : ¬ (most : Int) ≤ (u : Int) := by omega
  have A1 := allM_ok hm H hN b (M + 1) hall h3 hf1 (by omega) (MV.nles_mono (by omega) _ he)
  have o6 : decide (u + 1 + c1 ≤ most) = false := decide_eq_false hf2
  unfold outA arr3 at A1
  rw [useM_yes hf1, useM_no hf2, o6] at A1
  generalize preC ev most e (u + 1) t.args = pp at A1
  refine t_in Tryz.func50 ?_
  intro X hP hgl hf hfn hn hR hids hfit
  refine t_g (j2 @hum (j2 @hk1 @hk2)) ?_
  refine t_c1 trivial A1 ?_
  refine t_g0 ?_
  repeat (first | refine W_seq ?_ | refine W_skip ?_ | refine W_block ?_ | refine W_inBlock ?_ | refine W_label ?_ | refine W_exit rfl ?_)
  first | refine W_retR hP hf hfn _ ([(b, [dint (most : Int), dint (most : Int)])]) (by first | (simp [go_sem, hP, hgl, hn]; done) | (simp [go_sem, hP, hgl, hn]; rfl)) (by simp [go_sem, hP, hgl, hn]) (by simp) ?_ hR.2 | refine W_endR hP hf hfn _ ([(b, [dint (most : Int), dint (most : Int)])]) (by first | (simp [go_sem, hP, hgl, hn]; done) | (simp [go_sem, hP, hgl, hn]; rfl)) (by simp [go_sem, hP, hgl, hn]) (by simp) ?_ hR.2
  rw [hR.1]
  refine ⟨?_, by simp⟩
  try simp
  try all_goals (simp [Ty.dv, Ty.cells_eq, Ty.kind_mk, Ty.args_mk, Tm.dv, Tm.cells_eq, Tm.kind_mk, Tm.index_mk, Tm.type_mk, Tm.args_mk, Val.dv, Val.cells_eq, Val.kind_mk, Val.num_mk, Val.list_mk, Val.args_mk, ints])

theorem evalM_k3 {most : Nat} (hm : most ≤ 1073741824) {ev : Evl} (H : WalkM Tryz.prog gl 50 most ev) (hN : NleM most ev) (t : Tm) {e : List MV} {u : Nat} (b M : Nat) (hu : u ≤ most) (hM : M + (most - u) ≤ 1073741824) (he : MV.nles M e)
    (h3 : t.args.length ≤ 3) (hk : t.kind = 3) {f x : MV} {v : MV} {c2 : Nat} {c1 : Nat} (hall : allC ev t.args e = some ([f, x], c1)) (hf1 : u + 1 ≤ most) (hf2 : u + 1 + c1 ≤ most) (hnode : callC ev f [x] = some (v, c2)) :
    Con1 Tryz.prog gl 50 [ptr b, t.dv, MV.envM e] [(b, useM most u)] (outM most (u + 1 + c1 + c2) v.thing) [(b, useM most (u + 1 + c1 + c2))] := by
  rw [useM_yes hu]
  have hum : ¬ (most : Int) ≤ (u : Int) := by omega
  have A1 := allM_ok hm H hN b (M + 1) hall h3 hf1 (by omega) (MV.nles_mono (by omega) _ he)
  have B1 := nle_all hN hall he
  have o6 : decide (u + 1 + c1 ≤ most) = true := decide_eq_true hf2
  unfold outA arr3 at A1
  rw [useM_yes hf1, useM_yes hf2, o6, preC_all hall hf2] at A1
  have z0 : at3 [f, x] 0 = f.thing := by first | rfl | (simp only [at3]; rw [MV.thing]; done) | exact rfl
  have z1 : at3 [f, x] 1 = x.thing := by first | rfl | (simp only [at3]; rw [MV.thing]; done) | exact rfl
  have z2 : at3 [f, x] 2 = nilI := by first | rfl | (simp only [at3]; rw [MV.thing]; done) | exact rfl
  rw [z0, z1, z2] at A1
  simp only [MV.nles] at B1
  have W1 := callM_ok hm H hN b (M + c1) hnode hf2 (by omega) B1.1 (by simp only [MV.nles]; exact ⟨B1.2.1, trivial⟩)
  rw [useM_yes hf2] at W1
  simp only [List.map] at W1
  by_cases hf3 : u + 1 + c1 + c2 ≤ most
  · rw [useM_yes hf3, outM_yes hf3] at W1 ⊢
    refine t_in Tryz.func50 ?_
    intro X hP hgl hf hfn hn hR hids hfit
    refine t_g (j2 @hum @hk) ?_
    refine t_c1 trivial A1 ?_
    refine t_g @hk ?_
    refine t_c1 trivial W1 ?_
    repeat (first | refine W_seq ?_ | refine W_skip ?_ | refine W_block ?_ | refine W_inBlock ?_ | refine W_label ?_ | refine W_exit rfl ?_)
    first | refine W_retR hP hf hfn _ ([(b, [dint ((u + 1 + c1 + c2 : Nat) : Int), dint (most : Int)])]) (by first | (simp [go_sem, hP, hgl, hn]; done) | (simp [go_sem, hP, hgl, hn]; rfl)) (by simp [go_sem, hP, hgl, hn]) (by simp) ?_ hR.2 | refine W_endR hP hf hfn _ ([(b, [dint ((u + 1 + c1 + c2 : Nat) : Int), dint (most : Int)])]) (by first | (simp [go_sem, hP, hgl, hn]; done) | (simp [go_sem, hP, hgl, hn]; rfl)) (by simp [go_sem, hP, hgl, hn]) (by simp) ?_ hR.2
    rw [hR.1]
    refine ⟨?_, by simp⟩
    try simp
    try all_goals (simp [Ty.dv, Ty.cells_eq, Ty.kind_mk, Ty.args_mk, Tm.dv, Tm.cells_eq, Tm.kind_mk, Tm.index_mk, Tm.type_mk, Tm.args_mk, Val.dv, Val.cells_eq, Val.kind_mk, Val.num_mk, Val.list_mk, Val.args_mk, ints])
  · rw [useM_no hf3, outM_no hf3] at W1 ⊢
    refine t_in Tryz.func50 ?_
    intro X hP hgl hf hfn hn hR hids hfit
    refine t_g (j2 @hum @hk) ?_
    refine t_c1 trivial A1 ?_
    refine t_g @hk ?_
    refine t_c1 trivial W1 ?_
    repeat (first | refine W_seq ?_ | refine W_skip ?_ | refine W_block ?_ | refine W_inBlock ?_ | refine W_label ?_ | refine W_exit rfl ?_)
    first | refine W_retR hP hf hfn _ ([(b, [dint (most : Int), dint (most : Int)])]) (by first | (simp [go_sem, hP, hgl, hn]; done) | (simp [go_sem, hP, hgl, hn]; rfl)) (by simp [go_sem, hP, hgl, hn]) (by simp) ?_ hR.2 | refine W_endR hP hf hfn _ ([(b, [dint (most : Int), dint (most : Int)])]) (by first | (simp [go_sem, hP, hgl, hn]; done) | (simp [go_sem, hP, hgl, hn]; rfl)) (by simp [go_sem, hP, hgl, hn]) (by simp) ?_ hR.2
    rw [hR.1]
    refine ⟨?_, by simp⟩
    try simp
    try all_goals (simp [Ty.dv, Ty.cells_eq, Ty.kind_mk, Ty.args_mk, Tm.dv, Tm.cells_eq, Tm.kind_mk, Tm.index_mk, Tm.type_mk, Tm.args_mk, Val.dv, Val.cells_eq, Val.kind_mk, Val.num_mk, Val.list_mk, Val.args_mk, ints])

theorem evalM_k4 {most : Nat} (hm : most ≤ 1073741824) {ev : Evl} (H : WalkM Tryz.prog gl 50 most ev) (hN : NleM most ev) (t : Tm) {e : List MV} {u : Nat} (b M : Nat) (hu : u ≤ most) (hM : M + (most - u) ≤ 1073741824) (he : MV.nles M e)
    (h3 : t.args.length ≤ 3) (hk : t.kind = 4) {vs : List MV} {c1 : Nat} (hall : allC ev t.args e = some (vs, c1)) (hf1 : u + 1 ≤ most) (hf2 : u + 1 + c1 ≤ most) :
    Con1 Tryz.prog gl 50 [ptr b, t.dv, MV.envM e] [(b, useM most u)] (.tup [(.iface 3 (dint (0 : Int))), dbool true]) [(b, [dint ((u + 1 + c1 : Nat) : Int), dint (most : Int)])] := by
  rw [useM_yes hu]
  have hum : ¬ (most : Int) ≤ (u : Int) := by omega
  have A1 := allM_ok hm H hN b (M + 1) hall h3 hf1 (by omega) (MV.nles_mono (by omega) _ he)
  have B1 := nle_all hN hall he
  have o6 : decide (u + 1 + c1 ≤ most) = true := decide_eq_true hf2
  unfold outA arr3 at A1
  rw [useM_yes hf1, useM_yes hf2, o6, preC_all hall hf2] at A1
  refine t_in Tryz.func50 ?_
  intro X hP hgl hf hfn hn hR hids hfit
  refine t_g (j2 @hum @hk) ?_
  refine t_c1 trivial A1 ?_
  refine t_g @hk ?_
  repeat (first | refine W_seq ?_ | refine W_skip ?_ | refine W_block ?_ | refine W_inBlock ?_ | refine W_label ?_ | refine W_exit rfl ?_)
  first | refine W_retR hP hf hfn _ ([(b, [dint ((u + 1 + c1 : Nat) : Int), dint (most : Int)])]) (by first | (simp [go_sem, hP, hgl, hn]; done) | (simp [go_sem, hP, hgl, hn]; rfl)) (by simp [go_sem, hP, hgl, hn]) (by simp) ?_ hR.2 | refine W_endR hP hf hfn _ ([(b, [dint ((u + 1 + c1 : Nat) : Int), dint (most : Int)])]) (by first | (simp [go_sem, hP, hgl, hn]; done) | (simp [go_sem, hP, hgl, hn]; rfl)) (by simp [go_sem, hP, hgl, hn]) (by simp) ?_ hR.2
  rw [hR.1]
  refine ⟨?_, by simp⟩
  try simp
  try all_goals (simp [Ty.dv, Ty.cells_eq, Ty.kind_mk, Ty.args_mk, Tm.dv, Tm.cells_eq, Tm.kind_mk, Tm.index_mk, Tm.type_mk, Tm.args_mk, Val.dv, Val.cells_eq, Val.kind_mk, Val.num_mk, Val.list_mk, Val.args_mk, ints])

theorem evalM_k5 {most : Nat} (hm : most ≤ 1073741824) {ev : Evl} (H : WalkM Tryz.prog gl 50 most ev) (hN : NleM most ev) (t : Tm) {e : List MV} {u : Nat} (b M : Nat) (hu : u ≤ most) (hM : M + (most - u) ≤ 1073741824) (he : MV.nles M e)
    (h3 : t.args.length ≤ 3) (hk : t.kind = 5) {n : Nat} {c1 : Nat} (hall : allC ev t.args e = some ([.num n], c1)) (hf1 : u + 1 ≤ most) (hf2 : u + 1 + c1 ≤ most) :
    Con1 Tryz.prog gl 50 [ptr b, t.dv, MV.envM e] [(b, useM most u)] (.tup [(.iface 3 (dint (((n + 1 : Nat)) : Int))), dbool true]) [(b, [dint ((u + 1 + c1 : Nat) : Int), dint (most : Int)])] := by
  rw [useM_yes hu]
  have hum : ¬ (most : Int) ≤ (u : Int) := by omega
  have A1 := allM_ok hm H hN b (M + 1) hall h3 hf1 (by omega) (MV.nles_mono (by omega) _ he)
  have B1 := nle_all hN hall he
  have o6 : decide (u + 1 + c1 ≤ most) = true := decide_eq_true hf2
  unfold outA arr3 at A1
  rw [useM_yes hf1, useM_yes hf2, o6, preC_all hall hf2] at A1
  have z0 : at3 [.num n] 0 = (.iface 3 (dint (n : Int))) := by first | rfl | (simp only [at3]; rw [MV.thing]; done) | exact thing_num _
  have z1 : at3 [.num n] 1 = nilI := by first | rfl | (simp only [at3]; rw [MV.thing]; done) | exact rfl
  have z2 : at3 [.num n] 2 = nilI := by first | rfl | (simp only [at3]; rw [MV.thing]; done) | exact rfl
  rw [z0, z1, z2] at A1
  refine t_in Tryz.func50 ?_
  intro X hP hgl hf hfn hn hR hids hfit
  refine t_g (j2 @hum @hk) ?_
  refine t_c1 trivial A1 ?_
  simp only [MV.nles, MV.nle] at B1
  have hn1 : (n : Int) ≤ 1073741824 := by omega
  have hn2 : ((n + 1 : Nat) : Int) = (n : Int) + 1 := by omega
  refine t_g (j2 @hk @hn1) ?_
  repeat (first | refine W_seq ?_ | refine W_skip ?_ | refine W_block ?_ | refine W_inBlock ?_ | refine W_label ?_ | refine W_exit rfl ?_)
  first | refine W_retR hP hf hfn _ ([(b, [dint ((u + 1 + c1 : Nat) : Int), dint (most : Int)])]) (by first | (simp [go_sem, hP, hgl, hn, hn2]; done) | (simp [go_sem, hP, hgl, hn, hn2]; rfl)) (by simp [go_sem, hP, hgl, hn, hn2]) (by simp) ?_ hR.2 | refine W_endR hP hf hfn _ ([(b, [dint ((u + 1 + c1 : Nat) : Int), dint (most : Int)])]) (by first | (simp [go_sem, hP, hgl, hn, hn2]; done) | (simp [go_sem, hP, hgl, hn, hn2]; rfl)) (by simp [go_sem, hP, hgl, hn, hn2]) (by simp) ?_ hR.2
  rw [hR.1]
  refine ⟨?_, by simp [hn2]⟩
  try simp [hn2]
  try all_goals (simp [Ty.dv, Ty.cells_eq, Ty.kind_mk, Ty.args_mk, Tm.dv, Tm.cells_eq, Tm.kind_mk, Tm.index_mk, Tm.type_mk, Tm.args_mk, Val.dv, Val.cells_eq, Val.kind_mk, Val.num_mk, Val.list_mk, Val.args_mk, ints])

theorem evalM_k6 {most : Nat} (hm : most ≤ 1073741824) {ev : Evl} (H : WalkM Tryz.prog gl 50 most ev) (hN : NleM most ev) (t : Tm) {e : List MV} {u : Nat} (b M : Nat) (hu : u ≤ most) (hM : M + (most - u) ≤ 1073741824) (he : MV.nles M e)
    (h3 : t.args.length ≤ 3) (hk : t.kind = 6) {r f : MV} {n : Nat} {v : MV} {c2 : Nat} {c1 : Nat} (hall : allC ev t.args e = some ([r, f, .num n], c1)) (hf1 : u + 1 ≤ most) (hf2 : u + 1 + c1 ≤ most) (hnode : recC ev f n 0 r = some (v, c2)) :
    Con1 Tryz.prog gl 50 [ptr b, t.dv, MV.envM e] [(b, useM most u)] (outM most (u + 1 + c1 + c2) v.thing) [(b, useM most (u + 1 + c1 + c2))] := by
  rw [useM_yes hu]
  have hum : ¬ (most : Int) ≤ (u : Int) := by omega
  have A1 := allM_ok hm H hN b (M + 1) hall h3 hf1 (by omega) (MV.nles_mono (by omega) _ he)
  have B1 := nle_all hN hall he
  have o6 : decide (u + 1 + c1 ≤ most) = true := decide_eq_true hf2
  unfold outA arr3 at A1
  rw [useM_yes hf1, useM_yes hf2, o6, preC_all hall hf2] at A1
  simp only [MV.nles, MV.nle] at B1
  have W1 := recM_ok hm H hN (fun h => nle_call hN h) b (M + c1) hnode hf2 (by omega) B1.1 B1.2.1 B1.2.2.1
  unfold arr3 at W1
  rw [useM_yes hf2] at W1
  by_cases hf3 : u + 1 + c1 + c2 ≤ most
  · rw [useM_yes hf3, outM_yes hf3] at W1 ⊢
    refine t_in Tryz.func50 ?_
    intro X hP hgl hf hfn hn hR hids hfit
    refine t_g (j2 @hum @hk) ?_
    refine t_c1 trivial A1 ?_
    refine t_g @hk ?_
    refine t_c1 trivial W1 ?_
    repeat (first | refine W_seq ?_ | refine W_skip ?_ | refine W_block ?_ | refine W_inBlock ?_ | refine W_label ?_ | refine W_exit rfl ?_)
    first | refine W_retR hP hf hfn _ ([(b, [dint ((u + 1 + c1 + c2 : Nat) : Int), dint (most : Int)])]) (by first | (simp [go_sem, hP, hgl, hn]; done) | (simp [go_sem, hP, hgl, hn]; rfl)) (by simp [go_sem, hP, hgl, hn]) (by simp) ?_ hR.2 | refine W_endR hP hf hfn _ ([(b, [dint ((u + 1 + c1 + c2 : Nat) : Int), dint (most : Int)])]) (by first | (simp [go_sem, hP, hgl, hn]; done) | (simp [go_sem, hP, hgl, hn]; rfl)) (by simp [go_sem, hP, hgl, hn]) (by simp) ?_ hR.2
    rw [hR.1]
    refine ⟨?_, by simp⟩
    try simp
    try all_goals (simp [Ty.dv, Ty.cells_eq, Ty.kind_mk, Ty.args_mk, Tm.dv, Tm.cells_eq, Tm.kind_mk, Tm.index_mk, Tm.type_mk, Tm.args_mk, Val.dv, Val.cells_eq, Val.kind_mk, Val.num_mk, Val.list_mk, Val.args_mk, ints])
  · rw [useM_no hf3, outM_no hf3] at W1 ⊢
    refine t_in Tryz.func50 ?_
    intro X hP hgl hf hfn hn hR hids hfit
    refine t_g (j2 @hum @hk) ?_
    refine t_c1 trivial A1 ?_
    refine t_g @hk ?_
    refine t_c1 trivial W1 ?_
    repeat (first | refine W_seq ?_ | refine W_skip ?_ | refine W_block ?_ | refine W_inBlock ?_ | refine W_label ?_ | refine W_exit rfl ?_)
    first | refine W_retR hP hf hfn _ ([(b, [dint (most : Int), dint (most : Int)])]) (by first | (simp [go_sem, hP, hgl, hn]; done) | (simp [go_sem, hP, hgl, hn]; rfl)) (by simp [go_sem, hP, hgl, hn]) (by simp) ?_ hR.2 | refine W_endR hP hf hfn _ ([(b, [dint (most : Int), dint (most : Int)])]) (by first | (simp [go_sem, hP, hgl, hn]; done) | (simp [go_sem, hP, hgl, hn]; rfl)) (by simp [go_sem, hP, hgl, hn]) (by simp) ?_ hR.2
    rw [hR.1]
    refine ⟨?_, by simp⟩
    try simp
    try all_goals (simp [Ty.dv, Ty.cells_eq, Ty.kind_mk, Ty.args_mk, Tm.dv, Tm.cells_eq, Tm.kind_mk, Tm.index_mk, Tm.type_mk, Tm.args_mk, Val.dv, Val.cells_eq, Val.kind_mk, Val.num_mk, Val.list_mk, Val.args_mk, ints])

theorem evalM_k7 {most : Nat} (hm : most ≤ 1073741824) {ev : Evl} (H : WalkM Tryz.prog gl 50 most ev) (hN : NleM most ev) (t : Tm) {e : List MV} {u : Nat} (b M : Nat) (hu : u ≤ most) (hM : M + (most - u) ≤ 1073741824) (he : MV.nles M e)
    (h3 : t.args.length ≤ 3) (hk : t.kind = 7) {vs : List MV} {c1 : Nat} (hall : allC ev t.args e = some (vs, c1)) (hf1 : u + 1 ≤ most) (hf2 : u + 1 + c1 ≤ most) :
    Con1 Tryz.prog gl 50 [ptr b, t.dv, MV.envM e] [(b, useM most u)] (.tup [(.iface 104 (cellM [])), dbool true]) [(b, [dint ((u + 1 + c1 : Nat) : Int), dint (most : Int)])] := by
  rw [useM_yes hu]
  have hum : ¬ (most : Int) ≤ (u : Int) := by omega
  have A1 := allM_ok hm H hN b (M + 1) hall h3 hf1 (by omega) (MV.nles_mono (by omega) _ he)
  have B1 := nle_all hN hall he
  have o6 : decide (u + 1 + c1 ≤ most) = true := decide_eq_true hf2
  unfold outA arr3 at A1
  rw [useM_yes hf1, useM_yes hf2, o6, preC_all hall hf2] at A1
  refine t_in Tryz.func50 ?_
  intro X hP hgl hf hfn hn hR hids hfit
  refine t_g (j2 @hum @hk) ?_
  refine t_c1 trivial A1 ?_
  have hnil := cellM_nil
  refine t_g @hk ?_
  repeat (first | refine W_seq ?_ | refine W_skip ?_ | refine W_block ?_ | refine W_inBlock ?_ | refine W_label ?_ | refine W_exit rfl ?_)
  first | refine W_retR hP hf hfn _ ([(b, [dint ((u + 1 + c1 : Nat) : Int), dint (most : Int)])]) (by first | (simp [go_sem, hP, hgl, hn, cellM_nil]; done) | (simp [go_sem, hP, hgl, hn, cellM_nil]; rfl)) (by simp [go_sem, hP, hgl, hn, cellM_nil]) (by simp) ?_ hR.2 | refine W_endR hP hf hfn _ ([(b, [dint ((u + 1 + c1 : Nat) : Int), dint (most : Int)])]) (by first | (simp [go_sem, hP, hgl, hn, cellM_nil]; done) | (simp [go_sem, hP, hgl, hn, cellM_nil]; rfl)) (by simp [go_sem, hP, hgl, hn, cellM_nil]) (by simp) ?_ hR.2
  rw [hR.1]
  refine ⟨?_, by simp [cellM_nil]⟩
  try simp [cellM_nil]
  try all_goals (simp [Ty.dv, Ty.cells_eq, Ty.kind_mk, Ty.args_mk, Tm.dv, Tm.cells_eq, Tm.kind_mk, Tm.index_mk, Tm.type_mk, Tm.args_mk, Val.dv, Val.cells_eq, Val.kind_mk, Val.num_mk, Val.list_mk, Val.args_mk, ints])

theorem evalM_k9 {most : Nat} (hm : most ≤ 1073741824) {ev : Evl} (H : WalkM Tryz.prog gl 50 most ev) (hN : NleM most ev) (hFold : FoldM Tryz.prog gl 72 most ev) (t : Tm) {e : List MV} {u : Nat} (b M : Nat) (hu : u ≤ most) (hM : M + (most - u) ≤ 1073741824) (he : MV.nles M e)
    (h3 : t.args.length ≤ 3) (hk : t.kind = 9) {r f : MV} {l : List Nat} {v : MV} {c2 : Nat} {c1 : Nat} (hall : allC ev t.args e = some ([r, f, .list l], c1)) (hf1 : u + 1 ≤ most) (hf2 : u + 1 + c1 ≤ most) (hnode : foldC ev f r l = some (v, c2)) :
    Con1 Tryz.prog gl 50 [ptr b, t.dv, MV.envM e] [(b, useM most u)] (outM most (u + 1 + c1 + c2) v.thing) [(b, useM most (u + 1 + c1 + c2))] := by
  rw [useM_yes hu]
  have hum : ¬ (most : Int) ≤ (u : Int) := by omega
  have A1 := allM_ok hm H hN b (M + 1) hall h3 hf1 (by omega) (MV.nles_mono (by omega) _ he)
  have B1 := nle_all hN hall he
  have o6 : decide (u + 1 + c1 ≤ most) = true := decide_eq_true hf2
  unfold outA arr3 at A1
  rw [useM_yes hf1, useM_yes hf2, o6, preC_all hall hf2] at A1
  simp only [MV.nles, MV.nle] at B1
  have W1 := hFold b (M + c1) hnode hf2 (by omega) B1.1 B1.2.1 B1.2.2.1
  unfold arr3 at W1
  rw [useM_yes hf2] at W1
  by_cases hf3 : u + 1 + c1 + c2 ≤ most
  · rw [useM_yes hf3, outM_yes hf3] at W1 ⊢
    refine t_in Tryz.func50 ?_
    intro X hP hgl hf hfn hn hR hids hfit
    refine t_g (j2 @hum @hk) ?_
    refine t_c1 trivial A1 ?_
    refine t_g @hk ?_
    refine t_c1 trivial W1 ?_
    repeat (first | refine W_seq ?_ | refine W_skip ?_ | refine W_block ?_ | refine W_inBlock ?_ | refine W_label ?_ | refine W_exit rfl ?_)
    first | refine W_retR hP hf hfn _ ([(b, [dint ((u + 1 + c1 + c2 : Nat) : Int), dint (most : Int)])]) (by first | (simp [go_sem, hP, hgl, hn]; done) | (simp [go_sem, hP, hgl, hn]; rfl)) (by simp [go_sem, hP, hgl, hn]) (by simp) ?_ hR.2 | refine W_endR hP hf hfn _ ([(b, [dint ((u + 1 + c1 + c2 : Nat) : Int), dint (most : Int)])]) (by first | (simp [go_sem, hP, hgl, hn]; done) | (simp [go_sem, hP, hgl, hn]; rfl)) (by simp [go_sem, hP, hgl, hn]) (by simp) ?_ hR.2
    rw [hR.1]
    refine ⟨?_, by simp⟩
    try simp
    try all_goals (simp [Ty.dv, Ty.cells_eq, Ty.kind_mk, Ty.args_mk, Tm.dv, Tm.cells_eq, Tm.kind_mk, Tm.index_mk, Tm.type_mk, Tm.args_mk, Val.dv, Val.cells_eq, Val.kind_mk, Val.num_mk, Val.list_mk, Val.args_mk, ints])
  · rw [useM_no hf3, outM_no hf3] at W1 ⊢
    refine t_in Tryz.func50 ?_
    intro X hP hgl hf hfn hn hR hids hfit
    refine t_g (j2 @hum @hk) ?_
    refine t_c1 trivial A1 ?_
    refine t_g @hk ?_
    refine t_c1 trivial W1 ?_
    repeat (first | refine W_seq ?_ | refine W_skip ?_ | refine W_block ?_ | refine W_inBlock ?_ | refine W_label ?_ | refine W_exit rfl ?_)
    first | refine W_retR hP hf hfn _ ([(b, [dint (most : Int), dint (most : Int)])]) (by first | (simp [go_sem, hP, hgl, hn]; done) | (simp [go_sem, hP, hgl, hn]; rfl)) (by simp [go_sem, hP, hgl, hn]) (by simp) ?_ hR.2 | refine W_endR hP hf hfn _ ([(b, [dint (most : Int), dint (most : Int)])]) (by first | (simp [go_sem, hP, hgl, hn]; done) | (simp [go_sem, hP, hgl, hn]; rfl)) (by simp [go_sem, hP, hgl, hn]) (by simp) ?_ hR.2
    rw [hR.1]
    refine ⟨?_, by simp⟩
    try simp
    try all_goals (simp [Ty.dv, Ty.cells_eq, Ty.kind_mk, Ty.args_mk, Tm.dv, Tm.cells_eq, Tm.kind_mk, Tm.index_mk, Tm.type_mk, Tm.args_mk, Val.dv, Val.cells_eq, Val.kind_mk, Val.num_mk, Val.list_mk, Val.args_mk, ints])

theorem evalM_k11 {most : Nat} (hm : most ≤ 1073741824) {ev : Evl} (H : WalkM Tryz.prog gl 50 most ev) (hN : NleM most ev) (t : Tm) {e : List MV} {u : Nat} (b M : Nat) (hu : u ≤ most) (hM : M + (most - u) ≤ 1073741824) (he : MV.nles M e)
    (h3 : t.args.length ≤ 3) (hk : t.kind = 11) {x y : MV} {c1 : Nat} (hall : allC ev t.args e = some ([.both x y], c1)) (hf1 : u + 1 ≤ most) (hf2 : u + 1 + c1 ≤ most) :
    Con1 Tryz.prog gl 50 [ptr b, t.dv, MV.envM e] [(b, useM most u)] (.tup [x.thing, dbool true]) [(b, [dint ((u + 1 + c1 : Nat) : Int), dint (most : Int)])] := by
  rw [useM_yes hu]
  have hum : ¬ (most : Int) ≤ (u : Int) := by omega
  have A1 := allM_ok hm H hN b (M + 1) hall h3 hf1 (by omega) (MV.nles_mono (by omega) _ he)
  have B1 := nle_all hN hall he
  have o6 : decide (u + 1 + c1 ≤ most) = true := decide_eq_true hf2
  unfold outA arr3 at A1
  rw [useM_yes hf1, useM_yes hf2, o6, preC_all hall hf2] at A1
  have z0 : at3 [.both x y] 0 = (.iface 110 (.ref [x.thing, y.thing])) := by first | rfl | (simp only [at3]; rw [MV.thing]; done) | exact thing_both _ _
  have z1 : at3 [.both x y] 1 = nilI := by first | rfl | (simp only [at3]; rw [MV.thing]; done) | exact rfl
  have z2 : at3 [.both x y] 2 = nilI := by first | rfl | (simp only [at3]; rw [MV.thing]; done) | exact rfl
  rw [z0, z1, z2] at A1
  refine t_in Tryz.func50 ?_
  intro X hP hgl hf hfn hn hR hids hfit
  refine t_g (j2 @hum @hk) ?_
  refine t_c1 trivial A1 ?_
  refine t_g @hk ?_
  repeat (first | refine W_seq ?_ | refine W_skip ?_ | refine W_block ?_ | refine W_inBlock ?_ | refine W_label ?_ | refine W_exit rfl ?_)
  first | refine W_retR hP hf hfn _ ([(b, [dint ((u + 1 + c1 : Nat) : Int), dint (most : Int)])]) (by first | (simp [go_sem, hP, hgl, hn]; done) | (simp [go_sem, hP, hgl, hn]; rfl)) (by simp [go_sem, hP, hgl, hn]) (by simp) ?_ hR.2 | refine W_endR hP hf hfn _ ([(b, [dint ((u + 1 + c1 : Nat) : Int), dint (most : Int)])]) (by first | (simp [go_sem, hP, hgl, hn]; done) | (simp [go_sem, hP, hgl, hn]; rfl)) (by simp [go_sem, hP, hgl, hn]) (by simp) ?_ hR.2
  rw [hR.1]
  refine ⟨?_, by simp⟩
  try simp
  try all_goals (simp [Ty.dv, Ty.cells_eq, Ty.kind_mk, Ty.args_mk, Tm.dv, Tm.cells_eq, Tm.kind_mk, Tm.index_mk, Tm.type_mk, Tm.args_mk, Val.dv, Val.cells_eq, Val.kind_mk, Val.num_mk, Val.list_mk, Val.args_mk, ints])

theorem evalM_k12 {most : Nat} (hm : most ≤ 1073741824) {ev : Evl} (H : WalkM Tryz.prog gl 50 most ev) (hN : NleM most ev) (t : Tm) {e : List MV} {u : Nat} (b M : Nat) (hu : u ≤ most) (hM : M + (most - u) ≤ 1073741824) (he : MV.nles M e)
    (h3 : t.args.length ≤ 3) (hk : t.kind = 12) {x y : MV} {c1 : Nat} (hall : allC ev t.args e = some ([.both x y], c1)) (hf1 : u + 1 ≤ most) (hf2 : u + 1 + c1 ≤ most) :
    Con1 Tryz.prog gl 50 [ptr b, t.dv, MV.envM e] [(b, useM most u)] (.tup [y.thing, dbool true]) [(b, [dint ((u + 1 + c1 : Nat) : Int), dint (most : Int)])] := by
  rw [useM_yes hu]
  have hum : ¬ (most : Int) ≤ (u : Int) := by omega
  have A1 := allM_ok hm H hN b (M + 1) hall h3 hf1 (by omega) (MV.nles_mono (by omega) _ he)
  have B1 := nle_all hN hall he
  have o6 : decide (u + 1 + c1 ≤ most) = true := decide_eq_true hf2
  unfold outA arr3 at A1
  rw [useM_yes hf1, useM_yes hf2, o6, preC_all hall hf2] at A1
  have z0 : at3 [.both x y] 0 = (.iface 110 (.ref [x.thing, y.thing])) := by first | rfl | (simp only [at3]; rw [MV.thing]; done) | exact thing_both _ _
  have z1 : at3 [.both x y] 1 = nilI := by first | rfl | (simp only [at3]; rw [MV.thing]; done) | exact rfl
  have z2 : at3 [.both x y] 2 = nilI := by first | rfl | (simp only [at3]; rw [MV.thing]; done) | exact rfl
  rw [z0, z1, z2] at A1
  refine t_in Tryz.func50 ?_
  intro X hP hgl hf hfn hn hR hids hfit
  refine t_g (j2 @hum @hk) ?_
  refine t_c1 trivial A1 ?_
  refine t_g @hk ?_
  repeat (first | refine W_seq ?_ | refine W_skip ?_ | refine W_block ?_ | refine W_inBlock ?_ | refine W_label ?_ | refine W_exit rfl ?_)
  first | refine W_retR hP hf hfn _ ([(b, [dint ((u + 1 + c1 : Nat) : Int), dint (most : Int)])]) (by first | (simp [go_sem, hP, hgl, hn]; done) | (simp [go_sem, hP, hgl, hn]; rfl)) (by simp [go_sem, hP, hgl, hn]) (by simp) ?_ hR.2 | refine W_endR hP hf hfn _ ([(b, [dint ((u + 1 + c1 : Nat) : Int), dint (most : Int)])]) (by first | (simp [go_sem, hP, hgl, hn]; done) | (simp [go_sem, hP, hgl, hn]; rfl)) (by simp [go_sem, hP, hgl, hn]) (by simp) ?_ hR.2
  rw [hR.1]
  refine ⟨?_, by simp⟩
  try simp
  try all_goals (simp [Ty.dv, Ty.cells_eq, Ty.kind_mk, Ty.args_mk, Tm.dv, Tm.cells_eq, Tm.kind_mk, Tm.index_mk, Tm.type_mk, Tm.args_mk, Val.dv, Val.cells_eq, Val.kind_mk, Val.num_mk, Val.list_mk, Val.args_mk, ints])

theorem evalM_k13 {most : Nat} (hm : most ≤ 1073741824) {ev : Evl} (H : WalkM Tryz.prog gl 50 most ev) (hN : NleM most ev) (t : Tm) {e : List MV} {u : Nat} (b M : Nat) (hu : u ≤ most) (hM : M + (most - u) ≤ 1073741824) (he : MV.nles M e)
    (h3 : t.args.length ≤ 3) (hk : t.kind = 13) {vs : List MV} {c1 : Nat} (hall : allC ev t.args e = some (vs, c1)) (hf1 : u + 1 ≤ most) (hf2 : u + 1 + c1 ≤ most) :
    Con1 Tryz.prog gl 50 [ptr b, t.dv, MV.envM e] [(b, useM most u)] (.tup [(.iface 114 (.agg [])), dbool true]) [(b, [dint ((u + 1 + c1 : Nat) : Int), dint (most : Int)])] := by
  rw [useM_yes hu]
  have hum : ¬ (most : Int) ≤ (u : Int) := by omega
  have A1 := allM_ok hm H hN b (M + 1) hall h3 hf1 (by omega) (MV.nles_mono (by omega) _ he)
  have B1 := nle_all hN hall he
  have o6 : decide (u + 1 + c1 ≤ most) = true := decide_eq_true hf2
  unfold outA arr3 at A1
  rw [useM_yes hf1, useM_yes hf2, o6, preC_all hall hf2] at A1
  refine t_in Tryz.func50 ?_
  intro X hP hgl hf hfn hn hR hids hfit
  refine t_g (j2 @hum @hk) ?_
  refine t_c1 trivial A1 ?_
  refine t_g @hk ?_
  repeat (first | refine W_seq ?_ | refine W_skip ?_ | refine W_block ?_ | refine W_inBlock ?_ | refine W_label ?_ | refine W_exit rfl ?_)
  first | refine W_retR hP hf hfn _ ([(b, [dint ((u + 1 + c1 : Nat) : Int), dint (most : Int)])]) (by first | (simp [go_sem, hP, hgl, hn]; done) | (simp [go_sem, hP, hgl, hn]; rfl)) (by simp [go_sem, hP, hgl, hn]) (by simp) ?_ hR.2 | refine W_endR hP hf hfn _ ([(b, [dint ((u + 1 + c1 : Nat) : Int), dint (most : Int)])]) (by first | (simp [go_sem, hP, hgl, hn]; done) | (simp [go_sem, hP, hgl, hn]; rfl)) (by simp [go_sem, hP, hgl, hn]) (by simp) ?_ hR.2
  rw [hR.1]
  refine ⟨?_, by simp⟩
  try simp
  try all_goals (simp [Ty.dv, Ty.cells_eq, Ty.kind_mk, Ty.args_mk, Tm.dv, Tm.cells_eq, Tm.kind_mk, Tm.index_mk, Tm.type_mk, Tm.args_mk, Val.dv, Val.cells_eq, Val.kind_mk, Val.num_mk, Val.list_mk, Val.args_mk, ints])

theorem evalM_k10 {most : Nat} (hm : most ≤ 1073741824) {ev : Evl} (H : WalkM Tryz.prog gl 50 most ev) (hN : NleM most ev) (t : Tm) {e : List MV} {u : Nat} (b M : Nat) (hu : u ≤ most) (hM : M + (most - u) ≤ 1073741824) (he : MV.nles M e)
    (h3 : t.args.length ≤ 3) (hk : t.kind = 10) {x y : MV} {c1 : Nat} (hall : allC ev t.args e = some ([x, y], c1)) (hf1 : u + 1 ≤ most) (hf2 : u + 1 + c1 ≤ most) :
    Con1 Tryz.prog gl 50 [ptr b, t.dv, MV.envM e] [(b, useM most u)] (.tup [(.iface 110 (.ref [x.thing, y.thing])), dbool true]) [(b, [dint ((u + 1 + c1 : Nat) : Int), dint (most : Int)])] := by
  rw [useM_yes hu]
  have hum : ¬ (most : Int) ≤ (u : Int) := by omega
  have A1 := allM_ok hm H hN b (M + 1) hall h3 hf1 (by omega) (MV.nles_mono (by omega) _ he)
  have B1 := nle_all hN hall he
  have o6 : decide (u + 1 + c1 ≤ most) = true := decide_eq_true hf2
  unfold outA arr3 at A1
  rw [useM_yes hf1, useM_yes hf2, o6, preC_all hall hf2] at A1
  have z0 : at3 [x, y] 0 = x.thing := by first | rfl | (simp only [at3]; rw [MV.thing]; done) | exact rfl
  have z1 : at3 [x, y] 1 = y.thing := by first | rfl | (simp only [at3]; rw [MV.thing]; done) | exact rfl
  have z2 : at3 [x, y] 2 = nilI := by first | rfl | (simp only [at3]; rw [MV.thing]; done) | exact rfl
  rw [z0, z1, z2] at A1
  refine t_in Tryz.func50 ?_
  intro X hP hgl hf hfn hn hR hids hfit
  refine t_g (j2 @hum @hk) ?_
  refine t_c1 trivial A1 ?_
  refine t_g @hk ?_
  refine W_reg [109] fun K hK => ?_
  simp [go_sem, hP, hgl, hn]
  refine vcK_boxR (cs := [x.thing, y.thing]) (y := .ag [x.thing, y.thing] []) (by simp [go_sem, hP, hgl, hn]) (by simp [go_sem]) (by simp [go_sem]) (by rw [hn]; exact Nat.le_of_ble_eq_true rfl) (by rfl) ?_
  simp [go_sem, hP, hgl, hn]
  refine t_e ?_
  clear hK K
  repeat (first | refine W_seq ?_ | refine W_skip ?_ | refine W_block ?_ | refine W_inBlock ?_ | refine W_label ?_ | refine W_exit rfl ?_)
  first | refine W_retR hP hf hfn _ ([(b, [dint ((u + 1 + c1 : Nat) : Int), dint (most : Int)])]) (by first | (simp [go_sem, hP, hgl, hn]; done) | (simp [go_sem, hP, hgl, hn]; rfl)) (by simp [go_sem, hP, hgl, hn]) (by simp) ?_ hR.2 | refine W_endR hP hf hfn _ ([(b, [dint ((u + 1 + c1 : Nat) : Int), dint (most : Int)])]) (by first | (simp [go_sem, hP, hgl, hn]; done) | (simp [go_sem, hP, hgl, hn]; rfl)) (by simp [go_sem, hP, hgl, hn]) (by simp) ?_ hR.2
  rw [hR.1]
  refine ⟨?_, by simp⟩
  try simp
  try all_goals (simp [Ty.dv, Ty.cells_eq, Ty.kind_mk, Ty.args_mk, Tm.dv, Tm.cells_eq, Tm.kind_mk, Tm.index_mk, Tm.type_mk, Tm.args_mk, Val.dv, Val.cells_eq, Val.kind_mk, Val.num_mk, Val.list_mk, Val.args_mk, ints])

theorem evalM_k8 {most : Nat} (hm : most ≤ 1073741824) {ev : Evl} (H : WalkM Tryz.prog gl 50 most ev) (hN : NleM most ev) (t : Tm) {e : List MV} {u : Nat} (b M : Nat) (hu : u ≤ most) (hM : M + (most - u) ≤ 1073741824) (he : MV.nles M e)
    (h3 : t.args.length ≤ 3) (hk : t.kind = 8) {n : Nat} {l : List Nat} {c1 : Nat} (hall : allC ev t.args e = some ([.num n, .list l], c1)) (hf1 : u + 1 ≤ most) (hf2 : u + 1 + c1 ≤ most) :
    Con1 Tryz.prog gl 50 [ptr b, t.dv, MV.envM e] [(b, useM most u)] (.tup [(.iface 104 (cellM (n :: l))), dbool true]) [(b, [dint ((u + 1 + c1 : Nat) : Int), dint (most : Int)])] := by
  rw [useM_yes hu]
  have hum : ¬ (most : Int) ≤ (u : Int) := by omega
  have A1 := allM_ok hm H hN b (M + 1) hall h3 hf1 (by omega) (MV.nles_mono (by omega) _ he)
  have B1 := nle_all hN hall he
  have o6 : decide (u + 1 + c1 ≤ most) = true := decide_eq_true hf2
  unfold outA arr3 at A1
  rw [useM_yes hf1, useM_yes hf2, o6, preC_all hall hf2] at A1
  have z0 : at3 [.num n, .list l] 0 = (.iface 3 (dint (n : Int))) := by first | rfl | (simp only [at3]; rw [MV.thing]; done) | exact thing_num _
  have z1 : at3 [.num n, .list l] 1 = (.iface 104 (cellM l)) := by first | rfl | (simp only [at3]; rw [MV.thing]; done) | exact thing_list _
  have z2 : at3 [.num n, .list l] 2 = nilI := by first | rfl | (simp only [at3]; rw [MV.thing]; done) | exact rfl
  rw [z0, z1, z2] at A1
  refine t_in Tryz.func50 ?_
  intro X hP hgl hf hfn hn hR hids hfit
  refine t_g (j2 @hum @hk) ?_
  refine t_c1 trivial A1 ?_
  refine t_g @hk ?_
  refine W_regd (by rw [hP]; exact mixed) [93] fun K hK => ?_
  simp [go_sem, hP, hgl, hn]
  refine vcdC_boxR (cs := [dint (n : Int), cellM l]) (y := .ag [dint (n : Int), cellM l] []) (fun _ _ => vcd_sound) (by simp [go_sem, hP, hgl, hn]) (by simp [go_sem]) (by simp [go_sem]) (by rw [hn]; exact Nat.le_of_ble_eq_true rfl) (by rfl) ?_
  simp [go_sem, hP, hgl, hn]
  refine t_e ?_
  clear hK K
  repeat (first | refine W_seq ?_ | refine W_skip ?_ | refine W_block ?_ | refine W_inBlock ?_ | refine W_label ?_ | refine W_exit rfl ?_)
  first | refine W_retR hP hf hfn _ ([(b, [dint ((u + 1 + c1 : Nat) : Int), dint (most : Int)])]) (by first | (simp [go_sem, hP, hgl, hn, cellM_cons]; done) | (simp [go_sem, hP, hgl, hn, cellM_cons]; rfl)) (by simp [go_sem, hP, hgl, hn, cellM_cons]) (by simp) ?_ hR.2 | refine W_endR hP hf hfn _ ([(b, [dint ((u + 1 + c1 : Nat) : Int), dint (most : Int)])]) (by first | (simp [go_sem, hP, hgl, hn, cellM_cons]; done) | (simp [go_sem, hP, hgl, hn, cellM_cons]; rfl)) (by simp [go_sem, hP, hgl, hn, cellM_cons]) (by simp) ?_ hR.2
  rw [hR.1]
  refine ⟨?_, by simp [cellM_cons]⟩
  try simp [cellM_cons]
  try all_goals (simp [Ty.dv, Ty.cells_eq, Ty.kind_mk, Ty.args_mk, Tm.dv, Tm.cells_eq, Tm.kind_mk, Tm.index_mk, Tm.type_mk, Tm.args_mk, Val.dv, Val.cells_eq, Val.kind_mk, Val.num_mk, Val.list_mk, Val.args_mk, ints])

end Go.Proofs.YtgfjcbofbbcnmaaGreatDoor.Lift

/-
  Package machine: eval as a whole, by the depth.
-/
namespace Go.Proofs.YtgfjcbofbbcnmaaGreatDoor.Lift
set_option linter.unusedSimpArgs false
set_option linter.unusedVariables false
set_option linter.unnecessarySimpa false
open Go
variable {gl : Globs}

theorem evalM_step {most : Nat} (hm : most ≤ 1073741824) {d : Nat} (H : WalkM Tryz.prog gl 50 most (evS d)) (hFold : FoldM Tryz.prog gl 72 most (evS d)) :
    WalkM Tryz.prog gl 50 most (evS (d + 1)) := by
  intro t e u v c b M h hu hM he
  have hN := nle_evS most d
  have hpos := evS_pos h
  by_cases hf1 : u + 1 ≤ most
  rotate_left
  · have hbig : ¬ u + c ≤ most := by omega
    rw [outM_no hbig, useM_no hbig]
    exact evalM_0 hm t b hu hf1
  rw [evS] at h
  by_cases h1 : t.kind = 1
  · rw [if_pos h1] at h
    split at h
    · rename_i hi
      simp only [Option.some.injEq, Prod.mk.injEq] at h
      obtain ⟨rfl, rfl⟩ := h
      exact evalM_1 hm t b hu h1 hi
    · cases h
  rw [if_neg h1] at h
  by_cases h2 : t.kind = 2
  · rw [if_pos h2] at h
    split at h
    · cases h
    · rename_i ha
      simp only [Option.some.injEq, Prod.mk.injEq] at h
      obtain ⟨rfl, rfl⟩ := h
      cases hargs : t.args with
      | nil => rw [hargs] at ha; exact absurd rfl ha
      | cons body rest =>
        have : t.argN 0 = body := by simp [Tm.argN, hargs]
        rw [this]
        exact evalM_2 hm t b hu h2 hargs
  rw [if_neg h2] at h
  split at h
  · cases h
  rename_i h3
  have h3 : t.args.length ≤ 3 := by omega
  split at h
  · cases h
  rename_i vs c1 hall
  split at h
  · cases h
  rename_i w c2 hnode
  simp only [Option.some.injEq, Prod.mk.injEq] at h
  obtain ⟨rfl, rfl⟩ := h
  have e0 : u + (1 + c1 + c2) = u + 1 + c1 + c2 := by omega
  rw [e0]
  by_cases hf2 : u + 1 + c1 ≤ most
  rotate_left
  · have hbig : ¬ u + 1 + c1 + c2 ≤ most := by omega
    rw [outM_no hbig, useM_no hbig]
    exact evalM_all hm H hN t b M hu hM he h3 h1 h2 hall hf1 hf2
  unfold nodeS at hnode
  split at hnode
  rotate_left
  · cases hnode
  rename_i hk
  unfold nodeC at hnode
  by_cases k3 : t.kind = 3
  · rw [if_pos k3] at hnode
    split at hnode
    · exact evalM_k3 hm H hN t b M hu hM he h3 k3 hall hf1 hf2 hnode
    · cases hnode
  rw [if_neg k3] at hnode
  by_cases k4 : t.kind = 4
  · rw [if_pos k4] at hnode
    simp only [Option.some.injEq, Prod.mk.injEq] at hnode
    obtain ⟨rfl, rfl⟩ := hnode
    rw [Nat.add_zero, outM_yes hf2, useM_yes hf2, thing_num]
    exact evalM_k4 hm H hN t b M hu hM he h3 k4 hall hf1 hf2
  rw [if_neg k4] at hnode
  by_cases k5 : t.kind = 5
  · rw [if_pos k5] at hnode
    split at hnode
    · simp only [Option.some.injEq, Prod.mk.injEq] at hnode
      obtain ⟨rfl, rfl⟩ := hnode
      rw [Nat.add_zero, outM_yes hf2, useM_yes hf2, thing_num]
      exact evalM_k5 hm H hN t b M hu hM he h3 k5 hall hf1 hf2
    · cases hnode
  rw [if_neg k5] at hnode
  by_cases k6 : t.kind = 6
  · rw [if_pos k6] at hnode
    split at hnode
    · exact evalM_k6 hm H hN t b M hu hM he h3 k6 hall hf1 hf2 hnode
    · cases hnode
  rw [if_neg k6] at hnode
  by_cases k7 : t.kind = 7
  · rw [if_pos k7] at hnode
    simp only [Option.some.injEq, Prod.mk.injEq] at hnode
    obtain ⟨rfl, rfl⟩ := hnode
    rw [Nat.add_zero, outM_yes hf2, useM_yes hf2, thing_list]
    exact evalM_k7 hm H hN t b M hu hM he h3 k7 hall hf1 hf2
  rw [if_neg k7] at hnode
  by_cases k8 : t.kind = 8
  · rw [if_pos k8] at hnode
    split at hnode
    · simp only [Option.some.injEq, Prod.mk.injEq] at hnode
      obtain ⟨rfl, rfl⟩ := hnode
      rw [Nat.add_zero, outM_yes hf2, useM_yes hf2, thing_list]
      exact evalM_k8 hm H hN t b M hu hM he h3 k8 hall hf1 hf2
    · cases hnode
  rw [if_neg k8] at hnode
  by_cases k9 : t.kind = 9
  · rw [if_pos k9] at hnode
    split at hnode
    · exact evalM_k9 hm H hN hFold t b M hu hM he h3 k9 hall hf1 hf2 hnode
    · cases hnode
  rw [if_neg k9] at hnode
  by_cases k10 : t.kind = 10
  · rw [if_pos k10] at hnode
    split at hnode
    · simp only [Option.some.injEq, Prod.mk.injEq] at hnode
      obtain ⟨rfl, rfl⟩ := hnode
      rw [Nat.add_zero, outM_yes hf2, useM_yes hf2, thing_both]
      exact evalM_k10 hm H hN t b M hu hM he h3 k10 hall hf1 hf2
    · cases hnode
  rw [if_neg k10] at hnode
  by_cases k11 : t.kind = 11
  · rw [if_pos k11] at hnode
    split at hnode
    · simp only [Option.some.injEq, Prod.mk.injEq] at hnode
      obtain ⟨rfl, rfl⟩ := hnode
      rw [Nat.add_zero, outM_yes hf2, useM_yes hf2]
      exact evalM_k11 hm H hN t b M hu hM he h3 k11 hall hf1 hf2
    · cases hnode
  rw [if_neg k11] at hnode
  by_cases k12 : t.kind = 12
  · rw [if_pos k12] at hnode
    split at hnode
    · simp only [Option.some.injEq, Prod.mk.injEq] at hnode
      obtain ⟨rfl, rfl⟩ := hnode
      rw [Nat.add_zero, outM_yes hf2, useM_yes hf2]
      exact evalM_k12 hm H hN t b M hu hM he h3 k12 hall hf1 hf2
    · cases hnode
  rw [if_neg k12] at hnode
  have k13 : t.kind = 13 := by omega
  simp only [Option.some.injEq, Prod.mk.injEq] at hnode
  obtain ⟨rfl, rfl⟩ := hnode
  rw [Nat.add_zero, outM_yes hf2, useM_yes hf2, thing_unit]
  exact evalM_k13 hm H hN t b M hu hM he h3 k13 hall hf1 hf2

/-- the walk of a run, if that of a fold is known -/
theorem walkM_all {most : Nat} (hm : most ≤ 1073741824) (hFold : ∀ ev, WalkM Tryz.prog gl 50 most ev → NleM most ev → FoldM Tryz.prog gl 72 most ev) :
    ∀ d, WalkM Tryz.prog gl 50 most (evS d)
  | 0 => by intro t e u v c b M h; cases h
  | d + 1 => evalM_step hm (walkM_all hm hFold d) (hFold _ (walkM_all hm hFold d) (nle_evS most d))
end Go.Proofs.YtgfjcbofbbcnmaaGreatDoor.Lift

/-
  Package typing, the small functions: types with their sizes.
-/
namespace Go.Proofs.YtgfjcbofbbcnmaaGreatDoor.Lift
set_option linter.unusedSimpArgs false
set_option linter.unusedVariables false
set_option linter.unnecessarySimpa false
open Go
variable {gl : Globs}

/-- a type with its size, as cells -/
def szC (t : Ty) : List DV := [dint t.kind, .sl (t.args.map Ty.cells), dint (t.count : Int)]
theorem szC_eq (t : Ty) : szC t = [dint t.kind, .sl (t.args.map Ty.cells), dint (t.count : Int)] := rfl

theorem sameType_ok (a b : Ty) : Con1 Tryz.prog gl 47 [a.dv, b.dv] [] (dbool (a.same b)) [] := by
  induction a using Ty.ind generalizing b with
  | h a ih =>
  refine t_in Tryz.func47 ?_
  intro X hP hgl hf hfn hn hR hids hfit
  have hla := Ty.fit_len (hfit a.dv (by simp))
  have hlb := Ty.fit_len (hfit b.dv (by simp))
  by_cases hk : a.kind = b.kind
  · by_cases hl : a.args.length = b.args.length
    · refine t_g (j2 @hk @hl) ?_
      refine t_a ?_
      refine t_sub [] (j2 @hk @hl) (W_upto (a.args.length) (fun i => ∀ (j : Nat) (x y : Ty), j < i → a.args[j]? = some x → b.args[j]? = some y → x.same y = true) (fun i => [(.slot 24, .one (.v (dint i))), (.slot 23, .one (.v (dint a.args.length))), (.slot 22, .one (.v (.sl (a.args.map Ty.cells)))), (.slot 3, .one (.loc 3 0)), (.loc 3, .row ([.v (dint b.kind), .v (.sl (b.args.map Ty.cells))]))]) (by intro j x y h; omega) ?_ ?_)
      · intro i hlt hI hnext
        obtain ⟨x, hx⟩ : ∃ x, a.args[i]? = some x := ⟨_, List.getElem?_eq_getElem hlt⟩
        obtain ⟨y, hy⟩ : ∃ y, b.args[i]? = some y := ⟨_, List.getElem?_eq_getElem (by omega)⟩
        refine t_rg0 ?_
        refine t_yes ?_
        refine t_g (j2 @hx @hy) ?_
        refine t_c1 (j2 @hx @hy) (ih x (List.mem_of_getElem? hx) y) ?_
        by_cases hs : x.same y = true
        · refine t_gt (wr []) trivial @hs (hnext ?_)
          intro j x' y' hj hx' hy'
          by_cases hji : j = i
          · subst hji; rw [hx] at hx'; rw [hy] at hy'; cases hx'; cases hy'; exact hs
          · exact hI j x' y' (by omega) hx' hy'
        · refine t_g @hs ?_
          refine t_r ?_
          simp [go_sem, hP, hgl, hn] <;> (try omega)
          refine Bool.eq_false_iff.2 ?_
          intro h
          rw [Ty.same_eq, Bool.and_eq_true, Ty.sames_iff] at h
          exact hs (h.2.2 i x y hx hy)
      · intro hI
        refine t_rg0 ?_
        refine t_no ?_
        refine t_g0 ?_
        refine t_r ?_
        simp [go_sem, hP, hgl, hn] <;> (try omega)
        rw [Ty.same_eq, Bool.and_eq_true, Ty.sames_iff]
        exact ⟨by simp [hk], hl, fun i x y hx hy => hI i x y (List.getElem?_eq_some_iff.1 hx).1 hx hy⟩
    · refine t_g (j2 @hk @hl) ?_
      refine t_r ?_
      simp [go_sem, hP, hgl, hn] <;> (try omega)
      refine Bool.eq_false_iff.2 ?_
      intro h
      rw [Ty.same_eq, Bool.and_eq_true, Ty.sames_iff] at h
      exact hl h.2.1
  · refine t_g @hk ?_
    refine t_r ?_
    simp [go_sem, hP, hgl, hn] <;> (try omega)
    simp [Ty.same_eq, hk]

theorem ownType_ok (t : Ty) : Con1 Tryz.prog gl 63 [t.dv] [] t.dv [] := by
  induction t using Ty.ind with
  | h t ih =>
  refine t_in Tryz.func63 ?_
  intro X hP hgl hf hfn hn hR hids hfit
  have hlen := Ty.fit_len (hfit t.dv (by simp))
  refine t_g0 ?_
  refine t_a ?_
  refine t_sub [(1003, 0)] trivial (W_list (t.args) (fun done rest => [(.slot 12, .one (.v (dint done.length))), (.slot 11, .one (.v (dint t.args.length))), (.slot 10, .one (.v (.sl (t.args.map Ty.cells)))), (.slot 3, .one (.loc 3 0)), (.loc 3, .row ([.v (dint t.kind), .own 1003 (done.map Ty.cells)])), (.tok 1003, .tk 2 done.length), (.slot 2, .one (.loc 2 0)), (.loc 2, .row ([.v (dint 0), .own 0 []]))]) ?_ ?_)
  · intro done x rest hL hg hnext
    have hlt : done.length < t.args.length := by rw [hL]; simp
    have hfo := Ty.fold x
    refine t_rg0 ?_
    refine t_yes ?_
    refine t_rg @hg ?_
    refine t_a ?_
    first | refine W_reg [] fun K hK => ?_ | refine W_regd (by rw [hP]; exact mixed) [] fun K hK => ?_
    refine t_s0 ?_
    refine t_c trivial (ih x (List.mem_of_getElem? hg)) ?_
    refine t_e ?_
    clear hK K
    refine t_rg0 ?_
    refine t_b ?_
    refine t_sub [(1003, 21)] trivial hnext
  · refine t_rg0 ?_
    refine t_no ?_
    refine t_g0 ?_
    refine t_r ?_
    simp [go_sem, hP, hgl, hn] <;> (try omega)
    all_goals exact t_f

theorem ty_of_ok (t : Ty) (ht : t.ok) : Con1 Tryz.prog gl 79 [t.dv] [] (.agg (szC t)) [] := by
  refine t_in Tryz.func79 ?_
  intro X hP hgl hf hfn hn hR hids hfit
  have hc := ht.2
  have h0 := (Ty.checkN_iff t).2 ht
  have hfo := Ty.fold t
  refine t_g0 ?_
  refine t_c1 (j2 @hfo @h0) (checktype_ok t (by omega)) ?_
  refine t_g @h0 ?_
  refine t_r ?_
  simp [go_sem, hP, hgl, hn, szC_eq t] <;> (try omega)

theorem ty_part_ok (t x : Ty) (i : Nat) (hx : t.args[i]? = some x) (ho : x.ok) : Con1 Tryz.prog gl 96 [.agg (szC t), dint (i : Int)] [] (.agg (szC x)) [] := by
  refine t_in Tryz.func96 ?_
  intro X hP hgl hf hfn hn hR hids hfit
  have hsz := szC_eq t
  have hfo := Ty.fold x
  refine t_rg @hsz ?_
  refine t_c1 (j2 @hx (j2 @hfo (szC_eq x))) (ty_of_ok x ho) ?_
  refine t_r ?_
  simp [go_sem, hP, hgl, hn, szC_eq x] <;> (try omega)

theorem ty_is_ok (t : Ty) (k : Int) : Con1 Tryz.prog gl 95 [.agg (szC t), dint k] [] (dbool (decide (t.kind = k))) [] := by
  refine t_in Tryz.func95 ?_
  intro X hP hgl hf hfn hn hR hids hfit
  have hsz := szC_eq t
  refine t_g @hsz ?_
  refine t_r ?_
  simp [go_sem, hP, hgl, hn] <;> (try omega)

theorem ty_same_ok (a b : Ty) : Con1 Tryz.prog gl 97 [.agg (szC a), .agg (szC b)] [] (dbool (a.same b)) [] := by
  refine t_in Tryz.func97 ?_
  intro X hP hgl hf hfn hn hR hids hfit
  have ha := szC_eq a
  have hb := szC_eq b
  have fa := Ty.fold a
  have fb := Ty.fold b
  by_cases h : a.count = b.count
  · refine t_rg (j2 @ha @hb) ?_
    refine t_c1 (j2 @ha (j2 @hb (j2 @h (j2 @fa @fb)))) (sameType_ok a b) ?_
    refine t_r ?_
    simp [go_sem, hP, hgl, hn] <;> (try omega)
  · have hs : a.same b = false := by
      refine Bool.eq_false_iff.2 fun e => h ?_
      rw [(Ty.same_iff a b).1 e]
    have hi : ¬ (a.count : Int) = (b.count : Int) := by omega
    refine t_g (j2 @ha (j2 @hb @hi)) ?_
    refine t_r ?_
    simp [go_sem, hP, hgl, hn, hs] <;> (try omega)

theorem ty_join_ok (k : Int) (a b : Ty) (hc : 1 + a.count + b.count ≤ 64) : Con1 Tryz.prog gl 80 [dint k, .agg (szC a), .agg (szC b)] [] (.tup [.agg (szC (Ty.mk k [a, b])), dint 0]) [] := by
  refine t_in Tryz.func80 ?_
  intro X hP hgl hf hfn hn hR hids hfit
  have ha := szC_eq a
  have hb := szC_eq b
  have hc1 : (1 : Int) + a.count + b.count ≤ 64 := by omega
  have hr : szC (Ty.mk k [a, b]) = [dint k, .sl [a.cells, b.cells], dint (1 + (a.count : Int) + (b.count : Int))] := by
    rw [szC_eq, count_two]
    simp [Ty.kind, Ty.args]
    omega
  refine t_g (j2 @ha (j2 @hb @hc1)) ?_
  refine t_r ?_
  simp [go_sem, hP, hgl, hn, hr, Ty.cells_eq a, Ty.cells_eq b] <;> (try omega)

theorem ty_plain_ok (k : Int) : Con1 Tryz.prog gl 94 [dint k] [] (.sl (ints (if k = 4 then [1] else if k = 5 then [1, 1] else if k = 7 then [2] else if k = 8 then [2, 1, 2] else if k = 13 then [5] else []))) [] := by
  refine t_in Tryz.func94 ?_
  intro X hP hgl hf hfn hn hR hids hfit
  by_cases hs0 : k = 4
  · refine t_g @hs0 ?_
    refine t_r ?_
    simp [go_sem, hP, hgl, hn, ints, hs0] <;> (try omega)
  by_cases hs1 : k = 5
  · refine t_g @hs1 ?_
    refine t_r ?_
    simp [go_sem, hP, hgl, hn, ints, hs1] <;> (try omega)
  by_cases hs2 : k = 7
  · refine t_g @hs2 ?_
    refine t_r ?_
    simp [go_sem, hP, hgl, hn, ints, hs2] <;> (try omega)
  by_cases hs3 : k = 8
  · refine t_g @hs3 ?_
    refine t_r ?_
    simp [go_sem, hP, hgl, hn, ints, hs3] <;> (try omega)
  by_cases hs4 : k = 13
  · refine t_g @hs4 ?_
    refine t_r ?_
    simp [go_sem, hP, hgl, hn, ints, hs4] <;> (try omega)
  refine t_g (j2 @hs0 (j2 @hs1 (j2 @hs2 (j2 @hs3 @hs4)))) ?_
  refine t_r ?_
  simp [go_sem, hP, hgl, hn, ints, hs0, hs1, hs2, hs3, hs4] <;> (try omega)

theorem nat_t_ok : Con1 Tryz.prog gl 84 [] [] (Ty.mk 1 []).dv [] := by
  refine t_in Tryz.func84 ?_
  intro X hP hgl hf hfn hn hR hids hfit
  refine t_g0 ?_
  refine t_r ?_
  simp [go_sem, hP, hgl, hn] <;> (try omega)
  all_goals exact t_f
theorem list_t_ok : Con1 Tryz.prog gl 83 [] [] (Ty.mk 2 []).dv [] := by
  refine t_in Tryz.func83 ?_
  intro X hP hgl hf hfn hn hR hids hfit
  refine t_g0 ?_
  refine t_r ?_
  simp [go_sem, hP, hgl, hn] <;> (try omega)
  all_goals exact t_f

/-- the type of a function of some arguments -/
def funT (r : Ty) (l : List Ty) : Ty := l.foldr (fun a r => Ty.mk 4 [a, r]) r

theorem fun_t_ok (r : Ty) (l : List Ty) : Con1 Tryz.prog gl 106 [r.dv, .sl (l.map Ty.cells)] [] (funT r l).dv [] := by
  refine t_in Tryz.func106 ?_
  intro X hP hgl hf hfn hn hR hids hfit
  have hll := sl_len (hfit (.sl (l.map Ty.cells)) (by simp))
  simp at hll
  have h0 : l.drop l.length = [] := List.drop_length
  refine t_g0 ?_
  refine t_a ?_
  refine W_sub [] (by simp [go_sem]) (by simp [go_sem, h0, funT, List.foldr_nil] <;> omega) (by simp [go_sem]) (W_rounds (fun k : Nat => k ≤ l.length) (fun k : Nat => [(.slot 1, .one (.v (.sl (l.map Ty.cells)))), (.slot 2, .one (.loc 2 0)), (.loc 2, .row ([.v (dint (funT r (l.drop k)).kind), .v (.sl ((funT r (l.drop k)).args.map Ty.cells))])), (.slot 4, .one (.loc 4 0)), (.loc 4, .row ([.v (dint 0), .own 0 []])), (.slot 5, .one (.v (dint ((k : Int) - 1))))]) (fun k : Nat => k) l.length (Nat.le_refl _) ?_)
  intro k hk ih
  cases k with
  | zero =>
    refine t_rg0 ?_
    refine t_no ?_
    refine t_g0 ?_
    refine t_r ?_
    simp [go_sem, hP, hgl, hn, Ty.cells_eq] <;> (try omega)
  | succ k =>
    have hlt : k < l.length := by omega
    obtain ⟨a, ha⟩ : ∃ a, l[k]? = some a := ⟨_, List.getElem?_eq_getElem hlt⟩
    have hd : l.drop k = a :: l.drop (k + 1) := by
      rw [List.drop_eq_getElem_cons hlt]
      rw [List.getElem?_eq_getElem hlt, Option.some.injEq] at ha
      rw [ha]
    have hfd : funT r (l.drop k) = Ty.mk 4 [a, funT r (l.drop (k + 1))] := by rw [hd]; rfl
    have hk1 : ((k + 1 : Nat) : Int) - 1 = (k : Int) := by omega
    have hle : (k : Int) ≤ 2147483648 := by omega
    have hcl := Ty.cells_eq (funT r (l.drop (k + 1)))
    have hih := ih k (by omega) (by omega)
    rw [hfd] at hih
    simp only [Ty.kind, Ty.args] at hih
    rw [hk1]
    refine t_rg0 ?_
    refine t_yes ?_
    refine t_rg @ha ?_
    refine t_rg0 ?_
    refine t_b ?_
    refine t_sub [] (Ty.cells_eq (funT r (l.drop (k + 1)))) hih
end Go.Proofs.YtgfjcbofbbcnmaaGreatDoor.Lift

/-
  Package typing: the type of a node whose parts have types that fit.
-/
namespace Go.Proofs.YtgfjcbofbbcnmaaGreatDoor.Lift
set_option linter.unusedSimpArgs false
set_option linter.unusedVariables false
set_option linter.unnecessarySimpa false
open Go
variable {gl : Globs}

def szZ : List DV := [dint 0, .sl [], dint 0]
def szO : Option Ty → List DV
  | some t => szC t
  | none => szZ
/-- three types with their sizes, as an array's cells -/
def sz3 (l : List Ty) : List DV := szO l[0]? ++ (szO l[1]? ++ szO l[2]?)
theorem sz3_0 : sz3 [] = [dint 0, .sl [], dint 0, dint 0, .sl [], dint 0, dint 0, .sl [], dint 0] := rfl
theorem sz3_1 (a : Ty) : sz3 [a] = [dint a.kind, .sl (a.args.map Ty.cells), dint (a.count : Int), dint 0, .sl [], dint 0, dint 0, .sl [], dint 0] := rfl
theorem sz3_2 (a b : Ty) : sz3 [a, b] = [dint a.kind, .sl (a.args.map Ty.cells), dint (a.count : Int), dint b.kind, .sl (b.args.map Ty.cells), dint (b.count : Int), dint 0, .sl [], dint 0] := rfl
theorem sz3_3 (a b c : Ty) : sz3 [a, b, c] = [dint a.kind, .sl (a.args.map Ty.cells), dint (a.count : Int), dint b.kind, .sl (b.args.map Ty.cells), dint (b.count : Int), dint c.kind, .sl (c.args.map Ty.cells), dint (c.count : Int)] := rfl

theorem ty_step_ok (t : Tm) : Con1 Tryz.prog gl 98 [t.dv] [] (funT t.type (if t.kind = 9 then [Ty.mk 1 [], Ty.mk 2 [], t.type] else [Ty.mk 1 [], t.type])).dv [] := by
  refine t_in Tryz.func98 ?_
  intro X hP hgl hf hfn hn hR hids hfit
  have hfo := Ty.fold t.type
  have hc := Ty.cells_eq t.type
  by_cases h : t.kind = 9
  · have w := fun_t_ok (gl := gl) t.type [Ty.mk 1 [], Ty.mk 2 [], t.type]
    refine t_g @h ?_
    refine t_c3 (j2 @h (j2 @hfo (j2 @hc (j2 @nat_v @list_v)))) nat_t_ok list_t_ok w ?_
    refine t_r ?_
    simp [go_sem, hP, hgl, hn, h] <;> (try omega)
    all_goals exact t_f
  · have w := fun_t_ok (gl := gl) t.type [Ty.mk 1 [], t.type]
    refine t_g @h ?_
    refine t_c2 (j2 @h (j2 @hfo (j2 @hc @nat_v))) nat_t_ok w ?_
    refine t_r ?_
    simp [go_sem, hP, hgl, hn, h] <;> (try omega)
    all_goals exact t_f

theorem of_dv (k : Int) : (Ty.mk k []).dv = .agg [dint k, .sl []] := rfl
theorem szC_k (k : Int) : szC (Ty.mk k []) = [dint k, .sl [], dint 1] := rfl

theorem node_k4 (t : Tm) (h : t.kind = 4) : Con1 Tryz.prog gl 81 [t.dv, .agg (sz3 [])] [] (.tup [.agg (szC (Ty.mk 1 [])), dint 0]) [] := by
  rw [sz3_0]
  have wp := ty_plain_ok (gl := gl) 4
  rw [if_pos rfl] at wp
  have wo := ty_of_ok (gl := gl) (Ty.mk 1 []) ok_nat
  rw [of_dv, szC_k] at wo
  rw [szC_k]
  refine t_in Tryz.func81 ?_
  intro X hP hgl hf hfn hn hR hids hfit
  have hi : ints [1] = [[dint 1]] := rfl
  rw [hi] at wp
  refine t_g @h ?_
  refine t_c1 @h wp ?_
  refine t_g0 ?_
  refine W_loop ?_
  refine t_g0 ?_
  refine t_c1 trivial wo ?_
  refine t_r ?_
  simp [go_sem, hP, hgl, hn] <;> (try omega)

theorem node_k7 (t : Tm) (h : t.kind = 7) : Con1 Tryz.prog gl 81 [t.dv, .agg (sz3 [])] [] (.tup [.agg (szC (Ty.mk 2 [])), dint 0]) [] := by
  rw [sz3_0]
  have wp := ty_plain_ok (gl := gl) 7
  rw [if_neg (by decide), if_neg (by decide), if_pos rfl] at wp
  have wo := ty_of_ok (gl := gl) (Ty.mk 2 []) ok_list
  rw [of_dv, szC_k] at wo
  rw [szC_k]
  refine t_in Tryz.func81 ?_
  intro X hP hgl hf hfn hn hR hids hfit
  have hi : ints [2] = [[dint 2]] := rfl
  rw [hi] at wp
  refine t_g @h ?_
  refine t_c1 @h wp ?_
  refine t_g0 ?_
  refine W_loop ?_
  refine t_g0 ?_
  refine t_c1 trivial wo ?_
  refine t_r ?_
  simp [go_sem, hP, hgl, hn] <;> (try omega)

theorem node_k13 (t : Tm) (h : t.kind = 13) : Con1 Tryz.prog gl 81 [t.dv, .agg (sz3 [])] [] (.tup [.agg (szC (Ty.mk 5 [])), dint 0]) [] := by
  rw [sz3_0]
  have wp := ty_plain_ok (gl := gl) 13
  rw [if_neg (by decide), if_neg (by decide), if_neg (by decide), if_neg (by decide), if_pos rfl] at wp
  have wo := ty_of_ok (gl := gl) (Ty.mk 5 []) ok_unit
  rw [of_dv, szC_k] at wo
  rw [szC_k]
  refine t_in Tryz.func81 ?_
  intro X hP hgl hf hfn hn hR hids hfit
  have hi : ints [5] = [[dint 5]] := rfl
  rw [hi] at wp
  refine t_g @h ?_
  refine t_c1 @h wp ?_
  refine t_g0 ?_
  refine W_loop ?_
  refine t_g0 ?_
  refine t_c1 trivial wo ?_
  refine t_r ?_
  simp [go_sem, hP, hgl, hn] <;> (try omega)

theorem node_k5 (t : Tm) (h : t.kind = 5) : Con1 Tryz.prog gl 81 [t.dv, .agg (sz3 [Ty.mk 1 []])] [] (.tup [.agg (szC (Ty.mk 1 [])), dint 0]) [] := by
  rw [sz3_1]
  have wp := ty_plain_ok (gl := gl) 5
  rw [if_neg (by decide), if_pos rfl] at wp
  have wo := ty_of_ok (gl := gl) (Ty.mk 1 []) ok_nat
  have wi := ty_is_ok (gl := gl) (Ty.mk 1 []) 1
  rw [of_dv, szC_k] at wo
  rw [szC_k] at wi ⊢
  have hi : ints [1, 1] = [[dint 1], [dint 1]] := rfl
  have hd : decide ((Ty.mk 1 []).kind = 1) = true := rfl
  have hk : (Ty.mk 1 []).kind = 1 := rfl
  have ha : (Ty.mk 1 []).args = [] := rfl
  have hc : (Ty.mk 1 []).count = 1 := rfl
  rw [hi] at wp
  rw [hd] at wi
  rw [hk, ha, hc]
  refine t_in Tryz.func81 ?_
  intro X hP hgl hf hfn hn hR hids hfit
  refine t_g @h ?_
  refine t_c1 @h wp ?_
  refine t_g0 ?_
  refine W_loop ?_
  refine t_g0 ?_
  refine t_c1 trivial wi ?_
  refine t_g0 ?_
  refine W_inLoop ?_
  refine t_g0 ?_
  refine t_c1 trivial wo ?_
  refine t_r ?_
  simp [go_sem, hP, hgl, hn] <;> (try omega)

theorem node_k8 (t : Tm) (h : t.kind = 8) : Con1 Tryz.prog gl 81 [t.dv, .agg (sz3 [Ty.mk 1 [], Ty.mk 2 []])] [] (.tup [.agg (szC (Ty.mk 2 [])), dint 0]) [] := by
  rw [sz3_2]
  have wp := ty_plain_ok (gl := gl) 8
  rw [if_neg (by decide), if_neg (by decide), if_neg (by decide), if_pos rfl] at wp
  have wo := ty_of_ok (gl := gl) (Ty.mk 2 []) ok_list
  have wi := ty_is_ok (gl := gl) (Ty.mk 1 []) 1
  have wj := ty_is_ok (gl := gl) (Ty.mk 2 []) 2
  rw [of_dv, szC_k] at wo
  rw [szC_k] at wi wj ⊢
  have hi : ints [2, 1, 2] = [[dint 2], [dint 1], [dint 2]] := rfl
  have hd : decide ((Ty.mk 1 []).kind = 1) = true := rfl
  have hk : (Ty.mk 1 []).kind = 1 := rfl
  have ha : (Ty.mk 1 []).args = [] := rfl
  have hc : (Ty.mk 1 []).count = 1 := rfl
  have hd2 : decide ((Ty.mk 2 []).kind = 2) = true := rfl
  have hk2 : (Ty.mk 2 []).kind = 2 := rfl
  have ha2 : (Ty.mk 2 []).args = [] := rfl
  have hc2 : (Ty.mk 2 []).count = 1 := rfl
  rw [hi] at wp
  rw [hd] at wi
  rw [hd2] at wj
  rw [hk, ha, hc, hk2, ha2, hc2]
  refine t_in Tryz.func81 ?_
  intro X hP hgl hf hfn hn hR hids hfit
  refine t_g @h ?_
  refine t_c1 @h wp ?_
  refine t_g0 ?_
  refine W_loop ?_
  refine t_g0 ?_
  refine t_c1 trivial wi ?_
  refine t_g0 ?_
  refine W_inLoop ?_
  refine t_g0 ?_
  refine t_c1 trivial wj ?_
  refine t_g0 ?_
  refine W_inLoop ?_
  refine t_g0 ?_
  refine t_c1 trivial wo ?_
  refine t_r ?_
  simp [go_sem, hP, hgl, hn] <;> (try omega)

theorem node_k3 (t : Tm) (h : t.kind = 3) (x y a r : Ty) (hk : x.kind = 4) (hx : x.args = [a, r]) (ha : a.ok) (hr : r.ok) (hs : a.same y = true) :
    Con1 Tryz.prog gl 81 [t.dv, .agg (sz3 [x, y])] [] (.tup [.agg (szC r), dint 0]) [] := by
  rw [sz3_2]
  have wp := ty_plain_ok (gl := gl) 3
  rw [if_neg (by decide), if_neg (by decide), if_neg (by decide), if_neg (by decide), if_neg (by decide)] at wp
  have wi := ty_is_ok (gl := gl) x 4
  have w0 := ty_part_ok (gl := gl) x a 0 (by rw [hx]; rfl) ha
  have w1 := ty_part_ok (gl := gl) x r 1 (by rw [hx]; rfl) hr
  have ws := ty_same_ok (gl := gl) a y
  have hi : ints [] = [] := rfl
  have hd : decide (x.kind = 4) = true := decide_eq_true hk
  rw [hi] at wp
  rw [hd] at wi
  rw [hs] at ws
  simp only [szC_eq] at wi w0 w1 ws ⊢
  refine t_in Tryz.func81 ?_
  intro X hP hgl hf hfn hn hR hids hfit
  refine t_g @h ?_
  refine t_c1 @h wp ?_
  refine t_g @h ?_
  refine t_c3 trivial wi w0 ws ?_
  refine t_g0 ?_
  refine t_c1 trivial w1 ?_
  refine t_r ?_
  simp [go_sem, hP, hgl, hn] <;> (try omega)

theorem node_k69 (t : Tm) (h : t.kind = 6 ∨ t.kind = 9) (ht : t.type.ok) (x y z : Ty) (hx : x.same t.type = true) (hy : y.same (funT t.type (if t.kind = 9 then [Ty.mk 1 [], Ty.mk 2 [], t.type] else [Ty.mk 1 [], t.type])) = true) (hz : z.kind = if t.kind = 9 then 2 else 1) :
    Con1 Tryz.prog gl 81 [t.dv, .agg (sz3 [x, y, z])] [] (.tup [.agg (szC t.type), dint 0]) [] := by
  rw [sz3_3]
  have wo := ty_of_ok (gl := gl) t.type ht
  have ws := ty_same_ok (gl := gl) x t.type
  have wt := ty_step_ok (gl := gl) t
  have wy := sameType_ok (gl := gl) y (funT t.type (if t.kind = 9 then [Ty.mk 1 [], Ty.mk 2 [], t.type] else [Ty.mk 1 [], t.type]))
  have fty := Ty.fold t.type
  have fy := Ty.fold y
  have ftt := Tm.fold t
  rw [hx] at ws
  rw [hy] at wy
  generalize funT t.type (if t.kind = 9 then [Ty.mk 1 [], Ty.mk 2 [], t.type] else [Ty.mk 1 [], t.type]) = st at *
  have fst := Ty.fold st
  have cst := Ty.cells_eq st
  simp only [szC_eq] at wo ws ⊢
  rcases h with h | h
  · have wp := ty_plain_ok (gl := gl) 6
    rw [if_neg (by decide), if_neg (by decide), if_neg (by decide), if_neg (by decide), if_neg (by decide)] at wp
    have hi : ints [] = [] := rfl
    rw [hi] at wp
    rw [if_neg (by omega)] at hz
    have wi := ty_is_ok (gl := gl) z 1
    rw [decide_eq_true hz] at wi
    simp only [szC_eq] at wi
    rw [h] at ftt
    refine t_in Tryz.func81 ?_
    intro X hP hgl hf hfn hn hR hids hfit
    refine t_g @h ?_
    refine t_c1 @h wp ?_
    refine t_g @h ?_
    refine t_c1 (j2 @h @fty) wo ?_
    refine t_g @h ?_
    refine t_c4 (j2 @h (j2 @fy (j2 @ftt @fst))) ws wt wy wi ?_
    refine t_g0 ?_
    refine t_r ?_
    simp [go_sem, hP, hgl, hn] <;> (try omega)
  · have wp := ty_plain_ok (gl := gl) 9
    rw [if_neg (by decide), if_neg (by decide), if_neg (by decide), if_neg (by decide), if_neg (by decide)] at wp
    have hi : ints [] = [] := rfl
    rw [hi] at wp
    rw [if_pos h] at hz
    have wi := ty_is_ok (gl := gl) z 2
    rw [decide_eq_true hz] at wi
    simp only [szC_eq] at wi
    rw [h] at ftt
    refine t_in Tryz.func81 ?_
    intro X hP hgl hf hfn hn hR hids hfit
    refine t_g @h ?_
    refine t_c1 @h wp ?_
    refine t_g @h ?_
    refine t_c1 (j2 @h @fty) wo ?_
    refine t_g @h ?_
    refine t_c4 (j2 @h (j2 @fy (j2 @ftt @fst))) ws wt wy wi ?_
    refine t_g0 ?_
    refine t_r ?_
    simp [go_sem, hP, hgl, hn] <;> (try omega)

theorem node_k10 (t : Tm) (h : t.kind = 10) (x y : Ty) (hc : 1 + x.count + y.count ≤ 64) :
    Con1 Tryz.prog gl 81 [t.dv, .agg (sz3 [x, y])] [] (.tup [.agg (szC (Ty.mk 3 [x, y])), dint 0]) [] := by
  rw [sz3_2]
  have wp := ty_plain_ok (gl := gl) 10
  rw [if_neg (by decide), if_neg (by decide), if_neg (by decide), if_neg (by decide), if_neg (by decide)] at wp
  have hi : ints [] = [] := rfl
  rw [hi] at wp
  have wj := ty_join_ok (gl := gl) 3 x y hc
  generalize Ty.mk 3 [x, y] = r at *
  simp only [szC_eq] at wj ⊢
  refine t_in Tryz.func81 ?_
  intro X hP hgl hf hfn hn hR hids hfit
  refine t_g @h ?_
  refine t_c1 @h wp ?_
  refine t_g @h ?_
  refine t_c1 trivial wj ?_
  refine t_r ?_
  simp [go_sem, hP, hgl, hn] <;> (try omega)

theorem node_k11 (t : Tm) (h : t.kind = 11) (x a b : Ty) (hk : x.kind = 3) (hx : x.args = [a, b]) (ha : a.ok) :
    Con1 Tryz.prog gl 81 [t.dv, .agg (sz3 [x])] [] (.tup [.agg (szC a), dint 0]) [] := by
  rw [sz3_1]
  have wp := ty_plain_ok (gl := gl) 11
  rw [if_neg (by decide), if_neg (by decide), if_neg (by decide), if_neg (by decide), if_neg (by decide)] at wp
  have hi : ints [] = [] := rfl
  rw [hi] at wp
  have wi := ty_is_ok (gl := gl) x 3
  have w0 := ty_part_ok (gl := gl) x a 0 (by rw [hx]; rfl) ha
  rw [decide_eq_true hk] at wi
  simp only [szC_eq] at wi w0 ⊢
  refine t_in Tryz.func81 ?_
  intro X hP hgl hf hfn hn hR hids hfit
  refine t_g @h ?_
  refine t_c1 @h wp ?_
  refine t_g @h ?_
  refine t_c1 trivial wi ?_
  refine t_g @h ?_
  refine t_c1 trivial w0 ?_
  refine t_r ?_
  simp [go_sem, hP, hgl, hn] <;> (try omega)

theorem node_k12 (t : Tm) (h : t.kind = 12) (x a b : Ty) (hk : x.kind = 3) (hx : x.args = [a, b]) (hb : b.ok) :
    Con1 Tryz.prog gl 81 [t.dv, .agg (sz3 [x])] [] (.tup [.agg (szC b), dint 0]) [] := by
  rw [sz3_1]
  have wp := ty_plain_ok (gl := gl) 12
  rw [if_neg (by decide), if_neg (by decide), if_neg (by decide), if_neg (by decide), if_neg (by decide)] at wp
  have hi : ints [] = [] := rfl
  rw [hi] at wp
  have wi := ty_is_ok (gl := gl) x 3
  have w0 := ty_part_ok (gl := gl) x b 1 (by rw [hx]; rfl) hb
  rw [decide_eq_true hk] at wi
  simp only [szC_eq] at wi w0 ⊢
  refine t_in Tryz.func81 ?_
  intro X hP hgl hf hfn hn hR hids hfit
  refine t_g @h ?_
  refine t_c1 @h wp ?_
  refine t_g @h ?_
  refine t_c1 trivial wi ?_
  refine t_g @h ?_
  refine t_c1 trivial w0 ?_
  refine t_r ?_
  simp [go_sem, hP, hgl, hn] <;> (try omega)
end Go.Proofs.YtgfjcbofbbcnmaaGreatDoor.Lift

/-
  Package typing: the types of terms that have types; terms.TypeOf.
-/
namespace Go.Proofs.YtgfjcbofbbcnmaaGreatDoor.Lift
set_option linter.unusedSimpArgs false
set_option linter.unusedVariables false
set_option linter.unnecessarySimpa false
open Go
variable {gl : Globs}

/-- a rule that gives a type gives it in the program's form too -/
theorem tnode_ok {t : Tm} (ht : t.shape = true) (hk1 : ¬ t.kind = 1) (hk2 : ¬ t.kind = 2) {ds : List Ty} (hl : ds.length = t.args.length) (hd : ∀ d ∈ ds, d.ok) {r : Ty} (hr : ruleN t.kind t.type ds = (r, 0)) :
    Con1 Tryz.prog gl 81 [t.dv, .agg (sz3 ds)] [] (.tup [.agg (szC r), dint 0]) [] := by
  obtain ⟨ha, hi, hv, hty, hs⟩ := Tm.shape_node ht
  rw [← hl] at ha
  unfold ruleN at hr
  rw [if_neg hk2] at hr
  by_cases h3 : t.kind = 3
  · rw [if_pos h3] at hr
    rw [h3] at ha
    match ds, ha with
    | [x, y], _ =>
      split at hr
      · rename_i hx
        obtain ⟨hx1, hx2⟩ := hx
        have hx1 : x.kind = 4 := hx1
        obtain ⟨p, q, hp, op, oq, e0, e1⟩ := Ty.ok_args (hd x (by simp)) (.inr hx1)
        have hx2 : (x.arg 0).same y = true := hx2
        rw [e0] at hx2
        have e2 : ([x, y].getD 0 zeroTy).arg 1 = q := e1
        rw [e2] at hr
        cases hr
        exact node_k3 t h3 x y p _ hx1 hp op oq hx2
      · cases hr
  rw [if_neg h3] at hr
  by_cases h4 : t.kind = 4
  · rw [if_pos h4] at hr
    rw [h4] at ha
    match ds, ha with
    | [], _ => cases hr; exact node_k4 t h4
  rw [if_neg h4] at hr
  by_cases h5 : t.kind = 5
  · rw [if_pos h5] at hr
    rw [h5] at ha
    match ds, ha with
    | [x], _ =>
      split at hr
      · rename_i hx
        have hx : x.same (Ty.mk 1 []) = true := hx
        obtain rfl := (Ty.same_iff _ _).1 hx
        cases hr
        exact node_k5 t h5
      · cases hr
  rw [if_neg h5] at hr
  by_cases h6 : t.kind = 6
  · rw [if_pos h6] at hr
    rw [h6] at ha
    rw [if_pos (.inr (.inl h6))] at hty
    match ds, ha with
    | [x, y, z], _ =>
      split at hr
      · rename_i hx
        obtain ⟨hx, hy, hz⟩ := hx
        have hz : z.same (Ty.mk 1 []) = true := hz
        obtain rfl := (Ty.same_iff _ _).1 hz
        cases hr
        refine node_k69 t (.inl h6) hty x y _ hx ?_ ?_
        · rw [if_neg (by omega)]; exact hy
        · rw [if_neg (by omega)]; rfl
      · cases hr
  rw [if_neg h6] at hr
  by_cases h7 : t.kind = 7
  · rw [if_pos h7] at hr
    rw [h7] at ha
    match ds, ha with
    | [], _ => cases hr; exact node_k7 t h7
  rw [if_neg h7] at hr
  by_cases h8 : t.kind = 8
  · rw [if_pos h8] at hr
    rw [h8] at ha
    match ds, ha with
    | [x, y], _ =>
      split at hr
      · rename_i hx
        obtain ⟨hx, hy⟩ := hx
        have hx : x.same (Ty.mk 1 []) = true := hx
        have hy : y.same (Ty.mk 2 []) = true := hy
        obtain rfl := (Ty.same_iff _ _).1 hx
        obtain rfl := (Ty.same_iff _ _).1 hy
        cases hr
        exact node_k8 t h8
      · cases hr
  rw [if_neg h8] at hr
  by_cases h9 : t.kind = 9
  · rw [if_pos h9] at hr
    rw [h9] at ha
    rw [if_pos (.inr (.inr h9))] at hty
    match ds, ha with
    | [x, y, z], _ =>
      split at hr
      · rename_i hx
        obtain ⟨hx, hy, hz⟩ := hx
        have hz : z.same (Ty.mk 2 []) = true := hz
        obtain rfl := (Ty.same_iff _ _).1 hz
        cases hr
        refine node_k69 t (.inr h9) hty x y _ hx ?_ ?_
        · rw [if_pos h9]; exact hy
        · rw [if_pos h9]; rfl
      · cases hr
  rw [if_neg h9] at hr
  by_cases h10 : t.kind = 10
  · rw [if_pos h10] at hr
    rw [h10] at ha
    match ds, ha with
    | [x, y], _ =>
      have hr : okN (Ty.mk 3 [x, y]) = (r, 0) := hr
      obtain ⟨o1, o2⟩ := okN_ok (Ty.mk 3 [x, y]) (by rw [hr])
      rw [o2] at hr
      rw [o2] at o1
      cases hr
      have := o1.2
      rw [count_two] at this
      exact node_k10 t h10 x y (by omega)
  rw [if_neg h10] at hr
  by_cases h11 : t.kind = 11
  · rw [if_pos h11] at hr
    rw [h11] at ha
    match ds, ha with
    | [x], _ =>
      split at hr
      · rename_i hx
        have hx : x.kind = 3 := hx
        obtain ⟨p, q, hp, op, oq, e0, e1⟩ := Ty.ok_args (hd x (by simp)) (.inl hx)
        have e2 : ([x].getD 0 zeroTy).arg 0 = p := e0
        rw [e2] at hr
        cases hr
        exact node_k11 t h11 x _ q hx hp op
      · cases hr
  rw [if_neg h11] at hr
  by_cases h12 : t.kind = 12
  · rw [if_pos h12] at hr
    rw [h12] at ha
    match ds, ha with
    | [x], _ =>
      split at hr
      · rename_i hx
        have hx : x.kind = 3 := hx
        obtain ⟨p, q, hp, op, oq, e0, e1⟩ := Ty.ok_args (hd x (by simp)) (.inl hx)
        have e2 : ([x].getD 0 zeroTy).arg 1 = q := e1
        rw [e2] at hr
        cases hr
        exact node_k12 t h12 x p _ hx hp oq
      · cases hr
  rw [if_neg h12] at hr
  have hkn : known t.kind = true := by rw [arityI_known]; simp; omega
  have h13 : t.kind = 13 := by
    simp [known] at hkn
    omega
  rw [h13] at ha
  match ds, ha with
  | [], _ => cases hr; exact node_k13 t h13

set_option maxHeartbeats 1000000 in
theorem typeof_t_ok (t : Tm) (g : List Ty) (hgt : g.length + t.count ≤ 2147483648) (ht : t.shape = true) (hg : ∀ x ∈ g, x.ok) (h : (t.inferN g).2 = 0) :
    Con1 Tryz.prog gl 62 [.sl (g.map szC), t.dv] [] (.tup [.agg (szC (t.inferN g).1), dint 0]) [] := by
  induction t using Tm.ind generalizing g with
  | h t ih =>
  obtain ⟨ha, hi, hv, hty, hs⟩ := Tm.shape_node ht
  refine t_in Tryz.func62 ?_
  intro X hP hgl hf hfn hn hR hids hfit
  have hlg := sl_len (hfit (.sl (g.map szC)) (by simp))
  simp at hlg
  rw [Tm.inferN_eq t] at h hR
  by_cases h1 : t.kind = 1
  · rw [if_pos h1] at h hR
    by_cases h2 : (g.length : Int) ≤ t.index
    · rw [if_pos h2] at h; cases h
    rw [if_neg h2] at hR
    have hlt : g.length - 1 - t.index.toNat < g.length := by omega
    have hx := List.getElem?_eq_getElem hlt
    rw [List.getD_eq_getElem?_getD] at hR
    generalize hge : g[g.length - 1 - t.index.toNat] = x at hx
    have hx' : g[(g.length - 1 - t.index : Int).toNat]? = some x := by rw [← hx]; congr 1; omega
    rw [hx, Option.getD_some] at hR
    refine t_g (j2 @h1 (j2 @h2 (j2 @hx' (szC_eq x)))) ?_
    refine t_r ?_
    simp [go_sem, hP, hgl, hn, szC_eq x] <;> (try omega)
  rw [if_neg h1] at h hR
  by_cases hk2 : t.kind = 2
  · rw [if_pos hk2] at h hR
    rw [hk2] at ha
    obtain ⟨b, hb⟩ : ∃ b, t.args = [b] := by
      match hh : t.args, ha with
      | [b], _ => exact ⟨b, rfl⟩
    have hbm : b ∈ t.args := by rw [hb]; simp
    rw [if_pos (.inl hk2)] at hty
    have hg' : ∀ x ∈ g ++ [t.type], x.ok := by
      intro x hx
      rcases List.mem_append.1 hx with hx | hx
      · exact hg x hx
      · rw [List.mem_singleton.1 hx]; exact hty
    have hcb1 : t.count = 1 + (b.count + 0) := by rw [Tm.count_eq, hb]; rfl
    have hcb2 := Tm.count_pos b
    have hgl1 : g.length ≤ 2147483647 := by omega
    rw [hb] at h hR
    simp only [Tm.inferN.infers] at h hR
    have hb0 : (b.inferN (g ++ [t.type])).2 = 0 := by
      by_cases e : (b.inferN (g ++ [t.type])).2 = 0
      · exact e
      · rw [if_neg e] at h
        simp only at h
        rw [if_neg e] at h
        exact absurd h e
    rw [if_pos hb0] at h hR
    simp only [if_true] at h hR
    have hbo := Tm.inferN_ok b (g ++ [t.type]) (hs b hbm) hg' hb0
    have w1 := ih b hbm (g ++ [t.type]) (by simp; omega) (hs b hbm) hg' hb0
    generalize (b.inferN (g ++ [t.type])).1 = rb at *
    have hrule : ruleN t.kind t.type [rb] = okN (Ty.mk 4 [t.type, rb]) := by rw [hk2]; rfl
    rw [hrule] at h hR
    obtain ⟨o1, o2⟩ := okN_ok (Ty.mk 4 [t.type, rb]) h
    rw [o2] at o1 hR
    have hcc := o1.2
    rw [count_two] at hcc
    have wo := ty_of_ok (gl := gl) t.type hty
    have wj := ty_join_ok (gl := gl) 4 t.type rb (by omega)
    have fty := Ty.fold t.type
    have fb := Tm.fold b
    have hszm : List.map szC (g ++ [t.type]) = List.map szC g ++ [szC t.type] := by simp
    have hlm : (List.map szC g).length = g.length := by simp
    generalize Ty.mk 4 [t.type, rb] = r4 at *
    rw [hszm] at w1
    simp only [szC_eq t.type, szC_eq rb, szC_eq r4] at w1 wo wj hR
    have hwid : ∀ e : List DV, e ∈ List.map szC g → e.length = 3 := by intro e he; simp only [List.mem_map] at he; obtain ⟨x, -, rfl⟩ := he; rfl
    generalize List.map szC g = G at *
    have htake : List.take g.length G = G := by rw [List.take_of_length_le]; omega
    refine t_g @hk2 ?_
    refine t_c1 (j2 @hk2 @fty) wo ?_
    refine t_c1 (j2 @hk2 (j2 @hb (j2 @htake (j2 @hlm (j2 @hwid @hgl1))))) w1 ?_
    refine t_g0 ?_
    refine t_c1 trivial wj ?_
    refine t_r ?_
    simp [go_sem, hP, hgl, hn] <;> (try omega)
  rw [if_neg hk2] at h hR
  have hlen := Tm.fit_len (hfit t.dv (by simp))
  have hI : (Tm.inferN.infers t.args g).2 = 0 := by
    by_cases e : (Tm.inferN.infers t.args g).2 = 0
    · exact e
    · rw [if_neg e] at h; exact absurd h e
  rw [if_pos hI] at h hR
  obtain ⟨hdl, hall⟩ := Tm.infers_all t.args g hI
  have hdo : ∀ a ∈ (Tm.inferN.infers t.args g).1, a.ok := by
    intro a ha
    obtain ⟨i, hi, rfl⟩ := List.mem_iff_getElem.1 ha
    obtain ⟨x1, x2⟩ := hall i t.args[i] (List.getElem?_eq_getElem (by omega))
    rw [List.getElem?_eq_getElem hi] at x2
    rw [Option.some.inj x2]
    exact Tm.inferN_ok _ g (hs _ (List.getElem_mem _)) hg x1
  have wn := tnode_ok (gl := gl) (t := t) ht h1 hk2 hdl hdo (r := (ruleN t.kind t.type (Tm.inferN.infers t.args g).1).1) (by rw [← h])
  generalize (ruleN t.kind t.type (Tm.inferN.infers t.args g).1).1 = r at *
  generalize (Tm.inferN.infers t.args g).1 = ds at *
  have h3 : t.args.length ≤ 3 := by
    have : arityI t.kind ≤ 3 := by unfold arityI; repeat' split
                                   all_goals omega
    omega
  have ftt := Tm.fold t
  simp only [szC_eq r] at wn hR
  have step : ∀ (i : Nat) (x : Tm), t.args[i]? = some x → ∃ d, ds[i]? = some d ∧ Con1 Tryz.prog gl 62 [.sl (g.map szC), x.dv] [] (.tup [.agg (szC d), dint 0]) [] := by
    intro i x hx
    obtain ⟨x1, x2⟩ := hall i x hx
    have hm := List.mem_of_getElem? hx
    have hcx := Tm.count_mem hm
    have hct := Tm.count_eq t
    exact ⟨_, x2, ih x hm g (by omega) (hs x hm) hg x1⟩
  clear ih
  have hgm : List.map szC g = List.map szC g := rfl
  generalize List.map szC g = G at *
  have done0 : ∀ (p : List Ty), t.args.length = p.length → ds = p → sz3 ds = sz3 p := by intro p _ e; rw [e]
  match hargs : t.args, h3 with
  | [], _ =>
    rw [hargs] at hdl
    obtain rfl : ds = [] := List.length_eq_zero_iff.1 hdl
    rw [sz3_0] at wn
    rw [hargs] at ftt
    simp only [List.map_nil] at ftt
    refine t_g (j2 @h1 (j2 @hk2 @hargs)) ?_
    refine W_loop ?_
    refine t_g @hargs ?_
    refine t_c1 (j2 @hargs @ftt) wn ?_
    refine t_r ?_
    simp [go_sem, hP, hgl, hn] <;> (try omega)
  | [x], _ =>
    obtain ⟨d, hd, w⟩ := step 0 x (by rw [hargs]; rfl)
    rw [hargs] at hdl
    obtain rfl : ds = [d] := by
      match ds, hdl, hd with
      | [_], _, hd => simp at hd; rw [hd]
    rw [sz3_1] at wn
    simp only [szC_eq] at w
    rw [hargs] at ftt
    simp only [List.map_cons, List.map_nil] at ftt
    rw [Tm.cells_eq x] at ftt
    refine t_g (j2 @h1 (j2 @hk2 @hargs)) ?_
    refine W_loop ?_
    refine t_g @hargs ?_
    refine t_c1 trivial w ?_
    refine t_g0 ?_
    refine W_sub [] (s' := [(.slot 0, .one (.v (.sl G))), (.slot 67, .one (.v (dint 1))), (.slot 66, .one (.v (dint 1))), (.slot 65, .one (.v (.sl [x.cells]))), (.slot 3, .one (.loc 3 0)), (.loc 3, .row ([.v (dint t.kind), .v (dint t.index), .v (dint t.type.kind), .v (.sl (t.type.args.map Ty.cells)), .v (.sl [x.cells])])), (.slot 4, .one (.loc 4 0)), (.loc 4, .row ([.v (dint 0), .own 0 [], .v (dint 0)])), (.slot 9, .one (.loc 9 0)), (.loc 9, .row ([.v (dint d.kind), .v (.sl (d.args.map Ty.cells)), .v (dint (d.count : Int)), .v (dint 0), .own 0 [], .v (dint 0), .v (dint 0), .own 0 [], .v (dint 0)]))]) (by simp [go_sem]) (by simp [go_sem, hargs]) (by simp [go_sem]) ?_
    refine W_inLoop ?_
    refine t_g0 ?_
    refine t_c1 @ftt wn ?_
    refine t_r ?_
    simp [go_sem, hP, hgl, hn] <;> (try omega)
  | [x, y], _ =>
    obtain ⟨d, hd, w⟩ := step 0 x (by rw [hargs]; rfl)
    obtain ⟨e, he, v⟩ := step 1 y (by rw [hargs]; rfl)
    rw [hargs] at hdl
    obtain rfl : ds = [d, e] := by
      match ds, hdl, hd, he with
      | [_, _], _, hd, he => simp at hd he; rw [hd, he]
    rw [sz3_2] at wn
    simp only [szC_eq] at w v
    rw [hargs] at ftt
    simp only [List.map_cons, List.map_nil] at ftt
    rw [Tm.cells_eq x, Tm.cells_eq y] at ftt
    refine t_g (j2 @h1 (j2 @hk2 @hargs)) ?_
    refine W_loop ?_
    refine t_g @hargs ?_
    refine t_c1 trivial w ?_
    refine t_g0 ?_
    refine W_sub [] (s' := [(.slot 0, .one (.v (.sl G))), (.slot 67, .one (.v (dint 1))), (.slot 66, .one (.v (dint 2))), (.slot 65, .one (.v (.sl [x.cells, y.cells]))), (.slot 3, .one (.loc 3 0)), (.loc 3, .row ([.v (dint t.kind), .v (dint t.index), .v (dint t.type.kind), .v (.sl (t.type.args.map Ty.cells)), .v (.sl [x.cells, y.cells])])), (.slot 4, .one (.loc 4 0)), (.loc 4, .row ([.v (dint 0), .own 0 [], .v (dint 0)])), (.slot 9, .one (.loc 9 0)), (.loc 9, .row ([.v (dint d.kind), .v (.sl (d.args.map Ty.cells)), .v (dint (d.count : Int)), .v (dint 0), .own 0 [], .v (dint 0), .v (dint 0), .own 0 [], .v (dint 0)]))]) (by simp [go_sem]) (by simp [go_sem, hargs]) (by simp [go_sem]) ?_
    refine W_inLoop ?_
    refine t_g @hargs ?_
    refine t_c1 trivial v ?_
    refine t_g0 ?_
    refine W_sub [] (s' := [(.slot 0, .one (.v (.sl G))), (.slot 67, .one (.v (dint 2))), (.slot 66, .one (.v (dint 2))), (.slot 65, .one (.v (.sl [x.cells, y.cells]))), (.slot 3, .one (.loc 3 0)), (.loc 3, .row ([.v (dint t.kind), .v (dint t.index), .v (dint t.type.kind), .v (.sl (t.type.args.map Ty.cells)), .v (.sl [x.cells, y.cells])])), (.slot 4, .one (.loc 4 0)), (.loc 4, .row ([.v (dint 0), .own 0 [], .v (dint 0)])), (.slot 9, .one (.loc 9 0)), (.loc 9, .row ([.v (dint d.kind), .v (.sl (d.args.map Ty.cells)), .v (dint (d.count : Int)), .v (dint e.kind), .v (.sl (e.args.map Ty.cells)), .v (dint (e.count : Int)), .v (dint 0), .own 0 [], .v (dint 0)]))]) (by simp [go_sem]) (by simp [go_sem, hargs]) (by simp [go_sem]) ?_
    refine W_inLoop ?_
    refine t_g0 ?_
    refine t_c1 @ftt wn ?_
    refine t_r ?_
    simp [go_sem, hP, hgl, hn] <;> (try omega)
  | [x, y, z], _ =>
    obtain ⟨d, hd, w⟩ := step 0 x (by rw [hargs]; rfl)
    obtain ⟨e, he, v⟩ := step 1 y (by rw [hargs]; rfl)
    obtain ⟨k, hf3, u⟩ := step 2 z (by rw [hargs]; rfl)
    rw [hargs] at hdl
    obtain rfl : ds = [d, e, k] := by
      match ds, hdl, hd, he, hf3 with
      | [_, _, _], _, hd, he, hf3 => simp at hd he hf3; rw [hd, he, hf3]
    rw [sz3_3] at wn
    simp only [szC_eq] at w v u
    rw [hargs] at ftt
    simp only [List.map_cons, List.map_nil] at ftt
    rw [Tm.cells_eq x, Tm.cells_eq y, Tm.cells_eq z] at ftt
    refine t_g (j2 @h1 (j2 @hk2 @hargs)) ?_
    refine W_loop ?_
    refine t_g @hargs ?_
    refine t_c1 trivial w ?_
    refine t_g0 ?_
    refine W_sub [] (s' := [(.slot 0, .one (.v (.sl G))), (.slot 67, .one (.v (dint 1))), (.slot 66, .one (.v (dint 3))), (.slot 65, .one (.v (.sl [x.cells, y.cells, z.cells]))), (.slot 3, .one (.loc 3 0)), (.loc 3, .row ([.v (dint t.kind), .v (dint t.index), .v (dint t.type.kind), .v (.sl (t.type.args.map Ty.cells)), .v (.sl [x.cells, y.cells, z.cells])])), (.slot 4, .one (.loc 4 0)), (.loc 4, .row ([.v (dint 0), .own 0 [], .v (dint 0)])), (.slot 9, .one (.loc 9 0)), (.loc 9, .row ([.v (dint d.kind), .v (.sl (d.args.map Ty.cells)), .v (dint (d.count : Int)), .v (dint 0), .own 0 [], .v (dint 0), .v (dint 0), .own 0 [], .v (dint 0)]))]) (by simp [go_sem]) (by simp [go_sem, hargs]) (by simp [go_sem]) ?_
    refine W_inLoop ?_
    refine t_g @hargs ?_
    refine t_c1 trivial v ?_
    refine t_g0 ?_
    refine W_sub [] (s' := [(.slot 0, .one (.v (.sl G))), (.slot 67, .one (.v (dint 2))), (.slot 66, .one (.v (dint 3))), (.slot 65, .one (.v (.sl [x.cells, y.cells, z.cells]))), (.slot 3, .one (.loc 3 0)), (.loc 3, .row ([.v (dint t.kind), .v (dint t.index), .v (dint t.type.kind), .v (.sl (t.type.args.map Ty.cells)), .v (.sl [x.cells, y.cells, z.cells])])), (.slot 4, .one (.loc 4 0)), (.loc 4, .row ([.v (dint 0), .own 0 [], .v (dint 0)])), (.slot 9, .one (.loc 9 0)), (.loc 9, .row ([.v (dint d.kind), .v (.sl (d.args.map Ty.cells)), .v (dint (d.count : Int)), .v (dint e.kind), .v (.sl (e.args.map Ty.cells)), .v (dint (e.count : Int)), .v (dint 0), .own 0 [], .v (dint 0)]))]) (by simp [go_sem]) (by simp [go_sem, hargs]) (by simp [go_sem]) ?_
    refine W_inLoop ?_
    refine t_g @hargs ?_
    refine t_c1 trivial u ?_
    refine t_g0 ?_
    refine W_sub [] (s' := [(.slot 0, .one (.v (.sl G))), (.slot 67, .one (.v (dint 3))), (.slot 66, .one (.v (dint 3))), (.slot 65, .one (.v (.sl [x.cells, y.cells, z.cells]))), (.slot 3, .one (.loc 3 0)), (.loc 3, .row ([.v (dint t.kind), .v (dint t.index), .v (dint t.type.kind), .v (.sl (t.type.args.map Ty.cells)), .v (.sl [x.cells, y.cells, z.cells])])), (.slot 4, .one (.loc 4 0)), (.loc 4, .row ([.v (dint 0), .own 0 [], .v (dint 0)])), (.slot 9, .one (.loc 9 0)), (.loc 9, .row ([.v (dint d.kind), .v (.sl (d.args.map Ty.cells)), .v (dint (d.count : Int)), .v (dint e.kind), .v (.sl (e.args.map Ty.cells)), .v (dint (e.count : Int)), .v (dint k.kind), .v (.sl (k.args.map Ty.cells)), .v (dint (k.count : Int))]))]) (by simp [go_sem]) (by simp [go_sem, hargs]) (by simp [go_sem]) ?_
    refine W_inLoop ?_
    refine t_g0 ?_
    refine t_c1 @ftt wn ?_
    refine t_r ?_
    simp [go_sem, hP, hgl, hn] <;> (try omega)

/-- contexts without variables -/
theorem types_context_nil : Con1 Tryz.prog gl 59 [.sl []] [] (dint 0) [] := by
  refine t_in Tryz.func59 ?_
  intro X hP hgl hf hfn hn hR hids hfit
  refine t_g0 ?_
  refine W_loop ?_
  refine t_g0 ?_
  refine t_r ?_
  simp [go_sem, hP, hgl, hn] <;> (try omega)
theorem typing_from_nil : Con1 Tryz.prog gl 61 [.sl []] [] (.sl []) [] := by
  refine t_in Tryz.func61 ?_
  intro X hP hgl hf hfn hn hR hids hfit
  refine t_g0 ?_
  refine W_loop ?_
  refine t_g0 ?_
  refine t_r ?_
  simp [go_sem, hP, hgl, hn] <;> (try omega)

theorem terms_typeof_ok (har : globOf gl 0 = some arEls) (t : Tm) (r : Ty) (hc : t.checkN = 0) (h : t.inferN [] = (r, 0)) :
    Con1 Tryz.prog gl 45 [.sl [], t.dv] [] (.tup [r.dv, dint 0]) [] := by
  obtain ⟨hs, hcc⟩ := (Tm.checkN_iff t).1 hc
  have w2 := termscheck_ok har t (shape_tys t hs) (by omega)
  rw [hc] at w2
  have w3 := typeof_t_ok (gl := gl) t [] (by simp; omega) hs (by simp) (by rw [h])
  rw [h] at w3
  have w4 := ownType_ok (gl := gl) r
  have ftt := Tm.fold t
  have fr := Ty.fold r
  simp only [szC_eq, List.map_nil] at w3
  refine t_in Tryz.func45 ?_
  intro X hP hgl hf hfn hn hR hids hfit
  refine t_g0 ?_
  refine t_c1 trivial types_context_nil ?_
  refine t_g0 ?_
  refine t_c1 @ftt w2 ?_
  refine t_g0 ?_
  refine t_c2 @ftt typing_from_nil w3 ?_
  refine t_g0 ?_
  refine t_c1 @fr w4 ?_
  refine t_r ?_
  simp [go_sem, hP, hgl, hn] <;> (try omega)
  all_goals exact t_f
end Go.Proofs.YtgfjcbofbbcnmaaGreatDoor.Lift

/-
  Package types: a type without functions is seen to be one (Data).
-/
namespace Go.Proofs.YtgfjcbofbbcnmaaGreatDoor.Lift
set_option linter.unusedSimpArgs false
set_option linter.unusedVariables false
set_option linter.unnecessarySimpa false
open Go
variable {gl : Globs}

theorem arrRow_at {E : Nat} {full : List (List DV)} (hE : ∀ e ∈ full, e.length = E) {i : Nat} {e : List DV} (h : full[i]? = some e) : toDs (((arrRow full).drop (i * E)).take E) = some e := by
  have he := hE e (List.mem_of_getElem? h)
  have h1 : ((arrRow full).drop (i * E)).take E = e.map SV.v := by
    apply List.ext_getElem?
    intro j
    by_cases hj : j < E
    · rw [List.getElem?_take_of_lt hj, List.getElem?_drop]
      have hje : e[j]? = some (e[j]'(by omega)) := List.getElem?_eq_getElem (by omega)
      simp only [arrRow, List.getElem?_map, flatten_at hE h hje, hje]
    · rw [List.getElem?_eq_none (by simp; omega), List.getElem?_eq_none (by simp; omega)]
  rw [h1]
  exact toDs_map e

theorem anyLoc_arr (d : Nat) (ys : List (List DV)) : anyLoc d (arrRow ys) = false := anyLoc_vs d _
theorem anyTok_arr (d : Nat) (ys : List (List DV)) : anyTok d (arrRow ys) = false := anyTok_vs d _
attribute [go_sem] anyLoc_arr anyTok_arr
theorem rowLe_vs (σ : Nat → Nat) (l : List DV) : rowLe σ (l.map SV.v) (l.map SV.v) := by
  induction l with
  | nil => simp [rowLe]
  | cons x r ih => simp [rowLe, svLe, ih]
theorem rowLe_arr (σ : Nat → Nat) (ys : List (List DV)) : rowLe σ (arrRow ys) (arrRow ys) := rowLe_vs σ _
/-- the sizes of some types -/
def sizes : List T → Nat
  | [] => 0
  | a :: r => a.size + sizes r
theorem sizes_append (l r : List T) : sizes (l ++ r) = sizes l + sizes r := by
  induction l with
  | nil => simp [sizes]
  | cons a l ih => simp [sizes, ih]; omega
theorem size_pos (a : T) : 1 ≤ a.size := by cases a <;> simp only [T.size] <;> omega
theorem len_sizes (l : List T) : l.length ≤ sizes l := by
  induction l with
  | nil => simp [sizes]
  | cons a l ih => have := size_pos a; simp only [sizes, List.length_cons]; omega

/-- the parts of a type without functions -/
def T.parts : T → List T
  | .pair a b => [a, b]
  | _ => []
theorem parts_size (a : T) (h : a.plain) : sizes a.parts + 1 = a.size := by
  cases a with
  | pair a b => simp only [T.parts, sizes, T.size]; omega
  | fn a b => exact h.elim
  | _ => rfl
theorem parts_plain (a : T) (h : a.plain) : ∀ x ∈ a.parts, x.plain := by
  cases a with
  | pair a b => intro x hx; simp [T.parts] at hx; rcases hx with rfl | rfl; exact h.1; exact h.2
  | fn a b => exact h.elim
  | _ => intro x hx; simp [T.parts] at hx
theorem parts_args (a : T) (h : a.plain) : a.ty.args.map Ty.cells = a.parts.map fun x => x.ty.cells := by
  cases a with
  | fn a b => exact h.elim
  | _ => rfl
theorem parts_len (a : T) : a.parts.length ≤ 2 := by cases a <;> simp [T.parts]
theorem plain_kind (a : T) (h : a.plain) : ¬ a.ty.kind = 4 := by
  cases a with
  | fn a b => exact h.elim
  | _ => simp [T.ty, Ty.kind]

def tyRows (l : List T) : List (List DV) := l.map fun x => x.ty.cells
theorem tyRows_len (l : List T) : (tyRows l).length = l.length := by simp [tyRows]
theorem tyRows_wid (l : List T) : ∀ e ∈ tyRows l, e.length = 2 := by
  intro e he
  simp only [tyRows, List.mem_map] at he
  obtain ⟨x, -, rfl⟩ := he
  exact Ty.length_cells _

theorem grow_rows {full : List (List DV)} {init parts : List T} (h : full.take init.length = tyRows init) (rest : List (List DV)) : (full.take init.length ++ tyRows parts ++ rest).take (init ++ parts).length = tyRows (init ++ parts) := by
  rw [h]
  have e : tyRows init ++ tyRows parts = tyRows (init ++ parts) := by simp [tyRows]
  rw [e]
  exact List.take_left' (tyRows_len _)
theorem grow_wid {full : List (List DV)} {n : Nat} {zs rest : List (List DV)} (h : ∀ e ∈ full, e.length = 2) (h1 : ∀ e ∈ zs, e.length = 2) (h2 : ∀ e ∈ rest, e.length = 2) : ∀ e ∈ full.take n ++ zs ++ rest, e.length = 2 := by
  intro e he
  rcases List.mem_append.1 he with he | he
  · rcases List.mem_append.1 he with he | he
    · exact h e (List.mem_of_mem_take he)
    · exact h1 e he
  · exact h2 e he
theorem W_cutA {α : Type} {X : Ctx} {k kk : List Item} {s : St} (E : α → Prop) (S : α → St) (h1 : (∀ x, E x → W X kk (S x)) → W X k s) (h2 : ∀ x, E x → W X kk (S x)) : W X k s := h1 h2

set_option maxHeartbeats 1000000 in
set_option maxRecDepth 10000 in
theorem nodesIt_ok (a0 : T) (hp0 : a0.plain) (hs0 : a0.size ≤ 1000000) (b0 lp : Nat) (r : Loop) (hps : r.params.size = 1) :
    ItC Tryz.prog gl 87 [.prim (.func (.yield lp) #[] #[]), ptr b0] [(b0, a0.ty.cells)] lp r (fun D0 w0 => ∀ a : T, a.plain → YC Tryz.prog gl D0 w0 lp r [a.ty.dv] [] fun b φ' r' => b = true ∧ φ' = [] ∧ r' = r) (fun φ' r' => φ' = [(b0, a0.ty.cells)] ∧ r' = r) := by
  refine ItC_intro Tryz.func87 rfl (by kernel_rfl) (Nat.le_of_ble_eq_true rfl) ?_
  intro X hP hgl hf hfn hn hmd hids hfit hlp hY
  have hlb : ¬ lp = b0 := by simpa using hlp
  have hlb' : ¬ b0 = lp := fun e => hlb e.symm
  simp only [entryL, entry, argSt, heapSt, List.map_cons, List.map_nil, List.cons_append, List.nil_append]
  have hc0 := Ty.cells_eq a0.ty
  refine t_a ?_
  refine W_reg [6] fun K hK => ?_
  simp [go_sem, hP, hgl, hn, hlb, hlb', hc0]
  refine vcK_litX (E := 2) (els := [[dint a0.ty.kind, .sl (a0.ty.args.map Ty.cells)]]) (by simp [go_sem, hP]; rfl) (by simp [go_sem, hP, hgl, hn]) ⟨rfl, by decide⟩ (by rw [hn]; exact Nat.le_of_ble_eq_true rfl) (by rfl) ?_
  intro b hb hw
  simp [go_sem] at hb
  simp [go_sem, hP, hgl, hn, hlb, hlb', hb]
  repeat (refine ⟨by omega, ?_⟩)
  refine hK _ ?_
  clear hK K
  have hb1 : ¬ b = lp := fun e => hb.1 e.symm
  have hb2 : ¬ b = b0 := fun e => hb.2 e.symm
  refine t_a ?_
  refine W_sub [] (by simp [go_sem]) (by simp [go_sem, hb1, hb2, hb, hlb, hlb', tyRows, hc0, rowLe_arr]) (by simp [go_sem]) (W_rounds
    (fun x : Nat × Nat × List (List DV) × List T => x.2.2.1.length = x.2.1 ∧ (∀ e ∈ x.2.2.1, e.length = 2) ∧ x.2.2.1.take x.2.2.2.length = tyRows x.2.2.2 ∧ x.2.2.2.length ≤ x.2.1 ∧ (∀ a ∈ x.2.2.2, a.plain) ∧ sizes x.2.2.2 ≤ 1000000 ∧ ¬ x.1 = lp ∧ ¬ x.1 = b0)
    (fun x => [(.slot 0, .one (.v (.prim (.func (.yield lp) #[] #[])))), (.slot 1, .one (.v (ptr b0))), (.slot 3, .one (.v (rawS x.1 x.2.2.2.length x.2.1))), (.heap lp, .ob r), (.heap b0, .row [.v (dint a0.ty.kind), .v (.sl (a0.ty.args.map Ty.cells))]), (.heap x.1, .row (arrRow x.2.2.1))])
    (fun x => sizes x.2.2.2) (b, 1, tyRows [a0], [a0]) ⟨rfl, tyRows_wid _, rfl, Nat.le_refl _, by simpa using hp0, by simpa [sizes] using hs0, hb1, hb2⟩ ?_)
  clear hb hb1 hb2 b hw
  rintro ⟨b, cap, full, rest⟩ ⟨i1, i2, i3, i4, i5, i6, i7, i8⟩ ih
  simp only at i1 i2 i3 i4 i5 i6 i7 i8
  have i7' : ¬ lp = b := fun e => i7 e.symm
  have i8' : ¬ b0 = b := fun e => i8 e.symm
  rcases List.eq_nil_or_concat rest with rfl | ⟨init, a, hrest⟩
  · refine t_rg (j2 @hlb (j2 @hlb' (j2 @i7 (j2 @i8 (j2 @i7' @i8'))))) ?_
    refine t_no ?_
    refine t_a ?_
    refine W_itfin hmd (φ := [(b0, a0.ty.cells)]) (q := r) (r := .tup []) (by rw [hP, hf, hfn]; exact Tryz.func87) (by rw [hfn]; simp [go_sem]) (objsIn_one ?_ (by simp [objsIn])) (by simp) ?_ ⟨rfl, rfl⟩ outs_end
    · simp [go_sem, hlb, hlb', i7, i8, i7', i8', hc0]
    · simp [go_sem, hlb, hlb', i7, i8, i7', i8']
  · rw [List.concat_eq_append] at hrest
    subst hrest
    have ha := i5 a (by simp)
    have hln : (init ++ [a]).length = init.length + 1 := by simp
    have hls := len_sizes (init ++ [a])
    rw [hln] at hls i3 i4
    rw [hln]
    have hbig : init.length + 1 ≤ BIG := by unfold BIG; omega
    have hfa : full[init.length]? = some a.ty.cells := by
      have h1 : (full.take (init.length + 1))[init.length]? = some a.ty.cells := by rw [i3]; simp [tyRows]
      rw [List.getElem?_take_of_lt (by omega)] at h1
      exact h1
    have hrd := arrRow_at i2 hfa
    rw [Ty.cells_eq a.ty] at hrd
    have hps' := parts_size a ha
    have hpl := parts_len a
    have hargs := parts_args a ha
    have hsz := sizes_append init [a]
    have hsz2 := sizes_append init a.parts
    simp only [sizes] at hsz
    have hls2 := len_sizes (init ++ a.parts)
    rw [List.length_append] at hls2
    have hfo := Ty.fold a.ty
    have htr : tyRows a.parts = a.ty.args.map Ty.cells := hargs.symm
    have hal : (arrRow full).length = cap * 2 := by rw [arrRow_len i2, i1]
    refine t_rg (j2 @hbig (j2 @hlb (j2 @hlb' (j2 @i7 (j2 @i8 (j2 @i7' @i8')))))) ?_
    refine t_yes ?_
    have hlt : ((init.length : Nat) : Int) < (init.length : Nat) + 1 := by omega
    refine t_rg (j2 @hbig (j2 @hlb (j2 @hlb' (j2 @i7 (j2 @i8 (j2 @i7' (j2 @i8' @hrd))))))) ?_
    have hnb : init.length + (a.ty.args.map Ty.cells).length ≤ BIG := by
      rw [hargs, List.length_map]; unfold BIG; omega
    have hzw : ∀ e ∈ a.ty.args.map Ty.cells, e.length = 2 := by rw [hargs]; exact tyRows_wid a.parts
    have hzl : (a.ty.args.map Ty.cells).length = a.parts.length := by rw [hargs, List.length_map]
    have hil : (init ++ a.parts).length = init.length + a.parts.length := List.length_append
    have hfl1 : full.take init.length = tyRows init := by
      have h1 : (full.take (init.length + 1)).take init.length = (tyRows (init ++ [a])).take init.length := by rw [i3]
      rw [List.take_take, Nat.min_eq_left (by omega)] at h1
      rw [h1]; simp [tyRows]
    generalize a.ty.args.map Ty.cells = zs at *
    apply W_cutA (fun x : Nat × Nat × List (List DV) => x.2.2.length = x.2.1 ∧ (∀ e ∈ x.2.2, e.length = 2) ∧ x.2.2.take (init ++ a.parts).length = tyRows (init ++ a.parts) ∧ (init ++ a.parts).length ≤ x.2.1 ∧ ¬ x.1 = lp ∧ ¬ x.1 = b0)
      (fun x => [(.slot 0, .one (.v (.prim (.func (.yield lp) #[] #[])))), (.slot 1, .one (.v (ptr b0))), (.slot 3, .one (.v (rawS x.1 (init ++ a.parts).length x.2.1))), (.slot 4, .one (.loc 4 0)), (.loc 4, .row [.v (dint a.ty.kind), .v (.sl zs)]), (.heap lp, .ob r), (.heap b0, .row [.v (dint a0.ty.kind), .v (.sl (a0.ty.args.map Ty.cells))]), (.heap x.1, .row (arrRow x.2.2))])
    · intro hrest
      refine t_a ?_
      refine W_regT (by rw [hP]; exact mixed) 7 ?_ ?_ [] [23] fun K hK => ?_
      · decide
      · rfl
      simp [go_sem, hP, hgl, hn, hbig, hlb, hlb', i7, i8, i7', i8', hrd]
      repeat (refine ⟨by omega, ?_⟩)
      refine ⟨by rfl, ?_⟩
      refine vcK_appendR (E := 2) (B := 32) (b := b) (n := init.length) (cap := cap) (full := full) (zs := zs) (zd := [dint 0, .sl []]) (by simp [go_sem, hP, hgl, hn]) (by simp [go_sem, hP, hgl, hn]) (by simp [go_sem, hlb, hlb', i7, i8, i7', i8']) (by simp [go_sem, hP]) (by rw [hP]; kernel_rfl) rfl ⟨by decide, by decide⟩ (by rw [hP]; rfl) (by rw [hn]; exact Nat.le_of_ble_eq_true rfl) i1 (by omega) hnb i2 hzw rfl ?_ ?_
      · intro hle
        simp [go_sem, hP, hgl, hn, hlb, hlb', i7, i8, i7', i8']
        refine hK _ ?_
        clear hK K
        rw [hzl] at hle
        have q1 : (full.take init.length ++ zs ++ full.drop (init.length + zs.length)).length = cap := by
          simp only [List.length_append, List.length_take, List.length_drop, i1, hzl]; omega
        have q2 := grow_wid (n := init.length) i2 hzw (rest := full.drop (init.length + zs.length)) fun e he => i2 e (List.mem_of_mem_drop he)
        have q3 := grow_rows (parts := a.parts) hfl1 (full.drop (init.length + zs.length))
        rw [htr] at q3
        have q4 : (init ++ a.parts).length ≤ cap := by rw [hil]; exact hle
        have q5 : init.length + zs.length = (init ++ a.parts).length := by rw [hil, hzl]
        have hres := hrest (b, cap, _) ⟨q1, q2, q3, q4, i7, i8⟩
        simp only at hres
        rw [← q5] at hres
        rw [List.append_assoc] at hres
        generalize full.take init.length ++ (zs ++ full.drop (init.length + zs.length)) = fl at *
        refine t_b ?_
        refine t_sub [] (j2 @hlb (j2 @hlb' (j2 @i7 (j2 @i8 (j2 @i7' (j2 @i8' @rowLe_arr)))))) hres
      · intro hlt b' cap' hc hb' hw'
        simp [go_sem] at hb'
        simp [go_sem, hP, hgl, hn, hlb, hlb', i7, i8, i7', i8', hb']
        refine hK _ ?_
        clear hK K
        have k1 : ¬ b' = lp := fun e => hb'.1 e.symm
        have k2 : ¬ b' = b0 := fun e => hb'.2.1 e.symm
        have k3 : ¬ b = b' := fun e => hb'.2.2 e
        have q1 : (full.take init.length ++ zs ++ List.replicate (cap' - (init.length + zs.length)) [dint 0, DV.sl []]).length = cap' := by
          simp only [List.length_append, List.length_take, List.length_replicate, i1]; omega
        have q2 := grow_wid (n := init.length) i2 hzw (rest := List.replicate (cap' - (init.length + zs.length)) [dint 0, DV.sl []]) fun e he => by rw [(List.mem_replicate.1 he).2]; rfl
        have q3 := grow_rows (parts := a.parts) hfl1 (List.replicate (cap' - (init.length + zs.length)) [dint 0, DV.sl []])
        rw [htr] at q3
        have q5 : init.length + zs.length = (init ++ a.parts).length := by rw [hil, hzl]
        have q4 : (init ++ a.parts).length ≤ cap' := by rw [← q5]; exact hc
        have hres := hrest (b', cap', _) ⟨q1, q2, q3, q4, k1, k2⟩
        simp only at hres
        rw [← q5] at hres
        rw [List.append_assoc] at hres
        generalize full.take init.length ++ (zs ++ List.replicate (cap' - (init.length + zs.length)) [dint 0, DV.sl []]) = fl at *
        refine t_b ?_
        refine t_sub [] (j2 @hlb (j2 @hlb' (j2 @i7 (j2 @i8 (j2 @i7' (j2 @i8' (j2 @hb' (j2 @k1 (j2 @k2 (j2 @k3 @rowLe_arr)))))))))) hres
    · rintro ⟨b', cap', full'⟩ ⟨w1, w2, w3, w4, w5, w6⟩
      simp only at w1 w2 w3 w4 w5 w6 ⊢
      have w5' : ¬ lp = b' := fun e => w5 e.symm
      have w6' : ¬ b0 = b' := fun e => w6 e.symm
      have w7 : ∀ x ∈ init ++ a.parts, x.plain := by
        intro x hx
        rcases List.mem_append.1 hx with hx | hx
        · exact i5 x (by simp [hx])
        · exact parts_plain a ha x hx
      have w8 : sizes (init ++ a.parts) ≤ 1000000 := by omega
      have w9 : sizes (init ++ a.parts) < sizes (init ++ [a]) := by omega
      have hres := ih (b', cap', full', init ++ a.parts) ⟨w1, w2, w3, w4, w7, w8, w5, w6⟩ w9
      simp only at hres
      generalize hnn : (init ++ a.parts).length = nn at *
      refine t_a ?_
      first | refine W_reg [] fun K hK => ?_ | refine W_regd (by rw [hP]; exact mixed) [] fun K hK => ?_
      refine t_s (j2 @hlb (j2 @hlb' (j2 @w5 (j2 @w6 (j2 @w5' (j2 @w6' @hfo)))))) ?_
      repeat (refine ⟨by omega, ?_⟩)
      refine vcK_yieldA (by simp [go_sem]) hP hgl (hY a ha) hps (by simp [go_sem, hlb, hlb', w5, w6, w5', w6', hfo]) rfl (by simp [objsIn]) (by simp) (by simp [go_sem, hlb, hlb', w5, w6, w5', w6']) (by rw [hn]; exact Nat.le_of_ble_eq_true rfl) [(.slot 0, .one (.v (.prim (.func (.yield lp) #[] #[])))), (.slot 1, .one (.v (ptr b0))), (.slot 3, .one (.v (rawS b' nn cap'))), (.heap b0, .row [.v (dint a0.ty.kind), .v (.sl (a0.ty.args.map Ty.cells))]), (.heap b', .row (arrRow full'))] ?_ ?_ ?_
      · intro m v h
        simp only [List.mem_cons, List.not_mem_nil, or_false, Prod.mk.injEq] at h
        rcases h with ⟨rfl, rfl⟩ | ⟨rfl, rfl⟩ | ⟨rfl, rfl⟩ | ⟨rfl, rfl⟩ | ⟨rfl, rfl⟩ <;> simp [go_sem, hlb, hlb', w5, w6, w5', w6']
      · rintro _ _ _ ⟨rfl, rfl, rfl⟩
        simp
      · rintro _ _ _ ⟨rfl, rfl, rfl⟩ -
        simp only [List.cons_append, List.nil_append]
        simp [go_sem, hP, hgl, hn]
        refine t_e ?_
        clear hK K
        refine t_no ?_
        refine t_b ?_
        refine t_sub [] (j2 @hlb (j2 @hlb' (j2 @w5 (j2 @w6 (j2 @w5' (j2 @w6' @rowLe_arr)))))) hres

theorem types_nodes_ok (a : T) : Con Tryz.prog gl 68 [a.ty.dv] [] fun r φ => ∃ b, r = .prim (.func (.func 87) #[] #[.pointer (some ⟨b, 0, none⟩)]) ∧ φ = [(b, a.ty.cells)] := by
  have hc0 := Ty.cells_eq a.ty
  refine t_in Tryz.func68 ?_
  intro X hP hgl hf hfn hn hR hids hfit
  refine t_rg0 ?_
  refine W_expose 1 (by simp [go_sem]; rfl) ?_
  intro b hb
  simp [go_sem]
  refine t_rg0 ?_
  refine t_a ?_
  refine W_retR hP hf hfn (.prim (.func (.func 87) #[] #[.pointer (some ⟨b, 0, none⟩)])) [(b, a.ty.cells)] (by simp [go_sem, hP, hgl, hn]) (by simp [go_sem, hc0]) (by simp) (by rw [hR.1]; exact ⟨b, rfl, rfl⟩) hR.2

set_option maxHeartbeats 1000000 in
theorem data_t_ok (a : T) (hp : a.plain) (ho : a.ok) : Con1 Tryz.prog gl 49 [a.ty.dv] [] (.tup [dbool true, dint 0]) [] := by
  have hs : a.size ≤ 64 := ho
  have hc := T.ty_count a
  have h0 : a.ty.checkN = 0 := (Ty.checkN_iff _).2 (T.ok_ty ho)
  have wc := types_check_ok (gl := gl) a.ty (by omega)
  rw [h0] at wc
  have fa := Ty.fold a.ty
  have hc0 := Ty.cells_eq a.ty
  refine t_in Tryz.func49 ?_
  intro X hP hgl hf hfn hn hR hids hfit
  refine t_g0 ?_
  refine t_c1 @fa wc ?_
  refine t_g0 ?_
  refine t_a ?_
  first | refine W_reg [] fun K hK => ?_ | refine W_regd (by rw [hP]; exact mixed) [] fun K hK => ?_
  refine t_s0 ?_
  repeat (refine ⟨by omega, ?_⟩)
  refine vcK_callR hP hgl (types_nodes_ok a) (by simp [go_sem]) rfl (by simp [go_sem]) (by simp) (by rw [hn]; exact Nat.le_of_ble_eq_true rfl) ?_
  rintro r ψ ⟨b0, rfl, rfl⟩ -
  simp [go_sem]
  refine t_e ?_
  clear hK K
  refine t_a ?_
  refine W_rangeFunc hR.2 (f := 87) (fi := #[]) (ca := #[.pointer (some ⟨b0, 0, none⟩)]) (by simp [go_sem]) (by simp [primOK]) (φ := [(b0, a.ty.cells)]) ?_ ?_ (Y := fun lp r D0 w0 => ∀ x : T, x.plain → YC X.P X.gl D0 w0 lp r [x.ty.dv] [] fun b φ' r' => b = true ∧ φ' = [] ∧ r' = r) (R := fun φ' r' => φ' = [(b0, a.ty.cells)] ∧ r'.state = .ready ∧ r'.pending = none) (SL := []) ?_ ?_ ?_ ?_ ?_
  · exact objsIn_one (by simp [go_sem, hc0]) (by simp [objsIn])
  · simp
  · intro n x h
    cases h
  · intro lp r h1 h2 h3 h4
    have := nodesIt_ok (gl := gl) a hp (by omega) b0 lp r (by rw [h3]; rfl)
    rw [hP, hgl]
    refine ⟨this.1, fun D w vs a1 a2 a3 a4 a5 a6 => (this.2 D w vs a1 a2 a3 a4 a5 a6).mono ?_⟩
    rintro e w' ⟨v1, D', φ', r', rfl, hR', rest⟩
    refine ⟨v1, D', φ', r', rfl, ?_, rest⟩
    obtain ⟨rfl, rfl⟩ := hR'
    exact ⟨rfl, h1, h2⟩
  · intro lp r D0 w0 h1 h2 h3 h4 h5 h6 h7 h8 h9 x hx
    rw [hP, hgl]
    refine YC_round X.n h5 h9 h1 (by rw [h3]; rfl) (by rw [h3, hn]; decide) (by rw [h3]; decide) (by rw [h3]; simp) ?_
    intro X' hP' hgl' hf' hn' hmd' hids' hl' hfit'
    rw [h3, h6, h7]
    rw [hn] at hn'
    clear hP hgl hn
    have hP := hP'
    have hgl := hgl'
    have hn := hn'
    have hk := plain_kind x hx
    have fx := Ty.fold x.ty
    simp only [entryR, h3, parSt, slotSt, heapSt, List.cons_append, List.nil_append, List.map_nil]
    refine t_rg0 ?_
    refine W_begin (r := r) (l := lp) (by simp [Ctx.rd, hmd']) (by simp [go_sem]) h1 ?_
    simp [go_sem]
    refine t_rg0 ?_
    refine t_a ?_
    refine W_cond rfl ?_ ?_
    · intro h; exact absurd (by simpa using h) hk
    intro _
    refine t_a ?_
    refine W_rdfin hmd' (φ := []) (by simp [objsIn]) (by simp) (by simp [go_sem]) none rfl ?_
    simp only [Option.isNone_none, true_and]
    cases r
    simp only [pastL] at h1 h2 ⊢
    subst h1 h2
    rfl
  · rintro φ' r' ⟨-, h, -⟩
    rw [h]; simp
  · rintro φ' r' ⟨rfl, -, h⟩ -
    rw [h]
    simp [go_sem]
    refine t_rg0 ?_
    refine t_r ?_
    simp [go_sem, hP, hgl, hn] <;> (try omega)
end Go.Proofs.YtgfjcbofbbcnmaaGreatDoor.Lift

/-
  Package machine: plain values given to it and read back.
-/
namespace Go.Proofs.YtgfjcbofbbcnmaaGreatDoor.Lift
set_option linter.unusedSimpArgs false
set_option linter.unusedVariables false
set_option linter.unnecessarySimpa false
open Go
variable {gl : Globs}

theorem thing_num' (n : Nat) : (MV.num n).thing = .iface 3 (dint (n : Int)) := by rw [MV.thing]
theorem thing_list' (l : List Nat) : (MV.list l).thing = .iface 104 (cellM l) := by rw [MV.thing]
theorem thing_both' (a b : MV) : (MV.both a b).thing = .iface 110 (.ref [a.thing, b.thing]) := by rw [MV.thing]
theorem thing_unit' : MV.unit.thing = .iface 114 (.agg []) := by rw [MV.thing]


theorem plain_nat_ok (n : Nat) : Con1 Tryz.prog gl 52 [(MV.num n).thing] [] (Val.mk 1 (n : Nat) [] []).dv [] := by
  rw [thing_num']
  refine t_in Tryz.func52 ?_
  intro X hP hgl hf hfn hn hR hids hfit
  refine t_g0 ?_
  refine t_r ?_
  simp [go_sem, hP, hgl, hn] <;> (try omega)
  all_goals exact t_f
theorem plain_unit_ok : Con1 Tryz.prog gl 52 [MV.unit.thing] [] (Val.mk 4 0 [] []).dv [] := by
  rw [thing_unit']
  refine t_in Tryz.func52 ?_
  intro X hP hgl hf hfn hn hR hids hfit
  refine t_g0 ?_
  refine t_r ?_
  simp [go_sem, hP, hgl, hn] <;> (try omega)
  all_goals exact t_f
theorem ints_snoc (l : List Nat) (n : Nat) : ints (List.map Int.ofNat l) ++ [[dint (n : Int)]] = ints (List.map Int.ofNat (l ++ [n])) := by simp [ints]
theorem plain_list_ok (l : List Nat) (hl : l.length ≤ 1073741824) : Con1 Tryz.prog gl 52 [(MV.list l).thing] [] (Val.mk 2 0 (List.map Int.ofNat l) []).dv [] := by
  rw [thing_list']
  refine t_in Tryz.func52 ?_
  intro X hP hgl hf hfn hn hR hids hfit
  refine t_g0 ?_
  refine t_a ?_
  refine W_sub [(1005, 0)] (by simp [go_sem]) (by simp [go_sem, ints] <;> omega) (by simp [go_sem]) (W_rounds (fun x : List Nat × List Nat => x.1 ++ x.2 = l) (fun x : List Nat × List Nat => [(.slot 4, .one (.v (cellM x.2))), (.slot 5, .one (.loc 5 0)), (.loc 5, .row ([.v (dint 2), .v (dint 0), .own 1005 (ints (x.1.map Int.ofNat)), .own 0 []])), (.tok 1005, .tk 1 x.1.length), (.slot 2, .one (.loc 2 0)), (.loc 2, .row ([.v (dint 0), .v (dint 0), .own 0 [], .own 0 []]))]) (fun x : List Nat × List Nat => x.2.length) (([] : List Nat), l) (rfl) ?_)
  rintro ⟨ds, q⟩ hq ih
  simp only at hq
  have hql : ds.length + q.length = l.length := by rw [← hq]; simp
  cases q with
  | nil =>
    have hcm := cellM_nil
    rw [hcm]
    have hds : ds = l := by rw [← hq]; simp
    subst hds
    refine t_rg0 ?_
    refine t_no ?_
    refine t_g0 ?_
    refine t_r ?_
    simp [go_sem, hP, hgl, hn] <;> (try omega)
    all_goals exact t_f
  | cons n q =>
    have hcm := cellM_cons n q
    have hon := ints_snoc ds n
    have hw1 : ∀ e : List DV, e ∈ ints (List.map Int.ofNat ds) → e.length = 1 := by intro e he; simp only [ints, List.mem_map] at he; obtain ⟨x, -, rfl⟩ := he; rfl
    have hl1 : (ints (List.map Int.ofNat ds)).length = ds.length := by simp [ints]
    have hcl : ds.length ≤ 2147483647 := by simp at hql; omega
    have e2 : (ds ++ [n]) ++ q = l := by rw [← hq]; simp
    have e3 : q.length < (n :: q).length := by simp
    have hl2 : (ds ++ [n]).length = ds.length + 1 := by simp
    have hl3 : (ints (List.map Int.ofNat (ds ++ [n]))).length = ds.length + 1 := by simp [ints]
    have hih := ih (ds ++ [n], q) e2 e3
    rw [← hon] at hih
    simp only [hl2] at hih
    rw [hcm]
    generalize ints (List.map Int.ofNat ds) = L at *
    refine t_rg0 ?_
    refine t_yes ?_
    refine t_rg (j2 @hcl (j2 @hw1 @hl1)) ?_
    refine t_rg0 ?_
    refine t_b ?_
    refine t_sub [(1005, 30)] @hl1 hih
theorem plain_pair_ok (a b : T) (x y : MV) (v w : Val) (h1 : Con1 Tryz.prog gl 52 [x.thing] [] v.dv []) (h2 : Con1 Tryz.prog gl 52 [y.thing] [] w.dv []) :
    Con1 Tryz.prog gl 52 [(MV.both x y).thing] [] (Val.mk 3 0 [] [v, w]).dv [] := by
  rw [thing_both']
  have fv := Val.fold v
  have fw := Val.fold w
  refine t_in Tryz.func52 ?_
  intro X hP hgl hf hfn hn hR hids hfit
  refine t_g0 ?_
  refine t_c2 trivial h1 h2 ?_
  refine t_r ?_
  simp [go_sem, hP, hgl, hn] <;> (try omega)
  all_goals exact t_f

theorem machine_plain_ok : ∀ (a : T) (x : a.V), a.plain → (ofM a x).nle 1073741824 → Con1 Tryz.prog gl 52 [(ofM a x).thing] [] (valOf a x).dv []
  | .nat, n, _, _ => plain_nat_ok n
  | .list, l, _, h => plain_list_ok l (by simp only [ofM, MV.nle] at h; exact h.1)
  | .unit, _, _, _ => plain_unit_ok
  | .pair a b, p, hp, h => by
    simp only [ofM, MV.nle] at h
    exact plain_pair_ok a b _ _ _ _ (machine_plain_ok a p.1 hp.1 h.1) (machine_plain_ok b p.2 hp.2 h.2)
  | .fn _ _, _, hp, _ => hp.elim

theorem from_nat_ok (n : Nat) : Con1 Tryz.prog gl 48 [(Val.mk 1 (n : Nat) [] []).dv] [] (MV.num n).thing [] := by
  rw [thing_num']
  refine t_in Tryz.func48 ?_
  intro X hP hgl hf hfn hn hR hids hfit
  refine t_g0 ?_
  refine t_r ?_
  simp [go_sem, hP, hgl, hn] <;> (try omega)
theorem from_unit_ok : Con1 Tryz.prog gl 48 [(Val.mk 4 0 [] []).dv] [] MV.unit.thing [] := by
  rw [thing_unit']
  refine t_in Tryz.func48 ?_
  intro X hP hgl hf hfn hn hR hids hfit
  refine t_g0 ?_
  refine t_r ?_
  simp [go_sem, hP, hgl, hn] <;> (try omega)
theorem from_pair_ok (x y : MV) (v w : Val) (h1 : Con1 Tryz.prog gl 48 [v.dv] [] x.thing []) (h2 : Con1 Tryz.prog gl 48 [w.dv] [] y.thing []) :
    Con1 Tryz.prog gl 48 [(Val.mk 3 0 [] [v, w]).dv] [] (MV.both x y).thing [] := by
  rw [thing_both']
  have fv := Val.fold v
  have fw := Val.fold w
  have lv := Val.length_cells v
  have lw := Val.length_cells w
  refine t_in Tryz.func48 ?_
  intro X hP hgl hf hfn hn hR hids hfit
  refine t_g0 ?_
  refine t_a ?_
  refine W_regd (by rw [hP]; exact mixed) [34] fun K hK => ?_
  simp [go_sem, hP, hgl, hn, fv, fw, lv, lw]
  refine t_c (j2 @fv @fw) (h1) ?_
  refine t_c (j2 @fv @fw) (h2) ?_
  refine vcdC_boxR (cs := [x.thing, y.thing]) (y := .ag [x.thing, y.thing] []) (fun _ _ => vcd_sound) (by simp [go_sem, hP, hgl, hn]) (by simp [go_sem]) (by simp [go_sem]) (by rw [hn]; exact Nat.le_of_ble_eq_true rfl) (by rfl) ?_
  simp [go_sem, hP, hgl, hn]
  refine t_e ?_
  clear hK K
  refine t_r ?_
  simp [go_sem, hP, hgl, hn] <;> (try omega)

set_option maxHeartbeats 1000000 in
theorem from_list_ok (l : List Nat) : Con1 Tryz.prog gl 48 [(Val.mk 2 0 (List.map Int.ofNat l) []).dv] [] (MV.list l).thing [] := by
  rw [thing_list']
  have hll : (List.map Int.ofNat l).length = l.length := by simp
  refine t_in Tryz.func48 ?_
  intro X hP hgl hf hfn hn hR hids hfit
  have hl2 := Val.fit_list (hfit (Val.mk 2 0 (List.map Int.ofNat l) []).dv (by simp))
  rw [show (Val.mk 2 0 (List.map Int.ofNat l) []).list = List.map Int.ofNat l from rfl] at hl2
  refine t_g0 ?_
  refine t_a ?_
  first | refine W_reg [] fun K hK => ?_ | refine W_regd (by rw [hP]; exact mixed) [] fun K hK => ?_
  refine t_s0 ?_
  repeat (refine ⟨by omega, ?_⟩)
  refine vcK_callR hP hgl (backward_ok (List.map Int.ofNat l)) (by simp [go_sem]) rfl (by simp [go_sem]) (by simp) (by rw [hn]; exact Nat.le_of_ble_eq_true rfl) ?_
  rintro r ψ ⟨b0, rfl, rfl⟩ -
  simp [go_sem]
  refine t_e ?_
  clear hK K
  refine t_a ?_
  refine W_expose 3 (by simp [go_sem]; rfl) ?_
  intro b3 hb
  simp [go_sem] at hb ⊢
  have hb' : b0 ≠ b3 := hb
  let Φ : Nat → Objs := fun i => [(b3, [cellM (l.drop i)])]
  have hlast : cellM (l.drop l.length) = nilP := by rw [List.drop_length]; rfl
  refine W_rangeFunc hR.2 (f := 85) (fi := #[]) (ca := #[.pointer (some ⟨b0, 0, none⟩)]) (by simp [go_sem]) (by simp [primOK]) (φ := (b0, [.sl (ints (List.map Int.ofNat l))]) :: Φ l.length) ?_ ?_ (Y := BackY X.P X.gl (List.map Int.ofNat l) Φ (fun _ _ => False)) (R := fun φ' r' => φ' = (b0, [.sl (ints (List.map Int.ofNat l))]) :: Φ 0 ∧ r'.state = .ready ∧ r'.pending = none) (SL := [(3, ptr b3)]) ?_ ?_ ?_ ?_ ?_
  · refine objsIn_one (by simp [go_sem]) (objsIn_one ?_ (by simp [objsIn]))
    simp only [hlast]
    simp [go_sem, hb']
  · simp [Φ, hb']
  · intro n x h
    simp only [List.mem_singleton, Prod.mk.injEq] at h
    obtain ⟨rfl, rfl⟩ := h
    simp [go_sem]
  · intro lp r h1 h2 h3 h4
    have := backIt_ok (gl := gl) (List.map Int.ofNat l) (by omega) b0 Φ (fun _ => rfl) (by simp [Φ]) (by simp [Φ]; exact hb') (Stop := fun _ _ => False) (fun _ _ h => h.elim) lp r (by rw [h3]; rfl)
    rw [hll] at this
    rw [hP, hgl]
    refine ⟨this.1, fun D w vs a1 a2 a3 a4 a5 a6 => (this.2 D w vs a1 a2 a3 a4 a5 a6).mono ?_⟩
    rintro e w' ⟨v1, D', φ', r', rfl, hR', rest⟩
    refine ⟨v1, D', φ', r', rfl, ?_, rest⟩
    rcases hR' with ⟨rfl, rfl⟩ | ⟨ψ, -, h⟩
    · exact ⟨rfl, h1, h2⟩
    · exact h.elim
  · intro lp r D0 w0 h1 h2 h3 h4 h5 h6 h7 h8 h9 i x hx
    rw [hP, hgl]
    refine YC_round X.n h5 h9 h1 (by rw [h3]; rfl) (by rw [h3, hn]; decide) (by rw [h3]; decide) (by rw [h3]; simp) ?_
    intro X' hP' hgl' hf' hn' hmd' hids' hl' hfit'
    rw [h3, h6, h7]
    obtain ⟨n, rfl, hdrop⟩ : ∃ n : Nat, x = Int.ofNat n ∧ l.drop i = n :: l.drop (i + 1) := by
      obtain ⟨hi, hxx⟩ := List.getElem?_eq_some_iff.1 hx
      have hi' : i < l.length := by simpa using hi
      refine ⟨l[i], ?_, List.drop_eq_getElem_cons hi'⟩
      rw [← hxx]; simp
    rw [hn] at hn'
    clear hP hgl hn
    have hP := hP'
    have hgl := hgl'
    have hn := hn'
    have hlb3 : lp ≠ b3 := by simpa [Φ] using hl'
    have hcm := cellM_cons n (l.drop (i + 1))
    simp only [entryR, Φ, h3, parSt, slotSt, heapSt, List.cons_append, List.nil_append]
    refine t_rg @hlb3 ?_
    refine W_begin (r := r) (l := lp) (by simp [Ctx.rd, hmd']) (by simp [go_sem]) h1 ?_
    simp [go_sem, hlb3, hlb3.symm]
    refine t_a ?_
    refine W_reg [18] fun K hK => ?_
    simp [go_sem, hP, hgl, hn, hlb3, hlb3.symm]
    refine vcK_boxR (cs := [dint (n : Int), cellM (l.drop (i + 1))]) (y := .ag [dint (n : Int), cellM (l.drop (i + 1))] []) (by simp [go_sem, hP, hgl, hn]) (by simp [go_sem]) (by simp [go_sem]) (by rw [hn]; exact Nat.le_of_ble_eq_true rfl) (by rfl) ?_
    simp [go_sem, hP, hgl, hn, hlb3, hlb3.symm]
    refine t_e ?_
    clear hK K
    refine t_a ?_
    refine W_rdfin hmd' (φ := Φ i) ?_ (by simp [Φ]) (by simp [go_sem, hlb3.symm]) none rfl ?_
    · refine objsIn_one ?_ (by simp [objsIn])
      rw [hdrop, hcm]
      simp [go_sem, hlb3, hlb3.symm]
    · simp only [Option.isNone_none, if_true, true_and]
      cases r; simp only [pastL] at h1 h2 ⊢; subst h1 h2; rfl
  · rintro φ' r' ⟨-, h, -⟩
    rw [h]; simp
  · rintro φ' r' ⟨rfl, -, h⟩ -
    rw [h]
    simp [go_sem, Φ, hb', hb'.symm]
    refine t_rg @hb' ?_
    refine t_r ?_
    simp [go_sem, hP, hgl, hn] <;> (try omega)

theorem machine_from_ok : ∀ (a : T) (x : a.V), a.plain → Con1 Tryz.prog gl 48 [(valOf a x).dv] [] (ofM a x).thing []
  | .nat, n, _ => from_nat_ok n
  | .list, l, _ => from_list_ok l
  | .unit, _, _ => from_unit_ok
  | .pair a b, p, hp => from_pair_ok _ _ _ _ (machine_from_ok a p.1 hp.1) (machine_from_ok b p.2 hp.2)
  | .fn _ _, _, hp => hp.elim
end Go.Proofs.YtgfjcbofbbcnmaaGreatDoor.Lift

/-
  Plain law: every typed term's run comes to its end (with no bound on the work), and returns what is denoted.
-/
namespace Go.Proofs.YtgfjcbofbbcnmaaGreatDoor.Lift
set_option linter.unusedSimpArgs false
set_option linter.unusedVariables false
set_option linter.unnecessarySimpa false
open Go

/-- what a value of a machine is a value of, where every call comes to its end -/
def Tl : (a : T) → MV → a.V → Prop
  | .nat, v, n => v = .num n
  | .list, v, l => v = .list l
  | .unit, v, _ => v = .unit
  | .pair a b, v, p => ∃ x y, v = .both x y ∧ Tl a x p.1 ∧ Tl b y p.2
  | .fn a b, v, f => ∃ body e, v = .clo body e ∧ ∀ (x : MV) (y : a.V), Tl a x y → ∃ (r : MV) (c d0 : Nat), (∀ d, d0 ≤ d → evS d body (x :: e) = some (r, c)) ∧ Tl b r (f y)
def TlE : (Γ : List T) → List MV → Env Γ → Prop
  | [], e, _ => e = []
  | a :: Γ, e, ρ => ∃ x r, e = x :: r ∧ Tl a x ρ.1 ∧ TlE Γ r ρ.2
theorem TlE.get {Γ : List T} {i : Nat} {a : T} {p : Env Γ → a.V} (h : At Γ i a p) : ∀ {e : List MV} {ρ : Env Γ}, TlE Γ e ρ → i < e.length ∧ Tl a (e.getD i .unit) (p ρ) := by
  induction h with
  | zero => rintro e ρ ⟨x, r, rfl, h1, h2⟩; exact ⟨by simp, h1⟩
  | succ h ih =>
    rintro e ρ ⟨x, r, rfl, h1, h2⟩
    obtain ⟨k1, k2⟩ := ih h2
    exact ⟨by simpa using k1, by simpa using k2⟩

theorem tl_call {a b : T} {f : MV} {F : (T.fn a b).V} (hf : Tl (.fn a b) f F) {x : MV} {X : a.V} (hx : Tl a x X) : ∃ (v : MV) (c d0 : Nat), Tl b v (F X) ∧ ∀ d, d0 ≤ d → ∀ (l : List MV) (w : MV) (c' : Nat), callC (evS d) v l = some (w, c') → callC (evS d) f (x :: l) = some (w, c + c') := by
  obtain ⟨body, e, rfl, hb⟩ := hf
  obtain ⟨r, c, d0, h1, h2⟩ := hb x X hx
  refine ⟨r, c, d0, h2, fun d hd l w c' h => ?_⟩
  simp only [callC, h1 d hd, h]
theorem call_nil (ev : Evl) (v : MV) : callC ev v [] = some (v, 0) := by cases v <;> rfl
theorem tl_rec {a : T} {f : MV} {F : (T.fn .nat (.fn a a)).V} (hf : Tl (.fn .nat (.fn a a)) f F) : ∀ (n k : Nat) {r : MV} {R : a.V}, Tl a r R → ∃ (w : MV) (c d0 : Nat), (∀ d, d0 ≤ d → recC (evS d) f n k r = some (w, c)) ∧ Tl a w ((List.range' k n).foldl (fun r i => F i r) R)
  | 0, k, r, R, hr => ⟨r, 0, 0, fun d _ => rfl, hr⟩
  | n + 1, k, r, R, hr => by
    obtain ⟨v, c1, d1, hv, h1⟩ := tl_call hf (show Tl .nat (.num k) k from rfl)
    obtain ⟨u, c2, d2, hu, h2⟩ := tl_call hv hr
    obtain ⟨w, c3, d3, h3, hw⟩ := tl_rec hf n (k + 1) hu
    refine ⟨w, c1 + (c2 + 0) + c3, max d1 (max d2 d3), fun d hd => ?_, hw⟩
    have e1 : callC (evS d) f [.num k, r] = some (u, c1 + (c2 + 0)) := h1 d (by omega) [r] u _ (h2 d (by omega) [] u 0 (call_nil _ _))
    simp only [recC, e1, h3 d (by omega)]
theorem tl_fold {a : T} {f : MV} {F : (T.fn .nat (.fn .list (.fn a a))).V} (hf : Tl (.fn .nat (.fn .list (.fn a a))) f F) {b : MV} {B : a.V} (hb : Tl a b B) : ∀ (l : List Nat), ∃ (w : MV) (c d0 : Nat), (∀ d, d0 ≤ d → foldC (evS d) f b l = some (w, c)) ∧ Tl a w (listRec B F l)
  | [] => ⟨b, 0, 0, fun d _ => rfl, hb⟩
  | x :: l => by
    obtain ⟨w, c0, d0, h0, hw⟩ := tl_fold hf hb l
    obtain ⟨v, c1, d1, hv, h1⟩ := tl_call hf (show Tl .nat (.num x) x from rfl)
    obtain ⟨u, c2, d2, hu, h2⟩ := tl_call hv (show Tl .list (.list l) l from rfl)
    obtain ⟨z, c3, d3, hz, h3⟩ := tl_call hu hw
    refine ⟨z, c0 + (c1 + (c2 + (c3 + 0))), max d0 (max d1 (max d2 d3)), fun d hd => ?_, hz⟩
    have e1 : callC (evS d) f [.num x, .list l, w] = some (z, c1 + (c2 + (c3 + 0))) := h1 d (by omega) _ _ _ (h2 d (by omega) _ _ _ (h3 d (by omega) [] z 0 (call_nil _ _)))
    simp only [foldC, h0 d (by omega), e1]

theorem evS_node {d : Nat} {t : Tm} {e : List MV} {l : List MV} {c1 c2 : Nat} {v : MV} (h1 : 3 ≤ t.kind ∧ t.kind ≤ 13) (h3 : t.args.length ≤ 3) (hl : allC (evS d) t.args e = some (l, c1)) (hn : nodeC (evS d) t.kind l = some (v, c2)) : evS (d + 1) t e = some (v, 1 + c1 + c2) := by
  rw [evS, if_neg (show ¬ t.kind = 1 by omega), if_neg (show ¬ t.kind = 2 by omega), if_neg (show ¬ 3 < t.args.length by omega), hl]
  simp only
  unfold nodeS
  rw [if_pos h1, hn]

/-- a run's outcome, from some depth on -/
def Ends (t : Tm) (e : List MV) (P : MV → Prop) : Prop := ∃ (v : MV) (c d0 : Nat), (∀ d, d0 ≤ d → evS d t e = some (v, c)) ∧ P v
theorem ends_node {t : Tm} {e l : List MV} {v : MV} {P : MV → Prop} {c1 c2 d0 : Nat} (h1 : 3 ≤ t.kind ∧ t.kind ≤ 13) (h3 : t.args.length ≤ 3) (hl : ∀ d, d0 ≤ d → allC (evS d) t.args e = some (l, c1) ∧ nodeC (evS d) t.kind l = some (v, c2)) (hP : P v) : Ends t e P := by
  refine ⟨v, 1 + c1 + c2, d0 + 1, fun d hd => ?_, hP⟩
  obtain ⟨d', rfl⟩ : ∃ d', d = d' + 1 := ⟨d - 1, by omega⟩
  exact evS_node h1 h3 (hl d' (by omega)).1 (hl d' (by omega)).2

/-- THE THEOREM OF THE END -/
theorem dn_total {Γ : List T} {t : Tm} {a : T} {F : Env Γ → a.V} (h : Dn Γ t a F) : ∀ {e : List MV} {ρ : Env Γ}, TlE Γ e ρ → Ends t e fun v => Tl a v (F ρ) := by
  induction h with
  | var h =>
    intro e ρ he
    rename_i Γ i a p
    obtain ⟨k1, k2⟩ := TlE.get h he
    refine ⟨_, 1, 1, fun d hd => ?_, k2⟩
    obtain ⟨d', rfl⟩ : ∃ d', d = d' + 1 := ⟨d - 1, by omega⟩
    have hi : (vT (i : Nat)).index = (i : Int) := rfl
    rw [evS, if_pos (show (vT (i : Nat)).kind = 1 from rfl), hi, if_pos ⟨by omega, by simpa using k1⟩]
    rfl
  | lam ha hb ih =>
    intro e ρ he
    rename_i Γ a r b f
    refine ⟨.clo b e, 1, 1, fun d hd => ?_, b, e, rfl, fun x y hxy => ?_⟩
    · obtain ⟨d', rfl⟩ : ∃ d', d = d' + 1 := ⟨d - 1, by omega⟩
      rw [evS, if_neg (by simp [lamT, Tm.kind]), if_pos (show (lamT a b).kind = 2 from rfl), if_neg (by simp [lamT, Tm.args])]
      rfl
    · obtain ⟨v, c, d0, h1, h2⟩ := ih (ρ := (y, ρ)) ⟨x, e, rfl, hxy, he⟩
      exact ⟨v, c, d0, h1, h2⟩
  | app hf hx ihf ihx =>
    intro e ρ he
    obtain ⟨f', c1, d1, h1, k1⟩ := ihf he
    obtain ⟨x', c2, d2, h2, k2⟩ := ihx he
    obtain ⟨w, c3, d3, hw, h3⟩ := tl_call k1 k2
    refine ends_node (l := [f', x']) (v := w) (c1 := c1 + (c2 + 0)) (c2 := c3 + 0) (d0 := max d1 (max d2 d3)) (by simp [nT, Tm.kind]) (by simp [nT, Tm.args]) (fun d hd => ⟨?_, h3 d (by omega) [] w 0 (call_nil _ _)⟩) hw
    simp only [nT, Tm.args, allC, h1 d (by omega), h2 d (by omega)]
  | zero =>
    intro e ρ he
    exact ends_node (l := []) (v := .num 0) (c1 := 0) (c2 := 0) (d0 := 0) (by simp [nT, Tm.kind]) (by simp [nT, Tm.args]) (fun d hd => ⟨rfl, rfl⟩) rfl
  | succ hx ih =>
    intro e ρ he
    rename_i Γ x X
    obtain ⟨x', c1, d1, h1, k1⟩ := ih he
    have k1 : x' = .num (X ρ) := k1
    refine ends_node (l := [x']) (v := .num (Nat.succ (X ρ))) (c1 := c1 + 0) (c2 := 0) (d0 := d1) (by simp [nT, Tm.kind]) (by simp [nT, Tm.args]) (fun d hd => ⟨?_, by rw [k1]; rfl⟩) rfl
    simp only [nT, Tm.args, allC, h1 d (by omega)]
  | rc ha hb hf hn ihb ihf ihn =>
    intro e ρ he
    obtain ⟨b', c1, d1, h1, k1⟩ := ihb he
    obtain ⟨f', c2, d2, h2, k2⟩ := ihf he
    obtain ⟨n', c3, d3, h3, k3⟩ := ihn he
    obtain rfl : n' = .num _ := k3
    obtain ⟨w, c4, d4, h4, hw⟩ := tl_rec k2 _ 0 k1
    refine ends_node (l := [b', f', .num _]) (v := w) (c1 := c1 + (c2 + (c3 + 0))) (c2 := c4) (d0 := max d1 (max d2 (max d3 d4))) (by simp [Tm.kind]) (by simp [Tm.args]) (fun d hd => ⟨?_, h4 d (by omega)⟩) (Eq.mpr (congrArg (Tl _ w) (natRec_range _ _ _)) hw)
    simp only [Tm.args, allC, h1 d (by omega), h2 d (by omega), h3 d (by omega)]
  | nil =>
    intro e ρ he
    exact ends_node (l := []) (v := .list []) (c1 := 0) (c2 := 0) (d0 := 0) (by simp [nT, Tm.kind]) (by simp [nT, Tm.args]) (fun d hd => ⟨rfl, rfl⟩) rfl
  | cons hx hl ihx ihl =>
    intro e ρ he
    obtain ⟨x', c1, d1, h1, k1⟩ := ihx he
    obtain ⟨l', c2, d2, h2, k2⟩ := ihl he
    obtain rfl : x' = .num _ := k1
    obtain rfl : l' = .list _ := k2
    refine ends_node (l := [.num _, .list _]) (v := .list (_ :: _)) (c1 := c1 + (c2 + 0)) (c2 := 0) (d0 := max d1 d2) (by simp [nT, Tm.kind]) (by simp [nT, Tm.args]) (fun d hd => ⟨?_, rfl⟩) rfl
    simp only [nT, Tm.args, allC, h1 d (by omega), h2 d (by omega)]
  | fold ha hb hf hn ihb ihf ihn =>
    intro e ρ he
    obtain ⟨b', c1, d1, h1, k1⟩ := ihb he
    obtain ⟨f', c2, d2, h2, k2⟩ := ihf he
    obtain ⟨n', c3, d3, h3, k3⟩ := ihn he
    obtain rfl : n' = .list _ := k3
    obtain ⟨w, c4, d4, h4, hw⟩ := tl_fold k2 k1 _
    refine ends_node (l := [b', f', .list _]) (v := w) (c1 := c1 + (c2 + (c3 + 0))) (c2 := c4) (d0 := max d1 (max d2 (max d3 d4))) (by simp [Tm.kind]) (by simp [Tm.args]) (fun d hd => ⟨?_, h4 d (by omega)⟩) hw
    simp only [Tm.args, allC, h1 d (by omega), h2 d (by omega), h3 d (by omega)]
  | pair hx hy ihx ihy =>
    intro e ρ he
    obtain ⟨x', c1, d1, h1, k1⟩ := ihx he
    obtain ⟨y', c2, d2, h2, k2⟩ := ihy he
    refine ends_node (l := [x', y']) (v := .both x' y') (c1 := c1 + (c2 + 0)) (c2 := 0) (d0 := max d1 d2) (by simp [nT, Tm.kind]) (by simp [nT, Tm.args]) (fun d hd => ⟨?_, rfl⟩) ⟨x', y', rfl, k1, k2⟩
    simp only [nT, Tm.args, allC, h1 d (by omega), h2 d (by omega)]
  | fst hx ih =>
    intro e ρ he
    obtain ⟨x', c1, d1, h1, k1⟩ := ih he
    obtain ⟨p, q, rfl, hp, hq⟩ := k1
    refine ends_node (l := [.both p q]) (v := p) (c1 := c1 + 0) (c2 := 0) (d0 := d1) (by simp [nT, Tm.kind]) (by simp [nT, Tm.args]) (fun d hd => ⟨?_, rfl⟩) hp
    simp only [nT, Tm.args, allC, h1 d (by omega)]
  | snd hx ih =>
    intro e ρ he
    obtain ⟨x', c1, d1, h1, k1⟩ := ih he
    obtain ⟨p, q, rfl, hp, hq⟩ := k1
    refine ends_node (l := [.both p q]) (v := q) (c1 := c1 + 0) (c2 := 0) (d0 := d1) (by simp [nT, Tm.kind]) (by simp [nT, Tm.args]) (fun d hd => ⟨?_, rfl⟩) hq
    simp only [nT, Tm.args, allC, h1 d (by omega)]
  | unit =>
    intro e ρ he
    exact ends_node (l := []) (v := .unit) (c1 := 0) (c2 := 0) (d0 := 0) (by simp [nT, Tm.kind]) (by simp [nT, Tm.args]) (fun d hd => ⟨rfl, rfl⟩) rfl
end Go.Proofs.YtgfjcbofbbcnmaaGreatDoor.Lift

/-
  Plain law: a closed term called with plain values, as a run with its work; it always comes to its end.
-/
namespace Go.Proofs.YtgfjcbofbbcnmaaGreatDoor.Lift
set_option linter.unusedSimpArgs false
set_option linter.unusedVariables false
set_option linter.unnecessarySimpa false
open Go

theorem tl_plain : ∀ (a : T) {v : MV} {x : a.V}, a.plain → Tl a v x → v = ofM a x
  | .nat, _, _, _, h => h
  | .list, _, _, _, h => h
  | .unit, _, _, _, h => h
  | .pair a b, v, p, hp, h => by
    obtain ⟨x, y, rfl, h1, h2⟩ := h
    rw [tl_plain a hp.1 h1, tl_plain b hp.2 h2]
    rfl
  | .fn _ _, _, _, hp, _ => hp.elim
theorem tl_ofM : ∀ (a : T) (x : a.V), a.plain → Tl a (ofM a x) x
  | .nat, _, _ => rfl
  | .list, _, _ => rfl
  | .unit, _, _ => rfl
  | .pair a b, p, hp => ⟨_, _, rfl, tl_ofM a p.1 hp.1, tl_ofM b p.2 hp.2⟩
  | .fn _ _, _, hp => hp.elim

theorem tl_calls {r : T} : ∀ (l : List T) (X : Env l) {g : MV} {F : (FnT l r).V}, Plains l → Tl (FnT l r) g F → ∃ (w : MV) (c d0 : Nat), (∀ d, d0 ≤ d → callC (evS d) g (mvsOf l X) = some (w, c)) ∧ Tl r w (appl l F X)
  | [], _, g, _, _, h => ⟨g, 0, 0, fun d _ => call_nil _ _, h⟩
  | a :: l, X, g, F, hp, h => by
    obtain ⟨v, c1, d1, hv, h1⟩ := tl_call h (tl_ofM a X.1 hp.1)
    obtain ⟨w, c2, d2, h2, hw⟩ := tl_calls l X.2 hp.2.2 hv
    exact ⟨w, c1 + c2, max d1 d2, fun d hd => h1 d (by omega) _ _ _ (h2 d (by omega)), hw⟩

/-- a closed term called with some values -/
def callS (d : Nat) (t : Tm) (xs : List MV) : Option (MV × Nat) :=
  match evS d t [] with
  | none => none
  | some (g, c1) => match callC (evS d) g xs with
    | none => none
    | some (w, c2) => some (w, c1 + c2)
theorem callS_parts {d : Nat} {t : Tm} {xs : List MV} {w : MV} {c : Nat} (h : callS d t xs = some (w, c)) : ∃ g c1 c2, evS d t [] = some (g, c1) ∧ callC (evS d) g xs = some (w, c2) ∧ c = c1 + c2 := by
  unfold callS at h
  split at h
  · cases h
  · rename_i g c1 h1
    split at h
    · cases h
    · rename_i w' c2 h2
      cases h
      exact ⟨g, c1, c2, h1, h2, rfl⟩

theorem calls_total {t : Tm} {l : List T} {r : T} {F : Env [] → (FnT l r).V} (h : Dn [] t (FnT l r) F) (X : Env l) (hp : Plains l) (hr : r.plain) :
    ∃ c d0, ∀ d, d0 ≤ d → callS d t (mvsOf l X) = some (ofM r (appl l (F ()) X), c) := by
  obtain ⟨g, c1, d1, h1, hg⟩ := dn_total h (e := []) (ρ := ()) rfl
  obtain ⟨w, c2, d2, h2, hw⟩ := tl_calls l X hp hg
  have hw' := tl_plain r hr hw
  subst hw'
  refine ⟨c1 + c2, max d1 d2, fun d hd => ?_⟩
  unfold callS
  rw [h1 d (by omega)]
  simp only
  rw [h2 d (by omega)]

/-- what a call of the machine returns -/
def outC (v : Val) (c : Nat) (work : Int) : DV := if (c : Int) ≤ work then .tup [v.dv, dint (c : Int), dint 0] else .tup [zeroV.dv, dint 0, dint 5]
theorem outC_yes {v : Val} {c : Nat} {work : Int} (h : (c : Int) ≤ work) : outC v c work = .tup [v.dv, dint (c : Int), dint 0] := if_pos h
theorem outC_no {v : Val} {c : Nat} {work : Int} (h : ¬ (c : Int) ≤ work) : outC v c work = .tup [zeroV.dv, dint 0, dint 5] := if_neg h
end Go.Proofs.YtgfjcbofbbcnmaaGreatDoor.Lift

/-
  Package machine: Call and Eval, on terms of a type and plain values.
-/
namespace Go.Proofs.YtgfjcbofbbcnmaaGreatDoor.Lift
set_option linter.unusedSimpArgs false
set_option linter.unusedVariables false
set_option linter.unnecessarySimpa false
open Go
variable {gl : Globs}

def things (l : List MV) : List (List DV) := l.map fun x => [x.thing]
theorem things_nil : things [] = [] := rfl
theorem things_len (l : List MV) : (things l).length = l.length := by simp [things]
theorem things_wid (l : List MV) : ∀ e ∈ things l, e.length = 1 := by
  intro e he
  simp only [things, List.mem_map] at he
  obtain ⟨x, -, rfl⟩ := he
  rfl
theorem things_snoc {l : List MV} {i : Nat} {v : MV} (h : l[i]? = some v) : things (l.take (i + 1)) = things (l.take i) ++ [[v.thing]] := by
  rw [List.take_add_one, h]
  simp [things]

set_option maxHeartbeats 4000000 in
set_option maxRecDepth 100000 in
theorem machine_call_ok (har : globOf gl 0 = some arEls) (t : Tm) (l : List T) (r : T) (Z : Env l) (y : r.V) (c d : Nat) (hcs : callS d t (mvsOf l Z) = some (ofM r y, c)) (ht : t.checkN = 0) (hi : t.inferN [] = ((FnT l r).ty, 0)) (hl : Plains l) (hll : l.length ≤ 1000000) (hr : r.plain) (hro : r.ok) (wk : Nat) (hwk : wk ≤ 65536) (M : Nat) (hM : M ≤ 1073000000) (hX : MV.nles M (mvsOf l Z)) :
    Con1 Tryz.prog gl 29 [t.dv, .sl ((valsOf l Z).map Val.cells), dint (wk : Int)] [] (outC (valOf r y) c wk) [] := by
  obtain ⟨g, c1, c2, e1, e2, rfl⟩ := callS_parts hcs
  have hte := terms_typeof_ok (gl := gl) har t _ ht hi
  have hvl := valsOf_len l Z
  have hml := mvsOf_len l Z
  have hft := Tm.fold t
  have hfz : (Ty.mk 0 []).cells = [dint 0, .sl []] := rfl
  have hfr := Ty.fold (FnT l r).ty
  refine t_in Tryz.func29 ?_
  intro X hP hgl hf hfn hn hR hids hfit
  refine t_g0 ?_
  refine t_c1 @hft hte ?_
  refine t_g0 ?_
  refine t_a ?_
  refine t_sub [(1011, 0)] (j2 @hvl @things_nil) (W_upto (l.length) (fun i => True) (fun i => [(.slot 2, .one (.v (dint (wk : Int)))), (.slot 3, .one (.loc 3 0)), (.loc 3, .row ([.v (dint t.kind), .v (dint t.index), .v (dint t.type.kind), .v (.sl (t.type.args.map Ty.cells)), .v (.sl (t.args.map Tm.cells))])), (.slot 6, .one (.loc 6 0)), (.loc 6, .row ([.v (dint 0), .v (dint 0), .own 0 [], .own 0 []])), (.slot 9, .one (.loc 9 0)), (.loc 9, .row ([.v (dint (FnT (l.drop i) r).ty.kind), .v (.sl ((FnT (l.drop i) r).ty.args.map Ty.cells))])), (.slot 11, .one (.own 1011 (things ((mvsOf l Z).take i)))), (.tok 1011, .tk 1 i), (.slot 30, .one (.v (.sl ((valsOf l Z).map Val.cells)))), (.slot 31, .one (.v (dint l.length))), (.slot 32, .one (.v (dint i)))]) (trivial) ?_ ?_)
  · intro i hi _ hnext
    obtain ⟨a, x, g1, g2, g3, g4, g5⟩ := args_at (r := r) l Z i hi hl
    have hvg : (List.map Val.cells (valsOf l Z))[i]? = some (valOf a x).cells := by rw [List.getElem?_map, g1]; rfl
    have hfv := Val.fold (valOf a x)
    have hcv := Val.cells_eq (valOf a x)
    have hvc := (valOf_nodes a x g4).2
    have hsz : a.size ≤ 64 := g5
    have w1 := typeE_ok (gl := gl) (valOf a x) (by omega)
    rw [valOf_typeE x g4 g5] at w1
    have w2 := sameType_ok (gl := gl) a.ty a.ty
    rw [show a.ty.same a.ty = true from (Ty.same_iff _ _).2 rfl] at w2
    have w3 := machine_from_ok (gl := gl) a x g4
    have hti : (FnT (l.drop i) r).ty = Ty.mk 4 [a.ty, (FnT (l.drop (i + 1)) r).ty] := by rw [g3, T.ty_fn]
    have hfa := Ty.fold a.ty
    have hsn := things_snoc g2
    have hln : (things ((mvsOf l Z).take i)).length = i := by rw [things_len, List.length_take]; omega
    have hwid := things_wid ((mvsOf l Z).take i)
    have hil : i ≤ 2147483647 := by omega
    have hil2 : i + 1 ≤ 2147483647 := by omega
    generalize (FnT (l.drop (i + 1)) r).ty = ty' at *
    generalize (FnT (l.drop i) r).ty = ty0 at *
    generalize a.ty = ta at *
    generalize things ((mvsOf l Z).take i) = L at *
    generalize things ((mvsOf l Z).take (i + 1)) = L' at *
    subst hti
    subst hsn
    have hct := Ty.cells_eq ty'
    refine t_rg0 ?_
    refine t_yes ?_
    refine t_g (j2 @hvg @hcv) ?_
    refine t_c1 @hfv w1 ?_
    refine t_g0 ?_
    refine t_c1 @hfa w2 ?_
    refine t_g0 ?_
    refine t_c1 (j2 @hfv (j2 @hwid (j2 @hln (j2 @hil @hil2)))) w3 ?_
    refine t_gt (wr [(1011, 62)]) @hct @hln (hnext trivial)
  · intro _
    have hdl : FnT (l.drop l.length) r = r := by rw [List.drop_length]; rfl
    have htk : (mvsOf l Z).take l.length = mvsOf l Z := by rw [← hml]; exact List.take_length
    rw [hdl, htk]
    have wd := data_t_ok (gl := gl) r hr hro
    have hfr := Ty.fold r.ty
    have hwn : ¬ ((wk : Int) < 0) := by omega
    have hwm : ¬ (65536 < (wk : Int)) := by omega
    have HW := walkM_all (gl := gl) (most := wk) (by omega) (fun ev h1 h2 => foldM_ok (by omega) h1 h2) d
    have HN := nle_evS wk d
    have ng := HN M e1 (by simp only [MV.nles])
    refine t_rg0 ?_
    refine t_no ?_
    refine t_g0 ?_
    refine t_c1 @hfr wd ?_
    refine t_g (j2 @hwn @hwm) ?_
    refine W_expose 85 (by simp [go_sem]; rfl) ?_
    intro b hb
    simp [go_sem] at hb ⊢
    have we := HW b M e1 (Nat.zero_le _) (by omega) (by simp only [MV.nles])
    have henv : MV.envM [] = nilP := by rw [MV.envM]
    rw [henv, Nat.zero_add, useM_yes (Nat.zero_le _)] at we
    by_cases hf1 : c1 ≤ wk
    · rw [outM_yes hf1, useM_yes hf1] at we
      have wc := callM_ok (gl := gl) (most := wk) (by omega) HW HN b (M + c1) e2 hf1 (by omega) ng (MV.nles_mono (by omega) _ hX)
      rw [useM_yes hf1] at wc
      have hmt : (mvsOf l Z).map (fun x => [x.thing]) = things (mvsOf l Z) := rfl
      rw [hmt] at wc
      by_cases hf2 : c1 + c2 ≤ wk
      · rw [outM_yes hf2, useM_yes hf2] at wc
        have hnl := nle_call HN e2 ng (MV.nles_mono (by omega) _ hX)
        have wp := machine_plain_ok (gl := gl) r y hr (MV.nle_mono (by omega) _ hnl)
        have hfy := Val.fold (valOf r y)
        rw [outC_yes (by omega)] at hR
        refine t_c1 @hft we ?_
        refine t_g0 ?_
        refine t_c1 trivial wc ?_
        refine t_g0 ?_
        refine t_c1 trivial wp ?_
        refine t_r ?_
        simp [go_sem, hP, hgl, hn] <;> (try omega)
        all_goals exact t_f
      · rw [outM_no hf2, useM_no hf2] at wc
        rw [outC_no (by omega)] at hR
        refine t_c1 @hft we ?_
        refine t_g0 ?_
        refine t_c1 trivial wc ?_
        refine t_g0 ?_
        refine t_r ?_
        simp [go_sem, hP, hgl, hn, zeroV] <;> (try omega)
        all_goals exact t_f
    · rw [outM_no hf1, useM_no hf1] at we
      rw [outC_no (by omega)] at hR
      refine t_c1 @hft we ?_
      refine t_g0 ?_
      refine t_r ?_
      simp [go_sem, hP, hgl, hn, zeroV] <;> (try omega)
      all_goals exact t_f

theorem machine_eval_ok (har : globOf gl 0 = some arEls) (t : Tm) (r : T) (y : r.V) (c d : Nat) (hcs : callS d t [] = some (ofM r y, c)) (ht : t.checkN = 0) (hi : t.inferN [] = (r.ty, 0)) (hr : r.plain) (hro : r.ok) (wk : Nat) (hwk : wk ≤ 65536) :
    Con1 Tryz.prog gl 9 [t.dv, dint (wk : Int)] [] (outC (valOf r y) c wk) [] := by
  have w := machine_call_ok (gl := gl) har t [] r () y c d hcs ht hi trivial (by simp) hr hro wk hwk 0 (by omega) (by simp only [mvsOf, MV.nles])
  have hft := Tm.fold t
  simp only [valsOf, List.map_nil] at w
  refine t_in Tryz.func9 ?_
  intro X hP hgl hf hfn hn hR hids hfit
  unfold outC at *
  split at w
  · rename_i h
    rw [if_pos h] at hR
    refine t_g0 ?_
    refine t_c1 @hft w ?_
    refine t_r ?_
    simp [go_sem, hP, hgl, hn] <;> (try omega)
    all_goals exact t_f
  · rename_i h
    rw [if_neg h] at hR
    refine t_g0 ?_
    refine t_c1 @hft w ?_
    refine t_r ?_
    simp [go_sem, hP, hgl, hn, zeroV] <;> (try omega)
    all_goals exact t_f
end Go.Proofs.YtgfjcbofbbcnmaaGreatDoor.Lift

