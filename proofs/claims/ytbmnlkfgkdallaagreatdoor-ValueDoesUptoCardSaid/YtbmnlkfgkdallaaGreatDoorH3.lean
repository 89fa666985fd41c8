import Derived.Test.YtbmnlkfgkdallaaGreatDoorH2
namespace Go.Proofs.YtbmnlkfgkdallaaGreatDoor.Lift
set_option linter.unusedSimpArgs false
set_option linter.unusedVariables false
set_option linter.unnecessarySimpa false
open Go
variable {gl : Globs}

/-- the package's table of arities -/
def arEls : List (List DV) := ints [0, 0, 1, 2, 0, 1, 3, 0, 2, 3, 2, 1, 1, 0]
def known (k : Int) : Bool := decide (1 ≤ k) && decide (k ≤ 13)
theorem arityI_known (k : Int) : known k = decide (0 ≤ arityI k) := by
  unfold known arityI
  by_cases h : 1 ≤ k ∧ k ≤ 13
  · have : k = 1 ∨ k = 2 ∨ k = 3 ∨ k = 4 ∨ k = 5 ∨ k = 6 ∨ k = 7 ∨ k = 8 ∨ k = 9 ∨ k = 10 ∨ k = 11 ∨ k = 12 ∨ k = 13 := by omega
    rcases this with rfl | rfl | rfl | rfl | rfl | rfl | rfl | rfl | rfl | rfl | rfl | rfl | rfl <;> decide
  · rw [if_neg (by omega), if_neg (by omega), if_neg (by omega), if_neg (by omega)]
    simp; omega

theorem arity_ok (har : globOf gl 0 = some arEls) (k : Int) : Con1 Tryz.prog gl 101 [dint k] [] (.tup [dint (if known k = true then arityI k else 0), dbool (known k)]) [] := by
  refine t_in Tryz.func101 ?_
  intro X hP hgl hf hfn hn hR hids hfit
  have hk := har
  simp only [arEls, ints, List.map] at hk
  by_cases hs0 : k = 1
  · refine t_g (j2 @hs0 @hk) ?_
    refine t_r ?_
    simp [go_sem, hP, hgl, hn, known, arityI, hs0] <;> (try omega)
  by_cases hs1 : k = 2
  · refine t_g (j2 @hs1 @hk) ?_
    refine t_r ?_
    simp [go_sem, hP, hgl, hn, known, arityI, hs1] <;> (try omega)
  by_cases hs2 : k = 3
  · refine t_g (j2 @hs2 @hk) ?_
    refine t_r ?_
    simp [go_sem, hP, hgl, hn, known, arityI, hs2] <;> (try omega)
  by_cases hs3 : k = 4
  · refine t_g (j2 @hs3 @hk) ?_
    refine t_r ?_
    simp [go_sem, hP, hgl, hn, known, arityI, hs3] <;> (try omega)
  by_cases hs4 : k = 5
  · refine t_g (j2 @hs4 @hk) ?_
    refine t_r ?_
    simp [go_sem, hP, hgl, hn, known, arityI, hs4] <;> (try omega)
  by_cases hs5 : k = 6
  · refine t_g (j2 @hs5 @hk) ?_
    refine t_r ?_
    simp [go_sem, hP, hgl, hn, known, arityI, hs5] <;> (try omega)
  by_cases hs6 : k = 7
  · refine t_g (j2 @hs6 @hk) ?_
    refine t_r ?_
    simp [go_sem, hP, hgl, hn, known, arityI, hs6] <;> (try omega)
  by_cases hs7 : k = 8
  · refine t_g (j2 @hs7 @hk) ?_
    refine t_r ?_
    simp [go_sem, hP, hgl, hn, known, arityI, hs7] <;> (try omega)
  by_cases hs8 : k = 9
  · refine t_g (j2 @hs8 @hk) ?_
    refine t_r ?_
    simp [go_sem, hP, hgl, hn, known, arityI, hs8] <;> (try omega)
  by_cases hs9 : k = 10
  · refine t_g (j2 @hs9 @hk) ?_
    refine t_r ?_
    simp [go_sem, hP, hgl, hn, known, arityI, hs9] <;> (try omega)
  by_cases hs10 : k = 11
  · refine t_g (j2 @hs10 @hk) ?_
    refine t_r ?_
    simp [go_sem, hP, hgl, hn, known, arityI, hs10] <;> (try omega)
  by_cases hs11 : k = 12
  · refine t_g (j2 @hs11 @hk) ?_
    refine t_r ?_
    simp [go_sem, hP, hgl, hn, known, arityI, hs11] <;> (try omega)
  by_cases hs12 : k = 13
  · refine t_g (j2 @hs12 @hk) ?_
    refine t_r ?_
    simp [go_sem, hP, hgl, hn, known, arityI, hs12] <;> (try omega)
  by_cases hlo : k < 1
  · have : known k = false := by simp [known]; omega
    refine t_g @hlo ?_
    refine t_r ?_
    simp [go_sem, hP, hgl, hn, this] <;> (try omega)
  · have hhi : 14 ≤ k := by omega
    have : known k = false := by simp [known]; omega
    refine t_g (j2 @hlo @hhi) ?_
    refine t_r ?_
    simp [go_sem, hP, hgl, hn, this] <;> (try omega)

theorem typed_ok (k : Int) : Con1 Tryz.prog gl 102 [dint k] [] (dbool (decide (k = 2) || decide (k = 6) || decide (k = 9))) [] := by
  refine t_in Tryz.func102 ?_
  intro X hP hgl hf hfn hn hR hids hfit
  by_cases hs0 : k = 2
  · refine t_g @hs0 ?_
    refine t_r ?_
    simp [go_sem, hP, hgl, hn, hs0] <;> (try omega)
  by_cases hs1 : k = 6
  · refine t_g @hs1 ?_
    refine t_r ?_
    simp [go_sem, hP, hgl, hn, hs1] <;> (try omega)
  by_cases hs2 : k = 9
  · refine t_g @hs2 ?_
    refine t_r ?_
    simp [go_sem, hP, hgl, hn, hs2] <;> (try omega)
  refine t_g (j2 @hs0 (j2 @hs1 @hs2)) ?_
  refine t_r ?_
  simp [go_sem, hP, hgl, hn, hs0, hs1, hs2] <;> (try omega)

theorem notype_ok (t : Ty) : Con1 Tryz.prog gl 104 [t.dv] [] (dbool t.zero) [] := by
  refine t_in Tryz.func104 ?_
  intro X hP hgl hf hfn hn hR hids hfit
  by_cases h : t.kind = 0
  · refine t_g @h ?_
    refine t_r ?_
    simp [go_sem, hP, hgl, hn, Ty.zero, h] <;> (try omega)
  · refine t_g @h ?_
    refine t_r ?_
    simp [go_sem, hP, hgl, hn, Ty.zero, h] <;> (try omega)

def Ty.nodesR (t : Ty) : DV := .tup [dint (if t.shape = true then t.count else 0 : Nat), dbool t.shape]

theorem typenodes_ok (t : Ty) (hc : t.count ≤ 2147483648) : Con1 Tryz.prog gl 107 [t.dv] [] t.nodesR [] := by
  induction t using Ty.ind with
  | h t ih =>
  rw [Ty.count_eq] at hc
  refine t_in Tryz.func107 ?_
  intro X hP hgl hf hfn hn hR hids hfit
  have hlen := Ty.fit_len (hfit t.dv (by simp))
  have hs := Ty.shape_eq t
  have no : t.shape = false → t.nodesR = .tup [dint 0, dbool false] := fun h => by simp [Ty.nodesR, h]
  refine t_rg0 ?_
  refine t_rg0 ?_
  refine t_rg0 ?_
  repeat (first | refine W_seq ?_ | refine W_skip ?_ | refine W_inBlock ?_ | refine W_label ?_)
  refine W_cutP (t.kind = 1 ∨ t.kind = 2 ∨ t.kind = 5 ∨ t.kind = 3 ∨ t.kind = 4) [(.slot 4, .one (.v (dint (wantI t.kind)))), (.loc 1, .row ([.v (dint t.kind), .v (.sl (t.args.map Ty.cells))])), (.slot 1, .one (.loc 1 0))] ?_ ?_
  · intro hrest
    by_cases h1 : t.kind = 1
    · repeat (first | (refine W_sub [] (by simp [go_sem]) (by simp [go_sem, wantI, h1] <;> omega) (by simp [go_sem]) (hrest (by simp [h1]))) | refine W_seq ?_ | refine W_skip ?_ | refine W_block ?_ | refine W_inBlock ?_ | refine W_label ?_ | refine W_exit rfl ?_ | ((first | refine W_reg [] fun K hK => ?_ | refine W_regd (by rw [hP]; exact mixed) [] fun K hK => ?_); simp [go_sem, hP, hgl, hn, h1]; (repeat (refine ⟨by omega, ?_⟩)); (first | refine hK _ ?_ | refine ⟨by rfl, hK _ ?_⟩); clear hK K) | refine W_cond rfl (fun _ => ?_) (fun hq => False.elim (by first | (simp [h1]; done) | (simp [h1]; omega) | (simp [h1] at hq; done) | (simp [h1] at hq; omega))) | refine W_cond rfl (fun hq => False.elim (by first | (simp [h1]; done) | (simp [h1]; omega) | (simp [h1] at hq; done) | (simp [h1] at hq; omega))) (fun _ => ?_))
    by_cases h2 : t.kind = 2
    · repeat (first | (refine W_sub [] (by simp [go_sem]) (by simp [go_sem, wantI, h2] <;> omega) (by simp [go_sem]) (hrest (by simp [h2]))) | refine W_seq ?_ | refine W_skip ?_ | refine W_block ?_ | refine W_inBlock ?_ | refine W_label ?_ | refine W_exit rfl ?_ | ((first | refine W_reg [] fun K hK => ?_ | refine W_regd (by rw [hP]; exact mixed) [] fun K hK => ?_); simp [go_sem, hP, hgl, hn, h2]; (repeat (refine ⟨by omega, ?_⟩)); (first | refine hK _ ?_ | refine ⟨by rfl, hK _ ?_⟩); clear hK K) | refine W_cond rfl (fun _ => ?_) (fun hq => False.elim (by first | (simp [h2]; done) | (simp [h2]; omega) | (simp [h2] at hq; done) | (simp [h2] at hq; omega))) | refine W_cond rfl (fun hq => False.elim (by first | (simp [h2]; done) | (simp [h2]; omega) | (simp [h2] at hq; done) | (simp [h2] at hq; omega))) (fun _ => ?_))
    by_cases h3 : t.kind = 5
    · repeat (first | (refine W_sub [] (by simp [go_sem]) (by simp [go_sem, wantI, h3] <;> omega) (by simp [go_sem]) (hrest (by simp [h3]))) | refine W_seq ?_ | refine W_skip ?_ | refine W_block ?_ | refine W_inBlock ?_ | refine W_label ?_ | refine W_exit rfl ?_ | ((first | refine W_reg [] fun K hK => ?_ | refine W_regd (by rw [hP]; exact mixed) [] fun K hK => ?_); simp [go_sem, hP, hgl, hn, h3]; (repeat (refine ⟨by omega, ?_⟩)); (first | refine hK _ ?_ | refine ⟨by rfl, hK _ ?_⟩); clear hK K) | refine W_cond rfl (fun _ => ?_) (fun hq => False.elim (by first | (simp [h3]; done) | (simp [h3]; omega) | (simp [h3] at hq; done) | (simp [h3] at hq; omega))) | refine W_cond rfl (fun hq => False.elim (by first | (simp [h3]; done) | (simp [h3]; omega) | (simp [h3] at hq; done) | (simp [h3] at hq; omega))) (fun _ => ?_))
    by_cases h4 : t.kind = 3
    · repeat (first | (refine W_sub [] (by simp [go_sem]) (by simp [go_sem, wantI, h4] <;> omega) (by simp [go_sem]) (hrest (by simp [h4]))) | refine W_seq ?_ | refine W_skip ?_ | refine W_block ?_ | refine W_inBlock ?_ | refine W_label ?_ | refine W_exit rfl ?_ | ((first | refine W_reg [] fun K hK => ?_ | refine W_regd (by rw [hP]; exact mixed) [] fun K hK => ?_); simp [go_sem, hP, hgl, hn, h4]; (repeat (refine ⟨by omega, ?_⟩)); (first | refine hK _ ?_ | refine ⟨by rfl, hK _ ?_⟩); clear hK K) | refine W_cond rfl (fun _ => ?_) (fun hq => False.elim (by first | (simp [h4]; done) | (simp [h4]; omega) | (simp [h4] at hq; done) | (simp [h4] at hq; omega))) | refine W_cond rfl (fun hq => False.elim (by first | (simp [h4]; done) | (simp [h4]; omega) | (simp [h4] at hq; done) | (simp [h4] at hq; omega))) (fun _ => ?_))
    by_cases h5 : t.kind = 4
    · repeat (first | (refine W_sub [] (by simp [go_sem]) (by simp [go_sem, wantI, h5] <;> omega) (by simp [go_sem]) (hrest (by simp [h5]))) | refine W_seq ?_ | refine W_skip ?_ | refine W_block ?_ | refine W_inBlock ?_ | refine W_label ?_ | refine W_exit rfl ?_ | ((first | refine W_reg [] fun K hK => ?_ | refine W_regd (by rw [hP]; exact mixed) [] fun K hK => ?_); simp [go_sem, hP, hgl, hn, h5]; (repeat (refine ⟨by omega, ?_⟩)); (first | refine hK _ ?_ | refine ⟨by rfl, hK _ ?_⟩); clear hK K) | refine W_cond rfl (fun _ => ?_) (fun hq => False.elim (by first | (simp [h5]; done) | (simp [h5]; omega) | (simp [h5] at hq; done) | (simp [h5] at hq; omega))) | refine W_cond rfl (fun hq => False.elim (by first | (simp [h5]; done) | (simp [h5]; omega) | (simp [h5] at hq; done) | (simp [h5] at hq; omega))) (fun _ => ?_))
    have hz := no (by rw [hs]; simp [tyKind, h1, h2, h3, h4, h5])
    refine t_g (j2 @h1 (j2 @h2 (j2 @h3 (j2 @h4 @h5)))) ?_
    refine t_r ?_
    simp [go_sem, hP, hgl, hn, hz] <;> (try omega)
  · intro hk
    by_cases hl : (t.args.length : Int) = wantI t.kind
    · have hty : tyKind t.kind t.args.length = true := by
        unfold wantI at hl
        unfold tyKind
        rcases hk with h | h | h | h | h <;> simp [h] at hl ⊢ <;> omega
      refine t_g @hl ?_
      refine t_a ?_
      refine W_sub [] (by simp [go_sem]) (by simp [go_sem, Ty.count.counts] <;> omega) (by simp [go_sem]) (W_listI (t.args) (fun done => Ty.shape.shapes done = true) (fun done rest => [(.slot 5, .one (.v (dint (1 + Ty.count.counts done : Nat)))), (.slot 27, .one (.v (dint done.length))), (.slot 26, .one (.v (dint t.args.length))), (.slot 25, .one (.v (.sl (t.args.map Ty.cells))))]) (rfl) ?_ ?_)
      · intro done x rest hL hg hI hnext
        have hlt : done.length < t.args.length := by rw [hL]; simp
        have hcx : Ty.count.counts t.args = Ty.count.counts done + (x.count + Ty.count.counts rest) := by rw [hL, Ty.counts_append]; rfl
        rw [Ty.counts_append] at hnext
        refine t_rg0 ?_
        refine t_yes ?_
        refine t_rg @hg ?_
        by_cases hx : x.shape = true
        · refine t_a ?_
          first | refine W_reg [] fun K hK => ?_ | refine W_regd (by rw [hP]; exact mixed) [] fun K hK => ?_
          simp [go_sem, hP, hgl, hn, hg, Ty.nodesR, hx]
          repeat (refine ⟨by omega, ?_⟩)
          first | refine vcK_call hP hgl (ih x (List.mem_of_getElem? hg) (by omega)) (by simp [go_sem, hP, hgl, hn, hg, Ty.nodesR, hx]) rfl (by simp [go_sem]) (by simp) (by rw [hn]; exact Nat.le_of_ble_eq_true rfl) ?_ | refine vcdC_call (fun _ _ => vcd_sound) hP hgl (ih x (List.mem_of_getElem? hg) (by omega)) (by simp [go_sem, hP, hgl, hn, hg, Ty.nodesR, hx]) rfl (by simp [go_sem]) (by simp) (by rw [hn]; exact Nat.le_of_ble_eq_true rfl) ?_ | refine vcK_callG hP hgl (ih x (List.mem_of_getElem? hg) (by omega)) (by simp [go_sem, hP, hgl, hn, hg, Ty.nodesR, hx]) rfl (by simp [go_sem]) (by simp) (by rw [hn]; exact Nat.le_of_ble_eq_true rfl) (by simp [go_sem]; rfl) (by rw [hn]; exact Nat.le_of_ble_eq_true rfl) (by simp [go_sem]) ?_ | refine vcdC_callG (fun _ _ => vcd_sound) hP hgl (ih x (List.mem_of_getElem? hg) (by omega)) (by simp [go_sem, hP, hgl, hn, hg, Ty.nodesR, hx]) rfl (by simp [go_sem]) (by simp) (by rw [hn]; exact Nat.le_of_ble_eq_true rfl) (by simp [go_sem]; rfl) (by rw [hn]; exact Nat.le_of_ble_eq_true rfl) (by simp [go_sem]) ?_
          simp [go_sem, hP, hgl, hn, hg, Ty.nodesR, hx]
          refine t_e ?_
          clear hK K
          repeat (first | (refine W_sub [] (by simp [go_sem]) (by simp [go_sem, Ty.count.counts] <;> omega) (by simp [go_sem]) (hnext (by rw [Ty.shapes_append]; simp [hI, Ty.shape.shapes, hx]))) | refine W_seq ?_ | refine W_skip ?_ | refine W_block ?_ | refine W_inBlock ?_ | refine W_label ?_ | refine W_exit rfl ?_ | ((first | refine W_reg [] fun K hK => ?_ | refine W_regd (by rw [hP]; exact mixed) [] fun K hK => ?_); simp [go_sem, hP, hgl, hn, hx]; (repeat (refine ⟨by omega, ?_⟩)); (first | refine hK _ ?_ | refine ⟨by rfl, hK _ ?_⟩); clear hK K) | refine W_cond rfl (fun _ => ?_) (fun hq => False.elim (by first | (simp [hx]; done) | (simp [hx]; omega) | (simp [hx] at hq; done) | (simp [hx] at hq; omega))) | refine W_cond rfl (fun hq => False.elim (by first | (simp [hx]; done) | (simp [hx]; omega) | (simp [hx] at hq; done) | (simp [hx] at hq; omega))) (fun _ => ?_))
        · have hz := no (by rw [hs, hL, Ty.shapes_append]; simp [Ty.shape.shapes, hx])
          refine t_a ?_
          first | refine W_reg [] fun K hK => ?_ | refine W_regd (by rw [hP]; exact mixed) [] fun K hK => ?_
          simp [go_sem, hP, hgl, hn, hg, Ty.nodesR, hx]
          repeat (refine ⟨by omega, ?_⟩)
          first | refine vcK_call hP hgl (ih x (List.mem_of_getElem? hg) (by omega)) (by simp [go_sem, hP, hgl, hn, hg, Ty.nodesR, hx]) rfl (by simp [go_sem]) (by simp) (by rw [hn]; exact Nat.le_of_ble_eq_true rfl) ?_ | refine vcdC_call (fun _ _ => vcd_sound) hP hgl (ih x (List.mem_of_getElem? hg) (by omega)) (by simp [go_sem, hP, hgl, hn, hg, Ty.nodesR, hx]) rfl (by simp [go_sem]) (by simp) (by rw [hn]; exact Nat.le_of_ble_eq_true rfl) ?_ | refine vcK_callG hP hgl (ih x (List.mem_of_getElem? hg) (by omega)) (by simp [go_sem, hP, hgl, hn, hg, Ty.nodesR, hx]) rfl (by simp [go_sem]) (by simp) (by rw [hn]; exact Nat.le_of_ble_eq_true rfl) (by simp [go_sem]; rfl) (by rw [hn]; exact Nat.le_of_ble_eq_true rfl) (by simp [go_sem]) ?_ | refine vcdC_callG (fun _ _ => vcd_sound) hP hgl (ih x (List.mem_of_getElem? hg) (by omega)) (by simp [go_sem, hP, hgl, hn, hg, Ty.nodesR, hx]) rfl (by simp [go_sem]) (by simp) (by rw [hn]; exact Nat.le_of_ble_eq_true rfl) (by simp [go_sem]; rfl) (by rw [hn]; exact Nat.le_of_ble_eq_true rfl) (by simp [go_sem]) ?_
          simp [go_sem, hP, hgl, hn, hg, Ty.nodesR, hx]
          refine t_e ?_
          clear hK K
          refine t_g @hx ?_
          refine t_r ?_
          simp [go_sem, hP, hgl, hn, hz] <;> (try omega)
      · intro hI
        have hz : t.nodesR = .tup [dint t.count, dbool true] := by simp [Ty.nodesR, hs, hty, hI]
        refine t_rg0 ?_
        refine t_no ?_
        refine t_g0 ?_
        refine t_r ?_
        simp [go_sem, hP, hgl, hn, hz, Ty.count_eq] <;> (try omega)
    · have hz := no (by
        rw [hs]
        have : tyKind t.kind t.args.length = false := by
          unfold wantI at hl
          unfold tyKind
          rcases hk with h | h | h | h | h <;> simp [h] at hl ⊢ <;> omega
        simp [this])
      refine t_g @hl ?_
      refine t_r ?_
      simp [go_sem, hP, hgl, hn, hz] <;> (try omega)

theorem checktype_ok (t : Ty) (hc : t.count ≤ 2147483648) : Con1 Tryz.prog gl 103 [t.dv] [] (.tup [dint (if t.checkN = 0 then t.count else 0 : Nat), dint t.checkN]) [] := by
  refine t_in Tryz.func103 ?_
  intro X hP hgl hf hfn hn hR hids hfit
  refine t_g0 ?_
  by_cases h : t.shape = true
  · refine t_a ?_
    first | refine W_reg [] fun K hK => ?_ | refine W_regd (by rw [hP]; exact mixed) [] fun K hK => ?_
    simp [go_sem, hP, hgl, hn, Ty.nodesR, h]
    repeat (refine ⟨by omega, ?_⟩)
    first | refine vcK_call hP hgl (typenodes_ok t hc) (by simp [go_sem, hP, hgl, hn, Ty.nodesR, h]) rfl (by simp [go_sem]) (by simp) (by rw [hn]; exact Nat.le_of_ble_eq_true rfl) ?_ | refine vcdC_call (fun _ _ => vcd_sound) hP hgl (typenodes_ok t hc) (by simp [go_sem, hP, hgl, hn, Ty.nodesR, h]) rfl (by simp [go_sem]) (by simp) (by rw [hn]; exact Nat.le_of_ble_eq_true rfl) ?_ | refine vcK_callG hP hgl (typenodes_ok t hc) (by simp [go_sem, hP, hgl, hn, Ty.nodesR, h]) rfl (by simp [go_sem]) (by simp) (by rw [hn]; exact Nat.le_of_ble_eq_true rfl) (by simp [go_sem]; rfl) (by rw [hn]; exact Nat.le_of_ble_eq_true rfl) (by simp [go_sem]) ?_ | refine vcdC_callG (fun _ _ => vcd_sound) hP hgl (typenodes_ok t hc) (by simp [go_sem, hP, hgl, hn, Ty.nodesR, h]) rfl (by simp [go_sem]) (by simp) (by rw [hn]; exact Nat.le_of_ble_eq_true rfl) (by simp [go_sem]; rfl) (by rw [hn]; exact Nat.le_of_ble_eq_true rfl) (by simp [go_sem]) ?_
    simp [go_sem, hP, hgl, hn, Ty.nodesR, h]
    refine t_e ?_
    clear hK K
    by_cases h2 : 64 < t.count
    · refine t_g (j2 @h @h2) ?_
      refine t_r ?_
      simp [go_sem, hP, hgl, hn, Ty.checkN, h, h2] <;> (try omega)
    · refine t_g (j2 @h @h2) ?_
      refine t_r ?_
      simp [go_sem, hP, hgl, hn, Ty.checkN, h, h2] <;> (try omega)
  · refine t_a ?_
    first | refine W_reg [] fun K hK => ?_ | refine W_regd (by rw [hP]; exact mixed) [] fun K hK => ?_
    simp [go_sem, hP, hgl, hn, Ty.nodesR, h]
    repeat (refine ⟨by omega, ?_⟩)
    first | refine vcK_call hP hgl (typenodes_ok t hc) (by simp [go_sem, hP, hgl, hn, Ty.nodesR, h]) rfl (by simp [go_sem]) (by simp) (by rw [hn]; exact Nat.le_of_ble_eq_true rfl) ?_ | refine vcdC_call (fun _ _ => vcd_sound) hP hgl (typenodes_ok t hc) (by simp [go_sem, hP, hgl, hn, Ty.nodesR, h]) rfl (by simp [go_sem]) (by simp) (by rw [hn]; exact Nat.le_of_ble_eq_true rfl) ?_ | refine vcK_callG hP hgl (typenodes_ok t hc) (by simp [go_sem, hP, hgl, hn, Ty.nodesR, h]) rfl (by simp [go_sem]) (by simp) (by rw [hn]; exact Nat.le_of_ble_eq_true rfl) (by simp [go_sem]; rfl) (by rw [hn]; exact Nat.le_of_ble_eq_true rfl) (by simp [go_sem]) ?_ | refine vcdC_callG (fun _ _ => vcd_sound) hP hgl (typenodes_ok t hc) (by simp [go_sem, hP, hgl, hn, Ty.nodesR, h]) rfl (by simp [go_sem]) (by simp) (by rw [hn]; exact Nat.le_of_ble_eq_true rfl) (by simp [go_sem]; rfl) (by rw [hn]; exact Nat.le_of_ble_eq_true rfl) (by simp [go_sem]) ?_
    simp [go_sem, hP, hgl, hn, Ty.nodesR, h]
    refine t_e ?_
    clear hK K
    refine t_g @h ?_
    refine t_r ?_
    simp [go_sem, hP, hgl, hn, Ty.checkN, h] <;> (try omega)

def okNodeP (t : Tm) : Bool := known t.kind && decide ((t.args.length : Int) = arityI t.kind) && decide (0 ≤ t.index) && (decide (t.index = 0) || decide (t.kind = 1))
theorem okNodeP_eq (t : Tm) : okNodeP t = okNode t := by
  unfold okNodeP okNode
  rw [arityI_known]
  cases h : decide ((t.args.length : Int) = arityI t.kind) with
  | false => simp
  | true =>
    have h1 : (t.args.length : Int) = arityI t.kind := by simpa using h
    have : decide (0 ≤ arityI t.kind) = true := by simp; omega
    rw [this]
    cases decide (0 ≤ t.index) <;> cases decide (t.index = 0) <;> cases decide (t.kind = 1) <;> rfl

def Tm.nodesR (t : Tm) : DV := .tup [dint (if t.shape = true then t.count else 0 : Nat), dbool t.shape]

theorem termnodes_ok (har : globOf gl 0 = some arEls) (t : Tm) (ht : t.tys) (hc : t.count ≤ 2147483648) : Con1 Tryz.prog gl 97 [t.dv] [] t.nodesR [] := by
  induction t using Tm.ind with
  | h t ih =>
  obtain ⟨ht1, ht2⟩ := (Tm.tys_eq t).1 ht
  rw [Tm.count_eq] at hc
  refine t_in Tryz.func97 ?_
  intro X hP hgl hf hfn hn hR hids hfit
  have hlen := Tm.fit_len (hfit t.dv (by simp))
  have hs := Tm.shape_eq t
  have no : t.shape = false → t.nodesR = .tup [dint 0, dbool false] := fun h => by simp [Tm.nodesR, h]
  refine t_g0 ?_
  refine t_c1 trivial (arity_ok har t.kind) ?_
  repeat (first | refine W_seq ?_ | refine W_skip ?_ | refine W_inBlock ?_ | refine W_label ?_)
  refine W_cut [(.slot 42, .one (.v (dbool (!okNodeP t)))), (.loc 1, .row ([.v (dint t.kind), .v (dint t.index), .v (dint t.type.kind), .v (.sl (t.type.args.map Ty.cells)), .v (.sl (t.args.map Tm.cells))])), (.slot 1, .one (.loc 1 0))] ?_ ?_
  · intro hrest
    by_cases h0 : known t.kind = true
    · by_cases hA : (t.args.length : Int) = arityI t.kind
      · by_cases hB : t.index < 0
        · refine t_rg (j2 @h0 (j2 @hA @hB)) ?_
          repeat (first | refine W_inBlock ?_ | refine W_skip ?_ | refine W_label ?_ | refine W_exit rfl ?_)
          refine W_sub [] (by simp [go_sem]) (by simp [go_sem, okNodeP, h0, hA, hB] <;> omega) (by simp [go_sem]) hrest
        · by_cases hD : t.index = 0
          · refine t_rg (j2 @h0 (j2 @hA (j2 @hB @hD))) ?_
            repeat (first | refine W_inBlock ?_ | refine W_skip ?_ | refine W_label ?_ | refine W_exit rfl ?_)
            refine W_sub [] (by simp [go_sem]) (by simp [go_sem, okNodeP, h0, hA, hB, hD] <;> omega) (by simp [go_sem]) hrest
          · by_cases hC : t.kind = 1
            · have h01 : known 1 = true := rfl
              refine t_rg (j2 @h0 (j2 @hA (j2 @hB (j2 @hD (j2 @hC @h01))))) ?_
              repeat (first | refine W_inBlock ?_ | refine W_skip ?_ | refine W_label ?_ | refine W_exit rfl ?_)
              refine W_sub [] (by simp [go_sem]) (by simp [go_sem, okNodeP, h0, hA, hB, hD, hC, h01] <;> omega) (by simp [go_sem]) hrest
            · refine t_rg (j2 @h0 (j2 @hA (j2 @hB (j2 @hD @hC)))) ?_
              repeat (first | refine W_inBlock ?_ | refine W_skip ?_ | refine W_label ?_ | refine W_exit rfl ?_)
              refine W_sub [] (by simp [go_sem]) (by simp [go_sem, okNodeP, h0, hA, hB, hD, hC] <;> omega) (by simp [go_sem]) hrest
      · refine t_rg (j2 @h0 @hA) ?_
        repeat (first | refine W_inBlock ?_ | refine W_skip ?_ | refine W_label ?_ | refine W_exit rfl ?_)
        refine W_sub [] (by simp [go_sem]) (by simp [go_sem, okNodeP, h0, hA] <;> omega) (by simp [go_sem]) hrest
    · refine t_rg @h0 ?_
      repeat (first | refine W_inBlock ?_ | refine W_skip ?_ | refine W_label ?_ | refine W_exit rfl ?_)
      refine W_sub [] (by simp [go_sem]) (by simp [go_sem, okNodeP, h0] <;> omega) (by simp [go_sem]) hrest
  · rw [okNodeP_eq]
    by_cases hok : okNode t = true
    · have hk : tmKind t.kind t.index t.type t.args.length = tyOfKind t.kind t.type := by
        simp only [okNode, Bool.and_eq_true, decide_eq_true_eq] at hok
        simp [tmKind, hok]
      refine t_n @hok ?_
      refine t_c1 trivial (typed_ok t.kind) ?_
      repeat (first | refine W_seq ?_ | refine W_skip ?_ | refine W_inBlock ?_ | refine W_label ?_)
      refine W_cutP (tyOfKind t.kind t.type = true) [(.loc 1, .row ([.v (dint t.kind), .v (dint t.index), .v (dint t.type.kind), .v (.sl (t.type.args.map Ty.cells)), .v (.sl (t.args.map Tm.cells))])), (.slot 1, .one (.loc 1 0))] ?_ ?_
      · intro hrest
        by_cases k2 : t.kind = 2
        · refine t_g @k2 ?_
          refine t_c1 trivial (checktype_ok t.type (by omega)) ?_
          by_cases hc : t.type.checkN = 0
          · refine t_gt (wr []) @k2 (j2 @k2 @hc) (hrest (by simp [tyOfKind, k2, hc]))
          · have hz := no (by rw [hs, hk]; simp [tyOfKind, k2, hc])
            refine t_g @hc ?_
            refine t_r ?_
            simp [go_sem, hP, hgl, hn, hz] <;> (try omega)
        by_cases k6 : t.kind = 6
        · refine t_g @k6 ?_
          refine t_c1 trivial (checktype_ok t.type (by omega)) ?_
          by_cases hc : t.type.checkN = 0
          · refine t_gt (wr []) @k6 (j2 @k6 @hc) (hrest (by simp [tyOfKind, k6, hc]))
          · have hz := no (by rw [hs, hk]; simp [tyOfKind, k6, hc])
            refine t_g @hc ?_
            refine t_r ?_
            simp [go_sem, hP, hgl, hn, hz] <;> (try omega)
        by_cases k9 : t.kind = 9
        · refine t_g @k9 ?_
          refine t_c1 trivial (checktype_ok t.type (by omega)) ?_
          by_cases hc : t.type.checkN = 0
          · refine t_gt (wr []) @k9 (j2 @k9 @hc) (hrest (by simp [tyOfKind, k9, hc]))
          · have hz := no (by rw [hs, hk]; simp [tyOfKind, k9, hc])
            refine t_g @hc ?_
            refine t_r ?_
            simp [go_sem, hP, hgl, hn, hz] <;> (try omega)
        refine t_g (j2 @k2 (j2 @k6 @k9)) ?_
        refine t_c1 trivial (notype_ok t.type) ?_
        by_cases hc : t.type.zero = true
        · refine t_gt (wr []) trivial @hc (hrest (by simp [tyOfKind, k2, k6, k9, hc]))
        · have hz := no (by rw [hs, hk]; simp [tyOfKind, k2, k6, k9, hc])
          refine t_g @hc ?_
          refine t_r ?_
          simp [go_sem, hP, hgl, hn, hz] <;> (try omega)
      · intro hty
        refine t_g0 ?_
        refine t_a ?_
        refine W_sub [] (by simp [go_sem]) (by simp [go_sem, Tm.count.counts] <;> omega) (by simp [go_sem]) (W_listI (t.args) (fun done => Tm.shape.shapes done = true) (fun done rest => [(.slot 8, .one (.v (dint (1 + Tm.count.counts done : Nat)))), (.slot 61, .one (.v (dint done.length))), (.slot 60, .one (.v (dint t.args.length))), (.slot 59, .one (.v (.sl (t.args.map Tm.cells))))]) (rfl) ?_ ?_)
        · intro done x rest hL hg hI hnext
          have hlt : done.length < t.args.length := by rw [hL]; simp
          have hcx : Tm.count.counts t.args = Tm.count.counts done + (x.count + Tm.count.counts rest) := by rw [hL, Tm.counts_append]; rfl
          rw [Tm.counts_append] at hnext
          refine t_rg0 ?_
          refine t_yes ?_
          refine t_rg @hg ?_
          by_cases hx : x.shape = true
          · refine t_a ?_
            first | refine W_reg [] fun K hK => ?_ | refine W_regd (by rw [hP]; exact mixed) [] fun K hK => ?_
            simp [go_sem, hP, hgl, hn, hg, Tm.nodesR, hx]
            repeat (refine ⟨by omega, ?_⟩)
            first | refine vcK_call hP hgl (ih x (List.mem_of_getElem? hg) (ht2 x (List.mem_of_getElem? hg)) (by omega)) (by simp [go_sem, hP, hgl, hn, hg, Tm.nodesR, hx]) rfl (by simp [go_sem]) (by simp) (by rw [hn]; exact Nat.le_of_ble_eq_true rfl) ?_ | refine vcdC_call (fun _ _ => vcd_sound) hP hgl (ih x (List.mem_of_getElem? hg) (ht2 x (List.mem_of_getElem? hg)) (by omega)) (by simp [go_sem, hP, hgl, hn, hg, Tm.nodesR, hx]) rfl (by simp [go_sem]) (by simp) (by rw [hn]; exact Nat.le_of_ble_eq_true rfl) ?_ | refine vcK_callG hP hgl (ih x (List.mem_of_getElem? hg) (ht2 x (List.mem_of_getElem? hg)) (by omega)) (by simp [go_sem, hP, hgl, hn, hg, Tm.nodesR, hx]) rfl (by simp [go_sem]) (by simp) (by rw [hn]; exact Nat.le_of_ble_eq_true rfl) (by simp [go_sem]; rfl) (by rw [hn]; exact Nat.le_of_ble_eq_true rfl) (by simp [go_sem]) ?_ | refine vcdC_callG (fun _ _ => vcd_sound) hP hgl (ih x (List.mem_of_getElem? hg) (ht2 x (List.mem_of_getElem? hg)) (by omega)) (by simp [go_sem, hP, hgl, hn, hg, Tm.nodesR, hx]) rfl (by simp [go_sem]) (by simp) (by rw [hn]; exact Nat.le_of_ble_eq_true rfl) (by simp [go_sem]; rfl) (by rw [hn]; exact Nat.le_of_ble_eq_true rfl) (by simp [go_sem]) ?_
            simp [go_sem, hP, hgl, hn, hg, Tm.nodesR, hx]
            refine t_e ?_
            clear hK K
            repeat (first | (refine W_sub [] (by simp [go_sem]) (by simp [go_sem, Tm.count.counts] <;> omega) (by simp [go_sem]) (hnext (by rw [Tm.shapes_append]; simp [hI, Tm.shape.shapes, hx]))) | refine W_seq ?_ | refine W_skip ?_ | refine W_block ?_ | refine W_inBlock ?_ | refine W_label ?_ | refine W_exit rfl ?_ | ((first | refine W_reg [] fun K hK => ?_ | refine W_regd (by rw [hP]; exact mixed) [] fun K hK => ?_); simp [go_sem, hP, hgl, hn, hx]; (repeat (refine ⟨by omega, ?_⟩)); (first | refine hK _ ?_ | refine ⟨by rfl, hK _ ?_⟩); clear hK K) | refine W_cond rfl (fun _ => ?_) (fun hq => False.elim (by first | (simp [hx]; done) | (simp [hx]; omega) | (simp [hx] at hq; done) | (simp [hx] at hq; omega))) | refine W_cond rfl (fun hq => False.elim (by first | (simp [hx]; done) | (simp [hx]; omega) | (simp [hx] at hq; done) | (simp [hx] at hq; omega))) (fun _ => ?_))
          · have hz := no (by rw [hs, hL, Tm.shapes_append]; simp [Tm.shape.shapes, hx])
            refine t_a ?_
            first | refine W_reg [] fun K hK => ?_ | refine W_regd (by rw [hP]; exact mixed) [] fun K hK => ?_
            simp [go_sem, hP, hgl, hn, hg, Tm.nodesR, hx]
            repeat (refine ⟨by omega, ?_⟩)
            first | refine vcK_call hP hgl (ih x (List.mem_of_getElem? hg) (ht2 x (List.mem_of_getElem? hg)) (by omega)) (by simp [go_sem, hP, hgl, hn, hg, Tm.nodesR, hx]) rfl (by simp [go_sem]) (by simp) (by rw [hn]; exact Nat.le_of_ble_eq_true rfl) ?_ | refine vcdC_call (fun _ _ => vcd_sound) hP hgl (ih x (List.mem_of_getElem? hg) (ht2 x (List.mem_of_getElem? hg)) (by omega)) (by simp [go_sem, hP, hgl, hn, hg, Tm.nodesR, hx]) rfl (by simp [go_sem]) (by simp) (by rw [hn]; exact Nat.le_of_ble_eq_true rfl) ?_ | refine vcK_callG hP hgl (ih x (List.mem_of_getElem? hg) (ht2 x (List.mem_of_getElem? hg)) (by omega)) (by simp [go_sem, hP, hgl, hn, hg, Tm.nodesR, hx]) rfl (by simp [go_sem]) (by simp) (by rw [hn]; exact Nat.le_of_ble_eq_true rfl) (by simp [go_sem]; rfl) (by rw [hn]; exact Nat.le_of_ble_eq_true rfl) (by simp [go_sem]) ?_ | refine vcdC_callG (fun _ _ => vcd_sound) hP hgl (ih x (List.mem_of_getElem? hg) (ht2 x (List.mem_of_getElem? hg)) (by omega)) (by simp [go_sem, hP, hgl, hn, hg, Tm.nodesR, hx]) rfl (by simp [go_sem]) (by simp) (by rw [hn]; exact Nat.le_of_ble_eq_true rfl) (by simp [go_sem]; rfl) (by rw [hn]; exact Nat.le_of_ble_eq_true rfl) (by simp [go_sem]) ?_
            simp [go_sem, hP, hgl, hn, hg, Tm.nodesR, hx]
            refine t_e ?_
            clear hK K
            refine t_g @hx ?_
            refine t_r ?_
            simp [go_sem, hP, hgl, hn, hz] <;> (try omega)
        · intro hI
          have hz : t.nodesR = .tup [dint t.count, dbool true] := by simp [Tm.nodesR, hs, hk, hty, hI]
          refine t_rg0 ?_
          refine t_no ?_
          refine t_g0 ?_
          refine t_r ?_
          simp [go_sem, hP, hgl, hn, hz, Tm.count_eq] <;> (try omega)
    · have hk : tmKind t.kind t.index t.type t.args.length = false := by
        simp only [okNode, Bool.and_eq_true, decide_eq_true_eq] at hok
        simp only [tmKind]
        cases hh : (decide ((t.args.length : Int) = arityI t.kind) && decide (0 ≤ t.index) && (decide (t.kind = 1) || decide (t.index = 0))) with
        | true => exact absurd (by simpa using hh) hok
        | false => rfl
      have hz := no (by rw [hs, hk]; rfl)
      refine t_g @hok ?_
      refine t_r ?_
      simp [go_sem, hP, hgl, hn, hz] <;> (try omega)
end Go.Proofs.YtbmnlkfgkdallaaGreatDoor.Lift
