import Derived.Test.YtmdjiajbnifjpaaDoorQ3
namespace Go.Proofs.YtmdjiajbnifjpaaDoor.Lift
set_option linter.unusedSimpArgs false
set_option linter.unusedVariables false
set_option linter.unnecessarySimpa false
open Go
variable {gl : Globs}

/-- the package's table of arities -/
def arEls : List (List DV) := ints [0, 0, 1, 2, 0, 1, 3, 0, 2, 3, 2, 1, 1, 0]
def known (k : Int) : Bool := decide (1 ≤ k) && decide (k ≤ 13)
theorem arityI_known (k : Int) : known k = decide (0 ≤ arityI k) := by
  unfold known arityI
  by_cases h : 1 ≤ k ∧ k ≤ 13
  · have : k = 1 ∨ k = 2 ∨ k = 3 ∨ k = 4 ∨ k = 5 ∨ k = 6 ∨ k = 7 ∨ k = 8 ∨ k = 9 ∨ k = 10 ∨ k = 11 ∨ k = 12 ∨ k = 13 := by omega
    rcases this with rfl | rfl | rfl | rfl | rfl | rfl | rfl | rfl | rfl | rfl | rfl | rfl | rfl <;> decide
  · rw [if_neg (by omega), if_neg (by omega), if_neg (by omega), if_neg (by omega)]
    simp; omega

theorem arity_ok (har : globOf gl 1 = some arEls) (k : Int) : Con1 Tryd.prog gl 81 [dint k] [] (.tup [dint (if known k = true then arityI k else 0), dbool (known k)]) [] := by
  refine t_in Tryd.func81 ?_
  intro X hP hgl hf hfn hn hR hids hfit
  have hk := har
  simp only [arEls, ints, List.map] at hk
  by_cases hs0 : k = 1
  · refine t_g (j2 @hs0 @hk) ?_
    refine t_r ?_
    simp [go_sem, hP, hgl, hn, known, arityI, hs0] <;> (try omega)
  by_cases hs1 : k = 2
  · refine t_g (j2 @hs1 @hk) ?_
    refine t_r ?_
    simp [go_sem, hP, hgl, hn, known, arityI, hs1] <;> (try omega)
  by_cases hs2 : k = 3
  · refine t_g (j2 @hs2 @hk) ?_
    refine t_r ?_
    simp [go_sem, hP, hgl, hn, known, arityI, hs2] <;> (try omega)
  by_cases hs3 : k = 4
  · refine t_g (j2 @hs3 @hk) ?_
    refine t_r ?_
    simp [go_sem, hP, hgl, hn, known, arityI, hs3] <;> (try omega)
  by_cases hs4 : k = 5
  · refine t_g (j2 @hs4 @hk) ?_
    refine t_r ?_
    simp [go_sem, hP, hgl, hn, known, arityI, hs4] <;> (try omega)
  by_cases hs5 : k = 6
  · refine t_g (j2 @hs5 @hk) ?_
    refine t_r ?_
    simp [go_sem, hP, hgl, hn, known, arityI, hs5] <;> (try omega)
  by_cases hs6 : k = 7
  · refine t_g (j2 @hs6 @hk) ?_
    refine t_r ?_
    simp [go_sem, hP, hgl, hn, known, arityI, hs6] <;> (try omega)
  by_cases hs7 : k = 8
  · refine t_g (j2 @hs7 @hk) ?_
    refine t_r ?_
    simp [go_sem, hP, hgl, hn, known, arityI, hs7] <;> (try omega)
  by_cases hs8 : k = 9
  · refine t_g (j2 @hs8 @hk) ?_
    refine t_r ?_
    simp [go_sem, hP, hgl, hn, known, arityI, hs8] <;> (try omega)
  by_cases hs9 : k = 10
  · refine t_g (j2 @hs9 @hk) ?_
    refine t_r ?_
    simp [go_sem, hP, hgl, hn, known, arityI, hs9] <;> (try omega)
  by_cases hs10 : k = 11
  · refine t_g (j2 @hs10 @hk) ?_
    refine t_r ?_
    simp [go_sem, hP, hgl, hn, known, arityI, hs10] <;> (try omega)
  by_cases hs11 : k = 12
  · refine t_g (j2 @hs11 @hk) ?_
    refine t_r ?_
    simp [go_sem, hP, hgl, hn, known, arityI, hs11] <;> (try omega)
  by_cases hs12 : k = 13
  · refine t_g (j2 @hs12 @hk) ?_
    refine t_r ?_
    simp [go_sem, hP, hgl, hn, known, arityI, hs12] <;> (try omega)
  by_cases hlo : k < 1
  · have : known k = false := by simp [known]; omega
    refine t_g @hlo ?_
    refine t_r ?_
    simp [go_sem, hP, hgl, hn, this] <;> (try omega)
  · have hhi : 14 ≤ k := by omega
    have : known k = false := by simp [known]; omega
    refine t_g (j2 @hlo @hhi) ?_
    refine t_r ?_
    simp [go_sem, hP, hgl, hn, this] <;> (try omega)

theorem typed_ok (k : Int) : Con1 Tryd.prog gl 82 [dint k] [] (dbool (decide (k = 2) || decide (k = 6) || decide (k = 9))) [] := by
  refine t_in Tryd.func82 ?_
  intro X hP hgl hf hfn hn hR hids hfit
  by_cases hs0 : k = 2
  · refine t_g @hs0 ?_
    refine t_r ?_
    simp [go_sem, hP, hgl, hn, hs0] <;> (try omega)
  by_cases hs1 : k = 6
  · refine t_g @hs1 ?_
    refine t_r ?_
    simp [go_sem, hP, hgl, hn, hs1] <;> (try omega)
  by_cases hs2 : k = 9
  · refine t_g @hs2 ?_
    refine t_r ?_
    simp [go_sem, hP, hgl, hn, hs2] <;> (try omega)
  refine t_g (j2 @hs0 (j2 @hs1 @hs2)) ?_
  refine t_r ?_
  simp [go_sem, hP, hgl, hn, hs0, hs1, hs2] <;> (try omega)

theorem notype_ok (t : Ty) : Con1 Tryd.prog gl 84 [t.dv] [] (dbool t.zero) [] := by
  refine t_in Tryd.func84 ?_
  intro X hP hgl hf hfn hn hR hids hfit
  by_cases h : t.kind = 0
  · refine t_g @h ?_
    refine t_r ?_
    simp [go_sem, hP, hgl, hn, Ty.zero, h] <;> (try omega)
  · refine t_g @h ?_
    refine t_r ?_
    simp [go_sem, hP, hgl, hn, Ty.zero, h] <;> (try omega)

def Ty.nodesR (t : Ty) : DV := .tup [dint (if t.shape = true then t.count else 0 : Nat), dbool t.shape]

theorem typenodes_ok (t : Ty) (hc : t.count ≤ 2147483648) : Con1 Tryd.prog gl 87 [t.dv] [] t.nodesR [] := by
  induction t using Ty.ind with
  | h t ih =>
  rw [Ty.count_eq] at hc
  refine t_in Tryd.func87 ?_
  intro X hP hgl hf hfn hn hR hids hfit
  have hlen := Ty.fit_len (hfit t.dv (by simp))
  have hs := Ty.shape_eq t
  have no : t.shape = false → t.nodesR = .tup [dint 0, dbool false] := fun h => by simp [Ty.nodesR, h]
  refine t_rg0 ?_
  refine t_rg0 ?_
  refine t_rg0 ?_
  repeat (first | refine W_seq ?_ | refine W_skip ?_ | refine W_inBlock ?_ | refine W_label ?_)
  refine W_cutP (t.kind = 1 ∨ t.kind = 2 ∨ t.kind = 5 ∨ t.kind = 3 ∨ t.kind = 4) [(.slot 4, .one (.v (dint (wantI t.kind)))), (.loc 1, .row ([.v (dint t.kind), .v (.sl (t.args.map Ty.cells))])), (.slot 1, .one (.loc 1 0))] ?_ ?_
  · intro hrest
    by_cases h1 : t.kind = 1
    · repeat (first | (refine W_sub [] (by simp [go_sem]) (by simp [go_sem, wantI, h1] <;> omega) (by simp [go_sem]) (hrest (by simp [h1]))) | refine W_seq ?_ | refine W_skip ?_ | refine W_block ?_ | refine W_inBlock ?_ | refine W_label ?_ | refine W_exit rfl ?_ | ((first | refine W_reg [] fun K hK => ?_ | refine W_regd (by rw [hP]; exact mixed) [] fun K hK => ?_); simp [go_sem, hP, hgl, hn, h1]; (repeat (refine ⟨by omega, ?_⟩)); (first | refine hK _ ?_ | refine ⟨by rfl, hK _ ?_⟩); clear hK K) | refine W_cond rfl (fun _ => ?_) (fun hq => False.elim (by first | (simp [h1]; done) | (simp [h1]; omega) | (simp [h1] at hq; done) | (simp [h1] at hq; omega))) | refine W_cond rfl (fun hq => False.elim (by first | (simp [h1]; done) | (simp [h1]; omega) | (simp [h1] at hq; done) | (simp [h1] at hq; omega))) (fun _ => ?_))
    by_cases h2 : t.kind = 2
    · repeat (first | (refine W_sub [] (by simp [go_sem]) (by simp [go_sem, wantI, h2] <;> omega) (by simp [go_sem]) (hrest (by simp [h2]))) | refine W_seq ?_ | refine W_skip ?_ | refine W_block ?_ | refine W_inBlock ?_ | refine W_label ?_ | refine W_exit rfl ?_ | ((first | refine W_reg [] fun K hK => ?_ | refine W_regd (by rw [hP]; exact mixed) [] fun K hK => ?_); simp [go_sem, hP, hgl, hn, h2]; (repeat (refine ⟨by omega, ?_⟩)); (first | refine hK _ ?_ | refine ⟨by rfl, hK _ ?_⟩); clear hK K) | refine W_cond rfl (fun _ => ?_) (fun hq => False.elim (by first | (simp [h2]; done) | (simp [h2]; omega) | (simp [h2] at hq; done) | (simp [h2] at hq; omega))) | refine W_cond rfl (fun hq => False.elim (by first | (simp [h2]; done) | (simp [h2]; omega) | (simp [h2] at hq; done) | (simp [h2] at hq; omega))) (fun _ => ?_))
    by_cases h3 : t.kind = 5
    · repeat (first | (refine W_sub [] (by simp [go_sem]) (by simp [go_sem, wantI, h3] <;> omega) (by simp [go_sem]) (hrest (by simp [h3]))) | refine W_seq ?_ | refine W_skip ?_ | refine W_block ?_ | refine W_inBlock ?_ | refine W_label ?_ | refine W_exit rfl ?_ | ((first | refine W_reg [] fun K hK => ?_ | refine W_regd (by rw [hP]; exact mixed) [] fun K hK => ?_); simp [go_sem, hP, hgl, hn, h3]; (repeat (refine ⟨by omega, ?_⟩)); (first | refine hK _ ?_ | refine ⟨by rfl, hK _ ?_⟩); clear hK K) | refine W_cond rfl (fun _ => ?_) (fun hq => False.elim (by first | (simp [h3]; done) | (simp [h3]; omega) | (simp [h3] at hq; done) | (simp [h3] at hq; omega))) | refine W_cond rfl (fun hq => False.elim (by first | (simp [h3]; done) | (simp [h3]; omega) | (simp [h3] at hq; done) | (simp [h3] at hq; omega))) (fun _ => ?_))
    by_cases h4 : t.kind = 3
    · repeat (first | (refine W_sub [] (by simp [go_sem]) (by simp [go_sem, wantI, h4] <;> omega) (by simp [go_sem]) (hrest (by simp [h4]))) | refine W_seq ?_ | refine W_skip ?_ | refine W_block ?_ | refine W_inBlock ?_ | refine W_label ?_ | refine W_exit rfl ?_ | ((first | refine W_reg [] fun K hK => ?_ | refine W_regd (by rw [hP]; exact mixed) [] fun K hK => ?_); simp [go_sem, hP, hgl, hn, h4]; (repeat (refine ⟨by omega, ?_⟩)); (first | refine hK _ ?_ | refine ⟨by rfl, hK _ ?_⟩); clear hK K) | refine W_cond rfl (fun _ => ?_) (fun hq => False.elim (by first | (simp [h4]; done) | (simp [h4]; omega) | (simp [h4] at hq; done) | (simp [h4] at hq; omega))) | refine W_cond rfl (fun hq => False.elim (by first | (simp [h4]; done) | (simp [h4]; omega) | (simp [h4] at hq; done) | (simp [h4] at hq; omega))) (fun _ => ?_))
    by_cases h5 : t.kind = 4
    · repeat (first | (refine W_sub [] (by simp [go_sem]) (by simp [go_sem, wantI, h5] <;> omega) (by simp [go_sem]) (hrest (by simp [h5]))) | refine W_seq ?_ | refine W_skip ?_ | refine W_block ?_ | refine W_inBlock ?_ | refine W_label ?_ | refine W_exit rfl ?_ | ((first | refine W_reg [] fun K hK => ?_ | refine W_regd (by rw [hP]; exact mixed) [] fun K hK => ?_); simp [go_sem, hP, hgl, hn, h5]; (repeat (refine ⟨by omega, ?_⟩)); (first | refine hK _ ?_ | refine ⟨by rfl, hK _ ?_⟩); clear hK K) | refine W_cond rfl (fun _ => ?_) (fun hq => False.elim (by first | (simp [h5]; done) | (simp [h5]; omega) | (simp [h5] at hq; done) | (simp [h5] at hq; omega))) | refine W_cond rfl (fun hq => False.elim (by first | (simp [h5]; done) | (simp [h5]; omega) | (simp [h5] at hq; done) | (simp [h5] at hq; omega))) (fun _ => ?_))
    have hz := no (by rw [hs]; simp [tyKind, h1, h2, h3, h4, h5])
    refine t_g (j2 @h1 (j2 @h2 (j2 @h3 (j2 @h4 @h5)))) ?_
    refine t_r ?_
    simp [go_sem, hP, hgl, hn, hz] <;> (try omega)
  · intro hk
    by_cases hl : (t.args.length : Int) = wantI t.kind
    · have hty : tyKind t.kind t.args.length = true := by
        unfold wantI at hl
        unfold tyKind
        rcases hk with h | h | h | h | h <;> simp [h] at hl ⊢ <;> omega
      refine t_g @hl ?_
      refine t_a ?_
      refine W_sub [] (by simp [go_sem]) (by simp [go_sem, Ty.count.counts] <;> omega) (by simp [go_sem]) (W_listI (t.args) (fun done => Ty.shape.shapes done = true) (fun done rest => [(.slot 5, .one (.v (dint (1 + Ty.count.counts done : Nat)))), (.slot 27, .one (.v (dint done.length))), (.slot 26, .one (.v (dint t.args.length))), (.slot 25, .one (.v (.sl (t.args.map Ty.cells))))]) (rfl) ?_ ?_)
      · intro done x rest hL hg hI hnext
        have hlt : done.length < t.args.length := by rw [hL]; simp
        have hcx : Ty.count.counts t.args = Ty.count.counts done + (x.count + Ty.count.counts rest) := by rw [hL, Ty.counts_append]; rfl
        rw [Ty.counts_append] at hnext
        refine t_rg0 ?_
        refine t_yes ?_
        refine t_rg @hg ?_
        by_cases hx : x.shape = true
        · refine t_a ?_
          first | refine W_reg [] fun K hK => ?_ | refine W_regd (by rw [hP]; exact mixed) [] fun K hK => ?_
          simp [go_sem, hP, hgl, hn, hg, Ty.nodesR, hx]
          repeat (refine ⟨by omega, ?_⟩)
          first | refine vcK_call hP hgl (ih x (List.mem_of_getElem? hg) (by omega)) (by simp [go_sem, hP, hgl, hn, hg, Ty.nodesR, hx]) rfl (by simp [go_sem]) (by simp) (by rw [hn]; exact Nat.le_of_ble_eq_true rfl) ?_ | refine vcdC_call (fun _ _ => vcd_sound) hP hgl (ih x (List.mem_of_getElem? hg) (by omega)) (by simp [go_sem, hP, hgl, hn, hg, Ty.nodesR, hx]) rfl (by simp [go_sem]) (by simp) (by rw [hn]; exact Nat.le_of_ble_eq_true rfl) ?_ | refine vcK_callG hP hgl (ih x (List.mem_of_getElem? hg) (by omega)) (by simp [go_sem, hP, hgl, hn, hg, Ty.nodesR, hx]) rfl (by simp [go_sem]) (by simp) (by rw [hn]; exact Nat.le_of_ble_eq_true rfl) (by simp [go_sem]; rfl) (by rw [hn]; exact Nat.le_of_ble_eq_true rfl) (by simp [go_sem]) ?_ | refine vcdC_callG (fun _ _ => vcd_sound) hP hgl (ih x (List.mem_of_getElem? hg) (by omega)) (by simp [go_sem, hP, hgl, hn, hg, Ty.nodesR, hx]) rfl (by simp [go_sem]) (by simp) (by rw [hn]; exact Nat.le_of_ble_eq_true rfl) (by simp [go_sem]; rfl) (by rw [hn]; exact Nat.le_of_ble_eq_true rfl) (by simp [go_sem]) ?_
          simp [go_sem, hP, hgl, hn, hg, Ty.nodesR, hx]
          refine t_e ?_
          clear hK K
          repeat (first | (refine W_sub [] (by simp [go_sem]) (by simp [go_sem, Ty.count.counts] <;> omega) (by simp [go_sem]) (hnext (by rw [Ty.shapes_append]; simp [hI, Ty.shape.shapes, hx]))) | refine W_seq ?_ | refine W_skip ?_ | refine W_block ?_ | refine W_inBlock ?_ | refine W_label ?_ | refine W_exit rfl ?_ | ((first | refine W_reg [] fun K hK => ?_ | refine W_regd (by rw [hP]; exact mixed) [] fun K hK => ?_); simp [go_sem, hP, hgl, hn, hx]; (repeat (refine ⟨by omega, ?_⟩)); (first | refine hK _ ?_ | refine ⟨by rfl, hK _ ?_⟩); clear hK K) | refine W_cond rfl (fun _ => ?_) (fun hq => False.elim (by first | (simp [hx]; done) | (simp [hx]; omega) | (simp [hx] at hq; done) | (simp [hx] at hq; omega))) | refine W_cond rfl (fun hq => False.elim (by first | (simp [hx]; done) | (simp [hx]; omega) | (simp [hx] at hq; done) | (simp [hx] at hq; omega))) (fun _ => ?_))
        · have hz := no (by rw [hs, hL, Ty.shapes_append]; simp [Ty.shape.shapes, hx])
          refine t_a ?_
          first | refine W_reg [] fun K hK => ?_ | refine W_regd (by rw [hP]; exact mixed) [] fun K hK => ?_
          simp [go_sem, hP, hgl, hn, hg, Ty.nodesR, hx]
          repeat (refine ⟨by omega, ?_⟩)
          first | refine vcK_call hP hgl (ih x (List.mem_of_getElem? hg) (by omega)) (by simp [go_sem, hP, hgl, hn, hg, Ty.nodesR, hx]) rfl (by simp [go_sem]) (by simp) (by rw [hn]; exact Nat.le_of_ble_eq_true rfl) ?_ | refine vcdC_call (fun _ _ => vcd_sound) hP hgl (ih x (List.mem_of_getElem? hg) (by omega)) (by simp [go_sem, hP, hgl, hn, hg, Ty.nodesR, hx]) rfl (by simp [go_sem]) (by simp) (by rw [hn]; exact Nat.le_of_ble_eq_true rfl) ?_ | refine vcK_callG hP hgl (ih x (List.mem_of_getElem? hg) (by omega)) (by simp [go_sem, hP, hgl, hn, hg, Ty.nodesR, hx]) rfl (by simp [go_sem]) (by simp) (by rw [hn]; exact Nat.le_of_ble_eq_true rfl) (by simp [go_sem]; rfl) (by rw [hn]; exact Nat.le_of_ble_eq_true rfl) (by simp [go_sem]) ?_ | refine vcdC_callG (fun _ _ => vcd_sound) hP hgl (ih x (List.mem_of_getElem? hg) (by omega)) (by simp [go_sem, hP, hgl, hn, hg, Ty.nodesR, hx]) rfl (by simp [go_sem]) (by simp) (by rw [hn]; exact Nat.le_of_ble_eq_true rfl) (by simp [go_sem]; rfl) (by rw [hn]; exact Nat.le_of_ble_eq_true rfl) (by simp [go_sem]) ?_
          simp [go_sem, hP, hgl, hn, hg, Ty.nodesR, hx]
          refine t_e ?_
          clear hK K
          refine t_g @hx ?_
          refine t_r ?_
          simp [go_sem, hP, hgl, hn, hz] <;> (try omega)
      · intro hI
        have hz : t.nodesR = .tup [dint t.count, dbool true] := by simp [Ty.nodesR, hs, hty, hI]
        refine t_rg0 ?_
        refine t_no ?_
        refine t_g0 ?_
        refine t_r ?_
        simp [go_sem, hP, hgl, hn, hz, Ty.count_eq] <;> (try omega)
    · have hz := no (by
        rw [hs]
        have : tyKind t.kind t.args.length = false := by
          unfold wantI at hl
          unfold tyKind
          rcases hk with h | h | h | h | h <;> simp [h] at hl ⊢ <;> omega
        simp [this])
      refine t_g @hl ?_
      refine t_r ?_
      simp [go_sem, hP, hgl, hn, hz] <;> (try omega)

theorem checktype_ok (t : Ty) (hc : t.count ≤ 2147483648) : Con1 Tryd.prog gl 83 [t.dv] [] (.tup [dint (if t.checkN = 0 then t.count else 0 : Nat), dint t.checkN]) [] := by
  refine t_in Tryd.func83 ?_
  intro X hP hgl hf hfn hn hR hids hfit
  refine t_g0 ?_
  by_cases h : t.shape = true
  · refine t_a ?_
    first | refine W_reg [] fun K hK => ?_ | refine W_regd (by rw [hP]; exact mixed) [] fun K hK => ?_
    simp [go_sem, hP, hgl, hn, Ty.nodesR, h]
    repeat (refine ⟨by omega, ?_⟩)
    first | refine vcK_call hP hgl (typenodes_ok t hc) (by simp [go_sem, hP, hgl, hn, Ty.nodesR, h]) rfl (by simp [go_sem]) (by simp) (by rw [hn]; exact Nat.le_of_ble_eq_true rfl) ?_ | refine vcdC_call (fun _ _ => vcd_sound) hP hgl (typenodes_ok t hc) (by simp [go_sem, hP, hgl, hn, Ty.nodesR, h]) rfl (by simp [go_sem]) (by simp) (by rw [hn]; exact Nat.le_of_ble_eq_true rfl) ?_ | refine vcK_callG hP hgl (typenodes_ok t hc) (by simp [go_sem, hP, hgl, hn, Ty.nodesR, h]) rfl (by simp [go_sem]) (by simp) (by rw [hn]; exact Nat.le_of_ble_eq_true rfl) (by simp [go_sem]; rfl) (by rw [hn]; exact Nat.le_of_ble_eq_true rfl) (by simp [go_sem]) ?_ | refine vcdC_callG (fun _ _ => vcd_sound) hP hgl (typenodes_ok t hc) (by simp [go_sem, hP, hgl, hn, Ty.nodesR, h]) rfl (by simp [go_sem]) (by simp) (by rw [hn]; exact Nat.le_of_ble_eq_true rfl) (by simp [go_sem]; rfl) (by rw [hn]; exact Nat.le_of_ble_eq_true rfl) (by simp [go_sem]) ?_
    simp [go_sem, hP, hgl, hn, Ty.nodesR, h]
    refine t_e ?_
    clear hK K
    by_cases h2 : 64 < t.count
    · refine t_g (j2 @h @h2) ?_
      refine t_r ?_
      simp [go_sem, hP, hgl, hn, Ty.checkN, h, h2] <;> (try omega)
    · refine t_g (j2 @h @h2) ?_
      refine t_r ?_
      simp [go_sem, hP, hgl, hn, Ty.checkN, h, h2] <;> (try omega)
  · refine t_a ?_
    first | refine W_reg [] fun K hK => ?_ | refine W_regd (by rw [hP]; exact mixed) [] fun K hK => ?_
    simp [go_sem, hP, hgl, hn, Ty.nodesR, h]
    repeat (refine ⟨by omega, ?_⟩)
    first | refine vcK_call hP hgl (typenodes_ok t hc) (by simp [go_sem, hP, hgl, hn, Ty.nodesR, h]) rfl (by simp [go_sem]) (by simp) (by rw [hn]; exact Nat.le_of_ble_eq_true rfl) ?_ | refine vcdC_call (fun _ _ => vcd_sound) hP hgl (typenodes_ok t hc) (by simp [go_sem, hP, hgl, hn, Ty.nodesR, h]) rfl (by simp [go_sem]) (by simp) (by rw [hn]; exact Nat.le_of_ble_eq_true rfl) ?_ | refine vcK_callG hP hgl (typenodes_ok t hc) (by simp [go_sem, hP, hgl, hn, Ty.nodesR, h]) rfl (by simp [go_sem]) (by simp) (by rw [hn]; exact Nat.le_of_ble_eq_true rfl) (by simp [go_sem]; rfl) (by rw [hn]; exact Nat.le_of_ble_eq_true rfl) (by simp [go_sem]) ?_ | refine vcdC_callG (fun _ _ => vcd_sound) hP hgl (typenodes_ok t hc) (by simp [go_sem, hP, hgl, hn, Ty.nodesR, h]) rfl (by simp [go_sem]) (by simp) (by rw [hn]; exact Nat.le_of_ble_eq_true rfl) (by simp [go_sem]; rfl) (by rw [hn]; exact Nat.le_of_ble_eq_true rfl) (by simp [go_sem]) ?_
    simp [go_sem, hP, hgl, hn, Ty.nodesR, h]
    refine t_e ?_
    clear hK K
    refine t_g @h ?_
    refine t_r ?_
    simp [go_sem, hP, hgl, hn, Ty.checkN, h] <;> (try omega)

def okNodeP (t : Tm) : Bool := known t.kind && decide ((t.args.length : Int) = arityI t.kind) && decide (0 ≤ t.index) && (decide (t.index = 0) || decide (t.kind = 1))
theorem okNodeP_eq (t : Tm) : okNodeP t = okNode t := by
  unfold okNodeP okNode
  rw [arityI_known]
  cases h : decide ((t.args.length : Int) = arityI t.kind) with
  | false => simp
  | true =>
    have h1 : (t.args.length : Int) = arityI t.kind := by simpa using h
    have : decide (0 ≤ arityI t.kind) = true := by simp; omega
    rw [this]
    cases decide (0 ≤ t.index) <;> cases decide (t.index = 0) <;> cases decide (t.kind = 1) <;> rfl

def Tm.nodesR (t : Tm) : DV := .tup [dint (if t.shape = true then t.count else 0 : Nat), dbool t.shape]

theorem termnodes_ok (har : globOf gl 1 = some arEls) (t : Tm) (ht : t.tys) (hc : t.count ≤ 2147483648) : Con1 Tryd.prog gl 77 [t.dv] [] t.nodesR [] := by
  induction t using Tm.ind with
  | h t ih =>
  obtain ⟨ht1, ht2⟩ := (Tm.tys_eq t).1 ht
  rw [Tm.count_eq] at hc
  refine t_in Tryd.func77 ?_
  intro X hP hgl hf hfn hn hR hids hfit
  have hlen := Tm.fit_len (hfit t.dv (by simp))
  have hs := Tm.shape_eq t
  have no : t.shape = false → t.nodesR = .tup [dint 0, dbool false] := fun h => by simp [Tm.nodesR, h]
  refine t_g0 ?_
  refine t_c1 trivial (arity_ok har t.kind) ?_
  repeat (first | refine W_seq ?_ | refine W_skip ?_ | refine W_inBlock ?_ | refine W_label ?_)
  refine W_cut [(.slot 42, .one (.v (dbool (!okNodeP t)))), (.loc 1, .row ([.v (dint t.kind), .v (dint t.index), .v (dint t.type.kind), .v (.sl (t.type.args.map Ty.cells)), .v (.sl (t.args.map Tm.cells))])), (.slot 1, .one (.loc 1 0))] ?_ ?_
  · intro hrest
    by_cases h0 : known t.kind = true
    · by_cases hA : (t.args.length : Int) = arityI t.kind
      · by_cases hB : t.index < 0
        · refine t_rg (j2 @h0 (j2 @hA @hB)) ?_
          repeat (first | refine W_inBlock ?_ | refine W_skip ?_ | refine W_label ?_ | refine W_exit rfl ?_)
          refine W_sub [] (by simp [go_sem]) (by simp [go_sem, okNodeP, h0, hA, hB] <;> omega) (by simp [go_sem]) hrest
        · by_cases hD : t.index = 0
          · refine t_rg (j2 @h0 (j2 @hA (j2 @hB @hD))) ?_
            repeat (first | refine W_inBlock ?_ | refine W_skip ?_ | refine W_label ?_ | refine W_exit rfl ?_)
            refine W_sub [] (by simp [go_sem]) (by simp [go_sem, okNodeP, h0, hA, hB, hD] <;> omega) (by simp [go_sem]) hrest
          · by_cases hC : t.kind = 1
            · have h01 : known 1 = true := rfl
              refine t_rg (j2 @h0 (j2 @hA (j2 @hB (j2 @hD (j2 @hC @h01))))) ?_
              repeat (first | refine W_inBlock ?_ | refine W_skip ?_ | refine W_label ?_ | refine W_exit rfl ?_)
              refine W_sub [] (by simp [go_sem]) (by simp [go_sem, okNodeP, h0, hA, hB, hD, hC, h01] <;> omega) (by simp [go_sem]) hrest
            · refine t_rg (j2 @h0 (j2 @hA (j2 @hB (j2 @hD @hC)))) ?_
              repeat (first | refine W_inBlock ?_ | refine W_skip ?_ | refine W_label ?_ | refine W_exit rfl ?_)
              refine W_sub [] (by simp [go_sem]) (by simp [go_sem, okNodeP, h0, hA, hB, hD, hC] <;> omega) (by simp [go_sem]) hrest
      · refine t_rg (j2 @h0 @hA) ?_
        repeat (first | refine W_inBlock ?_ | refine W_skip ?_ | refine W_label ?_ | refine W_exit rfl ?_)
        refine W_sub [] (by simp [go_sem]) (by simp [go_sem, okNodeP, h0, hA] <;> omega) (by simp [go_sem]) hrest
    · refine t_rg @h0 ?_
      repeat (first | refine W_inBlock ?_ | refine W_skip ?_ | refine W_label ?_ | refine W_exit rfl ?_)
      refine W_sub [] (by simp [go_sem]) (by simp [go_sem, okNodeP, h0] <;> omega) (by simp [go_sem]) hrest
  · rw [okNodeP_eq]
    by_cases hok : okNode t = true
    · have hk : tmKind t.kind t.index t.type t.args.length = tyOfKind t.kind t.type := by
        simp only [okNode, Bool.and_eq_true, decide_eq_true_eq] at hok
        simp [tmKind, hok]
      refine t_n @hok ?_
      refine t_c1 trivial (typed_ok t.kind) ?_
      repeat (first | refine W_seq ?_ | refine W_skip ?_ | refine W_inBlock ?_ | refine W_label ?_)
      refine W_cutP (tyOfKind t.kind t.type = true) [(.loc 1, .row ([.v (dint t.kind), .v (dint t.index), .v (dint t.type.kind), .v (.sl (t.type.args.map Ty.cells)), .v (.sl (t.args.map Tm.cells))])), (.slot 1, .one (.loc 1 0))] ?_ ?_
      · intro hrest
        by_cases k2 : t.kind = 2
        · refine t_g @k2 ?_
          refine t_c1 trivial (checktype_ok t.type (by omega)) ?_
          by_cases hc : t.type.checkN = 0
          · refine t_gt (wr []) @k2 (j2 @k2 @hc) (hrest (by simp [tyOfKind, k2, hc]))
          · have hz := no (by rw [hs, hk]; simp [tyOfKind, k2, hc])
            refine t_g @hc ?_
            refine t_r ?_
            simp [go_sem, hP, hgl, hn, hz] <;> (try omega)
        by_cases k6 : t.kind = 6
        · refine t_g @k6 ?_
          refine t_c1 trivial (checktype_ok t.type (by omega)) ?_
          by_cases hc : t.type.checkN = 0
          · refine t_gt (wr []) @k6 (j2 @k6 @hc) (hrest (by simp [tyOfKind, k6, hc]))
          · have hz := no (by rw [hs, hk]; simp [tyOfKind, k6, hc])
            refine t_g @hc ?_
            refine t_r ?_
            simp [go_sem, hP, hgl, hn, hz] <;> (try omega)
        by_cases k9 : t.kind = 9
        · refine t_g @k9 ?_
          refine t_c1 trivial (checktype_ok t.type (by omega)) ?_
          by_cases hc : t.type.checkN = 0
          · refine t_gt (wr []) @k9 (j2 @k9 @hc) (hrest (by simp [tyOfKind, k9, hc]))
          · have hz := no (by rw [hs, hk]; simp [tyOfKind, k9, hc])
            refine t_g @hc ?_
            refine t_r ?_
            simp [go_sem, hP, hgl, hn, hz] <;> (try omega)
        refine t_g (j2 @k2 (j2 @k6 @k9)) ?_
        refine t_c1 trivial (notype_ok t.type) ?_
        by_cases hc : t.type.zero = true
        · refine t_gt (wr []) trivial @hc (hrest (by simp [tyOfKind, k2, k6, k9, hc]))
        · have hz := no (by rw [hs, hk]; simp [tyOfKind, k2, k6, k9, hc])
          refine t_g @hc ?_
          refine t_r ?_
          simp [go_sem, hP, hgl, hn, hz] <;> (try omega)
      · intro hty
        refine t_g0 ?_
        refine t_a ?_
        refine W_sub [] (by simp [go_sem]) (by simp [go_sem, Tm.count.counts] <;> omega) (by simp [go_sem]) (W_listI (t.args) (fun done => Tm.shape.shapes done = true) (fun done rest => [(.slot 8, .one (.v (dint (1 + Tm.count.counts done : Nat)))), (.slot 61, .one (.v (dint done.length))), (.slot 60, .one (.v (dint t.args.length))), (.slot 59, .one (.v (.sl (t.args.map Tm.cells))))]) (rfl) ?_ ?_)
        · intro done x rest hL hg hI hnext
          have hlt : done.length < t.args.length := by rw [hL]; simp
          have hcx : Tm.count.counts t.args = Tm.count.counts done + (x.count + Tm.count.counts rest) := by rw [hL, Tm.counts_append]; rfl
          rw [Tm.counts_append] at hnext
          refine t_rg0 ?_
          refine t_yes ?_
          refine t_rg @hg ?_
          by_cases hx : x.shape = true
          · refine t_a ?_
            first | refine W_reg [] fun K hK => ?_ | refine W_regd (by rw [hP]; exact mixed) [] fun K hK => ?_
            simp [go_sem, hP, hgl, hn, hg, Tm.nodesR, hx]
            repeat (refine ⟨by omega, ?_⟩)
            first | refine vcK_call hP hgl (ih x (List.mem_of_getElem? hg) (ht2 x (List.mem_of_getElem? hg)) (by omega)) (by simp [go_sem, hP, hgl, hn, hg, Tm.nodesR, hx]) rfl (by simp [go_sem]) (by simp) (by rw [hn]; exact Nat.le_of_ble_eq_true rfl) ?_ | refine vcdC_call (fun _ _ => vcd_sound) hP hgl (ih x (List.mem_of_getElem? hg) (ht2 x (List.mem_of_getElem? hg)) (by omega)) (by simp [go_sem, hP, hgl, hn, hg, Tm.nodesR, hx]) rfl (by simp [go_sem]) (by simp) (by rw [hn]; exact Nat.le_of_ble_eq_true rfl) ?_ | refine vcK_callG hP hgl (ih x (List.mem_of_getElem? hg) (ht2 x (List.mem_of_getElem? hg)) (by omega)) (by simp [go_sem, hP, hgl, hn, hg, Tm.nodesR, hx]) rfl (by simp [go_sem]) (by simp) (by rw [hn]; exact Nat.le_of_ble_eq_true rfl) (by simp [go_sem]; rfl) (by rw [hn]; exact Nat.le_of_ble_eq_true rfl) (by simp [go_sem]) ?_ | refine vcdC_callG (fun _ _ => vcd_sound) hP hgl (ih x (List.mem_of_getElem? hg) (ht2 x (List.mem_of_getElem? hg)) (by omega)) (by simp [go_sem, hP, hgl, hn, hg, Tm.nodesR, hx]) rfl (by simp [go_sem]) (by simp) (by rw [hn]; exact Nat.le_of_ble_eq_true rfl) (by simp [go_sem]; rfl) (by rw [hn]; exact Nat.le_of_ble_eq_true rfl) (by simp [go_sem]) ?_
            simp [go_sem, hP, hgl, hn, hg, Tm.nodesR, hx]
            refine t_e ?_
            clear hK K
            repeat (first | (refine W_sub [] (by simp [go_sem]) (by simp [go_sem, Tm.count.counts] <;> omega) (by simp [go_sem]) (hnext (by rw [Tm.shapes_append]; simp [hI, Tm.shape.shapes, hx]))) | refine W_seq ?_ | refine W_skip ?_ | refine W_block ?_ | refine W_inBlock ?_ | refine W_label ?_ | refine W_exit rfl ?_ | ((first | refine W_reg [] fun K hK => ?_ | refine W_regd (by rw [hP]; exact mixed) [] fun K hK => ?_); simp [go_sem, hP, hgl, hn, hx]; (repeat (refine ⟨by omega, ?_⟩)); (first | refine hK _ ?_ | refine ⟨by rfl, hK _ ?_⟩); clear hK K) | refine W_cond rfl (fun _ => ?_) (fun hq => False.elim (by first | (simp [hx]; done) | (simp [hx]; omega) | (simp [hx] at hq; done) | (simp [hx] at hq; omega))) | refine W_cond rfl (fun hq => False.elim (by first | (simp [hx]; done) | (simp [hx]; omega) | (simp [hx] at hq; done) | (simp [hx] at hq; omega))) (fun _ => ?_))
          · have hz := no (by rw [hs, hL, Tm.shapes_append]; simp [Tm.shape.shapes, hx])
            refine t_a ?_
            first | refine W_reg [] fun K hK => ?_ | refine W_regd (by rw [hP]; exact mixed) [] fun K hK => ?_
            simp [go_sem, hP, hgl, hn, hg, Tm.nodesR, hx]
            repeat (refine ⟨by omega, ?_⟩)
            first | refine vcK_call hP hgl (ih x (List.mem_of_getElem? hg) (ht2 x (List.mem_of_getElem? hg)) (by omega)) (by simp [go_sem, hP, hgl, hn, hg, Tm.nodesR, hx]) rfl (by simp [go_sem]) (by simp) (by rw [hn]; exact Nat.le_of_ble_eq_true rfl) ?_ | refine vcdC_call (fun _ _ => vcd_sound) hP hgl (ih x (List.mem_of_getElem? hg) (ht2 x (List.mem_of_getElem? hg)) (by omega)) (by simp [go_sem, hP, hgl, hn, hg, Tm.nodesR, hx]) rfl (by simp [go_sem]) (by simp) (by rw [hn]; exact Nat.le_of_ble_eq_true rfl) ?_ | refine vcK_callG hP hgl (ih x (List.mem_of_getElem? hg) (ht2 x (List.mem_of_getElem? hg)) (by omega)) (by simp [go_sem, hP, hgl, hn, hg, Tm.nodesR, hx]) rfl (by simp [go_sem]) (by simp) (by rw [hn]; exact Nat.le_of_ble_eq_true rfl) (by simp [go_sem]; rfl) (by rw [hn]; exact Nat.le_of_ble_eq_true rfl) (by simp [go_sem]) ?_ | refine vcdC_callG (fun _ _ => vcd_sound) hP hgl (ih x (List.mem_of_getElem? hg) (ht2 x (List.mem_of_getElem? hg)) (by omega)) (by simp [go_sem, hP, hgl, hn, hg, Tm.nodesR, hx]) rfl (by simp [go_sem]) (by simp) (by rw [hn]; exact Nat.le_of_ble_eq_true rfl) (by simp [go_sem]; rfl) (by rw [hn]; exact Nat.le_of_ble_eq_true rfl) (by simp [go_sem]) ?_
            simp [go_sem, hP, hgl, hn, hg, Tm.nodesR, hx]
            refine t_e ?_
            clear hK K
            refine t_g @hx ?_
            refine t_r ?_
            simp [go_sem, hP, hgl, hn, hz] <;> (try omega)
        · intro hI
          have hz : t.nodesR = .tup [dint t.count, dbool true] := by simp [Tm.nodesR, hs, hk, hty, hI]
          refine t_rg0 ?_
          refine t_no ?_
          refine t_g0 ?_
          refine t_r ?_
          simp [go_sem, hP, hgl, hn, hz, Tm.count_eq] <;> (try omega)
    · have hk : tmKind t.kind t.index t.type t.args.length = false := by
        simp only [okNode, Bool.and_eq_true, decide_eq_true_eq] at hok
        simp only [tmKind]
        cases hh : (decide ((t.args.length : Int) = arityI t.kind) && decide (0 ≤ t.index) && (decide (t.kind = 1) || decide (t.index = 0))) with
        | true => exact absurd (by simpa using hh) hok
        | false => rfl
      have hz := no (by rw [hs, hk]; rfl)
      refine t_g @hok ?_
      refine t_r ?_
      simp [go_sem, hP, hgl, hn, hz] <;> (try omega)
end Go.Proofs.YtmdjiajbnifjpaaDoor.Lift

namespace Go.Proofs.YtmdjiajbnifjpaaDoor.Lift
set_option linter.unusedSimpArgs false
set_option linter.unusedVariables false
set_option linter.unnecessarySimpa false
open Go
variable {gl : Globs}

theorem nextD_le {l : List Int} {p : Nat} {n : Int} (h : p ≤ l.length) : (nextD l p n).2 ≤ l.length := by
  unfold nextD
  split
  · exact h
  · split
    · rename_i x hx
      have := (List.getElem?_eq_some_iff.1 hx).1
      simp only; omega
    · exact h

theorem nextD_bd {l : List Int} {p : Nat} {n : Int} (h : 1 ≤ n) : 0 ≤ (nextD l p n).1 ∧ (nextD l p n).1 < n := by
  unfold nextD
  rw [if_neg (by omega)]
  split
  · rename_i x hx
    have := modz_bd x n h
    exact ⟨this.1, this.2.1⟩
  · exact ⟨by simp, by simp; omega⟩

/-- the types of plain values: a pair has two parts -/
def Ty.plain : Ty → Prop
  | .mk k ts => (k = 3 → ts.length = 2) ∧ plains ts
where
  plains : List Ty → Prop
    | [] => True
    | t :: r => t.plain ∧ plains r

end Go.Proofs.YtmdjiajbnifjpaaDoor.Lift

namespace Go.Proofs.YtmdjiajbnifjpaaDoor.Lift
set_option linter.unusedSimpArgs false
set_option linter.unusedVariables false
set_option linter.unnecessarySimpa false
open Go
variable {gl : Globs}

def numTm : Nat → Tm
  | 0 => Tm.mk 4 0 (Ty.mk 0 []) []
  | n + 1 => Tm.mk 5 0 (Ty.mk 0 []) [numTm n]

def sizeI (n : Int) : Int := min n 4096 + 1
/-- the number of nodes of a value, and whether all have a form -/
def Val.okB (v : Val) : Bool :=
  if v.kind = 1 then decide (0 ≤ v.num) && decide (v.list.length = 0) && decide (v.args.length = 0)
  else if v.kind = 2 then decide (v.num = 0) && !v.list.any (fun n => decide (n < 0)) && decide (v.args.length = 0)
  else if v.kind = 3 then decide (v.num = 0) && decide (v.list.length = 0) && decide (v.args.length = 2)
  else if v.kind = 4 then decide (v.num = 0) && decide (v.list.length = 0) && decide (v.args.length = 0)
  else false

end Go.Proofs.YtmdjiajbnifjpaaDoor.Lift

namespace Go.Proofs.YtmdjiajbnifjpaaDoor.Lift
set_option linter.unusedSimpArgs false
set_option linter.unusedVariables false
set_option linter.unnecessarySimpa false
open Go
variable {gl : Globs}

def Val.nodesN : Val → Int × Bool
  | .mk k n l a => nodesL a (1, Val.okB (.mk k n l a))
where
  nodesL : List Val → Int × Bool → Int × Bool
    | [], p => p
    | a :: r, p => if p.2 then nodesL r (p.1 + (Val.nodesN a).1, (Val.nodesN a).2) else p
/-- the number of nodes of a value -/
def Val.count : Val → Nat
  | .mk _ _ _ a => 1 + counts a
where
  counts : List Val → Nat
    | [] => 0
    | a :: r => a.count + counts r
theorem Val.count_eq (t : Val) : t.count = 1 + Val.count.counts t.args := by cases t; simp [count, args]
theorem Val.counts_append (l m : List Val) : Val.count.counts (l ++ m) = Val.count.counts l + Val.count.counts m := by
  induction l with
  | nil => simp [Val.count.counts]
  | cons a r ih => simp [Val.count.counts, ih]; omega

end Go.Proofs.YtmdjiajbnifjpaaDoor.Lift

namespace Go.Proofs.YtmdjiajbnifjpaaDoor.Lift
set_option linter.unusedSimpArgs false
set_option linter.unusedVariables false
set_option linter.unnecessarySimpa false
open Go
variable {gl : Globs}

theorem checkterm_ok (har : globOf gl 1 = some arEls) (t : Tm) (ht : t.tys) (hc : t.count ≤ 2147483648) : Con1 Tryd.prog gl 68 [t.dv] [] (.tup [dint (if t.checkN = 0 then t.count else 0 : Nat), dint t.checkN]) [] := by
  refine t_in Tryd.func68 ?_
  intro X hP hgl hf hfn hn hR hids hfit
  refine t_g0 ?_
  by_cases h : t.shape = true
  · refine t_a ?_
    first | refine W_reg [] fun K hK => ?_ | refine W_regd (by rw [hP]; exact mixed) [] fun K hK => ?_
    simp [go_sem, hP, hgl, hn, Tm.nodesR, h]
    repeat (refine ⟨by omega, ?_⟩)
    first | refine vcK_call hP hgl (termnodes_ok har t ht hc) (by simp [go_sem, hP, hgl, hn, Tm.nodesR, h]) rfl (by simp [go_sem]) (by simp) (by rw [hn]; exact Nat.le_of_ble_eq_true rfl) ?_ | refine vcdC_call (fun _ _ => vcd_sound) hP hgl (termnodes_ok har t ht hc) (by simp [go_sem, hP, hgl, hn, Tm.nodesR, h]) rfl (by simp [go_sem]) (by simp) (by rw [hn]; exact Nat.le_of_ble_eq_true rfl) ?_ | refine vcK_callG hP hgl (termnodes_ok har t ht hc) (by simp [go_sem, hP, hgl, hn, Tm.nodesR, h]) rfl (by simp [go_sem]) (by simp) (by rw [hn]; exact Nat.le_of_ble_eq_true rfl) (by simp [go_sem]; rfl) (by rw [hn]; exact Nat.le_of_ble_eq_true rfl) (by simp [go_sem]) ?_ | refine vcdC_callG (fun _ _ => vcd_sound) hP hgl (termnodes_ok har t ht hc) (by simp [go_sem, hP, hgl, hn, Tm.nodesR, h]) rfl (by simp [go_sem]) (by simp) (by rw [hn]; exact Nat.le_of_ble_eq_true rfl) (by simp [go_sem]; rfl) (by rw [hn]; exact Nat.le_of_ble_eq_true rfl) (by simp [go_sem]) ?_
    simp [go_sem, hP, hgl, hn, Tm.nodesR, h]
    refine t_e ?_
    clear hK K
    by_cases h2 : 4096 < t.count
    · refine t_g (j2 @h @h2) ?_
      refine t_r ?_
      simp [go_sem, hP, hgl, hn, Tm.checkN, h, h2] <;> (try omega)
    · refine t_g (j2 @h @h2) ?_
      refine t_r ?_
      simp [go_sem, hP, hgl, hn, Tm.checkN, h, h2] <;> (try omega)
  · refine t_a ?_
    first | refine W_reg [] fun K hK => ?_ | refine W_regd (by rw [hP]; exact mixed) [] fun K hK => ?_
    simp [go_sem, hP, hgl, hn, Tm.nodesR, h]
    repeat (refine ⟨by omega, ?_⟩)
    first | refine vcK_call hP hgl (termnodes_ok har t ht hc) (by simp [go_sem, hP, hgl, hn, Tm.nodesR, h]) rfl (by simp [go_sem]) (by simp) (by rw [hn]; exact Nat.le_of_ble_eq_true rfl) ?_ | refine vcdC_call (fun _ _ => vcd_sound) hP hgl (termnodes_ok har t ht hc) (by simp [go_sem, hP, hgl, hn, Tm.nodesR, h]) rfl (by simp [go_sem]) (by simp) (by rw [hn]; exact Nat.le_of_ble_eq_true rfl) ?_ | refine vcK_callG hP hgl (termnodes_ok har t ht hc) (by simp [go_sem, hP, hgl, hn, Tm.nodesR, h]) rfl (by simp [go_sem]) (by simp) (by rw [hn]; exact Nat.le_of_ble_eq_true rfl) (by simp [go_sem]; rfl) (by rw [hn]; exact Nat.le_of_ble_eq_true rfl) (by simp [go_sem]) ?_ | refine vcdC_callG (fun _ _ => vcd_sound) hP hgl (termnodes_ok har t ht hc) (by simp [go_sem, hP, hgl, hn, Tm.nodesR, h]) rfl (by simp [go_sem]) (by simp) (by rw [hn]; exact Nat.le_of_ble_eq_true rfl) (by simp [go_sem]; rfl) (by rw [hn]; exact Nat.le_of_ble_eq_true rfl) (by simp [go_sem]) ?_
    simp [go_sem, hP, hgl, hn, Tm.nodesR, h]
    refine t_e ?_
    clear hK K
    refine t_g @h ?_
    refine t_r ?_
    simp [go_sem, hP, hgl, hn, Tm.checkN, h] <;> (try omega)

theorem termscheck_ok (har : globOf gl 1 = some arEls) (t : Tm) (ht : t.tys) (hc : t.count ≤ 2147483648) : Con1 Tryd.prog gl 47 [t.dv] [] (dint t.checkN) [] := by
  refine t_in Tryd.func47 ?_
  intro X hP hgl hf hfn hn hR hids hfit
  refine t_g0 ?_
  refine t_c1 trivial (checkterm_ok har t ht hc) ?_
  refine t_g0 ?_
  refine t_r ?_
  simp [go_sem, hP, hgl, hn] <;> (try omega)

end Go.Proofs.YtmdjiajbnifjpaaDoor.Lift

/-
  Package code: byTerm, and the block of a term (emit).
-/
namespace Go.Proofs.YtmdjiajbnifjpaaDoor.Lift
set_option linter.unusedSimpArgs false
set_option linter.unusedVariables false
set_option linter.unnecessarySimpa false
open Go
variable {gl : Globs}

/-- the package's table of operations: what each takes, the kind of term that it is for -/
def opEls : List (List DV) := [[dint 0, dint 0], [dint 0, dint 1], [dint 0, dint 2], [dint 2, dint 3], [dint 0, dint 4], [dint 1, dint 5], [dint 3, dint 6], [dint 0, dint 7], [dint 2, dint 8], [dint 3, dint 9], [dint 2, dint 10], [dint 1, dint 11], [dint 1, dint 12], [dint 0, dint 13]]
theorem evG_op : evG (some opEls) = some (.dp opEls 0 0) := rfl
attribute [go_sem] evG_op
theorem opEls_get (i : Nat) (h1 : 1 ≤ i) (h2 : i ≤ 13) : opEls[i]? = some [dint (takesI (i : Int)), dint i] := by
  have : i = 1 ∨ i = 2 ∨ i = 3 ∨ i = 4 ∨ i = 5 ∨ i = 6 ∨ i = 7 ∨ i = 8 ∨ i = 9 ∨ i = 10 ∨ i = 11 ∨ i = 12 ∨ i = 13 := by omega
  rcases this with rfl | rfl | rfl | rfl | rfl | rfl | rfl | rfl | rfl | rfl | rfl | rfl | rfl <;> rfl

theorem byterm_ok (hop : globOf gl 0 = some opEls) (k : Nat) (h1 : 1 ≤ k) (h2 : k ≤ 13) : Con1 Tryd.prog gl 49 [dint k] [] (dint k) [] := by
  refine t_in Tryd.func49 ?_
  intro X hP hgl hf hfn hn hR hids hfit
  refine t_rg0 ?_
  refine t_rg0 ?_
  refine t_a ?_
  refine t_sub [] trivial (W_rounds (fun i : Nat => 1 ≤ i ∧ i ≤ k) (fun i : Nat => [(.slot 0, .one (.v (dint k))), (.slot 3, .one (.v (dint i)))]) (fun i : Nat => k - i) 1 (⟨Nat.le_refl _, h1⟩) ?_)
  rintro i ⟨i1, i2⟩ ih
  have hg := opEls_get i i1 (by omega)
  have hle : (i : Int) < 14 := by omega
  have hle2 : (i : Nat) < 14 := by omega
  refine t_rg (j2 @hop @hg) ?_
  by_cases hik : i = k
  · subst hik
    refine t_no ?_
    refine t_g0 ?_
    refine t_r ?_
    simp [go_sem, hP, hgl, hn] <;> (try omega)
  · refine t_yes ?_
    refine t_rg0 ?_
    refine t_b ?_
    refine t_sub [] trivial (ih (i + 1) ⟨by omega, by omega⟩ (by omega))

theorem byterm_okI (hop : globOf gl 0 = some opEls) (k : Int) (h1 : 1 ≤ k) (h2 : k ≤ 13) : Con1 Tryd.prog gl 49 [dint k] [] (dint k) [] := by
  obtain ⟨n, rfl⟩ := Int.eq_ofNat_of_zero_le (by omega : 0 ≤ k)
  exact byterm_ok hop n (by omega) (by omega)
theorem kind_in {t : Tm} (h : t.shape = true) : 1 ≤ t.kind ∧ t.kind ≤ 13 := by
  rw [Tm.shape_eq, Bool.and_eq_true] at h
  have h1 := h.1
  simp only [tmKind, Bool.and_eq_true, decide_eq_true_eq] at h1
  have h2 := h1.1.1.1
  unfold arityI at h2
  repeat' split at h2
  all_goals omega
theorem W_cutM {α : Type} {X : Ctx} {k kk : List Item} {s : St} (E : α → Prop) (S : α → St) (h1 : (∀ x, E x → W X kk (S x)) → W X k s) (h2 : ∀ x, E x → W X kk (S x)) : W X k s := h1 h2
/-! emit: the block of a term is laid -/
def emV (bf bo bt be : Nat) : DV := .prim (.func (.func 48) #[] #[.pointer (some ⟨bf, 0, none⟩), .pointer (some ⟨bo, 0, none⟩), .pointer (some ⟨bt, 0, none⟩), .pointer (some ⟨be, 0, none⟩)])
/-- the objects: the boxes of functions, out, todo and emit, and the arrays of the first three -/
def emO (bf bo bt be : Nat) (vF vO vT : DV) (F O T : RS) : Objs := (bf, [vF]) :: (bo, [vO]) :: (bt, [vT]) :: (be, [emV bf bo bt be]) :: (F.objs ++ (O.objs ++ T.objs))
theorem emO_F (bf bo bt be : Nat) (vF vO vT : DV) (F O T : RS) : emO bf bo bt be vF vO vT F O T = [(bf, [vF]), (bo, [vO]), (bt, [vT]), (be, [emV bf bo bt be])] ++ (F.objs ++ (O.objs ++ T.objs)) := rfl
theorem emO_O (bf bo bt be : Nat) (vF vO vT : DV) (F O T : RS) : emO bf bo bt be vF vO vT F O T = ([(bf, [vF]), (bo, [vO]), (bt, [vT]), (be, [emV bf bo bt be])] ++ F.objs) ++ (O.objs ++ T.objs) := by simp [emO]
theorem emO_T (bf bo bt be : Nat) (vF vO vT : DV) (F O T : RS) : emO bf bo bt be vF vO vT F O T = ([(bf, [vF]), (bo, [vO]), (bt, [vT]), (be, [emV bf bo bt be])] ++ F.objs ++ O.objs) ++ (T.objs ++ []) := by simp [emO]
def rowsI (l : List Ins) : List (List DV) := l.map Ins.row
theorem rowsI_app (l m : List Ins) : rowsI (l ++ m) = rowsI l ++ rowsI m := List.map_append
theorem ints_app (l m : List Int) : ints (l ++ m) = ints l ++ ints m := by simp [ints]
/-- what emit leaves -/
def EmR (bf bo bt be : Nat) (fs : List Int) (os : List Ins) (ts : List Tm) (r : DV) (ψ : Objs) : Prop :=
  r = .tup [] ∧ ∃ F O T : RS, F.is 1 (ints fs) ∧ O.is 2 (rowsI os) ∧ T.is 5 (ts.map Tm.cells) ∧ (ψ.map (·.1)).Nodup ∧ ψ = emO bf bo bt be F.v O.v T.v F O T
theorem emO_get {bf bo bt be : Nat} {vF vO vT : DV} {F O T : RS} (h : ((emO bf bo bt be vF vO vT F O T).map (·.1)).Nodup) :
    get (heapSt (emO bf bo bt be vF vO vT F O T)) (.heap bf) = some (.row [.v vF]) ∧ get (heapSt (emO bf bo bt be vF vO vT F O T)) (.heap bo) = some (.row [.v vO]) ∧ get (heapSt (emO bf bo bt be vF vO vT F O T)) (.heap bt) = some (.row [.v vT]) ∧ get (heapSt (emO bf bo bt be vF vO vT F O T)) (.heap be) = some (.row [.v (emV bf bo bt be)]) ∧
    (∀ b, F.q = some b → get (heapSt (emO bf bo bt be vF vO vT F O T)) (.heap b) = some (.row (arrRow F.full))) ∧ (∀ b, O.q = some b → get (heapSt (emO bf bo bt be vF vO vT F O T)) (.heap b) = some (.row (arrRow O.full))) ∧ (∀ b, T.q = some b → get (heapSt (emO bf bo bt be vF vO vT F O T)) (.heap b) = some (.row (arrRow T.full))) := by
  have hm : ∀ b cs, (b, cs) ∈ emO bf bo bt be vF vO vT F O T → get (heapSt (emO bf bo bt be vF vO vT F O T)) (.heap b) = some (.row (cs.map SV.v)) := fun b cs hb => get_heapSt_of h hb
  refine ⟨hm bf [vF] (by simp [emO]), hm bo [vO] (by simp [emO]), hm bt [vT] (by simp [emO]), hm be [emV bf bo bt be] (by simp [emO]), fun b hb => hm b F.full.flatten ?_, fun b hb => hm b O.full.flatten ?_, fun b hb => hm b T.full.flatten ?_⟩
  · have := RS.mem_objs (x := F).2 ⟨hb, rfl⟩
    simp [emO, this]
  · have := RS.mem_objs (x := O).2 ⟨hb, rfl⟩
    simp [emO, this]
  · have := RS.mem_objs (x := T).2 ⟨hb, rfl⟩
    simp [emO, this]
/-- the objects' blocks are apart -/
theorem emO_ne {bf bo bt be : Nat} {vF vO vT : DV} {F O T : RS} (h : ((emO bf bo bt be vF vO vT F O T).map (·.1)).Nodup) :
    (bf ≠ bo ∧ bf ≠ bt ∧ bf ≠ be ∧ bo ≠ bt ∧ bo ≠ be ∧ bt ≠ be) ∧ (F.q ≠ some bf ∧ F.q ≠ some bo ∧ F.q ≠ some bt ∧ F.q ≠ some be) ∧ (O.q ≠ some bf ∧ O.q ≠ some bo ∧ O.q ≠ some bt ∧ O.q ≠ some be) ∧ (T.q ≠ some bf ∧ T.q ≠ some bo ∧ T.q ≠ some bt ∧ T.q ≠ some be) := by
  simp only [emO, List.map_cons, List.map_append, List.nodup_cons, List.mem_cons, List.mem_append, List.mem_map, not_or] at h
  obtain ⟨⟨a1, a2, a3, a4, a5, a6⟩, ⟨b2, b3, b4, b5, b6⟩, ⟨c3, c4, c5, c6⟩, ⟨d4, d5, d6⟩, -⟩ := h
  have key : ∀ {x : RS} {b : Nat}, (¬ ∃ p, p ∈ x.objs ∧ p.1 = b) → x.q ≠ some b := fun hh e => hh ⟨_, RS.mem_objs.2 ⟨e, rfl⟩, rfl⟩
  exact ⟨⟨a1, a2, a3, b2, b3, c3⟩, ⟨key a4, key b4, key c4, key d4⟩, ⟨key a5, key b5, key c5, key d5⟩, ⟨key a6, key b6, key c6, key d6⟩⟩
theorem len_counts (l : List Tm) : l.length ≤ Tm.count.counts l := by
  induction l with
  | nil => exact Nat.zero_le _
  | cons a r ih => have := Tm.count_eq a; simp only [Tm.count.counts, List.length_cons]; omega
theorem skels_le (l : List Tm) : (Tm.skel.skels l).length ≤ Tm.count.counts l := by
  induction l with
  | nil => exact Nat.zero_le _
  | cons a r ih => have := Tm.skel_count a; simp only [Tm.skel.skels, Tm.count.counts, List.length_append]; omega
theorem subs_le (t : Tm) : t.subs.length ≤ t.count := by
  have := Tm.skel_count t
  have := len_counts t.subs
  omega
theorem skel_le (t : Tm) : t.skel.length ≤ t.count := by
  have := Tm.skel_count t
  omega
theorem subss_le (l : List Tm) : (Tm.subs.subss l).length ≤ Tm.count.counts l := by
  induction l with
  | nil => exact Nat.zero_le _
  | cons a r ih => have := subs_le a; simp only [Tm.subs.subss, Tm.count.counts, List.length_append]; omega
theorem funPos_le (n : Nat) (c : List Ins) : (funPos n c).length ≤ c.length := by
  rw [funPos_length]
  exact List.length_filter_le _ _
theorem counts_at {l : List Tm} {i : Nat} {x : Tm} (h : l[i]? = some x) : l.take (i + 1) = l.take i ++ [x] ∧ Tm.count.counts (l.take i) + x.count ≤ Tm.count.counts l := by
  have h1 : l.take (i + 1) = l.take i ++ [x] := by rw [List.take_add_one, h]; rfl
  refine ⟨h1, ?_⟩
  have h2 := Tm.counts_app (l.take (i + 1)) (l.drop (i + 1))
  rw [List.take_append_drop, h1, Tm.counts_app] at h2
  simp only [Tm.count.counts] at h2
  omega
end Go.Proofs.YtmdjiajbnifjpaaDoor.Lift

/-
  Structs of two numbers, compared.
-/
namespace Go.Proofs.YtmdjiajbnifjpaaDoor.Lift
set_option linter.unusedSimpArgs false
set_option linter.unusedVariables false
set_option linter.unnecessarySimpa false
open Go
section
variable {X : Ctx} {s s0 : St} {k : List Item}

def intB (P : Program) (t : TypeId) : Bool :=
  match P.underlying t with
  | some (.int .i64) => true
  | _ => false
theorem intB_spec {P : Program} {t : TypeId} (h : intB P t = true) : P.underlying t = some (.int .i64) := by
  unfold intB at h
  split at h
  · assumption
  · cases h
/-- a struct of two numbers -/
def insT (P : Program) (T : TypeId) : Bool :=
  match P.underlying T with
  | some (.struct fs) => match fs.toList with
    | [f, g] => (f.name != "_") && ((g.name != "_") && ((f.offset == 0) && ((g.offset == 1) && (intB P f.type && (intB P g.type && (!(P.stoodInHeld T) && !(P.eqGuardType P.depth T)))))))
    | _ => false
  | _ => false
theorem insT_spec {P : Program} {T : TypeId} (h : insT P T = true) : ∃ f g : Field, P.underlying T = some (.struct #[f, g]) ∧ f.name ≠ "_" ∧ g.name ≠ "_" ∧ f.offset = 0 ∧ g.offset = 1 ∧ P.underlying f.type = some (.int .i64) ∧ P.underlying g.type = some (.int .i64) ∧ P.stoodInHeld T = false ∧ P.eqGuardType P.depth T = false := by
  unfold insT at h
  split at h
  · rename_i fs hu
    split at h
    · rename_i f g hl
      simp only [Bool.and_eq_true, bne_iff_ne, beq_iff_eq, Bool.not_eq_true'] at h
      obtain ⟨h1, h2, h3, h4, h5, h6, h7, h8⟩ := h
      have : fs = #[f, g] := by
        cases fs with
        | mk l => simp at hl; rw [hl]
      exact ⟨f, g, by rw [hu, this], h1, h2, h3, h4, intB_spec h5, intB_spec h6, h7, h8⟩
    · cases h
  · cases h
theorem run_partI {P : Program} {w : World} {t : TypeId} (ht : P.underlying t = some (.int .i64)) (cs : Array Value) (off : Nat) {v : Value} (h : cs[off]? = some v) : (part t cs off).run P w = .ok v w := by
  simp [part, isAgg, run_underlying ht, h]
theorem run_eqI {P : Program} {w : World} {t : TypeId} (ht : P.underlying t = some (.int .i64)) (d : Nat) (a b : Int) : (Op.equalIn (d + 1) t (.int .i64 a) (.int .i64 b)).run P w = .ok (a == b) w := by
  unfold Op.equalIn
  simp [run_underlying ht]
theorem run_eqS {P : Program} {w : World} {T : TypeId} (hT : insT P T = true) (a b c d : Int) (n : Nat) : (Op.equalIn (n + 2) T (.agg #[.int .i64 a, .int .i64 b]) (.agg #[.int .i64 c, .int .i64 d])).run P w = .ok ((a == c) && (b == d)) w := by
  obtain ⟨f, g, h1, h2, h3, h4, h5, h6, h7, h8, h9⟩ := insT_spec hT
  unfold Op.equalIn
  have e1 := fun (w : World) => run_partI (w := w) h6 #[.int .i64 a, .int .i64 b] f.offset (v := .int .i64 a) (by rw [h4]; rfl)
  have e2 := fun (w : World) => run_partI (w := w) h6 #[.int .i64 c, .int .i64 d] f.offset (v := .int .i64 c) (by rw [h4]; rfl)
  have e3 := fun (w : World) => run_partI (w := w) h7 #[.int .i64 a, .int .i64 b] g.offset (v := .int .i64 b) (by rw [h5]; rfl)
  have e4 := fun (w : World) => run_partI (w := w) h7 #[.int .i64 c, .int .i64 d] g.offset (v := .int .i64 d) (by rw [h5]; rfl)
  have e5 := fun (w : World) => run_eqI (w := w) h6 n a c
  have e6 := fun (w : World) => run_eqI (w := w) h7 n b d
  have hb1 : ∀ x y : Int, (x == y) = decide (x = y) := fun x y => by by_cases h : x = y <;> simp [h]
  simp only [hb1] at e5 e6
  by_cases k1 : a = c
  · have e5' := fun (w : World) => (e5 w).trans (by rw [decide_eq_true k1])
    by_cases k2 : b = d
    · have e6' := fun (w : World) => (e6 w).trans (by rw [decide_eq_true k2])
      have hr : ((a == c) && (b == d)) = true := by simp [k1, k2]
      rw [hr]
      simp [run_underlying h1, h8, h2, h3, e1, e2, e3, e4, e5', e6']
    · have e6' := fun (w : World) => (e6 w).trans (by rw [decide_eq_false k2])
      have hr : ((a == c) && (b == d)) = false := by simp [k2]
      rw [hr]
      simp [run_underlying h1, h8, h2, h3, e1, e2, e3, e4, e5', e6']
  · have e5' := fun (w : World) => (e5 w).trans (by rw [decide_eq_false k1])
    have hr : ((a == c) && (b == d)) = false := by simp [k1]
    rw [hr]
    simp [run_underlying h1, h8, h2, h3, e1, e2, e3, e4, e5']

/-- what a comparison of structs gives -/
def eqR (neq : Bool) (a b c d : Int) : Bool := if neq then !(decide (a = c) && decide (b = d)) else decide (a = c) && decide (b = d)
theorem agg2 {D : Nat → Nat → Prop} {w : World} {a b : Int} {v : Value} (h : RV D w (.agg [dint a, dint b]) v) : v = .agg #[.int .i64 a, .int .i64 b] := by
  cases h with
  | agg cs vs hl hcell h =>
    have h0 : 0 < vs.size := by rw [hl]; simp
    have h1 : 1 < vs.size := by rw [hl]; simp
    have e0 := (prim_of (h 0 (dint a) vs[0] rfl (by simp))).1
    have e1 := (prim_of (h 1 (dint b) vs[1] rfl (by simp))).1
    congr 1
    apply Array.ext
    · rw [hl]; rfl
    · intro i hi hj
      have : i = 0 ∨ i = 1 := by simp at hj; omega
      rcases this with rfl | rfl
      · exact e0
      · exact e1
theorem step_eqS {o : Oper} {neq : Bool} {T T2 : TypeId} {x y : Operand} (ho : o.op = .binOp (if neq then .neq else .eql) T x y T2) {d : Nat} (hd : o.dst = some d) (hn : d < X.n) (hT : insT X.P T = true) {a b c e : Int}
    (hx : (evl X (get s) x).bind toD = some (.agg [dint a, dint b])) (hy : (evl X (get s) y).bind toD = some (.agg [dint c, dint e])) : StepOK X s o (upd s (.slot d) (.one (.v (dbool (eqR neq a b c e))))) := by
  intro G ac w R next Q hK
  obtain ⟨x1, hx1, hx2⟩ := Option.bind_eq_some_iff.1 hx
  obtain ⟨y1, hy1, hy2⟩ := Option.bind_eq_some_iff.1 hy
  have hv := agg2 (toD_sound hx2 (evl_sound R hx1))
  have hw := agg2 (toD_sound hy2 (evl_sound R hy1))
  obtain ⟨f, g, h1, -, -, -, -, -, -, -, h9⟩ := insT_spec hT
  refine opIn (by intro c e; rw [ho] at e; cases e) ?_
  have hq := run_eqS (w := w) hT a b c e 9998
  have hrun : (Op.equal T (.agg #[.int .i64 a, .int .i64 b]) (.agg #[.int .i64 c, .int .i64 e])).run X.P w = .ok ((a == c) && (b == e)) w := hq
  have hb1 : ∀ x y : Int, (x == y) = decide (x = y) := fun x y => by by_cases h : x = y <;> simp [h]
  have hexec : (execOp ac.eval o).run X.P w = .ok (.value (.bool (eqR neq a b c e))) w := by
    cases neq
    · simp [execOp, ho, hv, hw, eqGuard, h9, Go.binOp, hrun, eqR, hb1]
    · simp [execOp, ho, hv, hw, eqGuard, h9, Go.binOp, hrun, eqR, hb1]
  rw [hexec, upn_value, hd]
  exact hK G _ w (R.setSlot (Trans.refl X G ac w R.nil) rfl rfl (fun _ h => h) hn (.prim _ trivial))
theorem vcK_eqS {esc : List Nat} {ops : Array Oper} {l : List Oper} {K : St → Prop} {d : Tmp} {T T2 ty : TypeId} {x y : Operand} {pos : String} {af : Array Edge} {q : Option (Prop × St)} (neq : Bool) {a b c e : Int} (hn : d < X.n) (hT : insT X.P T = true)
    (hx : (evl X (get s) x).bind toD = some (.agg [dint a, dint b])) (hy : (evl X (get s) y).bind toD = some (.agg [dint c, dint e])) {op : BinOp} (hop : op = if neq then .neq else .eql) (hq : q = none)
    (h : vc X esc ops l (upd s (.slot d) (.one (.v (dbool (eqR neq a b c e))))) K) : vcK X esc ops l K ⟨some d, .binOp op T x y T2, ty, pos, af, none⟩ s q := by
  subst hq hop
  exact VL_step rfl (step_eqS (neq := neq) (o := ⟨some d, .binOp (if neq then .neq else .eql) T x y T2, ty, pos, af, none⟩) rfl rfl hn hT hx hy) (vc_sound h)
theorem vcK_eqSG {esc : List Nat} {ops : Array Oper} {l : List Oper} {K : St → Prop} {d : Tmp} {T T2 ty : TypeId} {x y : Operand} {pos : String} {af : Array Edge} {q : Option (Prop × St)} {j dj : Nat} {want : Bool} (neq : Bool) {a b c e : Int} (hn : d < X.n) (hT : insT X.P T = true)
    (hx : (evl X (get s) x).bind toD = some (.agg [dint a, dint b])) (hy : (evl X (get s) y).bind toD = some (.agg [dint c, dint e])) {op : BinOp} (hop : op = if neq then .neq else .eql) (hq : q = none)
    (hj : gsl ops j = some dj) (hjn : dj < X.n) (hb : get s (.slot dj) = some (.one (.v (.prim (.bool want)))))
    (h : vc X esc ops l (upd s (.slot d) (.one (.v (dbool (eqR neq a b c e))))) K) : vcK X esc ops l K ⟨some d, .binOp op T x y T2, ty, pos, af, some (j, want)⟩ s q := by
  subst hq hop
  exact VL_op (opOK_of (.inr ⟨j, dj, want, rfl, hj, hjn, hb⟩) (step_eqS (neq := neq) (o := ⟨some d, .binOp (if neq then .neq else .eql) T x y T2, ty, pos, af, some (j, want)⟩) rfl rfl hn hT hx hy)) (vc_sound h)
end
end Go.Proofs.YtmdjiajbnifjpaaDoor.Lift

/-
  Package code: emit, walked.
-/
namespace Go.Proofs.YtmdjiajbnifjpaaDoor.Lift
set_option linter.unusedSimpArgs false
set_option linter.unusedVariables false
set_option linter.unnecessarySimpa false
open Go
variable {gl : Globs}

set_option maxHeartbeats 1000000 in
set_option maxRecDepth 10000 in
theorem emit_ok (hop : globOf gl 0 = some opEls) (t : Tm) (bf bo bt be : Nat) : ∀ (fs : List Int) (os : List Ins) (ts : List Tm) (F O T : RS), t.shape = true → t.count ≤ 1000000 → fs.length + t.count ≤ 1000000000 → os.length + t.count ≤ 1000000000 → ts.length + t.count ≤ 1000000000 →
    F.is 1 (ints fs) → O.is 2 (rowsI os) → T.is 5 (ts.map Tm.cells) → ((emO bf bo bt be F.v O.v T.v F O T).map (·.1)).Nodup →
    Con Tryd.prog gl 48 [t.dv, ptr bf, ptr bo, ptr bt, ptr be] (emO bf bo bt be F.v O.v T.v F O T) (EmR bf bo bt be (fs ++ funPos os.length t.skel) (os ++ t.skel) (ts ++ t.subs)) := by
  induction t using Tm.ind with
  | h t ih =>
  intro fs os ts F O T hs hc hfs hos hts hF hO hT hnd
  refine t_in Tryd.func48 ?_
  intro X hP hgl hf hfn hn hR hids hfit
  have hfo := Tm.fold t
  have hlen := Tm.fit_len (hfit t.dv (by simp))
  have hge := emO_get hnd
  have hne := emO_ne hnd
  simp only [entry, argSt, List.cons_append, List.nil_append]
  refine t_rg0 ?_
  refine t_rg0 ?_
  apply W_cutM (fun x : RS × RS × RS => x.1.is 1 (ints (fs ++ funPos os.length t.skel)) ∧ x.2.1.is 2 (rowsI (os ++ if t.kind = 2 then [] else Tm.skel.skels t.args)) ∧ x.2.2.is 5 ((ts ++ t.subs).map Tm.cells) ∧ ((emO bf bo bt be x.1.v x.2.1.v x.2.2.v x.1 x.2.1 x.2.2).map (·.1)).Nodup)
    (fun x => (.slot 1, .one (.v (ptr bf))) :: (.slot 2, .one (.v (ptr bo))) :: (.slot 3, .one (.v (ptr bt))) :: (.slot 4, .one (.v (ptr be))) :: (.slot 5, .one (.loc 5 0)) :: (.loc 5, .row [.v (dint t.kind), .v (dint t.index), .v (dint t.type.kind), .v (.sl (t.type.args.map Ty.cells)), .v (.sl (t.args.map Tm.cells))]) :: heapSt (emO bf bo bt be x.1.v x.2.1.v x.2.2.v x.1 x.2.1 x.2.2))
  · intro hrest
    by_cases h2 : t.kind = 2
    · refine t_yes ?_
      obtain ⟨a, ha⟩ : ∃ a, t.args = [a] := by
        have h1 := hs
        rw [Tm.shape_eq, Bool.and_eq_true] at h1
        have h1 := h1.1
        simp only [tmKind, h2, Bool.and_eq_true, decide_eq_true_eq, arityI] at h1
        exact List.length_eq_one_iff.1 (by have := h1.1.1.1; simp at this; omega)
      have hcnt := Tm.count_eq t
      refine t_a ?_
      refine W_regF (by rw [hP]; exact mixed) 11 4 _ (by decide) (by decide) rfl (by rfl) (d := 15) (by rw [hn]; exact Nat.le_of_ble_eq_true rfl) F.q (AppP X F.q 1 F.n F.full [[dint (os.length : Int)]]) fresh_app [] fun K hK => ?_
      have hOn : O.n = os.length := by rw [hO.n_eq]; simp [rowsI]
      have hFn : F.n = fs.length := by rw [hF.n_eq]; simp [ints]
      have hTn : T.n = ts.length := by rw [hT.n_eq]; simp
      simp [go_sem, hP, hgl, hn, hge, hne, ha, hOn, markO]
      refine ⟨by omega, ?_⟩
      refine vcdF_append (E := 1) (B := 8) (q := F.q) (n := F.n) (cap := F.cap) (full := F.full) (zs := [[dint (os.length : Int)]]) (zd := [dint 0]) (by simp [go_sem, hP, hgl, hn]) (by simp [go_sem, hP, hgl, hn]) (by simp [go_sem, hP]) (by rw [hP]; kernel_rfl) rfl (by decide) (by rw [hP]; rfl) (by rw [hn]; exact Nat.le_of_ble_eq_true rfl) (fun b hb => by simp [go_sem, hge, hb]) hF.nil hF.len hF.le (by simp) (by simp [hFn]; unfold BIG; omega) hF.wid (by simp) ?_
      simp [go_sem, hP, hgl, hn, hge, hne, ha, hOn]
      refine ⟨by generalize F.q = q; cases q <;> rfl, by simp [evFree, evFree.evFree', allL, freeR, freeW, wrL, hne], ?_⟩
      intro y b cs hap hnew
      obtain ⟨F', hq', rfl, rfl, hF'⟩ := hF.app hap
      have hnew' := newA_objs (by repeat (first | exact Tail.nil _ | apply Tail.slot | apply Tail.loc)) hnd hnew
      refine VL_eff F' (emO bf bo bt be F.v O.v T.v F' O T) (by repeat (first | exact Tail.nil _ | apply Tail.slot | apply Tail.loc)) (emO_F ..) (emO_F ..) hnd hq' hnew' fun hnd1 => vc_sound (esc := [22]) ?_
      have hge1 := emO_get hnd1
      have hne1 := emO_ne hnd1
      simp [go_sem, hP, hgl, hn, hge1, hne1, ha, hOn]
      refine vcK_eff (x := T) (E := 5) (zs := [[dint a.kind, dint a.index, dint a.type.kind, .sl (a.type.args.map Ty.cells), .sl (a.args.map Tm.cells)]]) (fun T' => emO bf bo bt be F.v O.v T.v F' O T') rfl (by repeat (first | exact Tail.nil _ | apply Tail.slot | apply Tail.loc)) (emO_T ..) (fun _ => emO_T ..) hnd1 hT (free_append (E := 5) (B := 72) (zd := [dint 0, dint 0, dint 0, .sl [], .sl []]) rfl rfl (by rw [hn]; exact Nat.le_of_ble_eq_true rfl) (by simp [go_sem, hP]) (by decide) (by rw [hP]; rfl) (by simp [go_sem, hP, hgl, hn]) (by simp [go_sem, hP, hgl, hn]) (fun b hb => by simp [go_sem, hge1, hb]) hT.nil hT.len hT.le (by simp) (by simp [hTn]; unfold BIG; omega) hT.wid (by simp) (by rw [hP]; kernel_rfl) rfl) rfl ?_
      intro T' hT' hqT hnd2
      have hge2 := emO_get hnd2
      have hne2 := emO_ne hnd2
      simp only [go_sem, List.cons_append, List.nil_append]
      refine VL_boxT (agg := false) (b := bf) (c := F.v) (d := F'.v) (A := []) (B := (bo, [O.v]) :: (bt, [T.v]) :: (be, [emV bf bo bt be]) :: (F'.objs ++ (O.objs ++ T'.objs))) (emO bf bo bt be F'.v O.v T.v F' O T') (by repeat (first | exact Tail.nil _ | apply Tail.slot | apply Tail.loc)) rfl rfl hnd2 (by simp [go_sem]) (by simp [go_sem]) (by simp [go_sem, hP]) rfl rfl fun hnd3 => ?_
      simp only [List.cons_append, List.nil_append]
      refine VL_boxT (agg := false) (b := bt) (c := T.v) (d := T'.v) (A := [(bf, [F'.v]), (bo, [O.v])]) (B := (be, [emV bf bo bt be]) :: (F'.objs ++ (O.objs ++ T'.objs))) (emO bf bo bt be F'.v O.v T'.v F' O T') (by repeat (first | exact Tail.nil _ | apply Tail.slot | apply Tail.loc)) rfl rfl hnd3 (by simp [go_sem]) (by simp [go_sem]) (by simp [go_sem, hP]) rfl rfl fun hnd4 => ?_
      simp only [List.cons_append, List.nil_append]
      refine VL_nil (hK _ ?_)
      clear hK K
      have e1 : funPos os.length t.skel = [(os.length : Int)] := by rw [Tm.skel_eq, if_pos h2]; rfl
      have e2 : t.subs = [a] := by rw [Tm.subs_eq, if_pos h2, ha]
      refine W_sub [] (by simp [go_sem]) ?_ (by simp [go_sem]) (hrest (F', O, T') ⟨?_, ?_, ?_, hnd4⟩)
      · simp [go_sem, subLe_hs_self _ hnd4, ha, Tm.cells_eq]
      · rw [e1, ints_app]; exact hF'
      · simp only [if_pos h2, List.append_nil]; exact hO
      · rw [e2, List.map_append]; rw [List.map_cons, List.map_nil, Tm.cells_eq]; exact hT'
    · refine t_no ?_
      refine t_rg0 ?_
      refine t_a ?_
      have hcnt := Tm.count_eq t
      have hsh := (Tm.shapes_iff _).1 ((Bool.and_eq_true _ _ ▸ (Tm.shape_eq t ▸ hs : _ = true) : _ ∧ _).2)
      refine W_sub [] (by simp [go_sem]) ?_ (by simp [go_sem]) (W_rounds
        (fun x : Nat × RS × RS × RS => x.1 ≤ t.args.length ∧ x.2.1.is 1 (ints (fs ++ funPos os.length (Tm.skel.skels (t.args.take x.1)))) ∧ x.2.2.1.is 2 (rowsI (os ++ Tm.skel.skels (t.args.take x.1))) ∧ x.2.2.2.is 5 ((ts ++ Tm.subs.subss (t.args.take x.1)).map Tm.cells) ∧ ((emO bf bo bt be x.2.1.v x.2.2.1.v x.2.2.2.v x.2.1 x.2.2.1 x.2.2.2).map (·.1)).Nodup)
        (fun x => (.slot 1, .one (.v (ptr bf))) :: (.slot 2, .one (.v (ptr bo))) :: (.slot 3, .one (.v (ptr bt))) :: (.slot 4, .one (.v (ptr be))) :: (.slot 24, .one (.v (.sl (t.args.map Tm.cells)))) :: (.slot 25, .one (.v (dint t.args.length))) :: (.slot 26, .one (.v (dint x.1))) :: (.slot 5, .one (.loc 5 0)) :: (.loc 5, .row [.v (dint t.kind), .v (dint t.index), .v (dint t.type.kind), .v (.sl (t.type.args.map Ty.cells)), .v (.sl (t.args.map Tm.cells))]) :: heapSt (emO bf bo bt be x.2.1.v x.2.2.1.v x.2.2.2.v x.2.1 x.2.2.1 x.2.2.2))
        (fun x => t.args.length - x.1) (0, F, O, T) ⟨Nat.zero_le _, ?_, ?_, ?_, hnd⟩ ?_)
      · simp [go_sem, subLe_hs_self _ hnd]
      · simpa [Tm.skel.skels, funPos] using hF
      · simpa [Tm.skel.skels] using hO
      · simpa [Tm.subs.subss] using hT
      · rintro ⟨i, F1, O1, T1⟩ ⟨i1, i2, i3, i4, i5⟩ ihr
        simp only at i1 i2 i3 i4 i5
        have hg1 := emO_get i5
        rcases Nat.lt_or_ge i t.args.length with hlt | hgt
        · obtain ⟨x, hx⟩ : ∃ x, t.args[i]? = some x := ⟨_, List.getElem?_eq_getElem hlt⟩
          have hxm := List.mem_of_getElem? hx
          refine t_rg0 ?_
          refine t_yes ?_
          refine t_rg @hx ?_
          obtain ⟨ht1, hcx⟩ := counts_at hx
          have b1 := skels_le (t.args.take i)
          have b2 := subss_le (t.args.take i)
          have b3 := funPos_le os.length (Tm.skel.skels (t.args.take i))
          refine t_a ?_
          refine W_reg [] fun K hK => ?_
          simp [go_sem, hP, hgl, hn, hg1]
          repeat (refine ⟨by omega, ?_⟩)
          refine vcK_callVT hP hgl (f := 48) (fi := #[]) (ca := #[.pointer (some ⟨bf, 0, none⟩), .pointer (some ⟨bo, 0, none⟩), .pointer (some ⟨bt, 0, none⟩), .pointer (some ⟨be, 0, none⟩)]) (by simp [go_sem, emV]) (by simp [primOK]) (ih x hxm _ _ _ F1 O1 T1 (hsh x hxm) (by omega) (by rw [List.length_append]; omega) (by rw [List.length_append]; omega) (by rw [List.length_append]; omega) i2 i3 i4 i5) (by simp [go_sem]; rfl) (by simp [Tm.dv]) (by repeat (first | exact Tail.nil _ | apply Tail.slot | apply Tail.loc)) i5 (by rw [hn]; exact Nat.le_of_ble_eq_true rfl) rfl ?_
          rintro r ψ ⟨rfl, F2, O2, T2, q1, q2, q3, q4, rfl⟩
          refine ⟨q4, ?_⟩
          simp [go_sem]
          refine hK _ ?_
          clear hK K
          refine t_rg0 ?_
          refine t_b ?_
          refine W_sub [] (by simp [go_sem]) ?_ (by simp [go_sem]) (ihr (i + 1, F2, O2, T2) ⟨hlt, ?_, ?_, ?_, q4⟩ (by simp only; omega))
          · simp [go_sem, subLe_hs_self _ q4]
          · rw [ht1, Tm.skels_append, funPos_append]
            simpa [Tm.skel.skels] using q1
          · rw [ht1, Tm.skels_append]
            simpa [Tm.skel.skels] using q2
          · rw [ht1, Tm.subss_append]
            simpa [Tm.subs.subss] using q3
        · have hie : i = t.args.length := by omega
          refine t_rg0 ?_
          refine t_no ?_
          refine t_b ?_
          have e1 : funPos os.length t.skel = funPos os.length (Tm.skel.skels t.args) := by rw [Tm.skel_eq, if_neg h2, funPos_append]; simp [funPos, h2]
          have e2 : t.subs = Tm.subs.subss t.args := by rw [Tm.subs_eq, if_neg h2]
          rw [hie, List.take_length] at i2 i3 i4
          refine W_sub [] (by simp [go_sem]) ?_ (by simp [go_sem]) (hrest (F1, O1, T1) ⟨?_, ?_, ?_, i5⟩)
          · simp [go_sem, subLe_hs_self _ i5]
          · rw [e1]; exact i2
          · simp only [if_neg h2]; exact i3
          · rw [e2]; exact i4
  · rintro ⟨F1, O1, T1⟩ ⟨i2, i3, i4, i5⟩
    simp only at i2 i3 i4 i5
    have hg1 := emO_get i5
    have hn1 := emO_ne i5
    obtain ⟨hk1, hk2⟩ := kind_in hs
    have hOn : O1.n ≤ os.length + t.count := by
      rw [i3.n_eq]
      simp only [rowsI, List.length_map, List.length_append]
      have b1 := skels_le t.args
      have hcnt := Tm.count_eq t
      split
      · simp
      · omega
    refine t_a ?_
    refine W_regT (by rw [hP]; exact mixed) 8 (by decide) (by rfl) [] [42] fun K hK => ?_
    simp [go_sem, hP, hgl, hn, hg1]
    refine t_c trivial (byterm_okI hop t.kind hk1 hk2) ?_
    repeat (refine ⟨by omega, ?_⟩)
    refine ⟨by rfl, ?_⟩
    refine vcK_eff (x := O1) (E := 2) (zs := [[dint t.kind, dint t.index]]) (fun O2 => emO bf bo bt be F1.v O1.v T1.v F1 O2 T1) rfl (by repeat (first | exact Tail.nil _ | apply Tail.slot | apply Tail.loc)) (emO_O ..) (fun _ => emO_O ..) i5 i3 (free_append (E := 2) (B := 16) (zd := [dint 0, dint 0]) rfl rfl (by rw [hn]; exact Nat.le_of_ble_eq_true rfl) (by simp [go_sem, hP]) (by decide) (by rw [hP]; rfl) (by simp [go_sem, hP, hgl, hn]) (by simp [go_sem, hP, hgl, hn]) (fun b hb => by simp [go_sem, hg1, hb]) i3.nil i3.len i3.le (by simp) (by simp; unfold BIG; omega) i3.wid (by simp) (by rw [hP]; kernel_rfl) rfl) rfl ?_
    intro O2 hO2 hq hnd2
    simp only [go_sem, List.cons_append, List.nil_append]
    refine VL_boxT (agg := false) (b := bo) (c := O1.v) (d := O2.v) (A := [(bf, [F1.v])]) (B := (bt, [T1.v]) :: (be, [emV bf bo bt be]) :: (F1.objs ++ (O2.objs ++ T1.objs))) (emO bf bo bt be F1.v O2.v T1.v F1 O2 T1) (by repeat (first | exact Tail.nil _ | apply Tail.slot | apply Tail.loc)) rfl rfl hnd2 (by simp [go_sem]) (by simp [go_sem]) (by simp [go_sem, hP]) rfl rfl fun hnd3 => ?_
    simp only [List.cons_append, List.nil_append]
    refine VL_nil (hK _ ?_)
    clear hK K
    refine t_a ?_
    refine W_endR hP hf hfn (.tup []) (emO bf bo bt be F1.v O2.v T1.v F1 O2 T1) (by simp [go_sem, hP, hgl, hn]) ?_ hnd3 ?_ hR.2
    · repeat (first | exact objsIn_self hnd3 | refine objsIn_slot ?_ | refine objsIn_loc ?_)
    · rw [hR.1]
      refine ⟨rfl, F1, O2, T1, i2, ?_, i4, hnd3, rfl⟩
      have e1 : t.skel = (if t.kind = 2 then [] else Tm.skel.skels t.args) ++ [(t.kind, t.index)] := by
        rw [Tm.skel_eq]
        by_cases h2 : t.kind = 2
        · simp [h2]
        · rw [if_neg h2, if_neg h2]
      rw [e1, ← List.append_assoc, rowsI_app]
      exact hO2
end Go.Proofs.YtmdjiajbnifjpaaDoor.Lift

/-
  Package code: Compile, walked: the rounds over what is to be laid.
-/
namespace Go.Proofs.YtmdjiajbnifjpaaDoor.Lift
set_option linter.unusedSimpArgs false
set_option linter.unusedVariables false
set_option linter.unnecessarySimpa false
open Go
variable {gl : Globs}

theorem bfs_len (t : Tm) : (Tm.bfs [t]).length ≤ t.count := by
  have h := Tm.bfs_count [t]
  simp only [Tm.count.counts, Nat.add_zero] at h
  rw [← h]
  generalize Tm.bfs [t] = l
  induction l with
  | nil => exact Nat.zero_le _
  | cons a r ih => have := Tm.skel_pos a; simp only [List.map_cons, List.flatten_cons, List.length_append, List.length_cons]; omega
theorem bfs_mem : ∀ (q : List Tm) (x : Tm), x ∈ Tm.bfs q → x.count ≤ Tm.count.counts q
  | [], x, h => by rw [Tm.bfs_nil] at h; cases h
  | t :: r, x, h => by
    rw [Tm.bfs_cons] at h
    have h1 := Tm.skel_count t
    have h2 := Tm.skel_pos t
    rcases List.mem_cons.1 h with rfl | h
    · simp only [Tm.count.counts]; omega
    · have := bfs_mem (r ++ t.subs) x h
      rw [Tm.counts_app] at this
      simp only [Tm.count.counts]
      omega
termination_by q => Tm.count.counts q
decreasing_by
  have := Tm.skel_count t
  have := Tm.skel_pos t
  simp only [Tm.counts_app, Tm.count.counts]
  omega
/-- what is laid before round i -/
def Tm.laid (t : Tm) (i : Nat) : List (List Ins) := ((Tm.bfs [t]).take i).map Tm.skel
/-- what stands in todo before round i -/
def Tm.todo (t : Tm) (i : Nat) : List Tm := t :: ((Tm.bfs [t]).take i).flatMap Tm.subs
theorem laid_length (t : Tm) {i : Nat} (h : i ≤ (Tm.bfs [t]).length) : (t.laid i).length = i := by simp [Tm.laid, h]
theorem todo_at (t : Tm) {i : Nat} (h : i ≤ (Tm.bfs [t]).length) :
    (i = (Tm.bfs [t]).length ∧ (t.todo i).length = i) ∨ ∃ x, i < (t.todo i).length ∧ (t.todo i)[i]? = some x ∧ (Tm.bfs [t])[i]? = some x ∧ t.laid (i + 1) = t.laid i ++ [x.skel] ∧ t.todo (i + 1) = t.todo i ++ x.subs ∧ i + 1 ≤ (Tm.bfs [t]).length := by
  obtain ⟨r, h1, h2⟩ := bfs_take i [t] h
  have h1' : (Tm.bfs [t]).take i ++ r = t.todo i := h1
  have hl : ((Tm.bfs [t]).take i).length = i := by simp [h]
  cases r with
  | nil =>
    rw [Tm.bfs_nil, List.append_nil] at h2
    rw [List.append_nil] at h1'
    refine .inl ⟨?_, by rw [← h1', hl]⟩
    have := congrArg List.length h2
    rw [hl] at this
    exact this.symm
  | cons x r =>
    have hx : (Tm.bfs [t])[i]? = some x := by
      rw [h2, List.getElem?_append_right (by omega), hl, Nat.sub_self, Tm.bfs_cons]; rfl
    have ht : (Tm.bfs [t]).take (i + 1) = (Tm.bfs [t]).take i ++ [x] := by rw [List.take_add_one, hx]; rfl
    refine .inr ⟨x, ?_, ?_, hx, ?_, ?_, (List.getElem?_eq_some_iff.1 hx).1⟩
    · rw [← h1', List.length_append, hl]; simp
    · rw [← h1', List.getElem?_append_right (by omega), hl, Nat.sub_self]; rfl
    · simp [Tm.laid, ht]
    · simp [Tm.todo, ht]
theorem todo_bfs (t : Tm) (i : Nat) : (t.todo i).length ≤ t.count := by
  have h1 : (Tm.bfs [t]).length = 1 + ((Tm.bfs [t]).flatMap Tm.subs).length := by
    conv => lhs; rw [Tm.bfs_eq]
    simp; omega
  have h2 : (((Tm.bfs [t]).take i).flatMap Tm.subs).length ≤ ((Tm.bfs [t]).flatMap Tm.subs).length := by
    conv => rhs; rw [← List.take_append_drop i (Tm.bfs [t])]
    rw [List.flatMap_append, List.length_append]
    exact Nat.le_add_right _ _
  have h3 := bfs_len t
  simp only [Tm.todo, List.length_cons]
  omega
theorem laid_le (t : Tm) {i : Nat} (h : i ≤ (Tm.bfs [t]).length) : (lay (t.laid i)).length ≤ t.count + i := by
  rw [lay_length, laid_length t h]
  have h1 := Tm.bfs_count [t]
  simp only [Tm.count.counts, Nat.add_zero] at h1
  have h2 : ((t.laid i).flatten).length ≤ (((Tm.bfs [t]).map Tm.skel).flatten).length := by
    conv => rhs; rw [← List.take_append_drop i (Tm.bfs [t])]
    rw [List.map_append, List.flatten_append, List.length_append]
    exact Nat.le_add_right _ _
  omega
theorem todo_funs (t : Tm) (h : t.shape = true) (i : Nat) : (t.todo i).length = 1 + funs (lay (t.laid i)) := by
  rw [Tm.todo, Tm.laid, funs_lay_skel _ fun x hx => bfs_shape [t] (by simpa using h) x (List.mem_of_mem_take hx)]
  simp; omega
/-- a function's number is put in: the i-th function has the place of block i + 1 -/
theorem partC_put (bs : List (List Ins)) {m : Nat} (hb : bs.length = m + 1) (hm : m < funs (lay bs)) : ∃ i : Nat, (funPos 0 (lay bs))[m]? = some (i : Int) ∧ i < (partC bs).length ∧ (∃ a, (partC bs)[i]? = some (2, a)) ∧
    (partC bs).set i (2, ((lay bs).length : Nat)) = fillF (fun j => if j < m + 1 then ((startAt bs (j + 1) : Nat) : Int) else 0) 0 (lay bs) := by
  obtain ⟨i, h1, h2, h3, h4⟩ := funPos_set (fun j => if j + 1 < bs.length then ((startAt bs (j + 1) : Nat) : Int) else 0) (lay bs) 0 0 m hm
  refine ⟨i, by simpa using h1, by rw [partC, fillF_length]; exact h2, ⟨_, h3⟩, ?_⟩
  rw [partC, h4]
  refine fillF_congr fun j hj => ?_
  simp only [Nat.zero_add]
  by_cases e : j = m
  · subst e
    rw [if_pos rfl, if_pos (by omega)]
    have := startAt_all bs
    rw [hb] at this
    rw [this]
  · rw [if_neg e]
    by_cases h : j + 1 < bs.length
    · rw [if_pos h, if_pos (by omega)]
    · rw [if_neg h, if_neg (by omega)]
/-- a block is laid -/
theorem partC_lay (bs : List (List Ins)) (x : Tm) (hx : x.shape = true) {m : Nat} (hb : bs.length = m) (hm : m ≤ funs (lay bs)) :
    fillF (fun j => if j < m then ((startAt bs (j + 1) : Nat) : Int) else 0) 0 (lay bs) ++ x.skel ++ [(14, 0)] = partC (bs ++ [x.skel]) := by
  have h0 : ∀ (p : Nat → Int) (c : List Ins) (j : Nat), (∀ y ∈ c, y.1 = 2 → y.2 = 0) → (∀ k, j ≤ k → p k = 0) → fillF p j c = c := by
    intro p c
    induction c with
    | nil => intro _ _ _; rfl
    | cons y r ih =>
      obtain ⟨o, a⟩ := y
      intro j h1 h2
      simp only [fillF]
      split
      · rename_i ho
        have := h1 (o, a) (by simp) ho
        simp only at this
        rw [h2 j (Nat.le_refl _), ih (j + 1) (fun y hy => h1 y (by simp [hy])) (fun k hk => h2 k (by omega)), ho, this]
      · rw [ih j (fun y hy => h1 y (by simp [hy])) h2]
  rw [partC, lay_append, lay_one, fillF_append, Nat.zero_add, List.append_assoc]
  congr 1
  · refine fillF_congr fun j hj => ?_
    simp only [Nat.zero_add, List.length_append, List.length_singleton, hb]
    by_cases h : j < m
    · rw [if_pos h, if_pos (by omega), startAt_app _ _ (by omega)]
    · rw [if_neg h, if_neg (by omega)]
  · symm
    refine h0 _ _ _ (fun y hy h2 => ?_) fun k hk => ?_
    · rcases List.mem_append.1 hy with hy | hy
      · have := (skel_ok x hx y hy).2.2
        rw [if_neg (by omega)] at this
        exact this
      · rw [List.mem_singleton.1 hy]
    · rw [if_neg (by simp [hb]; omega)]
theorem partC_all (t : Tm) (h : t.shape = true) : partC (t.laid (Tm.bfs [t]).length) = t.codeN := by
  have e : t.laid (Tm.bfs [t]).length = t.blocks := by rw [Tm.laid, List.take_length]; rfl
  rw [e, partC, Tm.codeN, prog]
  have hf := blocks_funs t h
  refine fillF_congr fun j hj => ?_
  simp only [Nat.zero_add]
  rw [if_pos (by omega)]
theorem funPos_lay (bs : List (List Ins)) (b : List Ins) : funPos 0 (lay (bs ++ [b])) = funPos 0 (lay bs) ++ funPos (lay bs).length b := by
  rw [lay_append, lay_one, funPos_append, funPos_append, Nat.zero_add]
  simp [funPos]
end Go.Proofs.YtmdjiajbnifjpaaDoor.Lift

namespace Go.Proofs.YtmdjiajbnifjpaaDoor.Lift
set_option linter.unusedSimpArgs false
set_option linter.unusedVariables false
set_option linter.unnecessarySimpa false
open Go
variable {gl : Globs}

/-- lengths of a list's numbers, until they are too many -/
def lenL : List Int → Int → Int × Bool
  | [], n => (n, false)
  | x :: r, n => if 4096 < n + (1 + sizeI x) then (n + (1 + sizeI x), true) else lenL r (n + (1 + sizeI x))

/-- no negative numbers -/
def Val.pos (v : Val) : Prop := 0 ≤ v.num ∧ ∀ n ∈ v.list, (0 : Int) ≤ n
/-- the length ahead of the parts -/
def Val.head (v : Val) : Int := if v.kind = 1 then sizeI v.num else if v.kind = 2 then (lenL v.list 1).1 else 1
end Go.Proofs.YtmdjiajbnifjpaaDoor.Lift

namespace Go.Proofs.YtmdjiajbnifjpaaDoor.Lift
set_option linter.unusedSimpArgs false
set_option linter.unusedVariables false
set_option linter.unnecessarySimpa false
open Go
variable {gl : Globs}

def Val.checkN (v : Val) : Int := if v.nodesN.2 = true then if v.nodesN.1 > 64 then 4 else 0 else 2

end Go.Proofs.YtmdjiajbnifjpaaDoor.Lift

/-
  Plain facts: the types of terms.
-/
namespace Go.Proofs.YtmdjiajbnifjpaaDoor.Lift
set_option linter.unusedSimpArgs false
set_option linter.unusedVariables false
set_option linter.unnecessarySimpa false
open Go

def zeroTy : Ty := Ty.mk 0 []
def Ty.arg (t : Ty) (i : Nat) : Ty := t.args.getD i zeroTy
def Ty.ok (t : Ty) : Prop := t.shape = true ∧ t.count ≤ 64

theorem Ty.checkN_iff (t : Ty) : t.checkN = 0 ↔ t.ok := by
  unfold Ty.checkN Ty.ok
  split
  · split
    · rename_i h; simp; omega
    · rename_i h; simp; constructor <;> first | assumption | omega
  · rename_i h; simp [h]

namespace Tm
set_option linter.unusedSimpArgs false
set_option linter.unusedVariables false
set_option linter.unnecessarySimpa false
end Tm

theorem Ty.ok_arg {t : Ty} (h : t.ok) {a : Ty} (ha : a ∈ t.args) : a.ok := by
  obtain ⟨h1, h2⟩ := h
  rw [Ty.shape_eq, Bool.and_eq_true, Ty.shapes_iff] at h1
  have := Ty.count_mem ha
  rw [Ty.count_eq] at h2
  exact ⟨h1.2 a ha, by omega⟩

theorem Ty.ok_two {t : Ty} (h : t.ok) (hk : t.kind = 3 ∨ t.kind = 4) : t.args.length = 2 := by
  obtain ⟨h1, h2⟩ := h
  rw [Ty.shape_eq, Bool.and_eq_true] at h1
  rcases hk with hk | hk <;> simpa [tyKind, hk] using h1.1

theorem Ty.ok_args {t : Ty} (h : t.ok) (hk : t.kind = 3 ∨ t.kind = 4) : ∃ a b, t.args = [a, b] ∧ a.ok ∧ b.ok ∧ t.arg 0 = a ∧ t.arg 1 = b := by
  have h2 := Ty.ok_two h hk
  match ha : t.args, h2 with
  | [a, b], _ => exact ⟨a, b, rfl, Ty.ok_arg h (by rw [ha]; simp), Ty.ok_arg h (by rw [ha]; simp), by simp [Ty.arg, ha], by simp [Ty.arg, ha]⟩

/-- what a valid term says about its node -/
theorem Tm.shape_node {t : Tm} (h : t.shape = true) : ((t.args.length : Int) = arityI t.kind) ∧ 0 ≤ t.index ∧ (t.kind = 1 ∨ t.index = 0) ∧ (if t.kind = 2 ∨ t.kind = 6 ∨ t.kind = 9 then t.type.ok else t.type.zero = true) ∧ ∀ a ∈ t.args, a.shape = true := by
  rw [Tm.shape_eq, Bool.and_eq_true, Tm.shapes_iff] at h
  obtain ⟨h1, h2⟩ := h
  simp only [tmKind, Bool.and_eq_true, Bool.or_eq_true, decide_eq_true_eq, tyOfKind] at h1
  refine ⟨h1.1.1.1, h1.1.1.2, h1.1.2, ?_, h2⟩
  by_cases hk : t.kind = 2 ∨ t.kind = 6 ∨ t.kind = 9
  · rw [if_pos hk] at h1 ⊢; exact (Ty.checkN_iff _).1 (by simpa using h1.2)
  · rw [if_neg hk] at h1 ⊢; exact h1.2

end Go.Proofs.YtmdjiajbnifjpaaDoor.Lift

namespace Go.Proofs.YtmdjiajbnifjpaaDoor.Lift
set_option linter.unusedSimpArgs false
set_option linter.unusedVariables false
set_option linter.unnecessarySimpa false
open Go
variable {gl : Globs}

theorem ref01_fun_ok (a b : Ty) : Con1 Tryd.prog gl 46 [a.dv, b.dv] [] (Ty.mk 4 [a, b]).dv [] := by
  refine t_in Tryd.func46 ?_
  intro X hP hgl hf hfn hn hR hids hfit
  refine t_g0 ?_
  refine t_c2 trivial (ref01_copy_ok a) (ref01_copy_ok b) ?_
  refine t_r ?_
  simp [go_sem, hP, hgl, hn] <;> (try omega)
  all_goals exact t_f

theorem nat_v : (Ty.mk 1 []).dv = .agg [dint 1, .sl []] := rfl
theorem list_v : (Ty.mk 2 []).dv = .agg [dint 2, .sl []] := rfl

end Go.Proofs.YtmdjiajbnifjpaaDoor.Lift

namespace Go.Proofs.YtmdjiajbnifjpaaDoor.Lift
set_option linter.unusedSimpArgs false
set_option linter.unusedVariables false
set_option linter.unnecessarySimpa false
open Go
variable {gl : Globs}

theorem Tm.checkN_iff (t : Tm) : t.checkN = 0 ↔ t.shape = true ∧ t.count ≤ 4096 := by
  unfold Tm.checkN
  split
  · split
    · rename_i h; simp; omega
    · rename_i h; simp; constructor <;> first | assumption | omega
  · rename_i h; simp [h]

end Go.Proofs.YtmdjiajbnifjpaaDoor.Lift

/-
  Package code: Compile, walked.
-/
namespace Go.Proofs.YtmdjiajbnifjpaaDoor.Lift
set_option linter.unusedSimpArgs false
set_option linter.unusedVariables false
set_option linter.unnecessarySimpa false
open Go
variable {gl : Globs}

set_option maxHeartbeats 1000000 in
set_option maxRecDepth 10000 in
theorem compile_ok (har : globOf gl 1 = some arEls) (hop : globOf gl 0 = some opEls) (t : Tm) (ht : t.tys) (hc : t.count ≤ 1000000) :
    Con1 Tryd.prog gl 17 [t.dv] [] (.tup [.sl (rowsI t.compN.1), dint t.compN.2]) [] := by
  refine t_in Tryd.func17 ?_
  intro X hP hgl hf hfn hn hR hids hfit
  have hfo := Tm.fold t
  refine t_g0 ?_
  refine t_c1 @hfo (termscheck_ok har t ht (by omega)) ?_
  by_cases h : t.checkN = 0
  · have hsh := ((Tm.checkN_iff t).1 h).1
    refine t_rg @h ?_
    refine t_no ?_
    refine t_rg0 ?_
    refine t_rg0 ?_
    refine t_a ?_
    refine W_reg [16] fun K hK => ?_
    simp [go_sem, hP, hgl, hn, hfo]
    refine vcK_litX (E := 5) (els := [[dint t.kind, dint t.index, dint t.type.kind, .sl (t.type.args.map Ty.cells), .sl (t.args.map Tm.cells)]]) (by simp [go_sem, hP]; rfl) (by simp [go_sem, hP, hgl, hn]) ⟨rfl, by decide⟩ (by rw [hn]; exact Nat.le_of_ble_eq_true rfl) (by rfl) ?_
    intro bT hbT hwT
    simp [go_sem] at hbT
    simp [go_sem, hP, hgl, hn]
    refine hK _ ?_
    clear hK K
    refine t_rg0 ?_
    refine W_expose 6 (by simp [go_sem]; rfl) ?_
    intro bf hbf
    simp [go_sem] at hbf ⊢
    refine W_expose 5 (by simp [go_sem]; rfl) ?_
    intro bo hbo
    simp [go_sem] at hbo ⊢
    refine W_expose 7 (by simp [go_sem]; rfl) ?_
    intro bt hbt
    simp [go_sem] at hbt ⊢
    refine W_expose 8 (by simp [go_sem]; rfl) ?_
    intro be hbe
    simp [go_sem] at hbe ⊢
    refine W_nilraw ?_
    simp [nlz, nlzLV, nlzRow, nlzSV, nlzRow_arr]
    have hd : (bf ≠ bo ∧ bf ≠ bt ∧ bf ≠ be ∧ bo ≠ bt ∧ bo ≠ be ∧ bt ≠ be) ∧ (bo ≠ bf ∧ bt ≠ bf ∧ be ≠ bf ∧ bt ≠ bo ∧ be ≠ bo ∧ be ≠ bt) ∧ (bT ≠ bf ∧ bT ≠ bo ∧ bT ≠ bt ∧ bT ≠ be) ∧ (bf ≠ bT ∧ bo ≠ bT ∧ bt ≠ bT ∧ be ≠ bT) := by
      refine ⟨⟨?_, ?_, ?_, ?_, ?_, ?_⟩, ⟨?_, ?_, ?_, ?_, ?_, ?_⟩, ⟨?_, ?_, ?_, ?_⟩, ⟨?_, ?_, ?_, ?_⟩⟩ <;> intro e <;> subst e <;> simp at hbf hbo hbt hbe
    refine t_rg @hd ?_
    refine t_rg @hd ?_
    refine t_a ?_
    have hnd0 : ((emO bf bo bt be (RS.v ⟨none, 0, 0, []⟩) (RS.v ⟨none, 0, 0, []⟩) (RS.v ⟨some bT, 1, 1, [t.cells]⟩) ⟨none, 0, 0, []⟩ ⟨none, 0, 0, []⟩ ⟨some bT, 1, 1, [t.cells]⟩).map (·.1)).Nodup := by
      simp [emO, RS.objs, hd]
    refine W_sub [] (by simp [go_sem]) ?_ (by simp [go_sem]) (W_rounds
      (fun x : Nat × RS × RS × RS => x.1 ≤ (Tm.bfs [t]).length ∧ x.2.1.is 1 (ints (funPos 0 (lay (t.laid x.1)))) ∧ x.2.2.1.is 2 (rowsI (partC (t.laid x.1))) ∧ x.2.2.2.is 5 ((t.todo x.1).map Tm.cells) ∧ ((emO bf bo bt be x.2.1.v x.2.2.1.v x.2.2.2.v x.2.1 x.2.2.1 x.2.2.2).map (·.1)).Nodup)
      (fun x => (.slot 5, .one (.v (ptr bo))) :: (.slot 6, .one (.v (ptr bf))) :: (.slot 7, .one (.v (ptr bt))) :: (.slot 8, .one (.v (ptr be))) :: (.slot 9, .one (.v (dint x.1))) :: heapSt (emO bf bo bt be x.2.1.v x.2.2.1.v x.2.2.2.v x.2.1 x.2.2.1 x.2.2.2))
      (fun x => (Tm.bfs [t]).length - x.1) (0, ⟨none, 0, 0, []⟩, ⟨none, 0, 0, []⟩, ⟨some bT, 1, 1, [t.cells]⟩) ⟨Nat.zero_le _, ?_, ?_, ?_, hnd0⟩ ?_)
    · simp [go_sem, emO, RS.objs, emV, hd, Tm.cells_eq, arrRow]
    · exact ⟨fun _ => ⟨rfl, rfl⟩, rfl, by simp, Nat.le_refl _, by simp [Tm.laid, lay, funPos, ints]⟩
    · exact ⟨fun _ => ⟨rfl, rfl⟩, rfl, by simp, Nat.le_refl _, by simp [Tm.laid, lay, partC, fillF, rowsI]⟩
    · exact ⟨(fun h => nomatch h), rfl, by simp [Tm.cells_eq], Nat.le_refl _, by simp [Tm.todo]⟩
    · rintro ⟨i, F1, O1, T1⟩ ⟨i1, i2, i3, i4, i5⟩ ihr
      simp only at i1 i2 i3 i4 i5
      have hg1 := emO_get i5
      have hn1 := emO_ne i5
      have hTn : T1.n = (t.todo i).length := by rw [i4.n_eq, List.length_map]
      have hOn : O1.n = (lay (t.laid i)).length := by rw [i3.n_eq]; simp [rowsI, partC, fillF_length]
      have hFn : F1.n = funs (lay (t.laid i)) := by rw [i2.n_eq]; simp [ints, funPos_length]
      have htl := todo_bfs t i
      have hll := laid_le t i1
      have hbl := bfs_len t
      have hb1 : T1.n ≤ 2147483648 := by omega
      have hb2 : O1.n ≤ 2147483648 := by omega
      rcases todo_at t i1 with ⟨hie, hlen⟩ | ⟨x, hlt, hx, hxb, hl1, ht1, hi1⟩
      · rw [hlen] at hTn
        refine t_rg (j2 @hg1 @hTn) ?_
        refine t_no ?_
        have hall := partC_all t hsh
        rw [← hie] at hall
        rw [hall] at i3
        have hOc : O1.n = t.codeN.length := by rw [i3.n_eq]; simp [rowsI]
        by_cases h4 : 4096 < t.codeN.length
        · refine t_g (j2 @hg1 (j2 @hOc (j2 @h4 @hb2))) ?_
          refine t_r ?_
          simp [go_sem, hP, hgl, hn, Tm.compN, h, h4, rowsI] <;> (try omega)
        · have hne : rowsI t.codeN ≠ [] := by
            rw [code_lay]
            intro e
            have := congrArg List.length e
            simp only [rowsI, List.length_map, lay_length, List.length_nil] at this
            have h1 := blocks_ne t
            have h2 : t.code.length = t.blocks.length := fillB_length _ _ _
            exact h1 (List.length_eq_zero_iff.1 (by omega))
          obtain ⟨aO, haO⟩ := i3.there hne
          have hga := hg1.2.2.2.2.2.1 aO haO
          refine t_g (j2 @hg1 (j2 @hOc (j2 @h4 @hb2))) ?_
          refine t_a ?_
          refine W_sub [] (s' := [(.slot 2, .one (.v O1.v)), (.slot 3, .one (.v (dint 0))), (.heap aO, .row (arrRow O1.full))]) (by simp [go_sem]) (by simp [go_sem, hga, rowLe_arrZ]) (by simp [go_sem]) ?_
          refine W_freezeN (b := aO) (E := 2) (full := O1.full) O1.n (by simp [go_sem]) i3.wid (by rw [i3.len]; exact i3.le) (by unfold BIG; omega) (by rw [hids]; rfl) ?_
          have hle := i3.le
          have hvv : frzSV aO (rowsI t.codeN) (.v O1.v) = .v (.sl (rowsI t.codeN)) := by
            rw [← i3.els]
            unfold frzSV RS.v rawQ
            rw [haO]
            simp only [Option.map_some, List.length_take, i3.len]
            rw [if_pos ⟨trivial, by omega, hle⟩]
          rw [i3.els]
          have hv0 : frzSV aO (rowsI t.codeN) (.v (.prim (.int .i64 0))) = .v (dint 0) := rfl
          simp [go_sem, frz, frzLV, hvv, hv0]
          refine t_r ?_
          simp [go_sem, hP, hgl, hn, Tm.compN, h, h4] <;> (try omega)
      · have hlt' : (i : Int) < ((t.todo i).length : Nat) := by omega
        refine t_rg (j2 @hg1 (j2 @hTn @hlt')) ?_
        refine t_yes ?_
        refine t_rg0 ?_
        have hxs := bfs_shape [t] (by simpa using hsh) x (List.mem_of_getElem? hxb)
        have hxc : x.count ≤ t.count := by
          have := bfs_mem [t] x (List.mem_of_getElem? hxb)
          simpa [Tm.count.counts] using this
        have hfun := todo_funs t hsh i
        apply W_cutM (fun O2 : RS => O2.is 2 (rowsI (fillF (fun j => if j < i then ((startAt (t.laid i) (j + 1) : Nat) : Int) else 0) 0 (lay (t.laid i)))) ∧ ((emO bf bo bt be F1.v O2.v T1.v F1 O2 T1).map (·.1)).Nodup)
          (fun O2 => (.slot 5, .one (.v (ptr bo))) :: (.slot 6, .one (.v (ptr bf))) :: (.slot 7, .one (.v (ptr bt))) :: (.slot 8, .one (.v (ptr be))) :: (.slot 9, .one (.v (dint i))) :: heapSt (emO bf bo bt be F1.v O2.v T1.v F1 O2 T1))
        · intro hrest
          rcases Nat.eq_zero_or_pos i with h0 | h0
          · subst h0
            refine t_no ?_
            refine t_b ?_
            refine W_sub [] (by simp [go_sem]) ?_ (by simp [go_sem]) (hrest O1 ⟨?_, i5⟩)
            · simp [go_sem, subLe_hs_self _ i5]
            · simpa [Tm.laid, partC, lay, fillF] using i3
          · obtain ⟨m, rfl⟩ : ∃ m, i = m + 1 := ⟨i - 1, by omega⟩
            obtain ⟨p, p1, p2, ⟨a0, p3⟩, p4⟩ := partC_put (t.laid (m + 1)) (laid_length t i1) (by omega : m < funs (lay (t.laid (m + 1))))
            have hFe : (ints (funPos 0 (lay (t.laid (m + 1)))))[m]? = some [dint (p : Int)] := by simp [ints, p1]
            have hOe : (rowsI (partC (t.laid (m + 1))))[p]? = some [dint 2, dint a0] := by simp [rowsI, p3, Ins.row]
            obtain ⟨aF, haF⟩ := i2.there (by intro e; rw [e] at hFe; cases hFe)
            obtain ⟨aO, haO⟩ := i3.there (by intro e; rw [e] at hOe; cases hOe)
            have hF0 := i2.at hFe
            have hO0 := i3.at hOe
            have hFc : (arrRow F1.full)[m]? = some (.v (dint (p : Int))) := by
              have := arrRow_cell (E := 1) i2.wid hF0 (j := 0) rfl
              simpa using this
            have hFv : F1.v = rawS aF F1.n F1.cap := by unfold RS.v rawQ; rw [haF]; rfl
            have hOv : O1.v = rawS aO O1.n O1.cap := by unfold RS.v rawQ; rw [haO]; rfl
            have hpl : p < O1.n := by rw [i3.n_eq]; simpa [rowsI] using p2
            have hol : (arrRow O1.full).length = O1.cap * 2 := by rw [arrRow_len i3.wid, i3.len]
            have hoc := i3.le
            have hmF : m < F1.n := by omega
            have hgF := hg1.2.2.2.2.1 aF haF
            have hgO := hg1.2.2.2.2.2.1 aO haO
            have hgbf := hg1.1
            have hgbo := hg1.2.1
            refine t_yes ?_
            refine t_a ?_
            generalize hφ : emO bf bo bt be F1.v O1.v T1.v F1 O1 T1 = φ1 at hgF hgO hgbf hgbo i5 ⊢
            refine W_regT (by rw [hP]; exact mixed) 8 (by decide) (by rfl) [] [] fun K hK => ?_
            simp [go_sem, hP, hgl, hn, hgF, hgO, hgbf, hgbo, hFv, hOv, hFc, hb2]
            refine ⟨by omega, by omega, by rfl, hpl, by omega, hK _ ?_⟩
            clear hK K
            have hob1 : O1.objs = [(aO, O1.full.flatten)] := by unfold RS.objs; rw [haO]
            have hob2 : RS.objs ⟨O1.q, O1.n, O1.cap, O1.full.set p [dint 2, dint (O1.n : Nat)]⟩ = [(aO, (O1.full.set p [dint 2, dint (O1.n : Nat)]).flatten)] := by unfold RS.objs; rw [haO]
            refine t_b ?_
            refine W_putT (φ := φ1) (A := [(bf, [F1.v]), (bo, [O1.v]), (bt, [T1.v]), (be, [emV bf bo bt be])] ++ F1.objs) (B := T1.objs) (c := O1.full.flatten) (c' := (O1.full.set p [dint 2, dint (O1.n : Nat)]).flatten) (emO bf bo bt be F1.v O1.v T1.v F1 ⟨O1.q, O1.n, O1.cap, O1.full.set p [dint 2, dint (O1.n : Nat)]⟩ T1) (by repeat (first | exact TailD.nil _ _ | apply TailD.slot | apply TailD.loc)) (by rw [← hφ, emO_O, hob1]; rfl) (by rw [emO_O, hob2]; rfl) i5 ?_ fun hnd2 => ?_
            · have := put_cell i3.wid hO0 (j := 1) (by decide) (dint (O1.n : Nat))
              simpa [arrRow] using this
            · refine W_sub [] (by simp [go_sem]) ?_ (by simp [go_sem]) (hrest ⟨O1.q, O1.n, O1.cap, O1.full.set p [dint 2, dint (O1.n : Nat)]⟩ ⟨?_, hnd2⟩)
              · simp [go_sem, subLe_hs_self _ hnd2]
              · have hset := i3.set (i := p) (e := [dint 2, dint (O1.n : Nat)]) (by simpa [rowsI] using p2) rfl
                have e2 : (rowsI (partC (t.laid (m + 1)))).set p [dint 2, dint (O1.n : Nat)] = rowsI ((partC (t.laid (m + 1))).set p (2, (O1.n : Nat))) := by
                  simp [rowsI, List.map_set, Ins.row]
                rw [e2, hOn, p4] at hset
                rw [hOn]
                exact hset
        · rintro O2 ⟨o1, o2⟩
          have hg2 := emO_get o2
          have hxe : ((t.todo i).map Tm.cells)[i]? = some x.cells := by rw [List.getElem?_map, hx]; rfl
          obtain ⟨aT, haT⟩ := i4.there (by intro e; rw [e] at hxe; cases hxe)
          have hT0 := i4.at hxe
          have hrd := arrRow_rd i4.wid hT0
          rw [Tm.cells_eq x] at hrd
          have hfx := Tm.fold x
          have hTv : T1.v = rawS aT T1.n T1.cap := by unfold RS.v rawQ; rw [haT]; rfl
          have hgT := hg2.2.2.2.2.2.2 aT haT
          have hgbt := hg2.2.2.1
          have hgbe := hg2.2.2.2.1
          have hos : (fillF (fun j => if j < i then ((startAt (t.laid i) (j + 1) : Nat) : Int) else 0) 0 (lay (t.laid i))).length = (lay (t.laid i)).length := fillF_length _ _ _
          have hfl : (funPos 0 (lay (t.laid i))).length = funs (lay (t.laid i)) := funPos_length _ _
          have hcon := emit_ok hop x bf bo bt be (funPos 0 (lay (t.laid i))) (fillF (fun j => if j < i then ((startAt (t.laid i) (j + 1) : Nat) : Int) else 0) 0 (lay (t.laid i))) (t.todo i) F1 O2 T1 hxs (by omega) (by omega) (by omega) (by omega) i2 o1 i4 o2
          rw [hos] at hcon
          refine t_a ?_
          generalize hφ : emO bf bo bt be F1.v O2.v T1.v F1 O2 T1 = φ2 at hgT hgbt hgbe o2 hcon ⊢
          refine W_regT (by rw [hP]; exact mixed) 5 (by decide) (by rfl) [] [] fun K hK => ?_
          simp [go_sem, hP, hgl, hn, hgT, hgbt, hgbe, hTv, hrd, hfx]
          refine ⟨by omega, by rfl, ?_⟩
          refine vcK_callVT hP hgl (f := 48) (fi := #[]) (ca := #[.pointer (some ⟨bf, 0, none⟩), .pointer (some ⟨bo, 0, none⟩), .pointer (some ⟨bt, 0, none⟩), .pointer (some ⟨be, 0, none⟩)]) (by simp [go_sem, emV]) (by simp [primOK]) hcon (by simp [go_sem]; rfl) (by simp) (by repeat (first | exact Tail.nil _ | apply Tail.slot | apply Tail.loc)) o2 (by rw [hn]; exact Nat.le_of_ble_eq_true rfl) rfl ?_
          rintro r ψ ⟨rfl, F2, O3, T2, q1, q2, q3, q4, rfl⟩
          refine ⟨q4, ?_⟩
          simp [go_sem]
          refine hK _ ?_
          clear hK K
          have hg3 := emO_get q4
          have hO3 : O3.n ≤ 1000000000 := by
            rw [q2.n_eq]
            have := skel_le x
            simp only [rowsI, List.length_map, List.length_append]
            omega
          refine t_a ?_
          refine W_reg [45] fun K hK => ?_
          simp [go_sem, hP, hgl, hn, hg3]
          refine vcK_eff (x := O3) (E := 2) (zs := [[dint 14, dint 0]]) (fun O4 => emO bf bo bt be F2.v O3.v T2.v F2 O4 T2) rfl (by repeat (first | exact Tail.nil _ | apply Tail.slot | apply Tail.loc)) (emO_O ..) (fun _ => emO_O ..) q4 q2 (free_append (E := 2) (B := 16) (zd := [dint 0, dint 0]) rfl rfl (by rw [hn]; exact Nat.le_of_ble_eq_true rfl) (by simp [go_sem, hP]) (by decide) (by rw [hP]; rfl) (by simp [go_sem, hP, hgl, hn]) (by simp [go_sem, hP, hgl, hn]) (fun b hb => by simp [go_sem, hg3, hb]) q2.nil q2.len q2.le (by simp) (by simp; unfold BIG; omega) q2.wid (by simp) (by rw [hP]; kernel_rfl) rfl) rfl ?_
          intro O4 hO4 hq hnd2
          simp only [go_sem, List.cons_append, List.nil_append]
          refine VL_boxT (agg := false) (b := bo) (c := O3.v) (d := O4.v) (A := [(bf, [F2.v])]) (B := (bt, [T2.v]) :: (be, [emV bf bo bt be]) :: (F2.objs ++ (O4.objs ++ T2.objs))) (emO bf bo bt be F2.v O4.v T2.v F2 O4 T2) (by repeat (first | exact Tail.nil _ | apply Tail.slot | apply Tail.loc)) rfl rfl hnd2 (by simp [go_sem]) (by simp [go_sem]) (by simp [go_sem, hP]) rfl rfl fun hnd3 => ?_
          simp only [List.cons_append, List.nil_append]
          refine VL_nil (hK _ ?_)
          clear hK K
          refine t_rg0 ?_
          refine t_b ?_
          refine W_sub [] (by simp [go_sem]) ?_ (by simp [go_sem]) (ihr (i + 1, F2, O4, T2) ⟨hi1, ?_, ?_, ?_, hnd3⟩ (by simp only; omega))
          · simp [go_sem, subLe_hs_self _ hnd3]
          · rw [hl1, funPos_lay]
            exact q1
          · rw [hl1, ← partC_lay (t.laid i) x hxs (m := i) (laid_length t i1) (by omega), rowsI_app]
            exact hO4
          · rw [ht1]
            exact q3
  · refine t_g @h ?_
    refine t_r ?_
    simp [go_sem, hP, hgl, hn, Tm.compN, h, rowsI] <;> (try omega)
    all_goals exact t_f
end Go.Proofs.YtmdjiajbnifjpaaDoor.Lift

/-
  Maps from numbers, in the small logic: made, looked into, written; a piece of a raw slice, copied into data; structs compared.
-/
namespace Go.Proofs.YtmdjiajbnifjpaaDoor.Lift
set_option linter.unusedSimpArgs false
set_option linter.unusedVariables false
set_option linter.unnecessarySimpa false
open Go
section
variable {X : Ctx} {s s0 : St} {k : List Item}

/-- what a map holds at a number -/
def lookM : List (Int × DV) → Int → Option DV
  | [], _ => none
  | (k, d) :: r, n => if n = k then some d else lookM r n
def mapT (P : Program) (T : TypeId) : Bool :=
  match P.underlying T with
  | some (.map key _) => match P.underlying key with
    | some (.int .i64) => true
    | _ => false
  | _ => false
theorem mapT_spec {P : Program} {T : TypeId} (h : mapT P T = true) : ∃ key e, P.underlying T = some (.map key e) ∧ P.underlying key = some (.int .i64) := by
  unfold mapT at h
  split at h
  · rename_i key e hu
    split at h
    · rename_i hk; exact ⟨key, e, hu, hk⟩
    · cases h
  · cases h
theorem find_look {G : Gh} {w : World} (n : Int) : ∀ (ml : List (Int × DV)) (es : List MapEntry) (j : Nat), es.length = ml.length → (∀ (i : Nat) (k : Int) (d : DV) (e : MapEntry), ml[i]? = some (k, d) → es[i]? = some e → e.key = .int .i64 k ∧ RV G.D w d e.val) →
    (∀ d, lookM ml n = some d → ∃ r v, Instr.findNow (.int .i64) (.int .i64 n) es j = some (some (r, v)) ∧ RV G.D w d v) ∧ (lookM ml n = none → Instr.findNow (.int .i64) (.int .i64 n) es j = some none)
  | [], [], j, _, _ => ⟨fun d h => (nomatch h), fun _ => rfl⟩
  | [], e :: es, j, h, _ => by simp at h
  | (k, d) :: ml, [], j, h, _ => by simp at h
  | (k, d) :: ml, e :: es, j, hl, h => by
    obtain ⟨h1, h2⟩ := h 0 k d e rfl rfl
    have ih := find_look n ml es (j + 1) (by simpa using hl) fun i k d e hi he => h (i + 1) k d e (by simpa using hi) (by simpa using he)
    unfold Instr.findNow
    simp only [h1, Instr.sameNow, if_true, lookM]
    by_cases hk : n = k
    · subst hk
      rw [if_pos rfl]
      simp only [beq_self_eq_true]
      exact ⟨fun d' hd => (by cases hd; exact ⟨j, e.val, rfl, h2⟩), fun hd => nomatch hd⟩
    · rw [if_neg hk]
      have : (n == k) = false := by simpa using hk
      rw [this]
      exact ih
theorem run_getMap {P : Program} {w : World} {r : Nat} {es : Array MapEntry} {clock : Nat} (hb : w.heap[r]? = some (.map es clock)) : (getObj r).run P w = .ok (.map es clock) w := by
  simp [getObj, Sem.run, hb]
theorem run_setMap {P : Program} {w : World} {r : Nat} {es : Array MapEntry} {clock : Nat} (o : Obj) (hb : w.heap[r]? = some (.map es clock)) : (setObj r o).run P w = .ok () { w with heap := w.heap.setIfInBounds r o } := by
  simp [setObj, Sem.run, hb]
theorem run_checkN {P : Program} {w : World} {key : TypeId} (hk : P.underlying key = some (.int .i64)) (e : Bool) (n : Int) (m : Nat) : (Instr.checkKey e (m + 1) key (.int .i64 n)).run P w = .ok () w := by
  unfold Instr.checkKey
  simp only [Sem.run_bind, run_underlying hk, Result.andThen, Sem.run_pure]
theorem run_checkInt {P : Program} {w : World} {key : TypeId} (hk : P.underlying key = some (.int .i64)) (e : Bool) (n : Int) : (Instr.checkKey e 10000 key (.int .i64 n)).run P w = .ok () w := run_checkN hk e n 9999
theorem run_findInt {P : Program} {w : World} {key : TypeId} {k : Value} {l : List MapEntry} {a : Option (Nat × Value)} (hd : P.underlying key = some (.int .i64)) (h : Instr.findNow (.int .i64) k l 0 = some a) : (Instr.findKey key k l).run P w = .ok a w := by
  simp [Instr.findKey, run_underlying hd, Result.andThen, h]

theorem step_makeMap {o : Oper} {T : TypeId} (ho : o.op = .makeMap T none) {d : Nat} (hd : o.dst = some d) (hn : d < X.n) {G : Gh} {a : Act} {w : World} (R : Rel X G s a w) (next : Act → World → Prop) (Q : Exit → Act → World → Prop)
    (hK : ∀ b, newB b s → X.w0.heap.size ≤ b → ∀ G' a' w', Rel X G' (upd (upd s (.slot d) (.one (.v (.prim (.map (some b)))))) (.heap b) (.mp [])) a' w' → next a' w') : o.wpIn X.F 0 X.P a w next Q := by
  refine opIn (by intro c e; rw [ho] at e; cases e) ?_
  have hexec : (execOp a.eval o).run X.P w = .ok (.value (.map (some w.heap.size))) (w.alloc (.map #[] 0)) := by
    simp [execOp, ho, Instr.makeMap]
  rw [hexec, upn_value, hd]
  have hp := put_tmps a (some d) (.map (some w.heap.size))
  have T' : Trans X G a w G (a.put (some d) (.map (some w.heap.size))) (w.alloc (.map #[] 0)) (fun _ => False) :=
    ⟨hp.1, fun h => (h.heap fun b hb => alloc_old w _ b hb).put hp.2, rfl, rfl, rfl, by simp, fun b hb _ => alloc_old w _ b hb, fun _ h => h.elim, fun b k hD => ⟨hD, World.cell?_alloc_lt w _ _ (R.wf.lt hD)⟩, fun b k hD hnD => absurd hD hnD, R.nil⟩
  refine hK w.heap.size (newB_size R) R.ext.size G _ _ ?_
  refine R.step T' (fun l u => (l = .slot d ∧ u = .one (.v (.prim (.map (some w.heap.size))))) ∨ (l = .heap w.heap.size ∧ u = .mp [])) (fun l u h => ?_) (fun l u h => ?_) (fun l u l' u' b h h' hb hb' => ?_)
  · rw [get_upd, get_upd] at h
    by_cases h1 : Loc.heap w.heap.size = l
    · rw [if_pos h1] at h; cases h; exact .inl (.inr ⟨h1.symm, rfl⟩)
    · rw [if_neg h1] at h
      by_cases h3 : Loc.slot d = l
      · rw [if_pos h3] at h; cases h; exact .inl (.inl ⟨h3.symm, rfl⟩)
      · rw [if_neg h3] at h
        exact .inr ⟨h, fun n hn => put_get_ne _ _ _ _ (fun e => h3 (by rw [hn, e])), fun b hb hBb => hBb.elim, fun _ _ => rfl, fun _ _ => rfl⟩
  · rcases h with ⟨rfl, rfl⟩ | ⟨rfl, rfl⟩
    · refine ⟨?_, fun b hb => by cases hb⟩
      show RSV G _ (.v _) _
      rw [put_get_same _ _ _ (by rw [R.size]; exact hn)]
      exact .prim _ trivial
    · refine ⟨⟨#[], 0, alloc_new w _, rfl, fun i k d e hi => by simp at hi⟩, fun b hb => ?_⟩
      cases hb
      exact ⟨.inl (Nat.le_refl _), .inl R.ext.size, fun _ o hD => absurd (R.wf.lt hD) (Nat.lt_irrefl _)⟩
  · rcases h with ⟨rfl, rfl⟩ | ⟨rfl, rfl⟩
    · cases hb
    · rcases h' with ⟨rfl, rfl⟩ | ⟨rfl, rfl⟩
      · cases hb'
      · rfl
theorem vcK_makeMap {esc : List Nat} {ops : Array Oper} {l : List Oper} {K : St → Prop} {d : Tmp} {T ty : TypeId} {pos : String} {af : Array Edge} {q : Option (Prop × St)} (hn : d < X.n) (hq : q = none)
    (h : ∀ b, newB b s → X.w0.heap.size ≤ b → vc X esc ops l (upd (upd s (.slot d) (.one (.v (.prim (.map (some b)))))) (.heap b) (.mp [])) K) : vcK X esc ops l K ⟨some d, .makeMap T none, ty, pos, af, none⟩ s q := by
  subst hq
  intro m hm G a w R0
  obtain ⟨p1, p3⟩ := drop_cons hm
  simp only [List.length_cons, List.range'_succ, wpOpsIn, p1, Region.wanted, if_true]
  exact step_makeMap (o := ⟨some d, .makeMap T none, ty, pos, af, none⟩) rfl rfl hn R0 _ _ fun b hb hw G' a' w' R' => vc_sound (h b hb hw) (m + 1) p3 G' a' w' R'

/-- a number that is there is looked up -/
theorem step_lookup {o : Oper} {T : TypeId} {x i : Operand} (ho : o.op = .lookup T x i false) {d : Nat} (hd : o.dst = some d) (hn : d < X.n) (hT : mapT X.P T = true) {b : Nat} {n : Int} {ml : List (Int × DV)} {dv : DV}
    (hx : evl X (get s) x = some (.v (.prim (.map (some b))))) (hi : evl X (get s) i = some (.v (.prim (.int .i64 n)))) (hm : get s (.heap b) = some (.mp ml)) (hl : lookM ml n = some dv) : StepOK X s o (upd s (.slot d) (.one (.v dv))) := by
  intro G a w R next Q hK
  have hv := (prim_of (evl_sound R hx)).1
  have hiv := (prim_of (evl_sound R hi)).1
  obtain ⟨key, e, h1, h2⟩ := mapT_spec hT
  obtain ⟨es, cl, m1, m2, m3⟩ := R.holds _ _ hm
  obtain ⟨r, v, f1, f2⟩ := (find_look n ml es.toList 0 (by simpa using m2) fun i k d e hi he => m3 i k d e hi (by simpa using he)).1 dv hl
  refine opIn (by intro c e; rw [ho] at e; cases e) ?_
  have hexec : (execOp a.eval o).run X.P w = .ok (.value v) w := by
    simp [execOp, ho, hv, hiv, Instr.lookup, run_underlying h1, run_getMap m1, run_checkInt h2, run_findInt h2 f1]
  rw [hexec, upn_value, hd]
  exact hK G _ w (R.setSlot (Trans.refl X G a w R.nil) rfl rfl (fun _ h => h) hn f2)
theorem vcK_lookup {esc : List Nat} {ops : Array Oper} {l : List Oper} {K : St → Prop} {d : Tmp} {T ty : TypeId} {x i : Operand} {pos : String} {af : Array Edge} {q : Option (Prop × St)} {b : Nat} {n : Int} {ml : List (Int × DV)} {dv : DV} (hn : d < X.n) (hT : mapT X.P T = true)
    (hx : evl X (get s) x = some (.v (.prim (.map (some b))))) (hi : evl X (get s) i = some (.v (.prim (.int .i64 n)))) (hm : get s (.heap b) = some (.mp ml)) (hl : lookM ml n = some dv) (hq : q = none)
    (h : vc X esc ops l (upd s (.slot d) (.one (.v dv))) K) : vcK X esc ops l K ⟨some d, .lookup T x i false, ty, pos, af, none⟩ s q := by
  subst hq
  exact VL_step rfl (step_lookup (o := ⟨some d, .lookup T x i false, ty, pos, af, none⟩) rfl rfl hn hT hx hi hm hl) (vc_sound h)
theorem vcdC_lookup {ops : Array Oper} {K : St → Prop} {l : List Oper} {k : St → List Ev → Prop} {ev : List Ev} {fp wr : List Loc} {d : Tmp} {T ty : TypeId} {x i : Operand} {pos : String} {af : Array Edge} {q : Option (Prop × St)} {b : Nat} {n : Int} {ml : List (Int × DV)} {dv : DV}
    (hk : ∀ s ev, k s ev → VD X ops s0 l s ev K) (hn : d < X.n) (hT : mapT X.P T = true)
    (hx : evl X (get s) x = some (.v (.prim (.map (some b))))) (hi : evl X (get s) i = some (.v (.prim (.int .i64 n)))) (hm : get s (.heap b) = some (.mp ml)) (hl : lookM ml n = some dv) (hq : q = none)
    (g : vcdD k ev s (slotsOf [x, i] ++ [.heap b]) [] [(.slot d, some (.one (.v dv)))]) :
    vcdC X ops s0 l K k ⟨some d, .lookup T x i false, ty, pos, af, none⟩ ev s fp wr q := by
  subst hq
  show VD X ops s0 _ s ev K
  have hsl : ∀ z : Operand, z = x ∨ z = i → ∀ t, z = .tmp t → Loc.slot t ∈ slotsOf [x, i] ++ [.heap b] := by
    intro z hz t ht
    subst ht
    refine List.mem_append.2 (.inl ?_)
    rcases hz with rfl | rfl
    · simp [slotsOf]
    · cases x <;> simp [slotsOf]
  refine VD_step ⟨slotsOf [x, i] ++ [.heap b], [(.slot d, some (.one (.v dv)))], []⟩ (fun s' hs _ => opOK_of (.inl rfl) ?_) (hk _ _ (by exact g))
  exact step_lookup (o := ⟨some d, .lookup T x i false, ty, pos, af, none⟩) rfl rfl hn hT (evl_restr (hsl x (.inl rfl)) hs hx) (evl_restr (hsl i (.inr rfl)) hs hi) (hs _ _ (get_restr_mem (List.mem_append.2 (.inr (List.mem_singleton.2 rfl))) hm)) hl

/-- a number that is not there is put in -/
theorem step_mapUpdate {o : Oper} {T : TypeId} {x i y : Operand} (ho : o.op = .mapUpdate T x i y) (hd : o.dst = none) (hT : mapT X.P T = true) {b : Nat} {n : Int} {ml : List (Int × DV)} {dv : DV}
    (hx : evl X (get s) x = some (.v (.prim (.map (some b))))) (hi : evl X (get s) i = some (.v (.prim (.int .i64 n)))) (hy : evl X (get s) y = some (.v dv)) (hm : get s (.heap b) = some (.mp ml)) (hl : lookM ml n = none) : StepOK X s o (upd s (.heap b) (.mp (ml ++ [(n, dv)]))) := by
  intro G a w R next Q hK
  have hv := (prim_of (evl_sound R hx)).1
  have hiv := (prim_of (evl_sound R hi)).1
  have hyv : RV G.D w dv (a.eval y) := evl_sound R hy
  obtain ⟨key, e, h1, h2⟩ := mapT_spec hT
  obtain ⟨es, cl, m1, m2, m3⟩ := R.holds _ _ hm
  have f1 := (find_look (G := G) (w := w) n ml es.toList 0 (by simpa using m2) fun i k d e hi he => m3 i k d e hi (by simpa using he)).2 hl
  refine opIn (by intro c e; rw [ho] at e; cases e) ?_
  have hexec : (execOp a.eval o).run X.P w = .ok .skip { w with heap := w.heap.setIfInBounds b (.map (es.push { key := .int .i64 n, val := a.eval y, born := cl }) (cl + 1)) } := by
    simp [execOp, ho, hv, hiv, Instr.mapUpdate, run_underlying h1, run_getMap m1, run_checkInt h2, run_findInt h2 f1, run_setMap _ m1]
  rw [hexec, upn_skip, hd]
  have hbl : b < w.heap.size := (Array.getElem?_eq_some_iff.1 m1).1
  have hnd : ∀ o, ¬ G.D b o := fun o => R.data _ _ b o hm rfl rfl
  have hoth : ∀ b', b' ≠ b → (w.heap.setIfInBounds b (.map (es.push { key := .int .i64 n, val := a.eval y, born := cl }) (cl + 1)))[b']? = w.heap[b']? := fun b' hb' => Array.getElem?_setIfInBounds_ne (Ne.symm hb')
  have T' : Trans X G a w G a { w with heap := w.heap.setIfInBounds b (.map (es.push { key := .int .i64 n, val := a.eval y, born := cl }) (cl + 1)) } (fun b' => b' = b) := by
    refine ⟨rfl, fun h => h.keep rfl fun D hD => ?_, rfl, rfl, rfl, by simp, fun b' hb' hn => hoth b' hn, fun b' hb' => ?_, fun b' o hD => ⟨hD, ?_⟩, fun _ _ h k => absurd h k, R.nil⟩
    · refine (hoth D fun e => ?_).trans hD
      subst e
      rw [m1] at hD; cases hD
    · subst hb'
      exact (R.own _ _ b' hm rfl).imp id And.left
    · have hne : b' ≠ b := fun e => by subst e; exact hnd o hD
      simp only [World.cell?]
      rw [hoth b' hne]
  refine hK G a _ ?_
  refine R.step T' (fun l u => l = .heap b ∧ u = .mp (ml ++ [(n, dv)])) (fun l u h => ?_) (fun l u h => ?_) (fun l u l' u' b' h h' _ _ => h.1.trans h'.1.symm)
  · rw [get_upd] at h
    by_cases hl' : Loc.heap b = l
    · rw [if_pos hl'] at h; cases h; exact .inl ⟨hl'.symm, rfl⟩
    · rw [if_neg hl'] at h
      refine .inr ⟨h, fun _ _ => rfl, fun b' hb' he => ?_, fun _ _ => rfl, fun _ _ => rfl⟩
      subst he
      exact hl' (R.sep _ _ _ _ b' hm h rfl hb')
  · obtain ⟨rfl, rfl⟩ := h
    refine ⟨⟨es.push { key := .int .i64 n, val := a.eval y, born := cl }, cl + 1, ?_, by simp [m2], fun i' k d e hi' he => ?_⟩, fun b' hb' => ?_⟩
    · simp [hbl]
    · rcases Nat.lt_or_ge i' ml.length with hlt | hge
      · rw [List.getElem?_append_left hlt] at hi'
        rw [Array.getElem?_push, if_neg (by omega)] at he
        obtain ⟨q1, q2⟩ := m3 i' k d e hi' he
        exact ⟨q1, q2.mono T'.grow⟩
      · rw [List.getElem?_append_right hge] at hi'
        have : i' - ml.length = 0 := by
          have := (List.getElem?_eq_some_iff.1 hi').1
          simpa using this
        have hie : i' = es.size := by omega
        rw [this] at hi'
        simp only [List.getElem?_cons_zero, Option.some.injEq, Prod.mk.injEq] at hi'
        obtain ⟨rfl, rfl⟩ := hi'
        rw [Array.getElem?_push, if_pos hie] at he
        cases he
        exact ⟨rfl, hyv.mono T'.grow⟩
    · cases hb'
      exact ⟨.inr rfl, R.own _ _ b hm rfl, fun _ o => hnd o⟩
theorem vcK_mapUpdate {esc : List Nat} {ops : Array Oper} {l : List Oper} {K : St → Prop} {T ty : TypeId} {x i y : Operand} {pos : String} {af : Array Edge} {q : Option (Prop × St)} {b : Nat} {n : Int} {ml : List (Int × DV)} {dv : DV} (hT : mapT X.P T = true)
    (hx : evl X (get s) x = some (.v (.prim (.map (some b))))) (hi : evl X (get s) i = some (.v (.prim (.int .i64 n)))) (hy : evl X (get s) y = some (.v dv)) (hm : get s (.heap b) = some (.mp ml)) (hl : lookM ml n = none) (hq : q = none)
    (h : vc X esc ops l (upd s (.heap b) (.mp (ml ++ [(n, dv)]))) K) : vcK X esc ops l K ⟨none, .mapUpdate T x i y, ty, pos, af, none⟩ s q := by
  subst hq
  exact VL_step rfl (step_mapUpdate (o := ⟨none, .mapUpdate T x i y, ty, pos, af, none⟩) rfl rfl hT hx hi hy hm hl) (vc_sound h)

/-! a piece of a raw slice -/
theorem step_sliceR {o : Oper} {T : TypeId} {x lo : Operand} (ho : o.op = .slice T x (some lo) none none) {d : Nat} (hd : o.dst = some d) (hn : d < X.n) {E b n cap : Nat} {kd : IntKind} {l : Int} (he : elemT X.P T = some E)
    (hx : evl X (get s) x = some (.v (rawS b n cap))) (hl : evl X (get s) lo = some (.v (.prim (.int kd l)))) (h0 : 0 ≤ l) (h1 : l ≤ n) (h2 : l < cap) (h3 : n ≤ cap) :
    StepOK X s o (upd s (.slot d) (.one (.v (.prim (.slice (some ⟨b, l.toNat * E, none⟩) (n - l.toNat) (cap - l.toNat)))))) := by
  intro G a w R next Q hK
  have hv := (prim_of (evl_sound R hx)).1
  have hlv := (prim_of (evl_sound R hl)).1
  obtain ⟨e', ie, hu, hie, hsz⟩ := elem_run he
  refine opIn (by intro c e; rw [ho] at e; cases e) ?_
  have hrun := slice_run (P := X.P) (w := w) (t := T) hu hie (some ⟨b, 0, none⟩) n cap (some (a.eval lo)) none l n (.inr ⟨kd, by rw [hlv]⟩) (.inl ⟨rfl, rfl⟩) h0 h1 (by omega)
  have hne : ¬ cap = l.toNat := by omega
  rw [if_neg hne] at hrun
  have hexec : (execOp a.eval o).run X.P w = .ok (.value (.slice (some ⟨b, l.toNat * E, none⟩) (n - l.toNat) (cap - l.toNat))) w := by
    have e2 : (Option.map (fun q : Addr => q.add (l.toNat * ie.size)) (some ⟨b, 0, none⟩)) = some ⟨b, l.toNat * E, none⟩ := by simp [addr_add, hsz]
    rw [e2] at hrun
    simp [execOp, ho, hv, hrun]
  rw [hexec, upn_value, hd]
  exact hK G _ w (R.setSlot (Trans.refl X G a w R.nil) rfl rfl (fun _ h => h) hn (.prim _ trivial))
theorem vcK_sliceR {esc : List Nat} {ops : Array Oper} {lst : List Oper} {K : St → Prop} {d : Tmp} {T ty : TypeId} {x lo : Operand} {pos : String} {af : Array Edge} {q : Option (Prop × St)} {E b n cap : Nat} {kd : IntKind} {l : Int} (he : elemT X.P T = some E) (hn : d < X.n)
    (hx : evl X (get s) x = some (.v (rawS b n cap))) (hl : evl X (get s) lo = some (.v (.prim (.int kd l)))) (h0 : 0 ≤ l) (h1 : l ≤ n) (h2 : l < cap) (h3 : n ≤ cap) (hq : q = none)
    (h : vc X esc ops lst (upd s (.slot d) (.one (.v (.prim (.slice (some ⟨b, l.toNat * E, none⟩) (n - l.toNat) (cap - l.toNat)))))) K) : vcK X esc ops lst K ⟨some d, .slice T x (some lo) none none, ty, pos, af, none⟩ s q := by
  subst hq
  exact VL_step rfl (step_sliceR (o := ⟨some d, .slice T x (some lo) none none, ty, pos, af, none⟩) rfl rfl hn he hx hl h0 h1 h2 h3) (vc_sound h)

/-- a piece of a raw slice is copied: it becomes data -/
theorem step_appendV {o : Oper} {x y : Operand} {T T2 : TypeId} (ho : o.op = .call { callee := .builtin .append, args := #[x, y], argTypes := #[T, T2] }) {d : Nat} (hd : o.dst = some d) (hn : d < X.n)
    {E B : Nat} (he : elemZ X.P T = some (E, B)) (hB : 0 < B ∧ B ≤ 1024) (h2 : (elemT X.P T2).isSome = true) {b lo k cap : Nat} {full : List (List DV)} (hx : evl X (get s) x = some (.own 0 [])) (hy : evl X (get s) y = some (.v (.prim (.slice (some ⟨b, lo * E, none⟩) k cap))))
    (hrow : get s (.heap b) = some (.row (arrRow full))) (hE : ∀ e ∈ full, e.length = E) (hk : lo + k ≤ full.length) (hpos : 0 < k) (hbig : k ≤ BIG) :
    StepOK X s o (upd s (.slot d) (.one (.v (.sl ((full.drop lo).take k))))) := by
  intro G a w R next Q hK
  obtain ⟨hv, -⟩ := evl_own R hx
  rw [R.nil] at hv
  have hyv := (prim_of (evl_sound R hy)).1
  obtain ⟨c0, e0, k1, k2, k3⟩ : BlkAt G w b (arrRow full) := R.holds _ _ hrow
  rw [arrRow_len hE] at k2
  have hlen : ((full.drop lo).take k).length = k := by simp; omega
  have hmul : lo * E + k * E ≤ full.length * E := by rw [← Nat.add_mul]; exact Nat.mul_le_mul_right _ hk
  have hdr : ∀ w' : World, w'.heap = w.heap → (Builtin.firstCells E k (a.eval y)).run X.P w' = .ok (arr (fun j => (c0[lo * E + j]?).getD undef) (k * E)) w' := fun w' hw => by
    rw [hyv]
    simp only [Builtin.firstCells]
    refine run_loadCells_f b (lo * E) (k * E) _ (fun j hj => ?_)
    have hlt : lo * E + j < c0.size := by omega
    rw [cell_of_heap hw]
    simp [World.cell?, k1, hlt]
  obtain ⟨c, e, nc, r1, r2, r3, r4, r5⟩ := run_append_new (P := X.P) (t := T) (ty := o.type) (t2 := T2) (w := w) he hB h2 (base := none) (len := 0) (cap := 0) (x := a.eval y) (n := k) (old := #[]) (fun w' _ => by rw [hyv]; simp [Builtin.lenOf]) hdr (fun w' _ => by simp [Builtin.firstCells]) (by omega) (by omega) (by simp) (arr_size _ _)
  rw [Nat.zero_add] at r1 r2
  have hv' : a.eval x = .slice none 0 0 := hv
  have hexec : (execOp a.eval o).run X.P w = .ok (.value (.slice (some ⟨w.heap.size, 0, none⟩) k nc)) (w.drew.alloc (.cells c e)) := by
    have hr1 : (Builtin.append_ #[T, T2] o.type #[a.eval x, a.eval y]).run X.P w = .ok (.slice (some ⟨w.heap.size, 0, none⟩) k nc) (w.drew.alloc (.cells c e)) := by rw [hv']; exact r1
    simp [execOp, ho, resolve, invoke, builtin, hr1]
  refine opIn (by intro c e; rw [ho] at e; cases e) ?_
  rw [hexec, upn_value, hd]
  let G' : Gh := { D := withData G.D w.heap.size 0 (k * E), ν := G.ν, τ := G.τ }
  have hcsz : k * E ≤ c.size := by rw [r3]; exact Nat.mul_le_mul_right _ r2
  have hcn : ∀ j, (w.drew.alloc (.cells c e)).cell? ⟨w.heap.size, j, none⟩ = c[j]? := fun j => World.cell?_alloc_new w.drew c e j
  have T' : Trans X G a w G' a (w.drew.alloc (.cells c e)) (fun _ => False) := by
    refine ⟨rfl, fun h => h.heap fun b hb => alloc_old w.drew _ b hb, rfl, rfl, rfl, by simp, fun b hb _ => alloc_old w.drew _ b hb, fun _ h => h.elim, fun b k hD => ⟨.inl hD, World.cell?_alloc_lt w.drew _ _ (R.wf.lt hD)⟩, fun b' j hD hnD => ?_, R.nil⟩
    rcases hD with hD | ⟨rfl, q1, q2⟩
    · exact absurd hD hnD
    · exact ⟨.inl (Nat.le_refl _), _, (hcn j).trans (Array.getElem?_eq_getElem (by omega))⟩
  refine hK G' _ _ (R.setSlot T' rfl rfl (fun _ h => h) hn ?_)
  show RV G'.D _ (.sl _) _
  have hsrc : ∀ i j e' d', ((full.drop lo).take k)[i]? = some e' → e'[j]? = some d' → d'.isCell = true ∧ RV G.D w d' ((c0[lo * E + (i * E + j)]?).getD undef) := by
    intro i j e' d' hi hj
    have hik : i < k := by have := (List.getElem?_eq_some_iff.1 hi).1; omega
    rw [List.getElem?_take_of_lt hik, List.getElem?_drop] at hi
    obtain ⟨q0, v, q1, q2⟩ := k3 ((lo + i) * E + j) (.v d') (arrRow_cell hE hi hj)
    rw [Nat.add_mul, Nat.add_assoc] at q1
    exact ⟨q0, by rw [q1]; exact q2⟩
  have hEz : ∀ e' ∈ (full.drop lo).take k, e'.length = E := fun e' he' => hE e' (List.mem_of_mem_drop (List.mem_of_mem_take he'))
  have := sl_of_laid (D := G'.D) (w := w.drew.alloc (.cells c e)) (E := E) (b := w.heap.size) (o := 0) (cap := nc) (els := (full.drop lo).take k) (f := fun j => (c0[lo * E + j]?).getD undef) (by rw [hlen]; exact hbig) (by rw [hlen]; exact r2) hEz (fun e' he' d' hd' => ?_) (fun j hj => ?_) (fun i j e' d' hi hj => ?_)
  · rw [hlen] at this
    exact this
  · obtain ⟨i, hi⟩ := List.mem_iff_getElem?.1 he'
    obtain ⟨j, hj⟩ := List.mem_iff_getElem?.1 hd'
    exact (hsrc i j e' d' hi hj).1
  · rw [hlen] at hj
    refine ⟨?_, .inr ⟨rfl, by omega, by omega⟩⟩
    have := r5 j hj
    rw [Nat.zero_mul, Nat.zero_add] at this
    rw [Nat.zero_add, hcn, this]
    exact arr_get _ _ _ hj
  · exact (hsrc i j e' d' hi hj).2.mono T'.grow
theorem vcK_appendV {esc : List Nat} {ops : Array Oper} {lst : List Oper} {K : St → Prop} {d : Tmp} {x y : Operand} {T T2 ty : TypeId} {pos : String} {af : Array Edge} {q : Option (Prop × St)} {E B b lo k cap : Nat} {full : List (List DV)}
    (he : elemZ X.P T = some (E, B)) (hB : 0 < B ∧ B ≤ 1024) (h2 : (elemT X.P T2).isSome = true) (hn : d < X.n) (hx : evl X (get s) x = some (.own 0 [])) (hy : evl X (get s) y = some (.v (.prim (.slice (some ⟨b, lo * E, none⟩) k cap))))
    (hrow : get s (.heap b) = some (.row (arrRow full))) (hE : ∀ e ∈ full, e.length = E) (hk : lo + k ≤ full.length) (hpos : 0 < k) (hbig : k ≤ BIG) (hq : q = none)
    (h : vc X esc ops lst (upd s (.slot d) (.one (.v (.sl ((full.drop lo).take k))))) K) : vcK X esc ops lst K ⟨some d, .call { callee := .builtin .append, args := #[x, y], argTypes := #[T, T2] }, ty, pos, af, none⟩ s q := by
  subst hq
  exact VL_step rfl (step_appendV (o := ⟨some d, .call { callee := .builtin .append, args := #[x, y], argTypes := #[T, T2] }, ty, pos, af, none⟩) rfl rfl hn he hB h2 hx hy hrow hE hk hpos hbig) (vc_sound h)

/-! a state that ends in a map and a raw slice's array -/
inductive TailM (bm : Nat) (ml : List (Int × DV)) (φ : Objs) : St → St → Prop
  | nil : TailM bm ml φ ((.heap bm, .mp ml) :: heapSt φ) []
  | slot {s l : St} (n : Nat) (v : LV) (h : TailM bm ml φ s l) : TailM bm ml φ ((.slot n, v) :: s) ((.slot n, v) :: l)
  | loc {s l : St} (n : Nat) (v : LV) (h : TailM bm ml φ s l) : TailM bm ml φ ((.loc n, v) :: s) ((.loc n, v) :: l)
  | tok {s l : St} (n : Nat) (v : LV) (h : TailM bm ml φ s l) : TailM bm ml φ ((.tok n, v) :: s) ((.tok n, v) :: l)
theorem TailM.spec {s l : St} {bm : Nat} {ml : List (Int × DV)} {φ : Objs} (h : TailM bm ml φ s l) : s = l ++ (.heap bm, .mp ml) :: heapSt φ ∧ noHeap l = true := by
  induction h with
  | nil => exact ⟨rfl, rfl⟩
  | slot n v h ih => exact ⟨by rw [ih.1]; rfl, ih.2⟩
  | loc n v h ih => exact ⟨by rw [ih.1]; rfl, ih.2⟩
  | tok n v h ih => exact ⟨by rw [ih.1]; rfl, ih.2⟩
theorem RS.nodup (x : RS) : (x.objs.map (·.1)).Nodup := by
  unfold RS.objs
  cases x.q <;> simp
theorem RS.get_objs {x : RS} {b : Nat} (h : x.q = some b) : get (heapSt x.objs) (.heap b) = some (.row (arrRow x.full)) := by
  unfold RS.objs
  rw [h]
  simp [heapSt, get, arrRow]
theorem get_mp {l : St} (hl : noHeap l = true) (bm : Nat) (ml : List (Int × DV)) (φ : Objs) (b : Nat) : get (l ++ (.heap bm, .mp ml) :: heapSt φ) (.heap b) = if bm = b then some (.mp ml) else get (heapSt φ) (.heap b) := by
  rw [get_append, noHeap_get hl]
  show get ((.heap bm, .mp ml) :: heapSt φ) (.heap b) = _
  simp only [get, Loc.heap.injEq]
theorem vcK_effM {esc : List Nat} {ops : Array Oper} {lst : List Oper} {K : St → Prop} {o : Oper} {q : Option (Prop × St)} {d : Nat} {l : St} {bm : Nat} {ml : List (Int × DV)} {φ : Objs} {x : RS} {E : Nat} {ys zs : List (List DV)} (hg : o.guard = none) (ht : TailM bm ml φ s l) (hφ : φ = x.objs) (hi : x.is E ys) (hbm : x.q ≠ some bm)
    (hf : FreeStep X o s d x.q (AppP X x.q E x.n x.full zs)) (hq : q = none) (h : ∀ x' : RS, x'.is E (ys ++ zs) → x'.q ≠ some bm → vc X esc ops lst (upd l (.slot d) (.one (.v x'.v)) ++ (.heap bm, .mp ml) :: heapSt x'.objs) K) : vcK X esc ops lst K o s q := by
  subst hφ
  refine vcK_freeW hg hf hq fun y b cs hap hnew => ?_
  obtain ⟨x', hq', rfl, rfl, hx'⟩ := hi.app hap
  obtain ⟨hs, hl⟩ := ht.spec
  have hb : b ≠ bm := hnew bm hbm (by rw [hs, get_mp hl, if_pos rfl]; simp)
  refine ⟨_, fun m v hm => ?_, vc_sound (h x' hx' (by rw [hq']; simpa using hb))⟩
  have hu := noHeap_upd hl d (.one (.v x'.v))
  by_cases hh : ∃ c, m = .heap c
  · obtain ⟨c, rfl⟩ := hh
    rw [get_mp hu] at hm
    by_cases h1 : bm = c
    · subst h1
      rw [if_pos rfl] at hm
      rw [effO_ne (by simp) (fun e => by cases e; exact hb rfl) (fun b' hb' e => by cases e; exact hbm hb'), hs, get_mp hl, if_pos rfl]
      exact hm
    · rw [if_neg h1] at hm
      obtain ⟨b0, cs, e, rfl, hmem⟩ := get_heapSt hm
      cases e
      obtain ⟨k1, k2⟩ := RS.mem_objs.1 hmem
      rw [hq'] at k1
      cases k1
      unfold effO
      rw [get_upd, if_pos rfl, k2]
      rfl
  · have hm' : ∀ c, m ≠ .heap c := fun c e => hh ⟨c, e⟩
    have hg1 : get (upd l (.slot d) (.one (.v x'.v))) m = some v := by
      rw [get_append] at hm
      cases hq : get (upd l (.slot d) (.one (.v x'.v))) m with
      | some u => rw [hq] at hm; exact hm
      | none =>
        rw [hq] at hm
        have hm : get ((.heap bm, .mp ml) :: heapSt x'.objs) m = some v := hm
        simp only [get] at hm
        rw [if_neg (fun e => hm' bm e.symm)] at hm
        obtain ⟨c, _, e, -⟩ := get_heapSt hm
        exact absurd e (hm' c)
    unfold effO
    rw [get_upd, if_neg (fun e => hm' b e.symm), get_upd]
    rw [get_upd] at hg1
    split
    · rename_i e; rw [if_pos e] at hg1; exact hg1
    · rename_i e
      rw [if_neg e] at hg1
      rw [get_delO _ _ _ (fun b' _ => hm' b'), hs, get_append, hg1]
      rfl
theorem subLe_hs_mp (σ : Nat → Nat) {x : RS} {bm : Nat} (h : x.q ≠ some bm) (v : LV) (s : St) : subLe σ ((.heap bm, v) :: s) (heapSt x.objs) = subLe σ s (heapSt x.objs) := by
  unfold RS.objs
  cases hq : x.q with
  | none => rfl
  | some b =>
    have hne : bm ≠ b := fun e => h (by rw [hq, e])
    simp only [heapSt, subLe, factLe, get, Loc.heap.injEq, hne, if_false]
/-- a nil slice of a slot, told as a raw one -/
theorem W_nilslot {kk : List Item} (n : Nat) (hg : get s (.slot n) = some (.one (.own 0 []))) (h : W X kk (upd s (.slot n) (.one (.v (.prim (.slice none 0 0)))))) : W X kk s := by
  intro G a w b cs hf hk hr R
  have hb : RV G.D w (.prim (.slice none 0 0)) (a.tmps.getD n undef) := by
    obtain ⟨h1, -⟩ := (R.holds _ _ hg : RSV G w (.own 0 []) _)
    rw [R.nil] at h1
    rw [h1]
    exact .prim _ ⟨rfl, rfl⟩
  have key : ∀ l v b', get (upd s (.slot n) (.one (.v (.prim (.slice none 0 0))))) l = some v → blkOf G l v = some b' → get s l = some v := by
    intro l v b' hl hb'
    rw [get_upd] at hl
    split at hl
    · subst_vars; cases hl; cases hb'
    · exact hl
  refine h G a w b cs hf hk hr ⟨R.size, R.defers, R.ext, R.wf, R.nil, fun l v hl => ?_, fun l v l' v' b' hl hl' hb1 hb2 => R.sep _ _ _ _ _ (key _ _ _ hl hb1) (key _ _ _ hl' hb2) hb1 hb2, fun l v b' hl hb1 => R.own _ _ _ (key _ _ _ hl hb1) hb1, fun l v b' o hl hb1 ht => R.data _ _ _ o (key _ _ _ hl hb1) hb1 ht⟩
  rw [get_upd] at hl
  split at hl
  · subst_vars; cases hl; exact hb
  · exact R.holds _ _ hl
end
end Go.Proofs.YtmdjiajbnifjpaaDoor.Lift

/-
  Reading a valid program back, plainly: what stands where, how high the stack is, what is looked up.
-/
namespace Go.Proofs.YtmdjiajbnifjpaaDoor.Lift
set_option linter.unusedSimpArgs false
set_option linter.unusedVariables false
set_option linter.unnecessarySimpa false
open Go

theorem lay_at (bs : List (List Ins)) {k : Nat} {b : List Ins} (hb : bs[k]? = some b) : (∀ j, j < b.length → (lay bs)[startAt bs k + j]? = b[j]?) ∧ (lay bs)[startAt bs k + b.length]? = some (14, 0) ∧ startAt bs k + b.length + 1 ≤ (lay bs).length := by
  have hk := (List.getElem?_eq_some_iff.1 hb).1
  have e : bs = bs.take k ++ (b :: bs.drop (k + 1)) := by
    have h1 : bs.drop k = b :: bs.drop (k + 1) := by
      rw [List.drop_eq_getElem_cons hk]
      congr 1
      rw [List.getElem?_eq_getElem hk] at hb
      exact Option.some.inj hb
    rw [← h1, List.take_append_drop]
  have e2 : lay bs = lay (bs.take k) ++ (b ++ ((14, 0) :: lay (bs.drop (k + 1)))) := by
    conv => lhs; rw [e]
    rw [lay_append, lay_cons]
    simp
  have hl : (lay (bs.take k)).length = startAt bs k := rfl
  refine ⟨fun j hj => ?_, ?_, ?_⟩
  · rw [e2, List.getElem?_append_right (by omega), hl, Nat.add_sub_cancel_left, List.getElem?_append_left hj]
  · rw [e2, List.getElem?_append_right (by omega), hl, Nat.add_sub_cancel_left, List.getElem?_append_right (Nat.le_refl _), Nat.sub_self]
    rfl
  · have := congrArg List.length e2
    simp only [List.length_append, List.length_cons, hl] at this
    omega
theorem stepB_len (body : Int → Tm) (st : List Tm) (x : Ins) (h : takesI x.1 ≤ st.length) : (stepB body st x).length = st.length - takesI x.1 + 1 := by
  unfold stepB
  simp
theorem runB_len (body : Int → Tm) : ∀ (c : List Ins) (st : List Tm) (h : Int), hts c st.length = some h → ((runB body c st).length : Int) = h
  | [], st, h, hh => by simp only [hts, Option.some.injEq] at hh; simpa [runB] using hh
  | x :: r, st, h, hh => by
    simp only [hts] at hh
    split at hh
    · rename_i ht
      have hl := stepB_len body st x (by omega)
      have := runB_len body r (stepB body st x) h (by rw [hl]; rw [← hh]; congr 1; omega)
      simpa [runB] using this
    · cases hh
theorem hts_at {b : List Ins} {j : Nat} {x : Ins} (h : hts b 0 = some 1) (hx : b[j]? = some x) (body : Int → Tm) : takesI x.1 ≤ (runB body (b.take j) []).length ∧ b.take (j + 1) = b.take j ++ [x] := by
  have hj := (List.getElem?_eq_some_iff.1 hx).1
  have h1 : b.take (j + 1) = b.take j ++ [x] := by rw [List.take_add_one, hx]; rfl
  refine ⟨?_, h1⟩
  have e : b = b.take j ++ (x :: b.drop (j + 1)) := by
    have h1 : b.drop j = x :: b.drop (j + 1) := by
      rw [List.drop_eq_getElem_cons hj]
      congr 1
      rw [List.getElem?_eq_getElem hj] at hx
      exact Option.some.inj hx
    rw [← h1, List.take_append_drop]
  rw [e, hts_append] at h
  cases hq : hts (b.take j) 0 with
  | none => rw [hq] at h; cases h
  | some hh =>
    rw [hq] at h
    simp only [Option.bind_some, hts] at h
    have := runB_len body (b.take j) [] hh (by simpa using hq)
    split at h
    · omega
    · cases h
theorem runB_le (body : Int → Tm) : ∀ (c : List Ins) (st : List Tm), (runB body c st).length ≤ st.length + c.length
  | [], st => by simp [runB]
  | x :: r, st => by
    have := runB_le body r (stepB body st x)
    have h2 : (stepB body st x).length ≤ st.length + 1 := by unfold stepB; simp
    simp only [runB, List.foldl_cons, List.length_cons] at this ⊢
    omega

/-- the blocks with their starts -/
def zipS (bs : List (List Ins)) : List (Int × List Ins) := (0 :: (ends 0 bs).dropLast).zip bs
theorem zipS_at {bs : List (List Ins)} {k : Nat} {b : List Ins} (hb : bs[k]? = some b) : (zipS bs)[k]? = some (((startAt bs k : Nat) : Int), b) := by
  have hk := (List.getElem?_eq_some_iff.1 hb).1
  have hne : bs ≠ [] := by intro e; rw [e] at hk; simp at hk
  rw [zipS, List.getElem?_zip_eq_some]
  refine ⟨?_, hb⟩
  rw [starts_eq _ hne, List.getElem?_map, List.getElem?_range hk]
  rfl
theorem starts_len {bs : List (List Ins)} (h : bs ≠ []) : (0 :: (ends 0 bs).dropLast).length = bs.length := by
  have : 0 < bs.length := List.length_pos_iff.2 h
  simp [ends_length]
  omega
theorem zipS_len {bs : List (List Ins)} (h : bs ≠ []) : (zipS bs).length = bs.length := by
  rw [zipS, List.length_zip, starts_len h]; simp
theorem starts_get {bs : List (List Ins)} {k : Nat} (hk : k < bs.length) : (0 :: (ends 0 bs).dropLast)[k]? = some ((startAt bs k : Nat) : Int) := by
  have hne : bs ≠ [] := by intro e; rw [e] at hk; simp at hk
  rw [starts_eq _ hne, List.getElem?_map, List.getElem?_range hk]
  rfl
/-- the terms of the blocks from place k on -/
def decAt (bs : List (List Ins)) (k : Nat) : List (Int × Tm) := decs ((zipS bs).drop k)
theorem decAt_step {bs : List (List Ins)} {k : Nat} {b : List Ins} (hb : bs[k]? = some b) : decAt bs k = decAt bs (k + 1) ++ [(((startAt bs k : Nat) : Int), (runB (look (decAt bs (k + 1))) b []).headD (.mk 0 0 zTy []))] := by
  have hz := zipS_at hb
  have hlt := (List.getElem?_eq_some_iff.1 hz).1
  unfold decAt
  have hdr : (zipS bs).drop k = (((startAt bs k : Nat) : Int), b) :: (zipS bs).drop (k + 1) := by
    rw [List.drop_eq_getElem_cons hlt]
    congr 1
    rw [List.getElem?_eq_getElem hlt] at hz
    exact Option.some.inj hz
  rw [hdr, decs]
theorem decAt_end {bs : List (List Ins)} (h : bs ≠ []) : decAt bs bs.length = [] := by
  unfold decAt
  rw [List.drop_of_length_le (by rw [zipS_len h]; exact Nat.le_refl _)]
  rfl
/-- what keys there are -/
theorem decAt_keys {bs : List (List Ins)} (hne : bs ≠ []) : ∀ (d k : Nat), k + d = bs.length → ∀ a : Int, (∃ v, (a, v) ∈ decAt bs k) ↔ ∃ k', k ≤ k' ∧ k' < bs.length ∧ a = ((startAt bs k' : Nat) : Int)
  | 0, k, hk, a => by
    have : k = bs.length := by omega
    subst this
    rw [decAt_end hne]
    constructor
    · rintro ⟨v, hv⟩; cases hv
    · rintro ⟨k', h1, h2, -⟩; omega
  | d + 1, k, hk, a => by
    have ih := decAt_keys hne d (k + 1) (by omega) a
    have hb : bs[k]? = some (bs[k]'(by omega)) := List.getElem?_eq_getElem (by omega)
    rw [decAt_step hb]
    constructor
    · rintro ⟨v, hv⟩
      rcases List.mem_append.1 hv with hv | hv
      · obtain ⟨k', h1, h2, h3⟩ := ih.1 ⟨v, hv⟩
        exact ⟨k', by omega, h2, h3⟩
      · have := List.mem_singleton.1 hv
        exact ⟨k, Nat.le_refl _, by omega, (Prod.mk.inj this).1⟩
    · rintro ⟨k', h1, h2, h3⟩
      by_cases e : k' = k
      · subst e
        exact ⟨_, List.mem_append.2 (.inr (List.mem_singleton.2 (by rw [h3])))⟩
      · obtain ⟨v, hv⟩ := ih.2 ⟨k', by omega, h2, h3⟩
        exact ⟨v, List.mem_append.2 (.inl hv)⟩
/-- a map of terms -/
def mapD (m : List (Int × Tm)) : List (Int × DV) := m.map fun e => (e.1, e.2.dv)
theorem mapD_app (m n : List (Int × Tm)) : mapD (m ++ n) = mapD m ++ mapD n := List.map_append
theorem lookM_yes {m : List (Int × Tm)} {a : Int} (h : ∃ v, (a, v) ∈ m) : lookM (mapD m) a = some (look m a).dv := by
  unfold look
  induction m with
  | nil => obtain ⟨v, hv⟩ := h; cases hv
  | cons e r ih =>
    rw [List.find?_cons]
    simp only [mapD, List.map_cons, lookM]
    by_cases he : e.1 = a
    · simp only [he, decide_true, if_true, Option.map_some, Option.getD_some]
    · simp only [he, decide_false]
      rw [if_neg (Ne.symm he)]
      obtain ⟨v, hv⟩ := h
      rcases List.mem_cons.1 hv with hv | hv
      · exact absurd (by rw [← hv]) he
      · exact ih ⟨v, hv⟩
theorem lookM_no {m : List (Int × Tm)} {a : Int} (h : ¬ ∃ v, (a, v) ∈ m) : lookM (mapD m) a = none := by
  induction m with
  | nil => rfl
  | cons e r ih =>
    simp only [mapD, List.map_cons, lookM]
    rw [if_neg (fun he => h ⟨e.2, by rw [he]; simp⟩)]
    exact ih fun ⟨v, hv⟩ => h ⟨v, List.mem_cons_of_mem _ hv⟩
/-- a function's number is the start of a later block -/
theorem fun_later {bs : List (List Ins)} (h : Prg bs) {k j : Nat} {b : List Ins} {a : Int} (hb : bs[k]? = some b) (hx : b[j]? = some (2, a)) : ∃ k', k + 1 ≤ k' ∧ k' < bs.length ∧ a = ((startAt bs k' : Nat) : Int) := by
  have hj := (List.getElem?_eq_some_iff.1 hx).1
  have hat := (lay_at bs hb).1 j hj
  rw [hx] at hat
  have hok := okCd_at h.ok hat (show ¬ ((2 : Int) = 14) from by decide)
  simp only [okI, if_true, Bool.and_eq_true, decide_eq_true_eq, Nat.zero_add] at hok
  have hmem : a ∈ funA (lay bs) := by
    have hm := List.mem_of_getElem? hat
    generalize lay bs = c at hm
    induction c with
    | nil => cases hm
    | cons y r ih =>
      simp only [funA]
      rcases List.mem_cons.1 hm with e | hm
      · subst e; simp
      · split
        · exact List.mem_cons_of_mem _ (ih hm)
        · exact ih hm
  rw [h.at'] at hmem
  have hm2 : a ∈ (0 :: (ends 0 bs).dropLast) := List.mem_cons_of_mem _ hmem
  obtain ⟨k', hk'⟩ := List.mem_iff_getElem?.1 hm2
  have hlen := starts_len h.one
  have hkl : k' < bs.length := by have := (List.getElem?_eq_some_iff.1 hk').1; omega
  rw [starts_get hkl] at hk'
  have ha := Option.some.inj hk'
  refine ⟨k', ?_, hkl, ha.symm⟩
  rcases Nat.lt_or_ge k k' with h1 | h1
  · omega
  · have := startAt_mono bs h1
    omega
end Go.Proofs.YtmdjiajbnifjpaaDoor.Lift

/-
  Part V of the small logic: a slice literal that is one's own (it may be appended to).
-/
namespace Go.Proofs.YtmdjiajbnifjpaaDoor.Lift
set_option linter.unusedSimpArgs false
set_option linter.unusedVariables false
set_option linter.unnecessarySimpa false
open Go
section
variable {X : Ctx} {s : St}

theorem step_litO {o : Oper} {t len E B : Nat} {parts : Array (Nat × Operand)} (ho : o.op = .buildSlice t len parts) {d : Nat} (hd : o.dst = some d) (hn : d < X.n) (hd0 : d ≠ 0) (hf : freshT d s = true) (he : elemZ X.P t = some (E, B)) {els : List (List DV)}
    (h : litEls X (get s) E 0 parts.toList = some els) (hc : els.length = len ∧ len * E ≤ 16777216 ∧ len ≤ BIG) : StepOK X s o (upd (upd (del s (.tok 0)) (.slot d) (.one (.own d els))) (.tok d) (.tk E len)) := by
  intro G a w R next Q hK
  obtain ⟨c, e, h1, h2, h3⟩ := buildSlice_run R he h hc.1 hc.2.1 hc.2.2
  refine opIn (by intro c e; rw [ho] at e; cases e) ?_
  simp only [execOp, ho, Sem.run_bind, h1, Result.andThen_ok, Sem.run_pure, upn_value, hd]
  have hτ0 : (setτ G (withData G.D w.heap.size 0 (len * E)) d (some ⟨w.heap.size, 0, none⟩, len)).τ 0 = (none, 0) := by simp only [setτ, if_neg (Ne.symm hd0)]; exact R.nil
  have T : Trans X G a w (setτ G (withData G.D w.heap.size 0 (len * E)) d (some ⟨w.heap.size, 0, none⟩, len)) a (w.alloc (.cells c e)) (fun _ => False) := trans_data R (hi := len * E) (by omega) rfl hτ0
  refine hK (setτ G (withData G.D w.heap.size 0 (len * E)) d (some ⟨w.heap.size, 0, none⟩, len)) _ _ (R.ownNew (t := 0) hn hf T rfl (fun k hk => by simp [setτ, hk]) (fun b h => h.elim) ?_ ?_ (fun b hb => ?_))
  · simp only [RSV, setτ, if_true]
    rw [← hc.1] at h3 ⊢
    exact ⟨rfl, h3⟩
  · simp only [TokAt, setτ, if_true]
    exact ⟨Nat.le_refl _, fun h => absurd h (Nat.lt_irrefl _)⟩
  · simp [tokBlk, setτ] at hb

theorem vcK_litO {esc : List Nat} {ops : Array Oper} {l : List Oper} {K : St → Prop} {d : Tmp} {t len : Nat} {parts : Array (Nat × Operand)} {ty : TypeId} {pos : String} {af : Array Edge} {q : Option (Prop × St)} {E B : Nat} {els : List (List DV)}
    (he : elemZ X.P t = some (E, B)) (h : litEls X (get s) E 0 parts.toList = some els) (hc : els.length = len ∧ len * E ≤ 16777216 ∧ len ≤ BIG) (hn : d < X.n) (hd0 : d ≠ 0) (hf : freshT d s = true) (hq : q = none)
    (k : vc X esc ops l (upd (upd (del s (.tok 0)) (.slot d) (.one (.own d els))) (.tok d) (.tk E len)) K) :
    vcK X esc ops l K ⟨some d, .buildSlice t len parts, ty, pos, af, none⟩ s q := by
  subst hq
  exact VL_step rfl (step_litO (o := ⟨some d, .buildSlice t len parts, ty, pos, af, none⟩) rfl rfl hn hd0 hf he h hc) (vc_sound k)

end
end Go.Proofs.YtmdjiajbnifjpaaDoor.Lift

/-
  Package code: Starts and Check, walked.
-/
namespace Go.Proofs.YtmdjiajbnifjpaaDoor.Lift
set_option linter.unusedSimpArgs false
set_option linter.unusedVariables false
set_option linter.unnecessarySimpa false
open Go
variable {gl : Globs}

set_option maxHeartbeats 2000000 in
set_option maxRecDepth 10000 in
theorem starts_ok (hop : globOf gl 0 = some opEls) (c : List Ins) (hb : c.length ≤ 1000000000) : Con1 Tryd.prog gl 55 [.sl (rowsI c)] [] (.tup [.sl (ints (startsN c).1), dbool (startsN c).2]) [] := by
  refine t_in Tryd.func55 ?_
  intro X hP hgl hf hfn hn hR hids hfit
  have hcl : (rowsI c).length = c.length := by simp [rowsI]
  refine t_rg0 ?_
  by_cases h0 : c = []
  · subst h0
    repeat (first | refine W_seq ?_ | refine W_skip ?_ | refine W_block ?_ | refine W_inBlock ?_ | refine W_label ?_ | refine W_exit rfl ?_ | ((first | refine W_reg [] fun K hK => ?_ | refine W_regd (by rw [hP]; exact mixed) [] fun K hK => ?_); simp [go_sem, hP, hgl, hn, rowsI]; (repeat (refine ⟨by omega, ?_⟩)); (first | refine hK _ ?_ | refine ⟨by rfl, hK _ ?_⟩); clear hK K) | refine W_cond rfl (fun _ => ?_) (fun hq => False.elim (by first | (simp [rowsI]; done) | (simp [rowsI]; omega) | (simp [rowsI] at hq; done) | (simp [rowsI] at hq; omega))) | refine W_cond rfl (fun hq => False.elim (by first | (simp [rowsI]; done) | (simp [rowsI]; omega) | (simp [rowsI] at hq; done) | (simp [rowsI] at hq; omega))) (fun _ => ?_))
    refine t_r ?_
    simp [go_sem, hP, hgl, hn, startsN, ints] <;> (try omega)
  have hpos : 1 ≤ c.length := by
    cases c with
    | nil => exact absurd rfl h0
    | cons x r => simp
  have hlast : c.getLast? = some (c[c.length - 1]'(by omega)) := by rw [List.getLast?_eq_getElem?, List.getElem?_eq_getElem]
  have hi1 : ¬ ((c.length : Int) < 1) := by omega
  by_cases h1 : 4096 < c.length
  · have hi2 : (4096 : Int) < (c.length : Int) := by omega
    refine t_g (j2 @hcl (j2 @hi1 @hi2)) ?_
    refine t_r ?_
    simp [go_sem, hP, hgl, hn, startsN, h1, ints] <;> (try omega)
  obtain ⟨o, a, hoa⟩ : ∃ o a, c[c.length - 1]? = some (o, a) := ⟨(c[c.length - 1]'(by omega)).1, (c[c.length - 1]'(by omega)).2, by rw [List.getElem?_eq_getElem]⟩
  have hlo : lastOp c = o := by rw [lastOp, List.getLast?_eq_getElem?, hoa]; rfl
  have hrow : (rowsI c)[c.length - 1]? = some [dint o, dint a] := by simp [rowsI, hoa, Ins.row]
  have hidx : ((c.length : Int) - 1).toNat = c.length - 1 := by omega
  have hi2 : ¬ ((4096 : Int) < (c.length : Int)) := by omega
  by_cases h2 : o = 14
  · subst h2
    refine t_rg (j2 @hcl (j2 @hi1 (j2 @hi2 (j2 @hidx @hrow)))) ?_
    refine t_no ?_
    refine t_a ?_
    refine W_reg [29] fun K hK => ?_
    simp [go_sem, hP, hgl, hn]
    refine vcK_litO (E := 1) (els := [[dint 0]]) (by simp [go_sem, hP]; rfl) (by simp [go_sem, hP, hgl, hn]) ⟨rfl, by decide, by decide⟩ (by rw [hn]; exact Nat.le_of_ble_eq_true rfl) (by decide) (by rfl) (by rfl) ?_
    simp [go_sem, hP, hgl, hn]
    refine hK _ ?_
    clear hK K
    refine t_rg0 ?_
    refine t_rg0 ?_
    refine t_rg @hcl ?_
    refine t_a ?_
    refine W_sub [(1004, 29), (1005, 0)] (by simp [go_sem]) (by simp [go_sem, ints] <;> omega) (by simp [go_sem]) (W_rounds (fun x : Nat × Int × List Int × List Int => x.1 ≤ c.length ∧ scanS (c.drop x.1) x.1 x.2.1 x.2.2.1 x.2.2.2 = scanS c 0 0 [0] [] ∧ 0 ≤ x.2.1 ∧ x.2.1 ≤ x.1 ∧ x.2.2.1 ≠ [] ∧ x.2.2.1.length ≤ x.1 + 1 ∧ x.2.2.2.length ≤ x.1) (fun x : Nat × Int × List Int × List Int => [(.slot 4, .one (.own 1004 (ints x.2.2.1))), (.tok 1004, .tk 1 x.2.2.1.length), (.slot 5, .one (.own 1005 (ints x.2.2.2))), (.tok 1005, .tk 1 x.2.2.2.length), (.slot 6, .one (.v (dint x.2.1))), (.slot 30, .one (.v (.sl (rowsI c)))), (.slot 31, .one (.v (dint c.length))), (.slot 32, .one (.v (dint x.1)))]) (fun x : Nat × Int × List Int × List Int => c.length - x.1) (0, 0, [0], []) (⟨Nat.zero_le _, rfl, by decide, by decide, by decide, by decide, by decide⟩) ?_)
    rintro ⟨n, h, st, fs⟩ ⟨i1, i2, i3, i4, i5, i6, i7⟩ ihr
    simp only at i1 i2 i3 i4 i5 i6 i7
    rcases Nat.lt_or_ge n c.length with hlt | hge
    · obtain ⟨o, a, hx⟩ : ∃ o a, c[n]? = some (o, a) := ⟨(c[n]'hlt).1, (c[n]'hlt).2, by rw [List.getElem?_eq_getElem hlt]⟩
      have hdr : c.drop n = (o, a) :: c.drop (n + 1) := by
        rw [List.drop_eq_getElem_cons hlt]
        rw [List.getElem?_eq_getElem hlt] at hx
        rw [Option.some.inj hx]
      have hg : (rowsI c)[n]? = some [dint o, dint a] := by simp [rowsI, hx, Ins.row]
      rw [hdr, scanS] at i2
      simp only at i2
      have hltI : (n : Int) < (c.length : Int) := by omega
      have hrj : scanS c 0 0 [0] [] = none → startsN c = ([], false) := by
        intro hq
        unfold startsN
        rw [hq]
        split <;> rfl
      refine t_rg @hltI ?_
      refine t_yes ?_
      by_cases h14 : o = 14
      · subst h14
        rw [if_pos rfl] at i2
        by_cases ha : a = 0
        · by_cases hh : h = 1
          · rw [if_pos ⟨ha, hh⟩] at i2
            repeat (first | (refine W_sub [(1004, 52)] (by simp [go_sem]) (by simp [go_sem, ints] <;> omega) (by simp [go_sem]) (ihr (n + 1, 0, st ++ [((n + 1 : Nat) : Int)], fs) ⟨hlt, i2, Int.le_refl _, by simp only; omega, by simp, by simp only [List.length_append, List.length_singleton]; omega, by simp only; omega⟩ (by simp only; omega))) | refine W_seq ?_ | refine W_skip ?_ | refine W_block ?_ | refine W_inBlock ?_ | refine W_label ?_ | refine W_exit rfl ?_ | ((first | refine W_reg [] fun K hK => ?_ | refine W_regd (by rw [hP]; exact mixed) [] fun K hK => ?_); simp [go_sem, hP, hgl, hn, hg, ha, hh, ints]; (repeat (refine ⟨by omega, ?_⟩)); (first | refine hK _ ?_ | refine ⟨by rfl, hK _ ?_⟩); clear hK K) | refine W_cond rfl (fun _ => ?_) (fun hq => False.elim (by first | (simp [hg, ha, hh, ints]; done) | (simp [hg, ha, hh, ints]; omega) | (simp [hg, ha, hh, ints] at hq; done) | (simp [hg, ha, hh, ints] at hq; omega))) | refine W_cond rfl (fun hq => False.elim (by first | (simp [hg, ha, hh, ints]; done) | (simp [hg, ha, hh, ints]; omega) | (simp [hg, ha, hh, ints] at hq; done) | (simp [hg, ha, hh, ints] at hq; omega))) (fun _ => ?_))
          · rw [if_neg (fun e => hh e.2)] at i2
            have hr := hrj i2.symm
            refine t_g (j2 @hg (j2 @ha @hh)) ?_
            refine t_r ?_
            simp [go_sem, hP, hgl, hn, hr, ints] <;> (try omega)
        · rw [if_neg (fun e => ha e.1)] at i2
          have hr := hrj i2.symm
          refine t_g (j2 @hg @ha) ?_
          refine t_r ?_
          simp [go_sem, hP, hgl, hn, hr, ints] <;> (try omega)
      · rw [if_neg h14] at i2
        by_cases hr : 1 ≤ o ∧ o ≤ 13
        · obtain ⟨k, rfl⟩ := Int.eq_ofNat_of_zero_le (by omega : 0 ≤ o)
          have hk1 : 1 ≤ k := by omega
          have hk2 : k ≤ 13 := by omega
          have hop1 := opEls_get k hk1 hk2
          have hk14 : ¬ k = 14 := by omega
          have hk14' : ¬ (k : Int) = 14 := by omega
          have hkl : ¬ (k : Int) < 1 := by omega
          have hkg : ¬ (14 : Int) ≤ (k : Int) := by omega
          have hkh : (k : Int) < 14 := by omega
          have htk : (0 : Int) ≤ takesI (k : Int) ∧ (takesI (k : Int) : Int) ≤ 3 := by
            unfold takesI; repeat' split
            all_goals decide
          have e13 : ((1 : Int) ≤ (k : Int)) ∧ ((k : Int) ≤ 13) := ⟨by omega, by omega⟩
          by_cases k2 : k = 2
          · subst k2
            have ht2 : takesI ((2 : Nat) : Int) = 0 := rfl
            have ht2' : takesI (2 : Int) = 0 := rfl
            by_cases ha : a ≤ n
            · rw [if_neg (fun e => by
                have h1 := e.1
                simp only [okI, Bool.and_eq_true, decide_eq_true_eq] at h1
                have h2 := h1.2
                simp at h2
                omega)] at i2
              have hr' := hrj i2.symm
              refine t_g (j2 @hg @ha) ?_
              refine t_r ?_
              simp [go_sem, hP, hgl, hn, hr', ints] <;> (try omega)
            · have hh0 : ¬ h < 0 := by omega
              rw [if_pos ⟨by simp [okI]; omega, by show ((takesI ((2 : Nat) : Int) : Nat) : Int) ≤ h; omega⟩, if_pos (show ((2 : Nat) : Int) = 2 from rfl)] at i2
              have e : h + 1 - ((takesI ((2 : Nat) : Int) : Nat) : Int) = h + 1 := by rw [ht2]; omega
              have i2' : scanS (c.drop (n + 1)) (n + 1) (h + 1) st (fs ++ [a]) = scanS c 0 0 [0] [] := i2 ▸ congrArg (fun z => scanS (c.drop (n + 1)) (n + 1) z st (fs ++ [a])) e.symm
              repeat (first | (refine W_sub [(1005, 74)] (by simp [go_sem]) (by simp [go_sem, ints] <;> omega) (by simp [go_sem]) (ihr (n + 1, h + 1, st, fs ++ [a]) ⟨hlt, i2', by simp only; omega, by simp only; omega, i5, by simp only; omega, by simp only [List.length_append, List.length_singleton]; omega⟩ (by simp only; omega))) | refine W_seq ?_ | refine W_skip ?_ | refine W_block ?_ | refine W_inBlock ?_ | refine W_label ?_ | refine W_exit rfl ?_ | ((first | refine W_reg [] fun K hK => ?_ | refine W_regd (by rw [hP]; exact mixed) [] fun K hK => ?_); simp [go_sem, hP, hgl, hn, hg, ha, ints, hop, hop1, ht2', hh0]; (repeat (refine ⟨by omega, ?_⟩)); (first | refine hK _ ?_ | refine ⟨by rfl, hK _ ?_⟩); clear hK K) | refine W_cond rfl (fun _ => ?_) (fun hq => False.elim (by first | (simp [hg, ha, ints, hop, hop1, ht2', hh0]; done) | (simp [hg, ha, ints, hop, hop1, ht2', hh0]; omega) | (simp [hg, ha, ints, hop, hop1, ht2', hh0] at hq; done) | (simp [hg, ha, ints, hop, hop1, ht2', hh0] at hq; omega))) | refine W_cond rfl (fun hq => False.elim (by first | (simp [hg, ha, ints, hop, hop1, ht2', hh0]; done) | (simp [hg, ha, ints, hop, hop1, ht2', hh0]; omega) | (simp [hg, ha, ints, hop, hop1, ht2', hh0] at hq; done) | (simp [hg, ha, ints, hop, hop1, ht2', hh0] at hq; omega))) (fun _ => ?_))
          by_cases k1 : k = 1
          · subst k1
            have ht1 : takesI ((1 : Nat) : Int) = 0 := rfl
            have ht1' : takesI (1 : Int) = 0 := rfl
            by_cases ha : a < 0
            · rw [if_neg (fun e => by
                have h1 := e.1
                simp only [okI, Bool.and_eq_true, decide_eq_true_eq] at h1
                have h2 := h1.2
                simp at h2
                omega)] at i2
              have hr' := hrj i2.symm
              refine t_g (j2 @hg @ha) ?_
              refine t_r ?_
              simp [go_sem, hP, hgl, hn, hr', ints] <;> (try omega)
            · have hh0 : ¬ h < 0 := by omega
              rw [if_pos ⟨by simp [okI]; omega, by show ((takesI ((1 : Nat) : Int) : Nat) : Int) ≤ h; omega⟩, if_neg (show ¬ ((1 : Nat) : Int) = 2 from by decide)] at i2
              have e : h + 1 - ((takesI ((1 : Nat) : Int) : Nat) : Int) = h + 1 := by rw [ht1]; omega
              have i2' : scanS (c.drop (n + 1)) (n + 1) (h + 1) st fs = scanS c 0 0 [0] [] := i2 ▸ congrArg (fun z => scanS (c.drop (n + 1)) (n + 1) z st fs) e.symm
              repeat (first | (refine W_sub [] (by simp [go_sem]) (by simp [go_sem, ints] <;> omega) (by simp [go_sem]) (ihr (n + 1, h + 1, st, fs) ⟨hlt, i2', by simp only; omega, by simp only; omega, i5, by simp only; omega, by simp only; omega⟩ (by simp only; omega))) | refine W_seq ?_ | refine W_skip ?_ | refine W_block ?_ | refine W_inBlock ?_ | refine W_label ?_ | refine W_exit rfl ?_ | ((first | refine W_reg [] fun K hK => ?_ | refine W_regd (by rw [hP]; exact mixed) [] fun K hK => ?_); simp [go_sem, hP, hgl, hn, hg, ha, ints, hop, hop1, ht1', hh0]; (repeat (refine ⟨by omega, ?_⟩)); (first | refine hK _ ?_ | refine ⟨by rfl, hK _ ?_⟩); clear hK K) | refine W_cond rfl (fun _ => ?_) (fun hq => False.elim (by first | (simp [hg, ha, ints, hop, hop1, ht1', hh0]; done) | (simp [hg, ha, ints, hop, hop1, ht1', hh0]; omega) | (simp [hg, ha, ints, hop, hop1, ht1', hh0] at hq; done) | (simp [hg, ha, ints, hop, hop1, ht1', hh0] at hq; omega))) | refine W_cond rfl (fun hq => False.elim (by first | (simp [hg, ha, ints, hop, hop1, ht1', hh0]; done) | (simp [hg, ha, ints, hop, hop1, ht1', hh0]; omega) | (simp [hg, ha, ints, hop, hop1, ht1', hh0] at hq; done) | (simp [hg, ha, ints, hop, hop1, ht1', hh0] at hq; omega))) (fun _ => ?_))
          have k2' : ¬ (k : Int) = 2 := by omega
          have k1' : ¬ (k : Int) = 1 := by omega
          by_cases ha : a = 0
          · by_cases hh : h < takesI (k : Int)
            · rw [if_neg (fun e => by have h5 : ((takesI (k : Int) : Nat) : Int) ≤ h := e.2; omega)] at i2
              have hr' := hrj i2.symm
              refine t_g (j2 @hg (j2 @hk14 (j2 @hk14' (j2 @hkl (j2 @hkg (j2 @hkh (j2 @k1 (j2 @k2 (j2 @k1' (j2 @k2' (j2 @ha (j2 @hop (j2 @hop1 (j2 @hh @hk2)))))))))))))) ?_
              refine t_r ?_
              simp [go_sem, hP, hgl, hn, hr', ints] <;> (try omega)
            · rw [if_pos ⟨by simp [okI, k1, k2, ha, hk1, hk2]; omega, by show ((takesI (k : Int) : Nat) : Int) ≤ h; omega⟩, if_neg k2'] at i2
              repeat (first | (refine W_sub [] (by simp [go_sem]) (by simp [go_sem, ints] <;> omega) (by simp [go_sem]) (ihr (n + 1, h + (1 - takesI (k : Int)), st, fs) ⟨hlt, by rw [← i2]; simp only; congr 1; omega, by simp only; omega, by simp only; omega, i5, by simp only; omega, by simp only; omega⟩ (by simp only; omega))) | refine W_seq ?_ | refine W_skip ?_ | refine W_block ?_ | refine W_inBlock ?_ | refine W_label ?_ | refine W_exit rfl ?_ | ((first | refine W_reg [] fun K hK => ?_ | refine W_regd (by rw [hP]; exact mixed) [] fun K hK => ?_); simp [go_sem, hP, hgl, hn, hg, hk14, hk14', hkl, hkg, hkh, k1, k2, k1', k2', ha, hop, hop1, hh, hk2]; (repeat (refine ⟨by omega, ?_⟩)); (first | refine hK _ ?_ | refine ⟨by rfl, hK _ ?_⟩); clear hK K) | refine W_cond rfl (fun _ => ?_) (fun hq => False.elim (by first | (simp [hg, hk14, hk14', hkl, hkg, hkh, k1, k2, k1', k2', ha, hop, hop1, hh, hk2]; done) | (simp [hg, hk14, hk14', hkl, hkg, hkh, k1, k2, k1', k2', ha, hop, hop1, hh, hk2]; omega) | (simp [hg, hk14, hk14', hkl, hkg, hkh, k1, k2, k1', k2', ha, hop, hop1, hh, hk2] at hq; done) | (simp [hg, hk14, hk14', hkl, hkg, hkh, k1, k2, k1', k2', ha, hop, hop1, hh, hk2] at hq; omega))) | refine W_cond rfl (fun hq => False.elim (by first | (simp [hg, hk14, hk14', hkl, hkg, hkh, k1, k2, k1', k2', ha, hop, hop1, hh, hk2]; done) | (simp [hg, hk14, hk14', hkl, hkg, hkh, k1, k2, k1', k2', ha, hop, hop1, hh, hk2]; omega) | (simp [hg, hk14, hk14', hkl, hkg, hkh, k1, k2, k1', k2', ha, hop, hop1, hh, hk2] at hq; done) | (simp [hg, hk14, hk14', hkl, hkg, hkh, k1, k2, k1', k2', ha, hop, hop1, hh, hk2] at hq; omega))) (fun _ => ?_))
          · rw [if_neg (fun e => by
              have h1 := e.1
              simp only [okI, Bool.and_eq_true, decide_eq_true_eq] at h1
              have h2 := h1.2
              rw [if_neg k2', if_neg k1'] at h2
              exact ha (of_decide_eq_true h2))] at i2
            have hr' := hrj i2.symm
            refine t_g (j2 @hg (j2 @hk14 (j2 @hk14' (j2 @hkl (j2 @hkg (j2 @k1 (j2 @k2 (j2 @k1' (j2 @k2' @ha))))))))) ?_
            refine t_r ?_
            simp [go_sem, hP, hgl, hn, hr', ints] <;> (try omega)
        · rw [if_neg (fun e => hr (by
            have h1 := e.1
            simp only [okI, Bool.and_eq_true, decide_eq_true_eq] at h1
            exact h1.1))] at i2
          have hr' := hrj i2.symm
          by_cases hl : o < 1
          · refine t_g (j2 @hg (j2 @h14 @hl)) ?_
            refine t_r ?_
            simp [go_sem, hP, hgl, hn, hr', ints] <;> (try omega)
          · have hgt : (14 : Int) ≤ o := by omega
            refine t_g (j2 @hg (j2 @h14 (j2 @hl @hgt))) ?_
            refine t_r ?_
            simp [go_sem, hP, hgl, hn, hr', ints] <;> (try omega)
    · have hn0 : n = c.length := by omega
      subst hn0
      rw [List.drop_length, scanS] at i2
      have hss : startsN c = if st.dropLast.tail = fs then (st.dropLast, true) else ([], false) := by
        unfold startsN
        rw [if_neg (by simp only [not_or, Decidable.not_not]; exact ⟨h0, by omega, hlo⟩), ← i2]
      have hs1 : 1 ≤ st.length := by cases st with | nil => exact absurd rfl i5 | cons _ _ => simp
      have hil : (ints st).length = st.length := by simp [ints]
      have hif : (ints fs).length = fs.length := by simp [ints]
      have hidx2 : ((st.length : Int) - 1).toNat = st.length - 1 := by omega
      have htk : (ints st).take (st.length - 1) = ints st.dropLast := by simp [ints, List.dropLast_eq_take, List.map_take]
      refine t_rg0 ?_
      refine t_no ?_
      refine t_rg (j2 @hil (j2 @hif (j2 @hidx2 @htk))) ?_
      have hs2 : 2 ≤ st.length := by
        obtain ⟨b, bs, -, -, -, -, -, i6'⟩ := scan_inv c 0 0 _ _ _ i2.symm h0 hlo
        have e := (Prod.mk.inj i6').1
        rw [e]
        simp [ends]
      have hdl : st.dropLast.length = st.length - 1 := List.length_dropLast
      generalize st.dropLast = sd at *
      have hsl : (ints sd).length = sd.length := by simp [ints]
      by_cases hle : fs.length = sd.length - 1
      · have hq : ((fs.length : Int)) = (sd.length : Int) - 1 := by omega
        refine t_g (j2 @hif (j2 @hsl @hq)) ?_
        refine t_a ?_
        refine t_sub [] @hq (W_rounds (fun k : Nat => k ≤ fs.length ∧ sd.tail.take k = fs.take k) (fun k : Nat => [(.slot 4, .one (.v (.sl (ints sd)))), (.slot 119, .one (.v (.sl (ints fs)))), (.slot 120, .one (.v (dint fs.length))), (.slot 121, .one (.v (dint k)))]) (fun k : Nat => fs.length - k) 0 (⟨Nat.zero_le _, rfl⟩) ?_)
        rintro k ⟨j1', j2'⟩ ihr2
        rcases Nat.lt_or_ge k fs.length with hk | hk
        · obtain ⟨y, hy⟩ : ∃ y, fs[k]? = some y := ⟨_, List.getElem?_eq_getElem hk⟩
          obtain ⟨z, hz⟩ : ∃ z, sd[k + 1]? = some z := ⟨sd[k + 1]'(by omega), List.getElem?_eq_getElem (by omega)⟩
          have hy' : (ints fs)[k]? = some [dint y] := by simp [ints, hy]
          have hz' : (ints sd)[k + 1]? = some [dint z] := by simp [ints, hz]
          have hi3 : ((k : Int) + 1).toNat = k + 1 := by omega
          have hzt : sd.tail[k]? = some z := by simpa using hz
          refine t_rg0 ?_
          refine t_yes ?_
          by_cases hyz : z = y
          · subst hyz
            refine t_gt (wr []) trivial (j2 @hy' (j2 @hz' @hi3)) (ihr2 (k + 1) ⟨hk, by rw [List.take_add_one, List.take_add_one, j2', hzt, hy]⟩ (by omega))
          · have hne : ¬ sd.tail = fs := by
              intro e
              rw [e, hy] at hzt
              exact hyz (Option.some.inj hzt).symm
            rw [if_neg hne] at hss
            refine t_g (j2 @hy' (j2 @hz' (j2 @hi3 @hyz))) ?_
            refine t_r ?_
            simp [go_sem, hP, hgl, hn, hss, ints] <;> (try omega)
        · have hke : k = fs.length := by omega
          have heq : sd.tail = fs := by
            rw [hke, List.take_length, List.take_of_length_le (by simp; omega)] at j2'
            exact j2'
          rw [if_pos heq] at hss
          refine t_rg0 ?_
          refine t_no ?_
          refine t_g0 ?_
          refine t_r ?_
          simp [go_sem, hP, hgl, hn, hss] <;> (try omega)
      · have hne : ¬ sd.tail = fs := by
          intro e
          apply hle
          rw [← e, List.length_tail]
        rw [if_neg hne] at hss
        have hq : ¬ ((fs.length : Int)) = (sd.length : Int) - 1 := by omega
        refine t_g (j2 @hif (j2 @hsl @hq)) ?_
        refine t_r ?_
        simp [go_sem, hP, hgl, hn, hss, ints] <;> (try omega)
  · refine t_g (j2 @hcl (j2 @hi1 (j2 @hi2 (j2 @hidx (j2 @hrow @h2))))) ?_
    refine t_r ?_
    simp [go_sem, hP, hgl, hn, startsN, hlo, h2, ints] <;> (try omega)
end Go.Proofs.YtmdjiajbnifjpaaDoor.Lift

/-
  Package code: Check, walked.
-/
namespace Go.Proofs.YtmdjiajbnifjpaaDoor.Lift
set_option linter.unusedSimpArgs false
set_option linter.unusedVariables false
set_option linter.unnecessarySimpa false
open Go
variable {gl : Globs}

theorem codecheck_ok (hop : globOf gl 0 = some opEls) (c : List Ins) (hb : c.length ≤ 1000000000) : Con1 Tryd.prog gl 23 [.sl (rowsI c)] [] (dint (if (startsN c).2 = true then 0 else 43)) [] := by
  refine t_in Tryd.func23 ?_
  intro X hP hgl hf hfn hn hR hids hfit
  refine t_g0 ?_
  refine t_c1 trivial (starts_ok hop c hb) ?_
  by_cases h : (startsN c).2 = true
  · refine t_g @h ?_
    refine t_r ?_
    simp [go_sem, hP, hgl, hn, h] <;> (try omega)
  · have h' : (startsN c).2 = false := by simpa using h
    refine t_g @h' ?_
    refine t_r ?_
    simp [go_sem, hP, hgl, hn, h'] <;> (try omega)
end Go.Proofs.YtmdjiajbnifjpaaDoor.Lift

/-
  Package code: Term, walked.
-/
namespace Go.Proofs.YtmdjiajbnifjpaaDoor.Lift
set_option linter.unusedSimpArgs false
set_option linter.unusedVariables false
set_option linter.unnecessarySimpa false
open Go
variable {gl : Globs}

set_option maxHeartbeats 2000000 in
set_option maxRecDepth 10000 in
theorem codeterm_ok (hop : globOf gl 0 = some opEls) (c : List Ins) (hb : c.length ≤ 1000000000) : Con1 Tryd.prog gl 21 [.sl (rowsI c)] [] (.tup [(termC c).1.dv, dint (termC c).2]) [] := by
  refine t_in Tryd.func21 ?_
  intro X hP hgl hf hfn hn hR hids hfit
  refine t_g0 ?_
  refine t_c1 trivial (starts_ok hop c hb) ?_
  by_cases hs : (startsN c).2 = true
  · obtain ⟨bs, rfl, hp, hst⟩ := starts_of (starts_snd hs)
    have htc : termC (lay bs) = (termOf bs, 0) := by rw [termC, if_pos hs, split_lay bs hp.no14]
    have hpos : 0 < bs.length := List.length_pos_iff.2 hp.one
    have hsl : (ints (startsN (lay bs)).1).length = bs.length := by rw [hst]; simp [ints, ends_length]; omega
    have hbl : bs.length ≤ 4096 := by have := hp.len; rw [lay_length] at this; omega
    refine t_rg @hs ?_
    refine t_no ?_
    refine t_a ?_
    refine W_reg [22] fun K hK => ?_
    simp [go_sem, hP, hgl, hn, hs]
    refine vcK_makeMap (by rw [hn]; exact Nat.le_of_ble_eq_true rfl) (by rfl) ?_
    intro bm hbm hwm
    simp [go_sem] at hbm
    simp [go_sem, hP, hgl, hn]
    refine hK _ ?_
    clear hK K
    refine t_rg0 ?_
    refine t_rg0 ?_
    refine t_rg @hsl ?_
    rw [hst]
    have hlay := hp.len
    rw [lay_length] at hlay
    refine t_a ?_
    refine W_sub [] (by simp [go_sem]) ?_ (by simp [go_sem]) (W_rounds (fun x : Nat => x ≤ bs.length)
      (fun x => [(.slot 0, .one (.v (.sl (rowsI (lay bs))))), (.slot 4, .one (.v (.sl (ints (0 :: (ends 0 bs).dropLast))))), (.slot 6, .one (.v (.prim (.map (some bm))))), (.slot 7, .one (.loc 7 0)), (.loc 7, .row [.v (dint 5), .own 0 []]), (.slot 8, .one (.v (dint ((bs.drop x).flatten.length : Nat)))), (.slot 9, .one (.v (dint ((x : Int) - 1)))), (.slot 2, .one (.loc 2 0)), (.loc 2, .row [.v (dint 0), .v (dint 0), .v (dint 0), .own 0 [], .own 0 []]), (.heap bm, .mp (mapD (decAt bs x)))])
      (fun x => x) bs.length (Nat.le_refl _) ?_)
    · simp [go_sem, decAt_end hp.one, mapD]
    rintro x hx ihx
    rcases Nat.eq_zero_or_pos x with h0 | h0
    · subst h0
      have hN : ((bs.drop 0).flatten.length) ≤ 4096 := by rw [List.drop_zero]; omega
      have hN' : ¬ (4096 : Int) < ((bs.drop 0).flatten.length : Nat) := by omega
      generalize hNN : (bs.drop 0).flatten.length = NN at *
      refine t_rg0 ?_
      refine t_no ?_
      refine t_rg @hN' ?_
      refine t_no ?_
      obtain ⟨v0, hv0⟩ : ∃ v, (0, v) ∈ decAt bs 0 := (decAt_keys hp.one bs.length 0 (by omega) 0).2 ⟨0, Nat.le_refl _, hpos, by simp [startAt, lay]⟩
      have hlk := lookM_yes ⟨v0, hv0⟩
      have htt : termOf bs = look (decAt bs 0) 0 := by unfold termOf decAt zipS; rw [List.drop_zero]
      generalize look (decAt bs 0) 0 = tt at hlk htt
      refine t_a ?_
      refine W_reg [] fun K hK => ?_
      simp [go_sem, hP, hgl, hn]
      refine vcK_lookup (b := bm) (n := 0) (dv := tt.dv) (by rw [hn]; exact Nat.le_of_ble_eq_true rfl) (by rw [hP]; kernel_rfl) (by simp [go_sem]) (by simp [go_sem]) (by simp [go_sem]) hlk (by rfl) ?_
      have hcd : cellsD tt.dv = [dint tt.kind, dint tt.index, dint tt.type.kind, .sl (tt.type.args.map Ty.cells), .sl (tt.args.map Tm.cells)] := by rw [← Tm.fold tt]; rfl
      have hfo := Tm.fold tt
      simp [go_sem, hP, hgl, hn, hcd]
      refine hK _ ?_
      clear hK K
      refine t_r ?_
      simp [go_sem, hP, hgl, hn, htc, htt, hfo] <;> (try omega)
    · obtain ⟨k, rfl⟩ : ∃ k, x = k + 1 := ⟨x - 1, by omega⟩
      obtain ⟨b, hb⟩ : ∃ b, bs[k]? = some b := ⟨bs[k]'(by omega), List.getElem?_eq_getElem (by omega)⟩
      obtain ⟨la, le, ll⟩ := lay_at bs hb
      have hgk : (ints (0 :: (ends 0 bs).dropLast))[k]? = some [dint ((startAt bs k : Nat) : Int)] := by
        have := starts_get (bs := bs) (k := k) (by omega)
        simp only [ints, List.getElem?_map, this]
        rfl
      have hkI : (0 : Int) ≤ (k : Int) := by omega
      have hstep := decAt_step hb
      have hrow : ∀ j o a, (lay bs)[startAt bs k + j]? = some (o, a) → (rowsI (lay bs))[startAt bs k + j]? = some [dint o, dint a] := by
        intro j o a h
        simp [rowsI, h, Ins.row]
      have hdk : bs.drop k = b :: bs.drop (k + 1) := by
        rw [List.drop_eq_getElem_cons (by omega)]
        congr 1
        rw [List.getElem?_eq_getElem (by omega)] at hb
        exact Option.some.inj hb
      have hNk : (bs.drop k).flatten.length = b.length + (bs.drop (k + 1)).flatten.length := by rw [hdk]; simp
      generalize hNN : (bs.drop (k + 1)).flatten.length = N at *
      have hNb : (bs.drop k).flatten.length ≤ bs.flatten.length := by
        have h1 : bs.flatten.length = (bs.take k).flatten.length + (bs.drop k).flatten.length := by
          rw [← List.length_append, ← List.flatten_append, List.take_append_drop]
        omega
      have hnokey : lookM (mapD (decAt bs (k + 1))) ((startAt bs k : Nat) : Int) = none := by
        refine lookM_no fun hv => ?_
        obtain ⟨k', h1, h2, h3⟩ := (decAt_keys hp.one (bs.length - (k + 1)) (k + 1) (by omega) _).1 hv
        have := startAt_inj bs (i := k) (k := k') (by omega) (by omega) (by omega)
        omega
      have hfk : ∀ (j : Nat) (a : Int), b[j]? = some (2, a) → lookM (mapD (decAt bs (k + 1))) a = some (look (decAt bs (k + 1)) a).dv := by
        intro j a hj
        obtain ⟨k', h1, h2, h3⟩ := fun_later hp hb hj
        exact lookM_yes ((decAt_keys hp.one (bs.length - (k + 1)) (k + 1) (by omega) a).2 ⟨k', h1, h2, h3⟩)
      have hokj : ∀ (j : Nat) (x : Ins), b[j]? = some x → okI (startAt bs k + j) x = true := by
        intro j x hj
        have hjl := (List.getElem?_eq_some_iff.1 hj).1
        have := okCd_at hp.ok (i := startAt bs k + j) (by rw [la j hjl]; exact hj) (hp.no14 b (List.mem_of_getElem? hb) x (List.mem_of_getElem? hj))
        rwa [Nat.zero_add] at this
      generalize hst0 : startAt bs k = st at *
      generalize decAt bs (k + 1) = D at *
      refine t_rg0 ?_
      refine t_yes ?_
      refine t_rg0 ?_
      refine t_rg @hgk ?_
      refine t_a ?_
      refine W_nilslot 10 (by simp [go_sem]) ?_
      simp [go_sem]
      refine W_sub [] (by simp [go_sem]) ?_ (by simp [go_sem]) (W_rounds (fun y : Nat × RS => y.1 ≤ b.length ∧ y.2.is 5 ((runB (look D) (b.take y.1) []).map Tm.cells) ∧ y.2.q ≠ some bm)
        (fun y => (.slot 0, .one (.v (.sl (rowsI (lay bs))))) :: (.slot 4, .one (.v (.sl (ints (0 :: (ends 0 bs).dropLast))))) :: (.slot 6, .one (.v (.prim (.map (some bm))))) :: (.slot 7, .one (.loc 7 0)) :: (.loc 7, .row [.v (dint 5), .own 0 []]) :: (.slot 8, .one (.v (dint ((N + y.1 : Nat) : Int)))) :: (.slot 9, .one (.v (dint (k : Int)))) :: (.slot 2, .one (.loc 2 0)) :: (.loc 2, .row [.v (dint 0), .v (dint 0), .v (dint 0), .own 0 [], .own 0 []]) :: (.slot 11, .one (.v (dint ((st + y.1 : Nat) : Int)))) :: (.slot 10, .one (.v y.2.v)) :: (.heap bm, .mp (mapD D)) :: heapSt y.2.objs)
        (fun y => b.length - y.1) (0, ⟨none, 0, 0, []⟩) ⟨Nat.zero_le _, ?_, by simp⟩ ?_)
      · simp [go_sem, RS.objs]
      · exact ⟨fun _ => ⟨rfl, rfl⟩, rfl, by simp, Nat.le_refl _, by simp [runB]⟩
      rintro ⟨j, S⟩ ⟨j1', hS, hSb⟩ ihj
      simp only at j1' hS hSb
      have hSn : S.n = (runB (look D) (b.take j) []).length := by rw [hS.n_eq, List.length_map]
      have hrl := runB_le (look D) (b.take j) []
      rw [List.length_take, List.length_nil] at hrl
      have htn : ((st : Int) + (j : Int)).toNat = st + j := by omega
      have hbl2 : st + b.length + 1 ≤ 1000000000 := by omega
      rcases Nat.lt_or_ge j b.length with hjl | hjl
      · obtain ⟨o, a, hx0⟩ : ∃ o a, b[j]? = some (o, a) := ⟨(b[j]'hjl).1, (b[j]'hjl).2, by rw [List.getElem?_eq_getElem hjl]⟩
        have hge := hrow j o a (by rw [la j hjl]; exact hx0)
        have hok := hokj j _ hx0
        obtain ⟨htk, htake⟩ := hts_at (hp.high b (List.mem_of_getElem? hb)) hx0 (look D)
        have hrun : runB (look D) (b.take (j + 1)) [] = stepB (look D) (runB (look D) (b.take j) []) (o, a) := by
          rw [htake, runB_append]; rfl
        simp only [okI, Bool.and_eq_true, decide_eq_true_eq] at hok
        obtain ⟨⟨ho1, ho2⟩, ho3⟩ := hok
        simp only at ho1 ho2 htk
        generalize hstk : runB (look D) (b.take j) [] = stk at *
        obtain ⟨n0, rfl⟩ := Int.eq_ofNat_of_zero_le (by omega : 0 ≤ o)
        have hop1 := opEls_get n0 (by omega) (by omega)
        have hn14 : ¬ n0 = 14 := by omega
        have hn14' : ¬ (n0 : Int) = 14 := by omega
        have hnlt : (n0 : Int) < 14 := by omega
        have hnlt' : n0 < 14 := by omega
        have htk3 : takesI (n0 : Int) ≤ 3 := by
          unfold takesI; repeat' split
          all_goals omega
        refine t_rg (j2 @hge (j2 @htn (j2 @hn14 @hn14'))) ?_
        refine t_yes ?_
        refine t_rg (j2 @hge (j2 @htn (j2 @hop (j2 @hop1 (j2 @hnlt @hnlt'))))) ?_
        refine t_rg0 ?_
        refine t_rg0 ?_
        apply W_cutM (fun _ : Unit => True) (fun _ => (.slot 0, .one (.v (.sl (rowsI (lay bs))))) :: (.slot 4, .one (.v (.sl (ints (0 :: (ends 0 bs).dropLast))))) :: (.slot 6, .one (.v (.prim (.map (some bm))))) :: (.slot 7, .one (.loc 7 0)) :: (.loc 7, .row [.v (dint 5), .own 0 []]) :: (.slot 8, .one (.v (dint ((N + j : Nat) : Int)))) :: (.slot 9, .one (.v (dint (k : Int)))) :: (.slot 2, .one (.loc 2 0)) :: (.loc 2, .row [.v (dint 0), .v (dint 0), .v (dint 0), .own 0 [], .own 0 []]) :: (.slot 11, .one (.v (dint ((st + j : Nat) : Int)))) :: (.slot 10, .one (.v S.v)) :: (.slot 83, .one (.v (dbool (decide ((0 : Int) < ((takesI (n0 : Int) : Nat) : Int)))))) :: (.slot 12, .one (.loc 12 0)) :: (.loc 12, .row [.v (dint (takesI (n0 : Int) : Nat)), .v (dint n0)]) :: (.slot 13, .one (.loc 13 0)) :: (.loc 13, .row [.v (dint n0), .v (dint (if n0 = 1 then a else 0)), .v (dint (if hasTy (n0 : Int) = true then 5 else 0)), .v (.sl []), .v (.sl (if n0 = 2 then [(look D a).cells] else []))]) :: (.heap bm, .mp (mapD D)) :: heapSt S.objs)
        · intro hrest
          have hsl1 : ∀ (σ : Nat → Nat) (v : LV) (s : St), subLe σ ((.heap bm, v) :: s) (heapSt S.objs) = subLe σ s (heapSt S.objs) := fun σ v s => subLe_hs_mp σ hSb v s
          have hsl2 : ∀ σ : Nat → Nat, subLe σ (heapSt S.objs) (heapSt S.objs) = True := fun σ => subLe_hs_self σ S.nodup
          by_cases e1 : n0 = 1
          · subst e1
            refine t_g (j2 @hge @htn) ?_
            refine t_b ?_
            refine W_sub [] (by simp [go_sem]) ?_ (by simp [go_sem]) (hrest () trivial)
            simp [go_sem, hsl1, hsl2, hasTy]
            done
          by_cases e2 : n0 = 2
          · subst e2
            have hlk := hfk j a hx0
            have hfo := Tm.fold (look D a)
            have hcd : cellsD (look D a).dv = [dint (look D a).kind, dint (look D a).index, dint (look D a).type.kind, .sl ((look D a).type.args.map Ty.cells), .sl ((look D a).args.map Tm.cells)] := by rw [← hfo]; rfl
            have hcc := Tm.cells_eq (look D a)
            refine t_g0 ?_
            refine W_regd (by rw [hP]; exact mixed) [] fun K hK => ?_
            simp [go_sem, hP, hgl, hn, hge, htn]
            refine ⟨by omega, ?_⟩
            refine vcdC_lookup (b := bm) (n := a) (ml := mapD D) (dv := (look D a).dv) (fun _ _ => vcd_sound) (by rw [hn]; exact Nat.le_of_ble_eq_true rfl) (by rw [hP]; kernel_rfl) (by simp [go_sem]) (by simp [go_sem]) (by simp [go_sem]) hlk (by rfl) ?_
            simp [go_sem, hP, hgl, hn, hge, htn, hcd]
            refine ⟨by rfl, hK _ ?_⟩
            clear hK K
            refine t_rg0 ?_
            refine t_b ?_
            refine W_sub [] (by simp [go_sem]) ?_ (by simp [go_sem]) (hrest () trivial)
            simp [go_sem, hsl1, hsl2, hasTy, hcc]
          by_cases e3 : n0 = 6 ∨ n0 = 9
          · have e3' : hasTy (n0 : Int) = true := by
              rcases e3 with rfl | rfl <;> rfl
            have ha0 : ¬ (n0 : Int) = 1 := by omega
            have ha1 : ¬ (n0 : Int) = 2 := by omega
            rcases e3 with rfl | rfl
            · refine t_g0 ?_
              refine t_b ?_
              refine W_sub [] (by simp [go_sem]) ?_ (by simp [go_sem]) (hrest () trivial)
              simp [go_sem, hsl1, hsl2, hasTy]
            · refine t_g0 ?_
              refine t_b ?_
              refine W_sub [] (by simp [go_sem]) ?_ (by simp [go_sem]) (hrest () trivial)
              simp [go_sem, hsl1, hsl2, hasTy]
          · have e4 : ¬ n0 = 6 := fun e => e3 (.inl e)
            have e5 : ¬ n0 = 9 := fun e => e3 (.inr e)
            have ha0 : ¬ (n0 : Int) = 1 := by omega
            have ha1 : ¬ (n0 : Int) = 2 := by omega
            have ha2 : ¬ (n0 : Int) = 6 := by omega
            have ha3 : ¬ (n0 : Int) = 9 := by omega
            refine t_g (j2 @e1 (j2 @e2 (j2 @e4 (j2 @e5 (j2 @ha0 (j2 @ha1 (j2 @ha2 @ha3))))))) ?_
            refine t_b ?_
            refine W_sub [] (by simp [go_sem]) ?_ (by simp [go_sem]) (hrest () trivial)
            simp [go_sem, hsl1, hsl2, hasTy, e1, e2, e4, e5, ha0, ha1, ha2, ha3]
        · intro _ _
          have hn0 : n0 = 2 → takesI (n0 : Int) = 0 := fun e => by subst e; rfl
          apply W_cutM (fun S1 : RS => S1.is 5 ((stk.take (stk.length - takesI (n0 : Int))).map Tm.cells) ∧ S1.q ≠ some bm) (fun S1 => (.slot 0, .one (.v (.sl (rowsI (lay bs))))) :: (.slot 4, .one (.v (.sl (ints (0 :: (ends 0 bs).dropLast))))) :: (.slot 6, .one (.v (.prim (.map (some bm))))) :: (.slot 7, .one (.loc 7 0)) :: (.loc 7, .row [.v (dint 5), .own 0 []]) :: (.slot 8, .one (.v (dint ((N + j : Nat) : Int)))) :: (.slot 9, .one (.v (dint (k : Int)))) :: (.slot 2, .one (.loc 2 0)) :: (.loc 2, .row [.v (dint 0), .v (dint 0), .v (dint 0), .own 0 [], .own 0 []]) :: (.slot 11, .one (.v (dint ((st + j : Nat) : Int)))) :: (.slot 10, .one (.v S1.v)) :: (.slot 13, .one (.loc 13 0)) :: (.loc 13, .row [.v (dint n0), .v (dint (if n0 = 1 then a else 0)), .v (dint (if hasTy (n0 : Int) = true then 5 else 0)), .v (.sl []), .v (.sl ((if n0 = 2 then [look D a] else stk.drop (stk.length - takesI (n0 : Int))).map Tm.cells))]) :: (.heap bm, .mp (mapD D)) :: heapSt S1.objs)
          · intro hrest
            by_cases ht0 : takesI (n0 : Int) = 0
            · have hsl1 : ∀ (σ : Nat → Nat) (v : LV) (s : St), subLe σ ((.heap bm, v) :: s) (heapSt S.objs) = subLe σ s (heapSt S.objs) := fun σ v s => subLe_hs_mp σ hSb v s
              have hsl2 : ∀ σ : Nat → Nat, subLe σ (heapSt S.objs) (heapSt S.objs) = True := fun σ => subLe_hs_self σ S.nodup
              have hargs : ((if n0 = 2 then [look D a] else stk.drop (stk.length - takesI (n0 : Int))).map Tm.cells) = if n0 = 2 then [(look D a).cells] else [] := by
                rw [ht0]
                split
                · rfl
                · simp
              rw [ht0, Nat.sub_zero, List.take_length] at hrest
              rw [ht0, Nat.sub_zero] at hargs
              refine t_a ?_
              refine W_cond rfl ?_ ?_
              · intro h; rw [ht0] at h; simp at h
              intro _
              refine t_b ?_
              refine W_sub [] (by simp [go_sem]) ?_ (by simp [go_sem]) (hrest S ⟨hS, hSb⟩)
              rw [hargs]
              simp [go_sem, hsl1, hsl2]
            · have htp : 0 < takesI (n0 : Int) := Nat.pos_of_ne_zero ht0
              have hn2 : ¬ n0 = 2 := fun e => ht0 (hn0 e)
              have hlt0 : (0 : Int) < ((takesI (n0 : Int) : Nat) : Int) := by omega
              obtain ⟨aS, haS⟩ := hS.there (by intro e; have := congrArg List.length e; simp at this; rw [this] at htk; simp at htk; omega)
              have hgS := RS.get_objs haS
              have hSv : S.v = rawS aS S.n S.cap := by unfold RS.v rawQ; rw [haS]; rfl
              have hbne : ¬ bm = aS := fun e => hSb (by rw [haS, e])
              generalize hT : takesI (n0 : Int) = tk at *
              have hlo : ((S.n : Int) - (tk : Int)).toNat = S.n - tk := by omega
              have hcap := hS.le
              have hdrop : (S.full.drop (S.n - tk)).take tk = (stk.drop (stk.length - tk)).map Tm.cells := by
                have h1 := hS.els
                have h2 : ((S.full.take S.n).drop (S.n - tk)) = (S.full.drop (S.n - tk)).take tk := by
                  rw [List.drop_take]
                  congr 1
                  omega
                rw [← h2, h1, hSn, List.map_drop]
              have hS2 : RS.is ⟨S.q, S.n - tk, S.cap, S.full⟩ 5 ((stk.take (stk.length - tk)).map Tm.cells) := by
                refine ⟨fun e => (by rw [haS] at e; cases e), hS.len, hS.wid, by show S.n - tk ≤ S.cap; omega, ?_⟩
                show S.full.take (S.n - tk) = _
                have h1 := congrArg (List.take (S.n - tk)) hS.els
                rw [List.take_take, Nat.min_eq_left (by omega), ← List.map_take, hSn] at h1
                rw [hSn]
                exact h1
              refine t_a ?_
              refine W_cond rfl ?_ ?_
              rotate_left
              · intro h; rw [decide_eq_true hlt0] at h; cases h
              intro _
              refine t_a ?_
              refine W_reg [90, 91] fun K hK => ?_
              simp [go_sem, hP, hgl, hn, hSv]
              repeat (refine ⟨by omega, ?_⟩)
              refine vcK_sliceR (E := 5) (b := aS) (n := S.n) (cap := S.cap) (l := (S.n : Int) - tk) (by simp [go_sem, hP]) (by rw [hn]; exact Nat.le_of_ble_eq_true rfl) (by simp [go_sem]) (by simp [go_sem]; rfl) (by omega) (by omega) (by omega) hcap (by rfl) ?_
              rw [hlo]
              simp [go_sem, hP, hgl, hn]
              have hk2 : S.n - (S.n - tk) = tk := by omega
              rw [hk2]
              refine vcK_appendV (E := 5) (B := 72) (b := aS) (lo := S.n - tk) (k := tk) (cap := S.cap - (S.n - tk)) (full := S.full) (by simp [go_sem, hP]) (by decide) (by rw [hP]; rfl) (by rw [hn]; exact Nat.le_of_ble_eq_true rfl) (by simp [go_sem]) (by simp [go_sem]) (by simp [go_sem, hbne, hgS]) hS.wid (by rw [hS.len]; omega) htp (by unfold BIG; omega) (by rfl) ?_
              rw [hdrop]
              simp [go_sem, hP, hgl, hn]
              refine hK _ ?_
              clear hK K
              refine t_rg @hSv ?_
              refine t_b ?_
              have hv2 : RS.v ⟨S.q, S.n - tk, S.cap, S.full⟩ = rawS aS (S.n - tk) S.cap := by unfold RS.v rawQ; rw [haS]; rfl
              have hob : RS.objs ⟨S.q, S.n - tk, S.cap, S.full⟩ = S.objs := rfl
              have hsl1 : ∀ (σ : Nat → Nat) (v : LV) (s : St), subLe σ ((.heap bm, v) :: s) (heapSt S.objs) = subLe σ s (heapSt S.objs) := fun σ v s => subLe_hs_mp σ hSb v s
              have hsl2 : ∀ σ : Nat → Nat, subLe σ (heapSt S.objs) (heapSt S.objs) = True := fun σ => subLe_hs_self σ S.nodup
              refine W_sub [] (by simp [go_sem]) ?_ (by simp [go_sem]) (hrest ⟨S.q, S.n - tk, S.cap, S.full⟩ ⟨hS2, hSb⟩)
              rw [hv2, hob, if_neg hn2]
              simp [go_sem, hsl1, hsl2]
          · rintro S1 ⟨hS1, hS1b⟩
            have hS1n : S1.n ≤ 1000000000 := by
              rw [hS1.n_eq]
              simp only [List.length_map, List.length_take]
              omega
            refine t_a ?_
            refine W_reg [103] fun K hK => ?_
            simp [go_sem, hP, hgl, hn]
            refine vcK_effM (x := S1) (E := 5) (zs := [[dint n0, dint (if n0 = 1 then a else 0), dint (if hasTy (n0 : Int) = true then 5 else 0), .sl [], .sl ((if n0 = 2 then [look D a] else stk.drop (stk.length - takesI (n0 : Int))).map Tm.cells)]]) rfl (by repeat (first | exact TailM.nil | apply TailM.slot | apply TailM.loc)) rfl hS1 hS1b (free_append (E := 5) (B := 72) (zd := [dint 0, dint 0, dint 0, .sl [], .sl []]) rfl rfl (by rw [hn]; exact Nat.le_of_ble_eq_true rfl) (by simp [go_sem, hP]) (by decide) (by rw [hP]; rfl) (by simp [go_sem, hP, hgl, hn]) (by simp [go_sem, hP, hgl, hn]) (fun b' hb' => ?_) hS1.nil hS1.len hS1.le (by simp) (by simp; unfold BIG; omega) hS1.wid (by simp) (by rw [hP]; kernel_rfl) rfl) (by rfl) ?_
            · have hbne : ¬ bm = b' := fun e => hS1b (by rw [hb', e])
              have := RS.get_objs hb'
              simp [go_sem, hbne, this]
            · intro S2 hS2 hS2b
              simp [go_sem, hP, hgl, hn]
              refine hK _ ?_
              clear hK K
              generalize (if n0 = 2 then [look D a] else stk.drop (stk.length - takesI (n0 : Int))) = ags
              repeat (first | refine W_seq ?_ | refine W_skip ?_ | refine W_block ?_ | refine W_inBlock ?_ | refine W_label ?_ | refine W_exit rfl ?_)
              first | refine W_reg [] fun K hK => ?_ | refine W_regd (by rw [hP]; exact mixed) [] fun K hK => ?_
              simp [go_sem, hP, hgl, hn]
              repeat (refine ⟨by omega, ?_⟩)
              first | refine hK _ ?_ | refine ⟨by rfl, hK _ ?_⟩
              clear hK K
              repeat (first | refine W_seq ?_ | refine W_skip ?_ | refine W_block ?_ | refine W_inBlock ?_ | refine W_label ?_ | refine W_exit rfl ?_)
              first | refine W_reg [] fun K hK => ?_ | refine W_regd (by rw [hP]; exact mixed) [] fun K hK => ?_
              simp [go_sem, hP, hgl, hn]
              repeat (refine ⟨by omega, ?_⟩)
              first | refine hK _ ?_ | refine ⟨by rfl, hK _ ?_⟩
              clear hK K
              refine t_b ?_
              have hsl1 : ∀ (σ : Nat → Nat) (v : LV) (s : St), subLe σ ((.heap bm, v) :: s) (heapSt S2.objs) = subLe σ s (heapSt S2.objs) := fun σ v s => subLe_hs_mp σ hS2b v s
              have hsl2 : ∀ σ : Nat → Nat, subLe σ (heapSt S2.objs) (heapSt S2.objs) = True := fun σ => subLe_hs_self σ S2.nodup
              refine W_sub [] (by simp [go_sem]) ?_ (by simp [go_sem]) (ihj (j + 1, S2) ⟨hjl, ?_, hS2b⟩ (by simp only; omega))
              · simp [go_sem, hsl1, hsl2]
                omega
              · rw [hrun]
                have hce : (Tm.mk (n0 : Int) (if (n0 : Int) = 1 then a else 0) (if hasTy (n0 : Int) = true then uTy else zTy) (if (n0 : Int) = 2 then [look D a] else stk.drop (stk.length - takesI (n0 : Int)))).cells = [dint n0, dint (if n0 = 1 then a else 0), dint (if hasTy (n0 : Int) = true then 5 else 0), .sl [], .sl ((if n0 = 2 then [look D a] else stk.drop (stk.length - takesI (n0 : Int))).map Tm.cells)] := by
                  rw [Tm.cells_eq]
                  simp only [Tm.kind_mk, Tm.index_mk, Tm.type_mk, Tm.args_mk]
                  have h1 : ((n0 : Int) = 1) = (n0 = 1) := by apply propext; omega
                  have h2 : ((n0 : Int) = 2) = (n0 = 2) := by apply propext; omega
                  simp only [h1, h2]
                  by_cases h5 : hasTy (n0 : Int) = true
                  · simp only [h5, if_true]; rfl
                  · simp only [h5]; rfl
                unfold stepB
                rw [List.map_append, List.map_cons, List.map_nil, hce]
                exact hS2
      · have hje : j = b.length := by omega
        subst hje
        have hge := hrow b.length 14 0 le
        refine t_rg (j2 @hge @htn) ?_
        refine t_no ?_
        have hlen1 := runB_len (look D) b [] 1 (by simpa using hp.high b (List.mem_of_getElem? hb))
        rw [List.take_length] at hS
        obtain ⟨tt, htt⟩ : ∃ tt, runB (look D) b [] = [tt] := List.length_eq_one_iff.1 (by omega)
        rw [htt] at hS hstep
        obtain ⟨aS, haS⟩ := hS.there (by simp)
        have hgS := RS.get_objs haS
        have hSv : S.v = rawS aS S.n S.cap := by unfold RS.v rawQ; rw [haS]; rfl
        have hSn1 : S.n = 1 := by rw [hS.n_eq]; rfl
        have hbne : ¬ bm = aS := fun e => hSb (by rw [haS, e])
        have hrd := arrRow_rd hS.wid (hS.at (i := 0) rfl)
        rw [Tm.cells_eq tt] at hrd
        simp only [Nat.zero_mul, List.drop_zero] at hrd
        have hfo := Tm.fold tt
        generalize hφ : S.objs = φs at hgS ⊢
        refine t_a ?_
        refine W_regT (by rw [hP]; exact mixed) 8 (by decide) (by rfl) [] [] fun K hK => ?_
        simp [go_sem, hP, hgl, hn, hgS, hSv, hrd, hbne, hgk, hSn1, hfo]
        repeat (refine ⟨by omega, ?_⟩)
        refine ⟨by rfl, ?_⟩
        refine vcK_mapUpdate (b := bm) (n := st) (ml := mapD D) (dv := tt.dv) (by rw [hP]; kernel_rfl) (by simp [go_sem]) (by simp [go_sem]) (by simp [go_sem]) (by simp [go_sem]) hnokey (by rfl) ?_
        simp [go_sem]
        refine hK _ ?_
        clear hK K
        refine t_rg0 ?_
        refine t_b ?_
        refine W_sub [] (by simp [go_sem]) ?_ (by simp [go_sem]) (ihx k (by omega) (by omega))
        have e1 : mapD (decAt bs k) = mapD D ++ [((st : Int), tt.dv)] := by rw [hstep, mapD_app]; rfl
        rw [e1, hNk]
        simp [go_sem]
        omega
  · have hs' : (startsN c).2 = false := by simpa using hs
    have htc : termC c = (.mk 0 0 zTy [], 43) := by rw [termC, if_neg hs]
    refine t_g @hs' ?_
    refine t_r ?_
    simp [go_sem, hP, hgl, hn, htc, zTy] <;> (try omega)
    all_goals exact t_f
end Go.Proofs.YtmdjiajbnifjpaaDoor.Lift

/-
  The laws of layer 37: small functions of the reference, and untyped.
-/
namespace Go.Proofs.YtmdjiajbnifjpaaDoor.Lift
set_option linter.unusedSimpArgs false
set_option linter.unusedVariables false
set_option linter.unnecessarySimpa false
open Go
variable {gl : Globs}

theorem unit23c_ok : Con1 Tryd.prog gl 59 [] [] (Ty.mk 5 []).dv [] := by
  refine t_in Tryd.func59 ?_
  intro X hP hgl hf hfn hn hR hids hfit
  refine t_g0 ?_
  refine t_r ?_
  simp [go_sem, hP, hgl, hn] <;> (try omega)
  all_goals exact t_f
theorem node24c_ok (k : Int) (l : List Tm) : Con1 Tryd.prog gl 30 [dint k, .sl (l.map Tm.cells)] [] (Tm.mk k 0 (Ty.mk 0 []) l).dv [] := by
  refine t_in Tryd.func30 ?_
  intro X hP hgl hf hfn hn hR hids hfit
  refine t_g0 ?_
  refine t_r ?_
  simp [go_sem, hP, hgl, hn] <;> (try omega)
  all_goals exact t_f
def limE (e : Int) : Bool := decide (e = 4) || (decide (e = 5) || decide (e = 3))
theorem limits37_ok (e : Int) : Con1 Tryd.prog gl 29 [dint e] [] (dbool (limE e)) [] := by
  refine t_in Tryd.func29 ?_
  intro X hP hgl hf hfn hn hR hids hfit
  by_cases h4 : e = 4
  · refine t_g @h4 ?_
    refine t_r ?_
    simp [go_sem, hP, hgl, hn, limE, h4] <;> (try omega)
  by_cases h5 : e = 5
  · refine t_g (j2 @h4 @h5) ?_
    refine t_r ?_
    simp [go_sem, hP, hgl, hn, limE, h4, h5] <;> (try omega)
  by_cases h3 : e = 3
  · refine t_g (j2 @h4 (j2 @h5 @h3)) ?_
    refine t_r ?_
    simp [go_sem, hP, hgl, hn, limE, h4, h5, h3] <;> (try omega)
  refine t_g (j2 @h4 (j2 @h5 @h3)) ?_
  refine t_r ?_
  simp [go_sem, hP, hgl, hn, limE, h4, h5, h3] <;> (try omega)

set_option maxHeartbeats 1000000 in
theorem same37_ok (a b : List Ins) (ha : a.length ≤ 1000000000) (hb : b.length ≤ 1000000000) : Con1 Tryd.prog gl 19 [.sl (rowsI a), .sl (rowsI b)] [] (dbool (decide (a = b))) [] := by
  refine t_in Tryd.func19 ?_
  intro X hP hgl hf hfn hn hR hids hfit
  have hal : (rowsI a).length = a.length := by simp [rowsI]
  have hbl : (rowsI b).length = b.length := by simp [rowsI]
  refine t_rg0 ?_
  by_cases hl : a.length = b.length
  rotate_left
  · have hne : ¬ a = b := fun e => hl (by rw [e])
    refine t_g (j2 @hal (j2 @hbl @hl)) ?_
    refine t_r ?_
    simp [go_sem, hP, hgl, hn, hne] <;> (try omega)
  · refine t_rg (j2 @hal (j2 @hbl @hl)) ?_
    refine t_no ?_
    refine t_rg0 ?_
    refine t_a ?_
    refine t_sub [] trivial (W_rounds (fun i : Nat => i ≤ a.length ∧ a.take i = b.take i) (fun i : Nat => [(.slot 0, .one (.v (.sl (rowsI a)))), (.slot 1, .one (.v (.sl (rowsI b)))), (.slot 5, .one (.v (dint i)))]) (fun i : Nat => a.length - i) 0 (⟨Nat.zero_le _, rfl⟩) ?_)
    rintro i ⟨i1, i2⟩ ihr
    rcases Nat.lt_or_ge i a.length with hi | hi
    · obtain ⟨o, x, hx⟩ : ∃ o x, a[i]? = some (o, x) := ⟨(a[i]'hi).1, (a[i]'hi).2, by rw [List.getElem?_eq_getElem hi]⟩
      obtain ⟨p, y, hy⟩ : ∃ p y, b[i]? = some (p, y) := ⟨(b[i]'(by omega)).1, (b[i]'(by omega)).2, by rw [List.getElem?_eq_getElem (by omega)]⟩
      have hx' : (rowsI a)[i]? = some [dint o, dint x] := by simp [rowsI, hx, Ins.row]
      have hy' : (rowsI b)[i]? = some [dint p, dint y] := by simp [rowsI, hy, Ins.row]
      refine t_rg @hal ?_
      refine t_yes ?_
      refine t_a ?_
      refine W_regT (by rw [hP]; exact mixed) 8 (by decide) (by rfl) [] [] fun K hK => ?_
      simp [go_sem, hP, hgl, hn, hx', hy']
      repeat (refine ⟨by omega, ?_⟩)
      refine ⟨by rfl, ?_⟩
      refine vcK_eqS (a := o) (b := x) (c := p) (e := y) true (by rw [hn]; exact Nat.le_of_ble_eq_true rfl) (by rw [hP]; kernel_rfl) (by simp [go_sem]) (by simp [go_sem]) rfl (by rfl) ?_
      simp [go_sem]
      refine hK _ ?_
      clear hK K
      by_cases he : o = p ∧ x = y
      · obtain ⟨rfl, rfl⟩ := he
        have hr : eqR true o x o x = false := by simp [eqR]
        rw [hr]
        refine t_gt (wr []) trivial trivial (ihr (i + 1) ⟨hi, by rw [List.take_add_one, List.take_add_one, i2, hx, hy]⟩ (by omega))
      · have hr : eqR true o x p y = true := by
          simp only [eqR, if_true]
          simp only [Bool.not_eq_true', Bool.and_eq_false_iff, decide_eq_false_iff_not]
          by_cases h1 : o = p
          · exact .inr fun h2 => he ⟨h1, h2⟩
          · exact .inl h1
        have hne : ¬ a = b := by
          intro e
          subst e
          rw [hx] at hy
          have := Option.some.inj hy
          exact he ⟨(Prod.mk.inj this).1, (Prod.mk.inj this).2⟩
        rw [hr]
        refine t_g0 ?_
        refine t_r ?_
        simp [go_sem, hP, hgl, hn, hne] <;> (try omega)
    · have hie : i = a.length := by omega
      have heq : a = b := by
        rw [hie, List.take_length, hl, List.take_length] at i2
        exact i2
      refine t_rg @hal ?_
      refine t_no ?_
      refine t_g0 ?_
      refine t_r ?_
      simp [go_sem, hP, hgl, hn, heq] <;> (try omega)

set_option maxHeartbeats 1000000 in
theorem untyped37_ok (t : Tm) : Con1 Tryd.prog gl 27 [t.dv] [] t.untyped.dv [] := by
  induction t using Tm.ind with
  | h t ih =>
  refine t_in Tryd.func27 ?_
  intro X hP hgl hf hfn hn hR hids hfit
  have hlen := Tm.fit_len (hfit t.dv (by simp))
  have hu2 : t.untyped.dv = .agg [dint t.kind, dint t.index, dint (if hasTy t.kind = true then 5 else 0), .sl [], .sl ((t.args.map Tm.untyped).map Tm.cells)] := by
    rw [Tm.untyped_eq, ← Tm.fold]
    simp only [Tm.kind_mk, Tm.index_mk, Tm.type_mk, Tm.args_mk]
    by_cases h5 : hasTy t.kind = true
    · simp only [h5, if_true]; rfl
    · simp only [h5]; rfl
  refine t_rg0 ?_
  refine t_rg0 ?_
  apply W_cutM (fun _ : Unit => True) (fun _ => [(.slot 1, .one (.loc 1 0)), (.loc 1, .row [.v (dint t.kind), .v (dint t.index), .v (dint t.type.kind), .v (.sl (t.type.args.map Ty.cells)), .v (.sl (t.args.map Tm.cells))]), (.slot 2, .one (.loc 2 0)), (.loc 2, .row [.v (dint 0), .v (dint 0), .v (dint 0), .own 0 [], .own 0 []]), (.slot 3, .one (.loc 3 0)), (.loc 3, .row [.v (dint t.kind), .v (dint t.index), .v (dint (if hasTy t.kind = true then 5 else 0)), .v (.sl []), .own 0 []])])
  · intro hrest
    by_cases h2 : t.kind = 2
    · refine t_g @h2 ?_
      refine t_c1 @h2 unit23c_ok ?_
      refine t_b ?_
      refine W_sub [] (by simp [go_sem]) ?_ (by simp [go_sem]) (hrest () trivial)
      simp [go_sem, hasTy, h2]
    by_cases h6 : t.kind = 6
    · refine t_g (j2 @h2 @h6) ?_
      refine t_c1 @h6 unit23c_ok ?_
      refine t_b ?_
      refine W_sub [] (by simp [go_sem]) ?_ (by simp [go_sem]) (hrest () trivial)
      simp [go_sem, hasTy, h6]
    by_cases h9 : t.kind = 9
    · refine t_g (j2 @h2 (j2 @h6 @h9)) ?_
      refine t_c1 @h9 unit23c_ok ?_
      refine t_b ?_
      refine W_sub [] (by simp [go_sem]) ?_ (by simp [go_sem]) (hrest () trivial)
      simp [go_sem, hasTy, h9]
    refine t_rg (j2 @h2 (j2 @h6 @h9)) ?_
    refine t_no ?_
    refine t_b ?_
    refine W_sub [] (by simp [go_sem]) ?_ (by simp [go_sem]) (hrest () trivial)
    simp [go_sem, hasTy, h2, h6, h9]
  · intro _ _
    refine t_rg0 ?_
    refine t_a ?_
    refine t_sub [(1003, 0)] trivial (W_list (t.args) (fun done rest => [(.slot 29, .one (.v (dint done.length))), (.slot 28, .one (.v (dint t.args.length))), (.slot 27, .one (.v (.sl (t.args.map Tm.cells)))), (.loc 3, .row ([.v (dint t.kind), .v (dint t.index), .v (dint (if hasTy t.kind = true then 5 else 0)), .v (.sl []), .own 1003 ((done.map Tm.untyped).map Tm.cells)])), (.slot 3, .one (.loc 3 0)), (.tok 1003, .tk 5 done.length), (.loc 2, .row ([.v (dint 0), .v (dint 0), .v (dint 0), .own 0 [], .own 0 []])), (.slot 2, .one (.loc 2 0))]) ?_ ?_)
    · intro done x rest hL hg hnext
      have hlt : done.length < t.args.length := by rw [hL]; simp
      have hcu := Tm.cells_eq x.untyped
      refine t_rg0 ?_
      refine t_yes ?_
      refine t_rg @hg ?_
      refine t_c1 @hcu (ih x (List.mem_of_getElem? hg)) ?_
      refine t_rg0 ?_
      refine t_b ?_
      refine t_sub [(1003, 38)] @hcu hnext
    · refine t_rg0 ?_
      refine t_no ?_
      refine t_g0 ?_
      refine t_r ?_
      simp [go_sem, hP, hgl, hn, hu2] <;> (try omega)
end Go.Proofs.YtmdjiajbnifjpaaDoor.Lift

/-
  The laws of layer 37: the sanity check.
-/
namespace Go.Proofs.YtmdjiajbnifjpaaDoor.Lift
set_option linter.unusedSimpArgs false
set_option linter.unusedVariables false
set_option linter.unnecessarySimpa false
open Go
variable {gl : Globs}

/-- a term's program is valid, and leads back -/
theorem codeN_back (t : Tm) (h : t.shape = true) (hl : t.codeN.length ≤ 4096) : (startsN t.codeN).2 = true ∧ termC t.codeN = (t.untyped, 0) := by
  have hp := code_prg t h hl
  have h1 := starts_to hp
  rw [← code_lay] at h1
  have h2 : (startsN t.codeN).2 = true := by rw [h1]
  refine ⟨h2, ?_⟩
  rw [termC, if_pos h2, code_lay, split_lay _ hp.no14, code_back t h]

/-- the identity -/
def idT : Tm := .mk 2 0 (.mk 1 []) [.mk 1 0 (.mk 0 []) []]
theorem idT_code : idT.codeN = [(2, 2), (14, 0), (1, 0), (14, 0)] := by
  have h1 : Tm.bfs [idT] = [idT, .mk 1 0 (.mk 0 []) []] := by
    rw [Tm.bfs_cons]
    have e1 : ([] : List Tm) ++ idT.subs = [.mk 1 0 (.mk 0 []) []] := rfl
    rw [e1, Tm.bfs_cons]
    have e2 : ([] : List Tm) ++ (Tm.mk 1 0 (.mk 0 []) []).subs = [] := rfl
    rw [e2, Tm.bfs_nil]
  unfold Tm.codeN Tm.blocks
  rw [h1]
  rfl
theorem idT_comp : idT.compN = ([(2, 2), (14, 0), (1, 0), (14, 0)], 0) := by
  unfold Tm.compN
  rw [idT_code]
  rfl
theorem idT_back : (startsN [(2, 2), (14, 0), (1, 0), (14, 0)]).2 = true ∧ termC [(2, 2), (14, 0), (1, 0), (14, 0)] = (idT.untyped, 0) := by
  rw [← idT_code]
  exact codeN_back idT rfl (by rw [idT_code]; decide)

set_option maxHeartbeats 1000000 in
set_option maxRecDepth 10000 in
theorem awake37_ok (har : globOf gl 1 = some arEls) (hop : globOf gl 0 = some opEls) : Con1 Tryd.prog gl 8 [] [] (dbool true) [] := by
  have w1 := compile_ok (gl := gl) har hop idT (by simp [idT, Tm.tys, Tm.tys.tyss, Ty.count, Ty.count.counts]) (by decide)
  rw [idT_comp] at w1
  have w2 := codeterm_ok (gl := gl) hop [(2, 2), (14, 0), (1, 0), (14, 0)] (by decide)
  rw [idT_back.2] at w2
  have w3 := codecheck_ok (gl := gl) hop [(2, 2), (14, 0), (1, 0), (14, 0)] (by decide)
  rw [if_pos idT_back.1] at w3
  have w4 := codecheck_ok (gl := gl) hop [] (by decide)
  refine t_in Tryd.func8 ?_
  intro X hP hgl hf hfn hn hR hids hfit
  have hid : DV.agg [.prim (.int .i64 2), .prim (.int .i64 0), .prim (.int .i64 1), .sl [], .sl [[.prim (.int .i64 1), .prim (.int .i64 0), .prim (.int .i64 0), .sl [], .sl []]]] = idT.dv := rfl
  have hu : idT.untyped = .mk 2 0 (.mk 5 []) [.mk 1 0 (.mk 0 []) []] := rfl
  have hr : rowsI [(2, 2), (14, 0), (1, 0), (14, 0)] = [[dint 2, dint 2], [dint 14, dint 0], [dint 1, dint 0], [dint 14, dint 0]] := rfl
  have hr0 : rowsI [] = [] := rfl
  have hs0 : (startsN []).2 = false := rfl
  refine t_g0 ?_
  refine t_c1 @hid w1 ?_
  refine t_c1 trivial w2 ?_
  rw [hu]
  rw [hr] at w3
  rw [hr0, hs0] at w4
  repeat (first | refine W_seq ?_ | refine W_skip ?_ | refine W_block ?_ | refine W_inBlock ?_ | refine W_label ?_ | refine W_exit rfl ?_)
  first | refine W_reg [] fun K hK => ?_ | refine W_regd (by rw [hP]; exact mixed) [] fun K hK => ?_
  simp [go_sem, hP, hgl, hn, hr]
  refine vcK_eqSG (dj := 31) (a := 2) (b := 2) (c := 2) (e := 2) false (by rw [hn]; exact Nat.le_of_ble_eq_true rfl) (by rw [hP]; kernel_rfl) (by simp [go_sem]) (by simp [go_sem]) rfl (by rfl) (by simp [go_sem]) (by rw [hn]; exact Nat.le_of_ble_eq_true rfl) (by simp [go_sem]) ?_
  have he : eqR false 2 2 2 2 = true := rfl
  rw [he]
  simp [go_sem, hP, hgl, hn]
  refine t_c trivial (w3) ?_
  refine t_c trivial (w4) ?_
  refine t_e ?_
  clear hK K
  refine t_r ?_
  simp [go_sem, hP, hgl, hn] <;> (try omega)
end Go.Proofs.YtmdjiajbnifjpaaDoor.Lift

/-
  Programs of terms, plainly: the main block, how long they are, how many blocks they have, pairs.
-/
namespace Go.Proofs.YtmdjiajbnifjpaaDoor.Lift
set_option linter.unusedSimpArgs false
set_option linter.unusedVariables false
set_option linter.unnecessarySimpa false
open Go

theorem fillF_at (p : Nat → Int) : ∀ (c : List Ins) (j i : Nat) (x : Ins), c[i]? = some x → ∃ a, (fillF p j c)[i]? = some (x.1, a) ∧ (x.1 ≠ 2 → a = x.2)
  | [], _, _, _, h => by simp at h
  | (o, a) :: r, j, 0, x, h => by
    simp at h
    subst h
    simp only [fillF]
    split
    · rename_i ho
      exact ⟨p j, by simp [ho], fun h => absurd ho h⟩
    · exact ⟨a, by simp, fun _ => rfl⟩
  | (o, a) :: r, j, i + 1, x, h => by
    rw [List.getElem?_cons_succ] at h
    simp only [fillF]
    split
    · rw [List.getElem?_cons_succ]; exact fillF_at p r _ i x h
    · rw [List.getElem?_cons_succ]; exact fillF_at p r _ i x h
/-- the main block of a program -/
theorem code_main (t : Tm) (h : t.shape = true) : (∀ (i : Nat) (x : Ins), t.skel[i]? = some x → ∃ a, t.codeN[i]? = some (x.1, a) ∧ (x.1 ≠ 2 → a = x.2) ∧ ¬ x.1 = 14) ∧ (∃ a, t.codeN[t.skel.length]? = some (14, a)) ∧ t.skel.length + 1 ≤ t.codeN.length := by
  have hb : ∃ r, lay t.blocks = t.skel ++ (14, 0) :: r := by
    unfold Tm.blocks
    rw [Tm.bfs_cons, List.map_cons, lay_cons]
    exact ⟨_, by rw [List.append_assoc]; rfl⟩
  obtain ⟨r, hr⟩ := hb
  unfold Tm.codeN prog
  generalize (fun j => ((startAt t.blocks (j + 1) : Nat) : Int)) = p
  rw [hr]
  refine ⟨fun i x hx => ?_, ?_, ?_⟩
  · have hi := (List.getElem?_eq_some_iff.1 hx).1
    obtain ⟨a, h1, h2⟩ := fillF_at p (t.skel ++ (14, 0) :: r) 0 i x (by rw [List.getElem?_append_left hi]; exact hx)
    refine ⟨a, h1, h2, ?_⟩
    have := (skel_ok t h x (List.mem_of_getElem? hx)).2.1
    omega
  · obtain ⟨a, h1, -⟩ := fillF_at p (t.skel ++ (14, 0) :: r) 0 t.skel.length (14, 0) (by rw [List.getElem?_append_right (Nat.le_refl _), Nat.sub_self]; rfl)
    exact ⟨a, h1⟩
  · rw [fillF_length]
    simp

/-- how many functions a term has -/
def Tm.nlam : Tm → Nat
  | .mk k _ _ a => (if k = 2 then 1 else 0) + nlams a
where
  nlams : List Tm → Nat
    | [] => 0
    | a :: r => a.nlam + nlams r
theorem nlam_eq (t : Tm) : t.nlam = (if t.kind = 2 then 1 else 0) + Tm.nlam.nlams t.args := by cases t; rfl
theorem nlams_app (l m : List Tm) : Tm.nlam.nlams (l ++ m) = Tm.nlam.nlams l + Tm.nlam.nlams m := by
  induction l with
  | nil => simp [Tm.nlam.nlams]
  | cons a r ih => simp [Tm.nlam.nlams, ih]; omega
theorem nlam_subs (t : Tm) (h : t.shape = true) : t.subs.length + Tm.nlam.nlams t.subs = t.nlam := by
  induction t using Tm.ind with
  | h t ih =>
    have hs := h
    rw [Tm.shape_eq, Bool.and_eq_true] at hs
    have hss := (Tm.shapes_iff _).1 hs.2
    rw [Tm.subs_eq, nlam_eq]
    by_cases hk : t.kind = 2
    · rw [if_pos hk, if_pos hk]
      have h1 := hs.1
      simp only [tmKind, hk, Bool.and_eq_true, decide_eq_true_eq, arityI] at h1
      have := h1.1.1.1
      simp at this
      omega
    · rw [if_neg hk, if_neg hk, Nat.zero_add]
      have hl : ∀ l : List Tm, (∀ a ∈ l, a.subs.length + Tm.nlam.nlams a.subs = a.nlam) → (Tm.subs.subss l).length + Tm.nlam.nlams (Tm.subs.subss l) = Tm.nlam.nlams l := by
        intro l
        induction l with
        | nil => intro _; rfl
        | cons a r ihr =>
          intro h
          have h1 := h a (by simp)
          have h2 := ihr fun b hb => h b (by simp [hb])
          simp only [Tm.subs.subss, List.length_append, nlams_app, Tm.nlam.nlams]
          omega
      exact hl _ fun a ha => ih a ha (hss a ha)
theorem bfs_nlam : ∀ q : List Tm, (∀ t ∈ q, t.shape = true) → (Tm.bfs q).length = q.length + Tm.nlam.nlams q
  | [], _ => by rw [Tm.bfs_nil]; rfl
  | t :: r, h => by
    have h1 := nlam_subs t (h t (by simp))
    have ih := bfs_nlam (r ++ t.subs) fun x hx => by
      rcases List.mem_append.1 hx with hx | hx
      · exact h x (by simp [hx])
      · exact subs_shape t (h t (by simp)) x hx
    rw [Tm.bfs_cons, List.length_cons, ih, List.length_append, nlams_app, List.length_cons]
    simp only [Tm.nlam.nlams]
    omega
termination_by q => Tm.count.counts q
decreasing_by
  have := Tm.skel_count t
  have := Tm.skel_pos t
  simp only [Tm.counts_app, Tm.count.counts]
  omega
theorem code_length (t : Tm) (h : t.shape = true) : t.codeN.length = t.count + 1 + t.nlam := by
  have h1 := Tm.bfs_count [t]
  simp only [Tm.count.counts, Nat.add_zero] at h1
  have h2 := bfs_nlam [t] (by simpa using h)
  simp only [Tm.nlam.nlams, Nat.add_zero, List.length_singleton] at h2
  have h3 : (lay t.blocks).length = t.count + (Tm.bfs [t]).length := by
    rw [lay_length]
    unfold Tm.blocks
    rw [h1, List.length_map]
  unfold Tm.codeN prog
  rw [fillF_length, h3, h2]
  omega
/-- how many ends a program has -/
def endsN (c : List Ins) : Nat := (c.filter fun x => decide (x.1 = 14)).length
theorem endsN_app (c d : List Ins) : endsN (c ++ d) = endsN c + endsN d := by simp [endsN]
theorem endsN_lay : ∀ (bs : List (List Ins)), (∀ d ∈ bs, ∀ x ∈ d, ¬ x.1 = 14) → endsN (lay bs) = bs.length
  | [], _ => rfl
  | b :: r, h => by
    rw [lay_cons, endsN_app, endsN_app, endsN_lay r fun d hd => h d (by simp [hd])]
    have h1 : endsN b = 0 := by
      unfold endsN
      rw [List.length_eq_zero_iff, List.filter_eq_nil_iff]
      intro x hx
      have := h b (by simp) x hx
      simpa using this
    have h2 : endsN [((14 : Int), (0 : Int))] = 1 := rfl
    rw [h1, h2, List.length_cons]
    omega
theorem code_ends (t : Tm) (h : t.shape = true) (hl : t.codeN.length ≤ 4096) : t.codeN.length = t.count + endsN t.codeN := by
  have hp := code_prg t h hl
  have h1 : endsN t.codeN = t.blocks.length := by
    rw [code_lay, endsN_lay _ hp.no14, Tm.code, fillB_length]
  have h2 := bfs_nlam [t] (by simpa using h)
  simp only [Tm.nlam.nlams, Nat.add_zero, List.length_singleton] at h2
  have h3 : t.blocks.length = (Tm.bfs [t]).length := by unfold Tm.blocks; rw [List.length_map]
  rw [code_length t h, h1, h3, h2]
  omega
theorem compN_of (t : Tm) (h : t.shape = true) (hc : t.count ≤ 4096) : t.compN = if 4096 < t.codeN.length then ([], 4) else (t.codeN, 0) := by
  unfold Tm.compN
  rw [if_pos]
  unfold Tm.checkN
  rw [if_pos h, if_neg (by omega)]
theorem compN_cases (t : Tm) (h : t.shape = true) (hc : t.count ≤ 4096) : (t.compN = (t.codeN, 0) ∧ t.codeN.length ≤ 4096) ∨ t.compN = ([], 4) := by
  rw [compN_of t h hc]
  by_cases hl : 4096 < t.codeN.length
  · rw [if_pos hl]; exact .inr rfl
  · rw [if_neg hl]; exact .inl ⟨rfl, by omega⟩
end Go.Proofs.YtmdjiajbnifjpaaDoor.Lift

namespace Go.Proofs.YtmdjiajbnifjpaaDoor.Lift
set_option linter.unusedSimpArgs false
set_option linter.unusedVariables false
set_option linter.unnecessarySimpa false
open Go
variable {gl : Globs}

/-- several ways lead to one state, at a place that the first way tells -/
theorem W_cutX {X : Ctx} {k kk : List Item} {s : St} (S : St) (h1 : W X kk S → W X k s) (h2 : W X kk S) : W X k s := h1 h2

theorem ref02_var_ok (i : Int) : Con1 Tryd.prog gl 33 [dint i] [] (Tm.mk 1 i (Ty.mk 0 []) []).dv [] := by
  refine t_in Tryd.func33 ?_
  intro X hP hgl hf hfn hn hR hids hfit
  refine t_g0 ?_
  refine t_r ?_
  simp [go_sem, hP, hgl, hn] <;> (try omega)
  all_goals exact t_f

end Go.Proofs.YtmdjiajbnifjpaaDoor.Lift

namespace Go.Proofs.YtmdjiajbnifjpaaDoor.Lift
set_option linter.unusedSimpArgs false
set_option linter.unusedVariables false
set_option linter.unnecessarySimpa false
open Go
variable {gl : Globs}

def appT (f a : Tm) : Tm := Tm.mk 3 0 (Ty.mk 0 []) [f, a]

theorem ref02_t_ok (k : Int) (s : Ty) (l : List Tm) : Con1 Tryd.prog gl 35 [dint k, s.dv, .sl (l.map Tm.cells)] [] (Tm.mk k 0 s l).dv [] := by
  refine t_in Tryd.func35 ?_
  intro X hP hgl hf hfn hn hR hids hfit
  refine t_g0 ?_
  refine t_c1 trivial (ref02_n_ok k l) ?_
  refine t_g0 ?_
  refine t_c1 trivial (ref01_copy_ok s) ?_
  refine t_g0 ?_
  refine t_r ?_
  simp [go_sem, hP, hgl, hn] <;> (try omega)
  all_goals exact t_f

end Go.Proofs.YtmdjiajbnifjpaaDoor.Lift

namespace Go.Proofs.YtmdjiajbnifjpaaDoor.Lift
set_option linter.unusedSimpArgs false
set_option linter.unusedVariables false
set_option linter.unnecessarySimpa false
open Go
variable {gl : Globs}

def lamsT (b : Tm) (l : List Ty) : Tm := l.foldr (fun s b => Tm.mk 2 0 s [b]) b
def appsT (f : Tm) (l : List Tm) : Tm := l.foldl appT f
theorem appsT_snoc (f : Tm) (l : List Tm) (x : Tm) : appsT f (l ++ [x]) = appT (appsT f l) x := by simp [appsT]
theorem appsT_nil (f : Tm) : appsT f [] = f := rfl
theorem mk_app_ok (f : Tm) (l : List Tm) : Con1 Tryd.prog gl 41 [f.dv, .sl (l.map Tm.cells)] [] (appsT f l).dv [] := by
  refine t_in Tryd.func41 ?_
  intro X hP hgl hf hfn hn hR hids hfit
  have hlen := sl_len (hfit (.sl (l.map Tm.cells)) (by simp))
  simp only [List.length_map] at hlen
  refine t_g0 ?_
  refine t_a ?_
  refine t_sub [] @appsT_nil (W_list (l) (fun done rest => [(.slot 9, .one (.v (dint done.length))), (.slot 8, .one (.v (dint l.length))), (.slot 7, .one (.v (.sl (l.map Tm.cells)))), (.loc 2, .row ([.v (dint (appsT f done).kind), .v (dint (appsT f done).index), .v (dint (appsT f done).type.kind), .v (.sl ((appsT f done).type.args.map Ty.cells)), .v (.sl ((appsT f done).args.map Tm.cells))])), (.slot 2, .one (.loc 2 0)), (.loc 4, .row ([.v (dint 0), .v (dint 0), .v (dint 0), .own 0 [], .own 0 []])), (.slot 4, .one (.loc 4 0))]) ?_ ?_)
  · intro done x rest hL hg0 hnext
    have hlt : done.length < l.length := by rw [hL]; simp
    refine t_rg0 ?_
    refine t_yes ?_
    refine t_g @hg0 ?_
    refine t_c1 @hg0 (ref02_n_ok 3 [appsT f done, x]) ?_
    repeat (first | (refine W_sub [] (by simp [go_sem]) (by simp [go_sem, appsT_snoc, appT, Tm.kind_mk, Tm.index_mk, Tm.type_mk, Tm.args_mk] <;> omega) (by simp [go_sem]) hnext) | refine W_seq ?_ | refine W_skip ?_ | refine W_block ?_ | refine W_inBlock ?_ | refine W_label ?_ | refine W_exit rfl ?_ | ((first | refine W_reg [] fun K hK => ?_ | refine W_regd (by rw [hP]; exact mixed) [] fun K hK => ?_); simp [go_sem, hP, hgl, hn]; (repeat (refine ⟨by omega, ?_⟩)); (first | refine hK _ ?_ | refine ⟨by rfl, hK _ ?_⟩); clear hK K) | refine W_cond rfl (fun _ => ?_) (fun hq => False.elim (by first | (simp; done) | (simp; omega) | (simp at hq; done) | (simp at hq; omega))) | refine W_cond rfl (fun hq => False.elim (by first | (simp; done) | (simp; omega) | (simp at hq; done) | (simp at hq; omega))) (fun _ => ?_))
  · refine t_rg0 ?_
    refine t_no ?_
    refine t_g0 ?_
    refine t_r ?_
    simp [go_sem, hP, hgl, hn] <;> (try omega)
    all_goals exact t_f

def vT (i : Int) : Tm := Tm.mk 1 i (Ty.mk 0 []) []
def nT (k : Int) (l : List Tm) : Tm := Tm.mk k 0 (Ty.mk 0 []) l
def recT (b s o : Tm) : Tm := Tm.mk 6 0 (Ty.mk 1 []) [b, lamsT s [Ty.mk 1 [], Ty.mk 1 []], o]
def twoT (b : Tm) : Tm := lamsT b [Ty.mk 1 [], Ty.mk 1 []]
def predT : Tm := lamsT (recT (nT 4 []) (vT 1) (vT 0)) [Ty.mk 1 []]
def plusT : Tm := twoT (recT (vT 1) (nT 5 [vT 0]) (vT 0))
def subT : Tm := twoT (recT (vT 1) (appsT predT [vT 0]) (vT 0))
end Go.Proofs.YtmdjiajbnifjpaaDoor.Lift

namespace Go.Proofs.YtmdjiajbnifjpaaDoor.Lift
set_option linter.unusedSimpArgs false
set_option linter.unusedVariables false
set_option linter.unnecessarySimpa false
open Go
variable {gl : Globs}

theorem numTm_count : ∀ n : Nat, (numTm n).count = n + 1
  | 0 => rfl
  | n + 1 => by rw [numTm, Tm.count_eq]; simp [Tm.args, Tm.count.counts, numTm_count n]; omega
end Go.Proofs.YtmdjiajbnifjpaaDoor.Lift

/-
  Plain facts: the terms of small values.
-/
namespace Go.Proofs.YtmdjiajbnifjpaaDoor.Lift
set_option linter.unusedSimpArgs false
set_option linter.unusedVariables false
set_option linter.unnecessarySimpa false
open Go

theorem num_shape : ∀ n : Nat, (numTm n).shape = true
  | 0 => rfl
  | n + 1 => by
    rw [numTm, Tm.shape_eq]
    simp [Tm.kind, Tm.index, Tm.type, Tm.args, Tm.shape.shapes, num_shape n, tmKind, tyOfKind, arityI, Ty.zero, Ty.kind, Ty.args]
end Go.Proofs.YtmdjiajbnifjpaaDoor.Lift

/-
  Plain facts: what is drawn out of a deck of numbers: types, contexts, terms; their forms.
-/
namespace Go.Proofs.YtmdjiajbnifjpaaDoor.Lift
set_option linter.unusedSimpArgs false
set_option linter.unusedVariables false
set_option linter.unnecessarySimpa false
open Go

/-- a small type -/
def typeD (l : List Int) : Nat → Nat → Ty × Nat
  | 0, p =>
    if (nextD l p 7).1 = 3 then (Ty.mk 2 [], (nextD l p 7).2) else if (nextD l p 7).1 = 4 then (Ty.mk 5 [], (nextD l p 7).2) else (Ty.mk 1 [], (nextD l p 7).2)
  | n + 1, p =>
    if (nextD l p 7).1 = 3 then (Ty.mk 2 [], (nextD l p 7).2) else if (nextD l p 7).1 = 4 then (Ty.mk 5 [], (nextD l p 7).2)
    else if (nextD l p 7).1 = 5 then (Ty.mk 3 [(typeD l n (nextD l p 7).2).1, (typeD l n (typeD l n (nextD l p 7).2).2).1], (typeD l n (typeD l n (nextD l p 7).2).2).2)
    else if (nextD l p 7).1 = 6 then (Ty.mk 4 [(typeD l n (nextD l p 7).2).1, (typeD l n (typeD l n (nextD l p 7).2).2).1], (typeD l n (typeD l n (nextD l p 7).2).2).2)
    else (Ty.mk 1 [], (nextD l p 7).2)

/-- n small types -/
def typesD (l : List Int) : Nat → Nat → List Ty × Nat
  | 0, p => ([], p)
  | n + 1, p => ((typeD l 1 p).1 :: (typesD l n (typeD l 1 p).2).1, (typesD l n (typeD l 1 p).2).2)
def ctxD (l : List Int) (p : Nat) : List Ty × Nat := typesD l (nextD l p 4).1.toNat (nextD l p 4).2

/-- the variable i's type -/
def varTy (g : List Ty) (i : Nat) : Ty := g.getD (g.length - 1 - i) zeroTy
/-- the variables of a type -/
def varsN (g : List Ty) (t : Ty) : List Nat := (List.range g.length).filter fun i => (varTy g i).same t
/-- the first variable that is a function into a type -/
def funN (g : List Ty) (t : Ty) : Option Nat := (List.range g.length).find? fun i => decide ((varTy g i).kind = 4) && ((varTy g i).arg 1).same t

/-- a variable, if one is chosen -/
def pickD (l : List Int) (t : Ty) (g : List Ty) (p : Nat) : Option Tm × Nat :=
  if (varsN g t).length = 0 then (none, p)
  else if (nextD l p 3).1 = 0 then (none, (nextD l p 3).2)
  else (some (vT ((varsN g t).getD (nextD l (nextD l p 3).2 (varsN g t).length).1.toNat 0 : Nat)), (nextD l (nextD l p 3).2 (varsN g t).length).2)

def numD (l : List Int) (p : Nat) : Tm × Nat := (numTm (nextD l p 3).1.toNat, (nextD l p 3).2)

/-- a term of a type, without depth -/
def leafD (l : List Int) (t : Ty) (g : List Ty) (p : Nat) : Tm × Nat :=
  match pickD l t g p with
  | (some x, q) => (x, q)
  | (none, q) =>
    match t with
    | .mk k ts =>
      if k = 1 then numD l q
      else if k = 2 then (nT 7 [], q)
      else match ts with
        | [a, b] =>
          if k = 3 then (nT 10 [(leafD l a g q).1, (leafD l b g (leafD l a g q).2).1], (leafD l b g (leafD l a g q).2).2)
          else if k = 4 then (Tm.mk 2 0 a [(leafD l b (g ++ [a]) q).1], (leafD l b (g ++ [a]) q).2)
          else (nT 13 [], q)
        | _ => (nT 13 [], q)
termination_by SizeOf.sizeOf t

/-- the end of a draw: by the type -/
def endD (l : List Int) (F : Ty → List Ty → Nat → Tm × Nat) (t : Ty) (g : List Ty) (q : Nat) : Tm × Nat :=
  if t.kind = 1 then
    if (nextD l q 5).1 = 0 then (nT 5 [(F t g (nextD l q 5).2).1], (F t g (nextD l q 5).2).2)
    else if (nextD l q 5).1 = 1 then (appsT plusT [(F t g (nextD l q 5).2).1, (F t g (F t g (nextD l q 5).2).2).1], (F t g (F t g (nextD l q 5).2).2).2)
    else if (nextD l q 5).1 = 2 then (appsT subT [(F t g (nextD l q 5).2).1, (F t g (F t g (nextD l q 5).2).2).1], (F t g (F t g (nextD l q 5).2).2).2)
    else numD l (nextD l q 5).2
  else if t.kind = 2 then
    if (nextD l q 2).1 = 0 then (nT 8 [(F (Ty.mk 1 []) g (nextD l q 2).2).1, (F t g (F (Ty.mk 1 []) g (nextD l q 2).2).2).1], (F t g (F (Ty.mk 1 []) g (nextD l q 2).2).2).2)
    else (nT 7 [], (nextD l q 2).2)
  else if t.kind = 3 then (nT 10 [(F (t.arg 0) g q).1, (F (t.arg 1) g (F (t.arg 0) g q).2).1], (F (t.arg 1) g (F (t.arg 0) g q).2).2)
  else if t.kind = 4 then (Tm.mk 2 0 (t.arg 0) [(F (t.arg 1) (g ++ [t.arg 0]) q).1], (F (t.arg 1) (g ++ [t.arg 0]) q).2)
  else (nT 13 [], q)

/-- a draw with depth, without a variable: by the choice k -/
def stepD (l : List Int) (F : Ty → List Ty → Nat → Tm × Nat) (t : Ty) (g : List Ty) (k : Int) (q : Nat) : Tm × Nat :=
  if k = 0 then
    let s := typeD l 0 q
    let x := F t (g ++ [s.1]) s.2
    let y := F s.1 g x.2
    (nT 3 [Tm.mk 2 0 s.1 [x.1], y.1], y.2)
  else if k = 1 then
    let s := typeD l 0 q
    let x := F t g s.2
    let y := F s.1 g x.2
    (nT 11 [nT 10 [x.1, y.1]], y.2)
  else if k = 2 then
    let x := F t (g ++ [Ty.mk 1 [], t]) q
    let y := F t g x.2
    let z := numD l y.2
    (Tm.mk 6 0 t [y.1, Tm.mk 2 0 (Ty.mk 1 []) [Tm.mk 2 0 t [x.1]], z.1], z.2)
  else if k = 3 then
    let x := F t (g ++ [Ty.mk 1 [], Ty.mk 2 [], t]) q
    let y := F t g x.2
    let z := F (Ty.mk 2 []) g y.2
    (Tm.mk 9 0 t [y.1, Tm.mk 2 0 (Ty.mk 1 []) [Tm.mk 2 0 (Ty.mk 2 []) [Tm.mk 2 0 t [x.1]]], z.1], z.2)
  else if k = 4 then
    let s := typeD l 0 q
    let x := F s.1 g s.2
    let y := F t g x.2
    (nT 12 [nT 10 [x.1, y.1]], y.2)
  else if k = 5 then
    match funN g t with
    | some i => (nT 3 [vT i, (F ((varTy g i).arg 0) g q).1], (F ((varTy g i).arg 0) g q).2)
    | none => endD l F t g q
  else endD l F t g q

/-- a term of a type in a context -/
def termD (l : List Int) : Nat → Ty → List Ty → Nat → Tm × Nat
  | 0, t, g, p => leafD l t g p
  | n + 1, t, g, p =>
    match pickD l t g p with
    | (some x, q) => (x, q)
    | (none, q) => stepD l (termD l n) t g (nextD l q 8).1 (nextD l q 8).2

theorem leafD_eq (l : List Int) (t : Ty) (g : List Ty) (p : Nat) (ht : t.ok) : leafD l t g p =
    match pickD l t g p with
    | (some x, q) => (x, q)
    | (none, q) =>
      if t.kind = 1 then numD l q
      else if t.kind = 2 then (nT 7 [], q)
      else if t.kind = 3 then (nT 10 [(leafD l (t.arg 0) g q).1, (leafD l (t.arg 1) g (leafD l (t.arg 0) g q).2).1], (leafD l (t.arg 1) g (leafD l (t.arg 0) g q).2).2)
      else if t.kind = 4 then (Tm.mk 2 0 (t.arg 0) [(leafD l (t.arg 1) (g ++ [t.arg 0]) q).1], (leafD l (t.arg 1) (g ++ [t.arg 0]) q).2)
      else (nT 13 [], q) := by
  rw [leafD.eq_def]
  rcases pickD l t g p with ⟨_ | x, q⟩
  · cases t with
    | mk k ts =>
      simp only [Ty.kind]
      by_cases h1 : k = 1
      · simp [h1]
      by_cases h2 : k = 2
      · simp [h2]
      simp only [h1, h2, if_false]
      by_cases h34 : k = 3 ∨ k = 4
      · obtain ⟨a, b, e, -, -, e0, e1⟩ := Ty.ok_args ht h34
        simp only [Ty.args] at e
        subst e
        rw [e0, e1]
        rfl
      · have h3 : k ≠ 3 := fun e => h34 (.inl e)
        have h4 : k ≠ 4 := fun e => h34 (.inr e)
        simp only [h3, h4, if_false]
        match ts with
        | [a, b] => rfl
        | [] => rfl
        | [_] => rfl
        | _ :: _ :: _ :: _ => rfl
  · rfl

theorem ty_two {k : Int} {a b : Ty} (hk : k = 3 ∨ k = 4) (ha : a.shape = true) (hb : b.shape = true) : (Ty.mk k [a, b]).shape = true := by
  rcases hk with rfl | rfl <;> simp [Ty.shape, Ty.shape.shapes, tyKind, ha, hb]

theorem typeD_facts (l : List Int) : ∀ (n p : Nat), p ≤ l.length → (typeD l n p).2 ≤ l.length ∧ (typeD l n p).1.shape = true ∧ (typeD l n p).1.count + 1 ≤ 2 ^ (n + 1)
  | 0, p, hp => by
    have hq := nextD_le (n := 7) hp
    unfold typeD
    split
    · exact ⟨hq, rfl, Nat.le_refl 2⟩
    · split
      · exact ⟨hq, rfl, Nat.le_refl 2⟩
      · exact ⟨hq, rfl, Nat.le_refl 2⟩
  | n + 1, p, hp => by
    have hq := nextD_le (n := 7) hp
    obtain ⟨a1, a2, a3⟩ := typeD_facts l n _ hq
    obtain ⟨b1, b2, b3⟩ := typeD_facts l n _ a1
    have h2 : 2 ≤ 2 ^ (n + 1) := Nat.pow_le_pow_right (n := 2) (by decide) (show 1 ≤ n + 1 by omega)
    have h3 : 2 ^ (n + 1 + 1) = 2 ^ (n + 1) * 2 := Nat.pow_succ ..
    have hc : ∀ (k : Int) (a b : Ty), (Ty.mk k [a, b]).count = 1 + (a.count + (b.count + 0)) := fun _ _ _ => rfl
    unfold typeD
    split
    · exact ⟨hq, rfl, by show 1 + 0 + 1 ≤ _; omega⟩
    split
    · exact ⟨hq, rfl, by show 1 + 0 + 1 ≤ _; omega⟩
    split
    · exact ⟨b1, ty_two (.inl rfl) a2 b2, by rw [hc]; omega⟩
    split
    · exact ⟨b1, ty_two (.inr rfl) a2 b2, by rw [hc]; omega⟩
    · exact ⟨hq, rfl, by show 1 + 0 + 1 ≤ _; omega⟩

/-- a small type -/
def Ty.small (t : Ty) : Prop := t.shape = true ∧ t.count ≤ 15
theorem Ty.small.ok {t : Ty} (h : t.small) : t.ok := ⟨h.1, by have := h.2; omega⟩
theorem Ty.small.arg {t : Ty} (h : t.small) (hk : t.kind = 3 ∨ t.kind = 4) : (t.arg 0).small ∧ (t.arg 1).small ∧ (t.arg 0).count + (t.arg 1).count < t.count := by
  obtain ⟨a, b, e, oa, ob, e0, e1⟩ := Ty.ok_args h.ok hk
  have hc : t.count = 1 + (a.count + (b.count + 0)) := by rw [Ty.count_eq, e]; rfl
  have := h.2
  rw [e0, e1]
  exact ⟨⟨oa.1, by omega⟩, ⟨ob.1, by omega⟩, by omega⟩
theorem typeD_small (l : List Int) {n p : Nat} (hp : p ≤ l.length) (hn : n ≤ 3) : (typeD l n p).2 ≤ l.length ∧ (typeD l n p).1.small := by
  obtain ⟨h1, h2, h3⟩ := typeD_facts l n p hp
  have : 2 ^ (n + 1) ≤ 2 ^ 4 := Nat.pow_le_pow_right (by decide) (by omega)
  exact ⟨h1, h2, by omega⟩
theorem small_nat : (Ty.mk 1 []).small := ⟨rfl, by decide⟩
theorem small_list : (Ty.mk 2 []).small := ⟨rfl, by decide⟩
theorem typesD_facts (l : List Int) : ∀ (n p : Nat), p ≤ l.length → (typesD l n p).2 ≤ l.length ∧ (∀ t ∈ (typesD l n p).1, t.small) ∧ (typesD l n p).1.length = n
  | 0, p, hp => ⟨hp, by simp [typesD], rfl⟩
  | n + 1, p, hp => by
    obtain ⟨a1, a2⟩ := typeD_small l (n := 1) hp (by decide)
    obtain ⟨b1, b2, b3⟩ := typesD_facts l n _ a1
    refine ⟨b1, fun t ht => ?_, by simp [typesD, b3]⟩
    simp only [typesD, List.mem_cons] at ht
    rcases ht with rfl | ht
    · exact a2
    · exact b2 t ht
theorem ctxD_facts (l : List Int) {p : Nat} (hp : p ≤ l.length) : (ctxD l p).2 ≤ l.length ∧ (∀ t ∈ (ctxD l p).1, t.small) ∧ (ctxD l p).1.length ≤ 3 := by
  obtain ⟨h1, h2, h3⟩ := typesD_facts l (nextD l p 4).1.toNat _ (nextD_le (n := 4) hp)
  have := nextD_bd (l := l) (p := p) (n := 4) (by decide)
  exact ⟨h1, h2, by show (typesD _ _ _).1.length ≤ 3; omega⟩

theorem varTy_mem {g : List Ty} {i : Nat} (h : i < g.length) : varTy g i ∈ g ∧ g[g.length - 1 - i]? = some (varTy g i) := by
  have hl : g.length - 1 - i < g.length := by omega
  unfold varTy
  rw [List.getD_eq_getElem?_getD, List.getElem?_eq_getElem hl]
  exact ⟨List.getElem_mem _, rfl⟩
theorem varsN_mem {g : List Ty} {t : Ty} {i : Nat} (h : i ∈ varsN g t) : i < g.length ∧ varTy g i = t := by
  simp only [varsN, List.mem_filter, List.mem_range, Ty.same_iff] at h
  exact h
theorem funN_some {g : List Ty} {t : Ty} {i : Nat} (h : funN g t = some i) : i < g.length ∧ (varTy g i).kind = 4 ∧ (varTy g i).arg 1 = t := by
  have h1 := List.find?_some h
  have h2 := List.mem_of_find?_eq_some h
  simp only [Bool.and_eq_true, decide_eq_true_eq, Ty.same_iff] at h1
  exact ⟨List.mem_range.1 h2, h1.1, h1.2⟩

theorem pickD_le {l : List Int} {t : Ty} {g : List Ty} {p : Nat} (hp : p ≤ l.length) : (pickD l t g p).2 ≤ l.length := by
  unfold pickD
  split
  · exact hp
  · split
    · exact nextD_le hp
    · exact nextD_le (nextD_le hp)
theorem pickD_some {l : List Int} {t : Ty} {g : List Ty} {p q : Nat} {x : Tm} (h : pickD l t g p = (some x, q)) : ∃ i : Nat, x = vT i ∧ i < g.length ∧ varTy g i = t := by
  unfold pickD at h
  split at h
  · cases h
  · rename_i hne
    split at h
    · cases h
    · simp only [Prod.mk.injEq, Option.some.injEq] at h
      generalize hk : (nextD l (nextD l p 3).2 (varsN g t).length).1.toNat = k at h
      have hb := nextD_bd (l := l) (p := (nextD l p 3).2) (n := (varsN g t).length) (by omega)
      have hlt : k < (varsN g t).length := by omega
      refine ⟨(varsN g t)[k], ?_, varsN_mem (List.getElem_mem hlt)⟩
      rw [← h.1, List.getD_eq_getElem?_getD, List.getElem?_eq_getElem hlt, Option.getD_some]

theorem shape_v {i : Nat} : (vT i).shape = true := by
  unfold vT
  rw [Tm.shape_eq]
  simp [Tm.kind, Tm.index, Tm.type, Tm.args, Tm.shape.shapes, tmKind, tyOfKind, arityI, Ty.zero, Ty.kind, Ty.args]
theorem shape_n {k : Int} {a : List Tm} (h : (a.length : Int) = arityI k) (hk : ¬ (k = 2 ∨ k = 6 ∨ k = 9)) (ha : ∀ x ∈ a, x.shape = true) : (nT k a).shape = true := by
  unfold nT
  rw [Tm.shape_eq]
  have hz : tyOfKind k (Ty.mk 0 []) = true := by unfold tyOfKind; rw [if_neg hk]; rfl
  simp only [Tm.kind, Tm.index, Tm.type, Tm.args, (Tm.shapes_iff a).2 ha, tmKind, hz, h]
  simp
theorem shape_t {k : Int} {s : Ty} {a : List Tm} (h : (a.length : Int) = arityI k) (hk : k = 2 ∨ k = 6 ∨ k = 9) (hs : s.ok) (ha : ∀ x ∈ a, x.shape = true) : (Tm.mk k 0 s a).shape = true := by
  rw [Tm.shape_eq]
  simp only [Tm.kind, Tm.index, Tm.type, Tm.args, (Tm.shapes_iff a).2 ha, tmKind, tyOfKind, if_pos hk, h, (Ty.checkN_iff s).2 hs]
  simp

/-- what holds of all that F draws -/
def Draws (l : List Int) (F : Ty → List Ty → Nat → Tm × Nat) (Q : Ty → List Ty → Tm → Prop) : Prop :=
  ∀ t g p, t.small → (∀ x ∈ g, x.small) → p ≤ l.length → (F t g p).2 ≤ l.length ∧ Q t g (F t g p).1

/-- what a property of drawn terms must obey -/
structure DrawOK (Q : Ty → List Ty → Tm → Prop) : Prop where
  var : ∀ g i, i < g.length → Q (varTy g i) g (vT (i : Nat))
  num : ∀ g n, n < 3 → Q (Ty.mk 1 []) g (numTm n)
  app : ∀ g s t f x, s.small → t.small → Q (Ty.mk 4 [s, t]) g f → Q s g x → Q t g (nT 3 [f, x])
  lam : ∀ g s t x, s.small → t.small → Q t (g ++ [s]) x → Q (Ty.mk 4 [s, t]) g (Tm.mk 2 0 s [x])
  lam2 : ∀ g s t r x, s.small → t.small → r.small → Q r (g ++ [s, t]) x → Q (Ty.mk 4 [s, Ty.mk 4 [t, r]]) g (Tm.mk 2 0 s [Tm.mk 2 0 t [x]])
  lam3 : ∀ g s t u r x, s.small → t.small → u.small → r.small → Q r (g ++ [s, t, u]) x → Q (Ty.mk 4 [s, Ty.mk 4 [t, Ty.mk 4 [u, r]]]) g (Tm.mk 2 0 s [Tm.mk 2 0 t [Tm.mk 2 0 u [x]]])
  pair : ∀ g s t x y, s.small → t.small → Q s g x → Q t g y → Q (Ty.mk 3 [s, t]) g (nT 10 [x, y])
  fst : ∀ g s t x, s.small → t.small → Q (Ty.mk 3 [s, t]) g x → Q s g (nT 11 [x])
  snd : ∀ g s t x, s.small → t.small → Q (Ty.mk 3 [s, t]) g x → Q t g (nT 12 [x])
  rc : ∀ g t x f n, t.small → Q t g x → Q (Ty.mk 4 [Ty.mk 1 [], Ty.mk 4 [t, t]]) g f → Q (Ty.mk 1 []) g n → Q t g (Tm.mk 6 0 t [x, f, n])
  fold : ∀ g t x f n, t.small → Q t g x → Q (Ty.mk 4 [Ty.mk 1 [], Ty.mk 4 [Ty.mk 2 [], Ty.mk 4 [t, t]]]) g f → Q (Ty.mk 2 []) g n → Q t g (Tm.mk 9 0 t [x, f, n])
  succ : ∀ g x, Q (Ty.mk 1 []) g x → Q (Ty.mk 1 []) g (nT 5 [x])
  plus : ∀ g x y, Q (Ty.mk 1 []) g x → Q (Ty.mk 1 []) g y → Q (Ty.mk 1 []) g (appsT plusT [x, y])
  sub : ∀ g x y, Q (Ty.mk 1 []) g x → Q (Ty.mk 1 []) g y → Q (Ty.mk 1 []) g (appsT subT [x, y])
  nil : ∀ g, Q (Ty.mk 2 []) g (nT 7 [])
  cons : ∀ g x y, Q (Ty.mk 1 []) g x → Q (Ty.mk 2 []) g y → Q (Ty.mk 2 []) g (nT 8 [x, y])
  unit : ∀ g, Q (Ty.mk 5 []) g (nT 13 [])

theorem numD_facts {l : List Int} {Q : Ty → List Ty → Tm → Prop} (hQ : DrawOK Q) {p : Nat} (hp : p ≤ l.length) (g : List Ty) : (numD l p).2 ≤ l.length ∧ Q (Ty.mk 1 []) g (numD l p).1 := by
  have := nextD_bd (l := l) (p := p) (n := 3) (by decide)
  exact ⟨nextD_le hp, hQ.num g _ (by omega)⟩

theorem small_kinds {t : Ty} (h : t.small) : (t.kind = 1 ∧ t = Ty.mk 1 []) ∨ (t.kind = 2 ∧ t = Ty.mk 2 []) ∨ (t.kind = 5 ∧ t = Ty.mk 5 []) ∨ (t.kind = 3 ∧ t = Ty.mk 3 [t.arg 0, t.arg 1]) ∨ (t.kind = 4 ∧ t = Ty.mk 4 [t.arg 0, t.arg 1]) := by
  cases t with
  | mk k ts =>
    have h1 := h.1
    rw [Ty.shape_eq, Bool.and_eq_true] at h1
    have hk := h1.1
    unfold tyKind at hk
    simp [Ty.kind, Ty.args] at hk
    rcases hk with ⟨h2, rfl⟩ | ⟨h2, h3⟩
    · rcases of_decide_eq_true h2 with rfl | rfl | rfl <;> simp [Ty.kind]
    · match ts, h3 with
      | [a, b], _ => rcases of_decide_eq_true h2 with rfl | rfl <;> simp [Ty.kind, Ty.arg, Ty.args]

theorem endD_facts {l : List Int} {F : Ty → List Ty → Nat → Tm × Nat} {Q : Ty → List Ty → Tm → Prop} (hQ : DrawOK Q) (hF : Draws l F Q) : Draws l (endD l F) Q := by
  intro t g p ht hg hp
  unfold endD
  have h5 := nextD_le (n := 5) hp
  have h2 := nextD_le (n := 2) hp
  rcases small_kinds ht with ⟨h, e⟩ | ⟨h, e⟩ | ⟨h, e⟩ | ⟨h, e⟩ | ⟨h, e⟩
  · rw [if_pos h]
    obtain ⟨a1, a2⟩ := hF t g _ ht hg h5
    obtain ⟨b1, b2⟩ := hF t g _ ht hg a1
    rw [e] at a1 a2 b1 b2 ⊢
    split
    · exact ⟨a1, hQ.succ g _ a2⟩
    split
    · exact ⟨b1, hQ.plus g _ _ a2 b2⟩
    split
    · exact ⟨b1, hQ.sub g _ _ a2 b2⟩
    · exact numD_facts hQ h5 g
  · rw [if_neg (by omega), if_pos h]
    obtain ⟨a1, a2⟩ := hF _ g _ small_nat hg h2
    obtain ⟨b1, b2⟩ := hF t g _ ht hg a1
    rw [e] at b1 b2 ⊢
    split
    · exact ⟨b1, hQ.cons g _ _ a2 b2⟩
    · exact ⟨h2, hQ.nil g⟩
  · rw [if_neg (by omega), if_neg (by omega), if_neg (by omega), if_neg (by omega)]
    rw [e]
    exact ⟨hp, hQ.unit g⟩
  · rw [if_neg (by omega), if_neg (by omega), if_pos h]
    obtain ⟨s0, s1, _⟩ := ht.arg (.inl h)
    obtain ⟨a1, a2⟩ := hF _ g _ s0 hg hp
    obtain ⟨b1, b2⟩ := hF _ g _ s1 hg a1
    refine ⟨b1, ?_⟩
    rw [e]
    exact hQ.pair g _ _ _ _ s0 s1 a2 b2
  · rw [if_neg (by omega), if_neg (by omega), if_neg (by omega), if_pos h]
    obtain ⟨s0, s1, _⟩ := ht.arg (.inr h)
    obtain ⟨a1, a2⟩ := hF (t.arg 1) (g ++ [t.arg 0]) _ s1 (by intro x hx; rcases List.mem_append.1 hx with hx | hx; exact hg x hx; rw [List.mem_singleton.1 hx]; exact s0) hp
    refine ⟨a1, ?_⟩
    rw [e]
    exact hQ.lam g _ _ _ s0 s1 a2

theorem stepD_facts {l : List Int} {F : Ty → List Ty → Nat → Tm × Nat} {Q : Ty → List Ty → Tm → Prop} (hQ : DrawOK Q) (hF : Draws l F Q) (k : Int) : Draws l (fun t g p => stepD l F t g k p) Q := by
  intro t g p ht hg hp
  have hg1 : ∀ a : List Ty, (∀ x ∈ a, x.small) → ∀ x ∈ g ++ a, x.small := by
    intro a ha x hx
    rcases List.mem_append.1 hx with hx | hx
    · exact hg x hx
    · exact ha x hx
  have hg2 : ∀ s : Ty, s.small → ∀ x ∈ g ++ [s], x.small := fun s hs => hg1 [s] (by simpa using hs)
  obtain ⟨s1, s2⟩ := typeD_small l (n := 0) hp (by decide)
  show (stepD l F t g k p).2 ≤ l.length ∧ Q t g (stepD l F t g k p).1
  unfold stepD
  split
  · obtain ⟨a1, a2⟩ := hF t _ _ ht (hg2 _ s2) s1
    obtain ⟨b1, b2⟩ := hF _ g _ s2 hg a1
    exact ⟨b1, hQ.app g _ _ _ _ s2 ht (hQ.lam g _ _ _ s2 ht a2) b2⟩
  split
  · obtain ⟨a1, a2⟩ := hF t g _ ht hg s1
    obtain ⟨b1, b2⟩ := hF _ g _ s2 hg a1
    exact ⟨b1, hQ.fst g _ _ _ ht s2 (hQ.pair g _ _ _ _ ht s2 a2 b2)⟩
  split
  · obtain ⟨a1, a2⟩ := hF t _ _ ht (hg1 [Ty.mk 1 [], t] (by intro x hx; simp at hx; rcases hx with rfl | rfl; exact small_nat; exact ht)) hp
    obtain ⟨b1, b2⟩ := hF t g _ ht hg a1
    obtain ⟨c1, c2⟩ := numD_facts hQ b1 g
    exact ⟨c1, hQ.rc g _ _ _ _ ht b2 (hQ.lam2 g _ _ _ _ small_nat ht ht a2) c2⟩
  split
  · obtain ⟨a1, a2⟩ := hF t _ _ ht (hg1 [Ty.mk 1 [], Ty.mk 2 [], t] (by intro x hx; simp at hx; rcases hx with rfl | rfl | rfl; exact small_nat; exact small_list; exact ht)) hp
    obtain ⟨b1, b2⟩ := hF t g _ ht hg a1
    obtain ⟨c1, c2⟩ := hF _ g _ small_list hg b1
    exact ⟨c1, hQ.fold g _ _ _ _ ht b2 (hQ.lam3 g _ _ _ _ _ small_nat small_list ht ht a2) c2⟩
  split
  · obtain ⟨a1, a2⟩ := hF _ g _ s2 hg s1
    obtain ⟨b1, b2⟩ := hF t g _ ht hg a1
    exact ⟨b1, hQ.snd g _ _ _ s2 ht (hQ.pair g _ _ _ _ s2 ht a2 b2)⟩
  split
  · split
    · rename_i i hi
      obtain ⟨f1, f2, f3⟩ := funN_some hi
      have hfs := hg _ (varTy_mem f1).1
      obtain ⟨c0, c1, -⟩ := hfs.arg (.inr f2)
      obtain ⟨a1, a2⟩ := hF _ g _ c0 hg hp
      have hv := hQ.var g i f1
      rcases small_kinds hfs with ⟨h, e⟩ | ⟨h, e⟩ | ⟨h, e⟩ | ⟨h, e⟩ | ⟨h, e⟩
      · omega
      · omega
      · omega
      · omega
      · rw [e, f3] at hv
        exact ⟨a1, hQ.app g _ _ _ _ c0 ht hv a2⟩
    · exact endD_facts hQ hF t g p ht hg hp
  · exact endD_facts hQ hF t g p ht hg hp

theorem leafD_facts {l : List Int} {Q : Ty → List Ty → Tm → Prop} (hQ : DrawOK Q) : Draws l (leafD l) Q := by
  intro t
  generalize hn : t.count = n
  induction n using Nat.strongRecOn generalizing t with
  | _ n ih =>
  intro g p ht hg hp
  rw [leafD_eq l t g p ht.ok]
  have hq := pickD_le (t := t) (g := g) hp
  split
  · rename_i x q hx
    obtain ⟨i, rfl, h1, h2⟩ := pickD_some hx
    rw [hx] at hq
    have := hQ.var g i h1
    rw [h2] at this
    exact ⟨hq, this⟩
  · rename_i q hx
    rw [hx] at hq
    rcases small_kinds ht with ⟨h, e⟩ | ⟨h, e⟩ | ⟨h, e⟩ | ⟨h, e⟩ | ⟨h, e⟩
    · rw [if_pos h, e]; exact numD_facts hQ hq g
    · rw [if_neg (by omega), if_pos h, e]; exact ⟨hq, hQ.nil g⟩
    · rw [if_neg (by omega), if_neg (by omega), if_neg (by omega), if_neg (by omega), e]; exact ⟨hq, hQ.unit g⟩
    · rw [if_neg (by omega), if_neg (by omega), if_pos h]
      obtain ⟨s0, s1, hc⟩ := ht.arg (.inl h)
      have p0 := Ty.count_eq (t.arg 0)
      have p1 := Ty.count_eq (t.arg 1)
      obtain ⟨a1, a2⟩ := ih _ (by omega) (t.arg 0) rfl g _ s0 hg hq
      obtain ⟨b1, b2⟩ := ih _ (by omega) (t.arg 1) rfl g _ s1 hg a1
      refine ⟨b1, ?_⟩
      have := hQ.pair g _ _ _ _ s0 s1 a2 b2
      rw [← e] at this
      exact this
    · rw [if_neg (by omega), if_neg (by omega), if_neg (by omega), if_pos h]
      obtain ⟨s0, s1, hc⟩ := ht.arg (.inr h)
      have p0 := Ty.count_eq (t.arg 0)
      have p1 := Ty.count_eq (t.arg 1)
      obtain ⟨a1, a2⟩ := ih _ (by omega) (t.arg 1) rfl (g ++ [t.arg 0]) _ s1 (by intro x hx; rcases List.mem_append.1 hx with hx | hx; exact hg x hx; rw [List.mem_singleton.1 hx]; exact s0) hq
      refine ⟨a1, ?_⟩
      have := hQ.lam g _ _ _ s0 s1 a2
      rw [← e] at this
      exact this

theorem termD_facts {l : List Int} {Q : Ty → List Ty → Tm → Prop} (hQ : DrawOK Q) : ∀ n, Draws l (termD l n) Q
  | 0 => leafD_facts hQ
  | n + 1 => by
    intro t g p ht hg hp
    have hq := pickD_le (t := t) (g := g) hp
    unfold termD
    split
    · rename_i x q hx
      obtain ⟨i, rfl, h1, h2⟩ := pickD_some hx
      rw [hx] at hq
      have := hQ.var g i h1
      rw [h2] at this
      exact ⟨hq, this⟩
    · rename_i q hx
      rw [hx] at hq
      exact stepD_facts hQ (termD_facts hQ n) _ t g _ ht hg (nextD_le hq)

theorem app2_shape {f x y : Tm} (hf : f.shape = true) (hx : x.shape = true) (hy : y.shape = true) : (appsT f [x, y]).shape = true := by
  show (nT 3 [nT 3 [f, x], y]).shape = true
  exact shape_n rfl (by decide) (by intro z hz; simp at hz; rcases hz with rfl | rfl; exact shape_n rfl (by decide) (by intro z hz; simp at hz; rcases hz with rfl | rfl; exact hf; exact hx); exact hy)

theorem closed_shape : DrawOK (fun _ _ x => x.shape = true) where
  var _ _ _ := shape_v
  num _ n _ := num_shape n
  app _ _ _ _ _ _ _ hf hx := shape_n rfl (by decide) (by intro z hz; simp at hz; rcases hz with rfl | rfl; exact hf; exact hx)
  lam _ _ _ _ hs _ hx := shape_t rfl (.inl rfl) hs.ok (by intro z hz; simp at hz; rw [hz]; exact hx)
  lam2 _ _ _ _ _ hs ht _ hx := shape_t rfl (.inl rfl) hs.ok (by intro z hz; simp at hz; rw [hz]; exact shape_t rfl (.inl rfl) ht.ok (by intro z hz; simp at hz; rw [hz]; exact hx))
  lam3 _ _ _ _ _ _ hs ht hu _ hx := shape_t rfl (.inl rfl) hs.ok (by intro z hz; simp at hz; rw [hz]; exact shape_t rfl (.inl rfl) ht.ok (by intro z hz; simp at hz; rw [hz]; exact shape_t rfl (.inl rfl) hu.ok (by intro z hz; simp at hz; rw [hz]; exact hx)))
  pair _ _ _ _ _ _ _ hf hx := shape_n rfl (by decide) (by intro z hz; simp at hz; rcases hz with rfl | rfl; exact hf; exact hx)
  fst _ _ _ _ _ _ hx := shape_n rfl (by decide) (by intro z hz; simp at hz; rw [hz]; exact hx)
  snd _ _ _ _ _ _ hx := shape_n rfl (by decide) (by intro z hz; simp at hz; rw [hz]; exact hx)
  rc _ _ _ _ _ ht hx hf hn := shape_t rfl (.inr (.inl rfl)) ht.ok (by intro z hz; simp at hz; rcases hz with rfl | rfl | rfl; exact hx; exact hf; exact hn)
  fold _ _ _ _ _ ht hx hf hn := shape_t rfl (.inr (.inr rfl)) ht.ok (by intro z hz; simp at hz; rcases hz with rfl | rfl | rfl; exact hx; exact hf; exact hn)
  succ _ _ hx := shape_n rfl (by decide) (by intro z hz; simp at hz; rw [hz]; exact hx)
  plus _ _ _ hx hy := app2_shape (by decide) hx hy
  sub _ _ _ hx hy := app2_shape (by decide) hx hy
  nil _ := rfl
  cons _ _ _ hf hx := shape_n rfl (by decide) (by intro z hz; simp at hz; rcases hz with rfl | rfl; exact hf; exact hx)
  unit _ := rfl
end Go.Proofs.YtmdjiajbnifjpaaDoor.Lift

namespace Go.Proofs.YtmdjiajbnifjpaaDoor.Lift
set_option linter.unusedSimpArgs false
set_option linter.unusedVariables false
set_option linter.unnecessarySimpa false
open Go
variable {gl : Globs}

theorem numeral_ok (n : Nat) : Con1 Tryd.prog gl 76 [dint n] [] (numTm n).dv [] := by
  refine t_in Tryd.func76 ?_
  intro X hP hgl hf hfn hn hR hids hfit
  have hn1 : intOK .i64 n := hfit (dint n) (by simp)
  rw [intOK_i64] at hn1
  refine t_g0 ?_
  refine t_c1 trivial (ref02_n_ok 4 []) ?_
  refine t_a ?_
  refine W_sub [] (by simp [go_sem]) (by simp [go_sem, numTm] <;> omega) (by simp [go_sem]) (W_rounds (fun x : Nat => x ≤ n) (fun x : Nat => [(.slot 0, .one (.v (dint x))), (.loc 3, .row ((numTm (n - x)).cells.map .v)), (.slot 3, .one (.loc 3 0)), (.loc 2, .row ([.v (dint 0), .v (dint 0), .v (dint 0), .own 0 [], .own 0 []])), (.slot 2, .one (.loc 2 0))]) (fun x : Nat => x) n (Nat.le_refl n) ?_)
  intro x hx ih
  cases x with
  | zero =>
    refine t_rg0 ?_
    refine t_no ?_
    refine t_g0 ?_
    refine t_r ?_
    simp [go_sem, hP, hgl, hn] <;> (try omega)
  | succ x =>
    have hs : n - x = (n - (x + 1)) + 1 := by omega
    refine t_rg0 ?_
    refine t_yes ?_
    refine t_rg0 ?_
    refine t_rg0 ?_
    repeat (first | refine W_inBlock ?_ | refine W_skip ?_ | refine W_label ?_ | refine W_exit rfl ?_)
    refine W_sub [] (by simp [go_sem]) (by simp [go_sem, hs, numTm] <;> omega) (by simp [go_sem]) (ih x (by omega) (by omega))

theorem ref05_number_ok (n : Nat) (hn4 : n < 4096) : Con1 Tryd.prog gl 64 [dint n] [] (.tup [(numTm n).dv, dint 0]) [] := by
  refine t_in Tryd.func64 ?_
  intro X hP hgl hf hfn hn hR hids hfit
  have h1 : ¬ (n : Int) < 0 := by omega
  have h2 : ¬ (4096 : Int) ≤ n := by omega
  refine t_g (j2 @h1 @h2) ?_
  refine t_c1 trivial (numeral_ok n) ?_
  refine t_r ?_
  simp [go_sem, hP, hgl, hn] <;> (try omega)

theorem mk_num_ok (n : Nat) (hn4 : n < 4096) : Con1 Tryd.prog gl 38 [dint n] [] (numTm n).dv [] := by
  refine t_in Tryd.func38 ?_
  intro X hP hgl hf hfn hn hR hids hfit
  refine t_g0 ?_
  refine t_c1 trivial (ref05_number_ok n hn4) ?_
  refine t_g0 ?_
  refine t_r ?_
  simp [go_sem, hP, hgl, hn] <;> (try omega)
  all_goals exact t_f

theorem lam5_ok (t : Tm) : Con1 Tryd.prog gl 65 [t.dv] [] (Tm.mk 2 0 (Ty.mk 1 []) [t]).dv [] := by
  refine t_in Tryd.func65 ?_
  intro X hP hgl hf hfn hn hR hids hfit
  refine t_g0 ?_
  refine t_c2 @nat_v ref01_nat_ok (ref02_t_ok 2 (Ty.mk 1 []) [t]) ?_
  refine t_r ?_
  simp [go_sem, hP, hgl, hn] <;> (try omega)
  all_goals exact t_f
theorem rec5_ok (a b c : Tm) : Con1 Tryd.prog gl 66 [a.dv, b.dv, c.dv] [] (Tm.mk 6 0 (Ty.mk 1 []) [a, b, c]).dv [] := by
  refine t_in Tryd.func66 ?_
  intro X hP hgl hf hfn hn hR hids hfit
  refine t_g0 ?_
  refine t_c2 @nat_v ref01_nat_ok (ref02_t_ok 6 (Ty.mk 1 []) [a, b, c]) ?_
  refine t_r ?_
  simp [go_sem, hP, hgl, hn] <;> (try omega)
  all_goals exact t_f
def lamN (t : Tm) : Tm := Tm.mk 2 0 (Ty.mk 1 []) [t]
def recN (a b c : Tm) : Tm := Tm.mk 6 0 (Ty.mk 1 []) [a, b, c]
theorem lam5' (t : Tm) : Con1 Tryd.prog gl 65 [t.dv] [] (lamN t).dv [] := lam5_ok t
theorem rec5' (a b c : Tm) : Con1 Tryd.prog gl 66 [a.dv, b.dv, c.dv] [] (recN a b c).dv [] := rec5_ok a b c
theorem var5 (i : Int) : Con1 Tryd.prog gl 33 [dint i] [] (vT i).dv [] := ref02_var_ok i
theorem n5 (k : Int) (l : List Tm) : Con1 Tryd.prog gl 34 [dint k, .sl (l.map Tm.cells)] [] (nT k l).dv [] := ref02_n_ok k l

theorem pred_eq : lamN (recN (nT 4 []) (lamN (lamN (vT 1))) (vT 0)) = predT := rfl
theorem plus_eq : lamN (lamN (recN (vT 1) (lamN (lamN (nT 5 [vT 0]))) (vT 0))) = plusT := rfl
theorem sub_eq : lamN (lamN (recN (vT 1) (lamN (lamN (nT 3 [predT, vT 0]))) (vT 0))) = subT := rfl
theorem ref05_pred_ok : Con1 Tryd.prog gl 67 [] [] predT.dv [] := by
  refine t_in Tryd.func67 ?_
  intro X hP hgl hf hfn hn hR hids hfit
  refine t_g0 ?_
  refine t_c7 trivial (n5 4 []) (var5 1) (lam5' (vT 1)) (lam5' (lamN (vT 1))) (var5 0) (rec5' (nT 4 []) (lamN (lamN (vT 1))) (vT 0)) (lam5' (recN (nT 4 []) (lamN (lamN (vT 1))) (vT 0))) ?_
  refine t_r ?_
  simp [go_sem, hP, hgl, hn, pred_eq] <;> (try omega)
theorem ref05_plus_ok : Con1 Tryd.prog gl 42 [] [] plusT.dv [] := by
  refine t_in Tryd.func42 ?_
  intro X hP hgl hf hfn hn hR hids hfit
  refine t_g0 ?_
  refine t_c9 trivial (var5 1) (var5 0) (n5 5 [vT 0]) (lam5' (nT 5 [vT 0])) (lam5' (lamN (nT 5 [vT 0]))) (var5 0) (rec5' (vT 1) (lamN (lamN (nT 5 [vT 0]))) (vT 0)) (lam5' (recN (vT 1) (lamN (lamN (nT 5 [vT 0]))) (vT 0))) (lam5' (lamN (recN (vT 1) (lamN (lamN (nT 5 [vT 0]))) (vT 0)))) ?_
  refine t_r ?_
  simp [go_sem, hP, hgl, hn, plus_eq] <;> (try omega)
theorem ref05_sub_ok : Con1 Tryd.prog gl 43 [] [] subT.dv [] := by
  refine t_in Tryd.func43 ?_
  intro X hP hgl hf hfn hn hR hids hfit
  refine t_g0 ?_
  refine t_c10 trivial (var5 1) ref05_pred_ok (var5 0) (n5 3 [predT, vT 0]) (lam5' (nT 3 [predT, vT 0])) (lam5' (lamN (nT 3 [predT, vT 0]))) (var5 0) (rec5' (vT 1) (lamN (lamN (nT 3 [predT, vT 0]))) (vT 0)) (lam5' (recN (vT 1) (lamN (lamN (nT 3 [predT, vT 0]))) (vT 0))) (lam5' (lamN (recN (vT 1) (lamN (lamN (nT 3 [predT, vT 0]))) (vT 0)))) ?_
  refine t_r ?_
  simp [go_sem, hP, hgl, hn, sub_eq] <;> (try omega)
end Go.Proofs.YtmdjiajbnifjpaaDoor.Lift

namespace Go.Proofs.YtmdjiajbnifjpaaDoor.Lift
set_option linter.unusedSimpArgs false
set_option linter.unusedVariables false
set_option linter.unnecessarySimpa false
open Go
variable {gl : Globs}

theorem mk_type_ok (n : Nat) (b : Nat) (l : List Int) (p : Nat) (hl : l.length ≤ 500) (hp : p ≤ l.length) (hn3 : n ≤ 3) :
    Con1 Tryd.prog gl 16 [ptr b, dint n] [(b, deck l p)] (typeD l n p).1.dv [(b, deck l (typeD l n p).2)] := by
  induction n generalizing p with
  | zero =>
    refine t_in Tryd.func16 ?_
    intro X hP hgl hf hfn hn hR hids hfit
    rw [typeD] at hR
    have hkb := nextD_bd (l := l) (p := p) (n := 7) (by decide)
    refine t_g0 ?_
    refine t_c1 trivial (next_ok b l p 7 (by decide) (by omega)) ?_
    generalize hd : nextD l p 7 = d at *
    obtain ⟨k, q⟩ := d
    simp only at hkb hR
    by_cases h3 : k = 3
    · refine t_g @h3 ?_
      refine t_c1 trivial ref01_list_ok ?_
      repeat (first | refine W_seq ?_ | refine W_skip ?_ | refine W_block ?_ | refine W_inBlock ?_ | refine W_label ?_ | refine W_exit rfl ?_)
      first | refine W_retR hP hf hfn _ ([(b, deck l q)]) (by first | (simp [go_sem, hP, hgl, hn, h3]; done) | (simp [go_sem, hP, hgl, hn, h3]; rfl)) (by simp [go_sem, hP, hgl, hn, h3]) (by simp) ?_ hR.2 | refine W_endR hP hf hfn _ ([(b, deck l q)]) (by first | (simp [go_sem, hP, hgl, hn, h3]; done) | (simp [go_sem, hP, hgl, hn, h3]; rfl)) (by simp [go_sem, hP, hgl, hn, h3]) (by simp) ?_ hR.2
      rw [hR.1]
      refine ⟨?_, by simp [h3]⟩
      try simp [h3]
      try all_goals (simp [Ty.dv, Ty.cells_eq, Ty.kind_mk, Ty.args_mk, Tm.dv, Tm.cells_eq, Tm.kind_mk, Tm.index_mk, Tm.type_mk, Tm.args_mk, Val.dv, Val.cells_eq, Val.kind_mk, Val.num_mk, Val.list_mk, Val.args_mk, ints])
    by_cases h4 : k = 4
    · refine t_g @h4 ?_
      refine t_c1 trivial ref01_unit_ok ?_
      repeat (first | refine W_seq ?_ | refine W_skip ?_ | refine W_block ?_ | refine W_inBlock ?_ | refine W_label ?_ | refine W_exit rfl ?_)
      first | refine W_retR hP hf hfn _ ([(b, deck l q)]) (by first | (simp [go_sem, hP, hgl, hn, h4]; done) | (simp [go_sem, hP, hgl, hn, h4]; rfl)) (by simp [go_sem, hP, hgl, hn, h4]) (by simp) ?_ hR.2 | refine W_endR hP hf hfn _ ([(b, deck l q)]) (by first | (simp [go_sem, hP, hgl, hn, h4]; done) | (simp [go_sem, hP, hgl, hn, h4]; rfl)) (by simp [go_sem, hP, hgl, hn, h4]) (by simp) ?_ hR.2
      rw [hR.1]
      refine ⟨?_, by simp [h4]⟩
      try simp [h4]
      try all_goals (simp [Ty.dv, Ty.cells_eq, Ty.kind_mk, Ty.args_mk, Tm.dv, Tm.cells_eq, Tm.kind_mk, Tm.index_mk, Tm.type_mk, Tm.args_mk, Val.dv, Val.cells_eq, Val.kind_mk, Val.num_mk, Val.list_mk, Val.args_mk, ints])
    by_cases h0 : k = 0
    · refine t_g @h0 ?_
      refine t_c1 trivial ref01_nat_ok ?_
      repeat (first | refine W_seq ?_ | refine W_skip ?_ | refine W_block ?_ | refine W_inBlock ?_ | refine W_label ?_ | refine W_exit rfl ?_)
      first | refine W_retR hP hf hfn _ ([(b, deck l q)]) (by first | (simp [go_sem, hP, hgl, hn, h0]; done) | (simp [go_sem, hP, hgl, hn, h0]; rfl)) (by simp [go_sem, hP, hgl, hn, h0]) (by simp) ?_ hR.2 | refine W_endR hP hf hfn _ ([(b, deck l q)]) (by first | (simp [go_sem, hP, hgl, hn, h0]; done) | (simp [go_sem, hP, hgl, hn, h0]; rfl)) (by simp [go_sem, hP, hgl, hn, h0]) (by simp) ?_ hR.2
      rw [hR.1]
      refine ⟨?_, by simp [h0]⟩
      try simp [h0]
      try all_goals (simp [Ty.dv, Ty.cells_eq, Ty.kind_mk, Ty.args_mk, Tm.dv, Tm.cells_eq, Tm.kind_mk, Tm.index_mk, Tm.type_mk, Tm.args_mk, Val.dv, Val.cells_eq, Val.kind_mk, Val.num_mk, Val.list_mk, Val.args_mk, ints])
    by_cases h1 : k = 1
    · refine t_g @h1 ?_
      refine t_c1 trivial ref01_nat_ok ?_
      repeat (first | refine W_seq ?_ | refine W_skip ?_ | refine W_block ?_ | refine W_inBlock ?_ | refine W_label ?_ | refine W_exit rfl ?_)
      first | refine W_retR hP hf hfn _ ([(b, deck l q)]) (by first | (simp [go_sem, hP, hgl, hn, h1]; done) | (simp [go_sem, hP, hgl, hn, h1]; rfl)) (by simp [go_sem, hP, hgl, hn, h1]) (by simp) ?_ hR.2 | refine W_endR hP hf hfn _ ([(b, deck l q)]) (by first | (simp [go_sem, hP, hgl, hn, h1]; done) | (simp [go_sem, hP, hgl, hn, h1]; rfl)) (by simp [go_sem, hP, hgl, hn, h1]) (by simp) ?_ hR.2
      rw [hR.1]
      refine ⟨?_, by simp [h1]⟩
      try simp [h1]
      try all_goals (simp [Ty.dv, Ty.cells_eq, Ty.kind_mk, Ty.args_mk, Tm.dv, Tm.cells_eq, Tm.kind_mk, Tm.index_mk, Tm.type_mk, Tm.args_mk, Val.dv, Val.cells_eq, Val.kind_mk, Val.num_mk, Val.list_mk, Val.args_mk, ints])
    by_cases h2 : k = 2
    · refine t_g @h2 ?_
      refine t_c1 trivial ref01_nat_ok ?_
      repeat (first | refine W_seq ?_ | refine W_skip ?_ | refine W_block ?_ | refine W_inBlock ?_ | refine W_label ?_ | refine W_exit rfl ?_)
      first | refine W_retR hP hf hfn _ ([(b, deck l q)]) (by first | (simp [go_sem, hP, hgl, hn, h2]; done) | (simp [go_sem, hP, hgl, hn, h2]; rfl)) (by simp [go_sem, hP, hgl, hn, h2]) (by simp) ?_ hR.2 | refine W_endR hP hf hfn _ ([(b, deck l q)]) (by first | (simp [go_sem, hP, hgl, hn, h2]; done) | (simp [go_sem, hP, hgl, hn, h2]; rfl)) (by simp [go_sem, hP, hgl, hn, h2]) (by simp) ?_ hR.2
      rw [hR.1]
      refine ⟨?_, by simp [h2]⟩
      try simp [h2]
      try all_goals (simp [Ty.dv, Ty.cells_eq, Ty.kind_mk, Ty.args_mk, Tm.dv, Tm.cells_eq, Tm.kind_mk, Tm.index_mk, Tm.type_mk, Tm.args_mk, Val.dv, Val.cells_eq, Val.kind_mk, Val.num_mk, Val.list_mk, Val.args_mk, ints])
    by_cases h5 : k = 5
    · refine t_g @h5 ?_
      refine t_c1 trivial ref01_nat_ok ?_
      repeat (first | refine W_seq ?_ | refine W_skip ?_ | refine W_block ?_ | refine W_inBlock ?_ | refine W_label ?_ | refine W_exit rfl ?_)
      first | refine W_retR hP hf hfn _ ([(b, deck l q)]) (by first | (simp [go_sem, hP, hgl, hn, h5]; done) | (simp [go_sem, hP, hgl, hn, h5]; rfl)) (by simp [go_sem, hP, hgl, hn, h5]) (by simp) ?_ hR.2 | refine W_endR hP hf hfn _ ([(b, deck l q)]) (by first | (simp [go_sem, hP, hgl, hn, h5]; done) | (simp [go_sem, hP, hgl, hn, h5]; rfl)) (by simp [go_sem, hP, hgl, hn, h5]) (by simp) ?_ hR.2
      rw [hR.1]
      refine ⟨?_, by simp [h5]⟩
      try simp [h5]
      try all_goals (simp [Ty.dv, Ty.cells_eq, Ty.kind_mk, Ty.args_mk, Tm.dv, Tm.cells_eq, Tm.kind_mk, Tm.index_mk, Tm.type_mk, Tm.args_mk, Val.dv, Val.cells_eq, Val.kind_mk, Val.num_mk, Val.list_mk, Val.args_mk, ints])
    have h6 : k = 6 := by omega
    refine t_g @h6 ?_
    refine t_c1 trivial ref01_nat_ok ?_
    repeat (first | refine W_seq ?_ | refine W_skip ?_ | refine W_block ?_ | refine W_inBlock ?_ | refine W_label ?_ | refine W_exit rfl ?_)
    first | refine W_retR hP hf hfn _ ([(b, deck l q)]) (by first | (simp [go_sem, hP, hgl, hn, h6]; done) | (simp [go_sem, hP, hgl, hn, h6]; rfl)) (by simp [go_sem, hP, hgl, hn, h6]) (by simp) ?_ hR.2 | refine W_endR hP hf hfn _ ([(b, deck l q)]) (by first | (simp [go_sem, hP, hgl, hn, h6]; done) | (simp [go_sem, hP, hgl, hn, h6]; rfl)) (by simp [go_sem, hP, hgl, hn, h6]) (by simp) ?_ hR.2
    rw [hR.1]
    refine ⟨?_, by simp [h6]⟩
    try simp [h6]
    try all_goals (simp [Ty.dv, Ty.cells_eq, Ty.kind_mk, Ty.args_mk, Tm.dv, Tm.cells_eq, Tm.kind_mk, Tm.index_mk, Tm.type_mk, Tm.args_mk, Val.dv, Val.cells_eq, Val.kind_mk, Val.num_mk, Val.list_mk, Val.args_mk, ints])
  | succ n ih =>
    refine t_in Tryd.func16 ?_
    intro X hP hgl hf hfn hn hR hids hfit
    rw [typeD] at hR
    have hkb := nextD_bd (l := l) (p := p) (n := 7) (by decide)
    have hq := nextD_le (n := 7) hp
    refine t_g0 ?_
    refine t_c1 trivial (next_ok b l p 7 (by decide) (by omega)) ?_
    generalize hd : nextD l p 7 = d at *
    obtain ⟨k, q⟩ := d
    simp only at hkb hR hq
    have hpos : (0 : Int) < ((n + 1 : Nat) : Int) := by omega
    have hsub : ((n + 1 : Nat) : Int) - 1 = (n : Int) := by omega
    obtain ⟨a1, -⟩ := typeD_facts l n q hq
    by_cases h3 : k = 3
    · refine t_g @h3 ?_
      refine t_c1 trivial ref01_list_ok ?_
      repeat (first | refine W_seq ?_ | refine W_skip ?_ | refine W_block ?_ | refine W_inBlock ?_ | refine W_label ?_ | refine W_exit rfl ?_)
      first | refine W_retR hP hf hfn _ ([(b, deck l q)]) (by first | (simp [go_sem, hP, hgl, hn, h3]; done) | (simp [go_sem, hP, hgl, hn, h3]; rfl)) (by simp [go_sem, hP, hgl, hn, h3]) (by simp) ?_ hR.2 | refine W_endR hP hf hfn _ ([(b, deck l q)]) (by first | (simp [go_sem, hP, hgl, hn, h3]; done) | (simp [go_sem, hP, hgl, hn, h3]; rfl)) (by simp [go_sem, hP, hgl, hn, h3]) (by simp) ?_ hR.2
      rw [hR.1]
      refine ⟨?_, by simp [h3]⟩
      try simp [h3]
      try all_goals (simp [Ty.dv, Ty.cells_eq, Ty.kind_mk, Ty.args_mk, Tm.dv, Tm.cells_eq, Tm.kind_mk, Tm.index_mk, Tm.type_mk, Tm.args_mk, Val.dv, Val.cells_eq, Val.kind_mk, Val.num_mk, Val.list_mk, Val.args_mk, ints])
    by_cases h4 : k = 4
    · refine t_g @h4 ?_
      refine t_c1 trivial ref01_unit_ok ?_
      repeat (first | refine W_seq ?_ | refine W_skip ?_ | refine W_block ?_ | refine W_inBlock ?_ | refine W_label ?_ | refine W_exit rfl ?_)
      first | refine W_retR hP hf hfn _ ([(b, deck l q)]) (by first | (simp [go_sem, hP, hgl, hn, h4]; done) | (simp [go_sem, hP, hgl, hn, h4]; rfl)) (by simp [go_sem, hP, hgl, hn, h4]) (by simp) ?_ hR.2 | refine W_endR hP hf hfn _ ([(b, deck l q)]) (by first | (simp [go_sem, hP, hgl, hn, h4]; done) | (simp [go_sem, hP, hgl, hn, h4]; rfl)) (by simp [go_sem, hP, hgl, hn, h4]) (by simp) ?_ hR.2
      rw [hR.1]
      refine ⟨?_, by simp [h4]⟩
      try simp [h4]
      try all_goals (simp [Ty.dv, Ty.cells_eq, Ty.kind_mk, Ty.args_mk, Tm.dv, Tm.cells_eq, Tm.kind_mk, Tm.index_mk, Tm.type_mk, Tm.args_mk, Val.dv, Val.cells_eq, Val.kind_mk, Val.num_mk, Val.list_mk, Val.args_mk, ints])
    by_cases h0 : k = 0
    · refine t_g @h0 ?_
      refine t_c1 trivial ref01_nat_ok ?_
      repeat (first | refine W_seq ?_ | refine W_skip ?_ | refine W_block ?_ | refine W_inBlock ?_ | refine W_label ?_ | refine W_exit rfl ?_)
      first | refine W_retR hP hf hfn _ ([(b, deck l q)]) (by first | (simp [go_sem, hP, hgl, hn, h0]; done) | (simp [go_sem, hP, hgl, hn, h0]; rfl)) (by simp [go_sem, hP, hgl, hn, h0]) (by simp) ?_ hR.2 | refine W_endR hP hf hfn _ ([(b, deck l q)]) (by first | (simp [go_sem, hP, hgl, hn, h0]; done) | (simp [go_sem, hP, hgl, hn, h0]; rfl)) (by simp [go_sem, hP, hgl, hn, h0]) (by simp) ?_ hR.2
      rw [hR.1]
      refine ⟨?_, by simp [h0]⟩
      try simp [h0]
      try all_goals (simp [Ty.dv, Ty.cells_eq, Ty.kind_mk, Ty.args_mk, Tm.dv, Tm.cells_eq, Tm.kind_mk, Tm.index_mk, Tm.type_mk, Tm.args_mk, Val.dv, Val.cells_eq, Val.kind_mk, Val.num_mk, Val.list_mk, Val.args_mk, ints])
    by_cases h1 : k = 1
    · refine t_g @h1 ?_
      refine t_c1 trivial ref01_nat_ok ?_
      repeat (first | refine W_seq ?_ | refine W_skip ?_ | refine W_block ?_ | refine W_inBlock ?_ | refine W_label ?_ | refine W_exit rfl ?_)
      first | refine W_retR hP hf hfn _ ([(b, deck l q)]) (by first | (simp [go_sem, hP, hgl, hn, h1]; done) | (simp [go_sem, hP, hgl, hn, h1]; rfl)) (by simp [go_sem, hP, hgl, hn, h1]) (by simp) ?_ hR.2 | refine W_endR hP hf hfn _ ([(b, deck l q)]) (by first | (simp [go_sem, hP, hgl, hn, h1]; done) | (simp [go_sem, hP, hgl, hn, h1]; rfl)) (by simp [go_sem, hP, hgl, hn, h1]) (by simp) ?_ hR.2
      rw [hR.1]
      refine ⟨?_, by simp [h1]⟩
      try simp [h1]
      try all_goals (simp [Ty.dv, Ty.cells_eq, Ty.kind_mk, Ty.args_mk, Tm.dv, Tm.cells_eq, Tm.kind_mk, Tm.index_mk, Tm.type_mk, Tm.args_mk, Val.dv, Val.cells_eq, Val.kind_mk, Val.num_mk, Val.list_mk, Val.args_mk, ints])
    by_cases h2 : k = 2
    · refine t_g @h2 ?_
      refine t_c1 trivial ref01_nat_ok ?_
      repeat (first | refine W_seq ?_ | refine W_skip ?_ | refine W_block ?_ | refine W_inBlock ?_ | refine W_label ?_ | refine W_exit rfl ?_)
      first | refine W_retR hP hf hfn _ ([(b, deck l q)]) (by first | (simp [go_sem, hP, hgl, hn, h2]; done) | (simp [go_sem, hP, hgl, hn, h2]; rfl)) (by simp [go_sem, hP, hgl, hn, h2]) (by simp) ?_ hR.2 | refine W_endR hP hf hfn _ ([(b, deck l q)]) (by first | (simp [go_sem, hP, hgl, hn, h2]; done) | (simp [go_sem, hP, hgl, hn, h2]; rfl)) (by simp [go_sem, hP, hgl, hn, h2]) (by simp) ?_ hR.2
      rw [hR.1]
      refine ⟨?_, by simp [h2]⟩
      try simp [h2]
      try all_goals (simp [Ty.dv, Ty.cells_eq, Ty.kind_mk, Ty.args_mk, Tm.dv, Tm.cells_eq, Tm.kind_mk, Tm.index_mk, Tm.type_mk, Tm.args_mk, Val.dv, Val.cells_eq, Val.kind_mk, Val.num_mk, Val.list_mk, Val.args_mk, ints])
    by_cases h5 : k = 5
    · refine t_g (j2 @h5 @hpos) ?_
      refine t_c3 @hsub (ih q hq (by omega)) (ih _ a1 (by omega)) (ref01_two_ok (typeD l n q).1 (typeD l n (typeD l n q).2).1) ?_
      repeat (first | refine W_seq ?_ | refine W_skip ?_ | refine W_block ?_ | refine W_inBlock ?_ | refine W_label ?_ | refine W_exit rfl ?_)
      first | refine W_retR hP hf hfn _ ([(b, deck l (typeD l n (typeD l n q).2).2)]) (by first | (simp [go_sem, hP, hgl, hn, h5]; done) | (simp [go_sem, hP, hgl, hn, h5]; rfl)) (by simp [go_sem, hP, hgl, hn, h5]) (by simp) ?_ hR.2 | refine W_endR hP hf hfn _ ([(b, deck l (typeD l n (typeD l n q).2).2)]) (by first | (simp [go_sem, hP, hgl, hn, h5]; done) | (simp [go_sem, hP, hgl, hn, h5]; rfl)) (by simp [go_sem, hP, hgl, hn, h5]) (by simp) ?_ hR.2
      rw [hR.1]
      refine ⟨?_, by simp [h5]⟩
      try simp [h5]
      try all_goals (simp [Ty.dv, Ty.cells_eq, Ty.kind_mk, Ty.args_mk, Tm.dv, Tm.cells_eq, Tm.kind_mk, Tm.index_mk, Tm.type_mk, Tm.args_mk, Val.dv, Val.cells_eq, Val.kind_mk, Val.num_mk, Val.list_mk, Val.args_mk, ints])
    have h6 : k = 6 := by omega
    refine t_g (j2 @h6 @hpos) ?_
    refine t_c3 @hsub (ih q hq (by omega)) (ih _ a1 (by omega)) (ref01_fun_ok (typeD l n q).1 (typeD l n (typeD l n q).2).1) ?_
    repeat (first | refine W_seq ?_ | refine W_skip ?_ | refine W_block ?_ | refine W_inBlock ?_ | refine W_label ?_ | refine W_exit rfl ?_)
    first | refine W_retR hP hf hfn _ ([(b, deck l (typeD l n (typeD l n q).2).2)]) (by first | (simp [go_sem, hP, hgl, hn, h6]; done) | (simp [go_sem, hP, hgl, hn, h6]; rfl)) (by simp [go_sem, hP, hgl, hn, h6]) (by simp) ?_ hR.2 | refine W_endR hP hf hfn _ ([(b, deck l (typeD l n (typeD l n q).2).2)]) (by first | (simp [go_sem, hP, hgl, hn, h6]; done) | (simp [go_sem, hP, hgl, hn, h6]; rfl)) (by simp [go_sem, hP, hgl, hn, h6]) (by simp) ?_ hR.2
    rw [hR.1]
    refine ⟨?_, by simp [h6]⟩
    try simp [h6]
    try all_goals (simp [Ty.dv, Ty.cells_eq, Ty.kind_mk, Ty.args_mk, Tm.dv, Tm.cells_eq, Tm.kind_mk, Tm.index_mk, Tm.type_mk, Tm.args_mk, Val.dv, Val.cells_eq, Val.kind_mk, Val.num_mk, Val.list_mk, Val.args_mk, ints])

theorem mk_context_ok (b : Nat) (l : List Int) (p : Nat) (hl : l.length ≤ 500) (hp : p ≤ l.length) :
    Con1 Tryd.prog gl 15 [ptr b] [(b, deck l p)] (.sl ((ctxD l p).1.map Ty.cells)) [(b, deck l (ctxD l p).2)] := by
  refine t_in Tryd.func15 ?_
  intro X hP hgl hf hfn hn hR hids hfit
  have hq := nextD_le (n := 4) hp
  have hkb := nextD_bd (l := l) (p := p) (n := 4) (by decide)
  obtain ⟨k0, hk0⟩ : ∃ k0 : Nat, (nextD l p 4).1 = k0 := ⟨(nextD l p 4).1.toNat, by omega⟩
  unfold ctxD at hR
  rw [hk0, Int.toNat_natCast] at hR
  rw [hk0] at hkb
  refine t_g0 ?_
  refine t_c1 trivial (next_ok b l p 4 (by decide) (by omega)) ?_
  refine t_a ?_
  refine t_sub [(1003, 0)] @hk0 (W_rounds (fun x : List Ty × Nat × Nat => x.2.1 ≤ l.length ∧ (x.1 ++ (typesD l x.2.2 x.2.1).1, (typesD l x.2.2 x.2.1).2) = typesD l k0 (nextD l p 4).2 ∧ x.1.length + x.2.2 ≤ 3) (fun x : List Ty × Nat × Nat => [(.slot 4, .one (.v (dint x.2.2))), (.heap  b, .row ([.v (.sl (ints l)), .v (dint x.2.1)])), (.slot 3, .one (.own 1003 (x.1.map Ty.cells))), (.tok 1003, .tk 2 x.1.length), (.slot 0, .one (.v (ptr b))), (.slot 2, .one (.own 0 []))]) (fun x : List Ty × Nat × Nat => x.2.2) (([] : List Ty), (nextD l p 4).2, k0) (⟨hq, by simp, by simp; omega⟩) ?_)
  rintro ⟨acc, q, r⟩ ⟨i1, i2, i3⟩ ihr
  simp only at i1 i2 i3
  cases r with
  | zero =>
    simp only [typesD, List.append_nil] at i2
    refine t_rg0 ?_
    refine t_a ?_
    refine W_cond rfl ?_ ?_
    · intro h; simp at h
    intro _
    refine t_g0 ?_
    repeat (first | refine W_seq ?_ | refine W_skip ?_ | refine W_block ?_ | refine W_inBlock ?_ | refine W_label ?_ | refine W_exit rfl ?_)
    first | refine W_retR hP hf hfn _ ([(b, deck l q)]) (by first | (simp [go_sem, hP, hgl, hn, ← i2]; done) | (simp [go_sem, hP, hgl, hn, ← i2]; rfl)) (by simp [go_sem, hP, hgl, hn, ← i2]) (by simp) ?_ hR.2 | refine W_endR hP hf hfn _ ([(b, deck l q)]) (by first | (simp [go_sem, hP, hgl, hn, ← i2]; done) | (simp [go_sem, hP, hgl, hn, ← i2]; rfl)) (by simp [go_sem, hP, hgl, hn, ← i2]) (by simp) ?_ hR.2
    rw [hR.1]
    refine ⟨?_, by simp [← i2]⟩
    try simp [← i2]
    try all_goals (simp [Ty.dv, Ty.cells_eq, Ty.kind_mk, Ty.args_mk, Tm.dv, Tm.cells_eq, Tm.kind_mk, Tm.index_mk, Tm.type_mk, Tm.args_mk, Val.dv, Val.cells_eq, Val.kind_mk, Val.num_mk, Val.list_mk, Val.args_mk, ints])
  | succ r =>
    obtain ⟨a1, -⟩ := typeD_facts l 1 q i1
    refine t_rg0 ?_
    refine t_yes ?_
    refine t_g0 ?_
    refine t_c1 (Ty.cells_eq (typeD l 1 q).1) (mk_type_ok 1 b l q hl i1 (by decide)) ?_
    refine t_gt (wr [(1003, 15)]) (Ty.cells_eq (typeD l 1 q).1) trivial (ihr (acc ++ [(typeD l 1 q).1], (typeD l 1 q).2, r) ⟨a1, by rw [← i2]; simp [typesD], by simp; omega⟩ (by simp))

def varsP (g : List Ty) (t : Ty) (n : Nat) : List Nat := (List.range n).filter fun i => (varTy g i).same t
theorem varsP_succ (g : List Ty) (t : Ty) (n : Nat) : varsP g t (n + 1) = if (varTy g n).same t = true then varsP g t n ++ [n] else varsP g t n := by
  unfold varsP
  rw [List.range_succ, List.filter_append]
  split <;> simp_all
theorem varsP_le (g : List Ty) (t : Ty) (n : Nat) : (varsP g t n).length ≤ n := by
  have := List.length_filter_le (fun i => (varTy g i).same t) (List.range n)
  simpa [varsP] using this
def natI (l : List Nat) : List Int := l.map Int.ofNat
theorem natI_len (l : List Nat) : (natI l).length = l.length := by simp [natI]
theorem natI_snoc (l : List Nat) (n : Nat) : natI (l ++ [n]) = natI l ++ [(n : Int)] := by simp [natI]

theorem mk_vars_ok (g : List Ty) (t : Ty) (hlg : g.length ≤ 1000000) :
    Con1 Tryd.prog gl 32 [.sl (g.map Ty.cells), t.dv] [] (.sl (ints (natI (varsN g t)))) [] := by
  refine t_in Tryd.func32 ?_
  intro X hP hgl hf hfn hn hR hids hfit
  refine t_g0 ?_
  refine t_a ?_
  refine W_sub [(1005, 0)] (by simp [go_sem]) (by simp [go_sem, natI, varsP, ints_nil] <;> omega) (by simp [go_sem]) (W_upto (g.length) (fun i => True) (fun i => [(.slot 9, .one (.v (dint i))), (.slot 8, .one (.v (dint g.length))), (.slot 5, .one (.own 1005 (ints (natI (varsP g t i))))), (.tok 1005, .tk 1 (varsP g t i).length), (.slot 0, .one (.v (.sl (g.map Ty.cells)))), (.loc 3, .row ([.v (dint t.kind), .v (.sl (t.args.map Ty.cells))])), (.slot 3, .one (.loc 3 0)), (.slot 4, .one (.own 0 []))]) (trivial) ?_ ?_)
  · intro i hi _ hnext
    have hli := varsP_le g t i
    have hvt := (varTy_mem hi).2
    have hix : (g.length : Int) - 1 - i = ((g.length - 1 - i : Nat) : Int) := by omega
    refine t_rg0 ?_
    refine t_yes ?_
    refine t_g0 ?_
    refine t_c1 (j2 @hix @hvt) (ref01_same_ok (varTy g i) t) ?_
    have hsu := varsP_succ g t i
    by_cases hs : (varTy g i).same t = true
    · rw [if_pos hs] at hsu
      rw [hsu] at hnext
      refine t_gt (wr [(1005, 25)]) (j2 @natI_len (j2 @natI_snoc (j2 @ints_cons @ints_nil))) (j2 @hs @natI_len) (hnext trivial)
    · rw [if_neg hs] at hsu
      rw [hsu] at hnext
      refine t_gt (wr []) trivial @hs (hnext trivial)
  · intro _
    refine t_rg0 ?_
    refine t_no ?_
    refine t_g0 ?_
    refine t_r ?_
    simp [go_sem, hP, hgl, hn, varsN, varsP] <;> (try omega)

theorem mk_longer_ok (g h : List Ty) (hlg : g.length + h.length ≤ 1000000) :
    Con1 Tryd.prog gl 36 [.sl (g.map Ty.cells), .sl (h.map Ty.cells)] [] (.sl ((g ++ h).map Ty.cells)) [] := by
  refine t_in Tryd.func36 ?_
  intro X hP hgl hf hfn hn hR hids hfit
  have hl1 : g.length ≤ 1000000 := by omega
  refine t_g0 ?_
  refine t_r ?_
  simp [go_sem, hP, hgl, hn] <;> (try omega)
end Go.Proofs.YtmdjiajbnifjpaaDoor.Lift

