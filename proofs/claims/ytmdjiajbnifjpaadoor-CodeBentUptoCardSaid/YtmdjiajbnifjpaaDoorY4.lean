import Derived.Test.YtmdjiajbnifjpaaDoorY3
namespace Go.Proofs.YtmdjiajbnifjpaaDoor.Lift
set_option linter.unusedSimpArgs false
set_option linter.unusedVariables false
set_option linter.unnecessarySimpa false
open Go
variable {gl : Globs}

/-- the package's table of arities -/
def arEls : List (List DV) := ints [0, 0, 1, 2, 0, 1, 3, 0, 2, 3, 2, 1, 1, 0]
def known (k : Int) : Bool := decide (1 ≤ k) && decide (k ≤ 13)
theorem arityI_known (k : Int) : known k = decide (0 ≤ arityI k) := by
  unfold known arityI
  by_cases h : 1 ≤ k ∧ k ≤ 13
  · have : k = 1 ∨ k = 2 ∨ k = 3 ∨ k = 4 ∨ k = 5 ∨ k = 6 ∨ k = 7 ∨ k = 8 ∨ k = 9 ∨ k = 10 ∨ k = 11 ∨ k = 12 ∨ k = 13 := by omega
    rcases this with rfl | rfl | rfl | rfl | rfl | rfl | rfl | rfl | rfl | rfl | rfl | rfl | rfl <;> decide
  · rw [if_neg (by omega), if_neg (by omega), if_neg (by omega), if_neg (by omega)]
    simp; omega

theorem arity_ok (har : globOf gl 1 = some arEls) (k : Int) : Con1 Tryd.prog gl 81 [dint k] [] (.tup [dint (if known k = true then arityI k else 0), dbool (known k)]) [] := by
  refine t_in Tryd.func81 ?_
  intro X hP hgl hf hfn hn hR hids hfit
  have hk := har
  simp only [arEls, ints, List.map] at hk
  by_cases hs0 : k = 1
  · refine t_g (j2 @hs0 @hk) ?_
    refine t_r ?_
    simp [go_sem, hP, hgl, hn, known, arityI, hs0] <;> (try omega)
  by_cases hs1 : k = 2
  · refine t_g (j2 @hs1 @hk) ?_
    refine t_r ?_
    simp [go_sem, hP, hgl, hn, known, arityI, hs1] <;> (try omega)
  by_cases hs2 : k = 3
  · refine t_g (j2 @hs2 @hk) ?_
    refine t_r ?_
    simp [go_sem, hP, hgl, hn, known, arityI, hs2] <;> (try omega)
  by_cases hs3 : k = 4
  · refine t_g (j2 @hs3 @hk) ?_
    refine t_r ?_
    simp [go_sem, hP, hgl, hn, known, arityI, hs3] <;> (try omega)
  by_cases hs4 : k = 5
  · refine t_g (j2 @hs4 @hk) ?_
    refine t_r ?_
    simp [go_sem, hP, hgl, hn, known, arityI, hs4] <;> (try omega)
  by_cases hs5 : k = 6
  · refine t_g (j2 @hs5 @hk) ?_
    refine t_r ?_
    simp [go_sem, hP, hgl, hn, known, arityI, hs5] <;> (try omega)
  by_cases hs6 : k = 7
  · refine t_g (j2 @hs6 @hk) ?_
    refine t_r ?_
    simp [go_sem, hP, hgl, hn, known, arityI, hs6] <;> (try omega)
  by_cases hs7 : k = 8
  · refine t_g (j2 @hs7 @hk) ?_
    refine t_r ?_
    simp [go_sem, hP, hgl, hn, known, arityI, hs7] <;> (try omega)
  by_cases hs8 : k = 9
  · refine t_g (j2 @hs8 @hk) ?_
    refine t_r ?_
    simp [go_sem, hP, hgl, hn, known, arityI, hs8] <;> (try omega)
  by_cases hs9 : k = 10
  · refine t_g (j2 @hs9 @hk) ?_
    refine t_r ?_
    simp [go_sem, hP, hgl, hn, known, arityI, hs9] <;> (try omega)
  by_cases hs10 : k = 11
  · refine t_g (j2 @hs10 @hk) ?_
    refine t_r ?_
    simp [go_sem, hP, hgl, hn, known, arityI, hs10] <;> (try omega)
  by_cases hs11 : k = 12
  · refine t_g (j2 @hs11 @hk) ?_
    refine t_r ?_
    simp [go_sem, hP, hgl, hn, known, arityI, hs11] <;> (try omega)
  by_cases hs12 : k = 13
  · refine t_g (j2 @hs12 @hk) ?_
    refine t_r ?_
    simp [go_sem, hP, hgl, hn, known, arityI, hs12] <;> (try omega)
  by_cases hlo : k < 1
  · have : known k = false := by simp [known]; omega
    refine t_g @hlo ?_
    refine t_r ?_
    simp [go_sem, hP, hgl, hn, this] <;> (try omega)
  · have hhi : 14 ≤ k := by omega
    have : known k = false := by simp [known]; omega
    refine t_g (j2 @hlo @hhi) ?_
    refine t_r ?_
    simp [go_sem, hP, hgl, hn, this] <;> (try omega)

theorem typed_ok (k : Int) : Con1 Tryd.prog gl 82 [dint k] [] (dbool (decide (k = 2) || decide (k = 6) || decide (k = 9))) [] := by
  refine t_in Tryd.func82 ?_
  intro X hP hgl hf hfn hn hR hids hfit
  by_cases hs0 : k = 2
  · refine t_g @hs0 ?_
    refine t_r ?_
    simp [go_sem, hP, hgl, hn, hs0] <;> (try omega)
  by_cases hs1 : k = 6
  · refine t_g @hs1 ?_
    refine t_r ?_
    simp [go_sem, hP, hgl, hn, hs1] <;> (try omega)
  by_cases hs2 : k = 9
  · refine t_g @hs2 ?_
    refine t_r ?_
    simp [go_sem, hP, hgl, hn, hs2] <;> (try omega)
  refine t_g (j2 @hs0 (j2 @hs1 @hs2)) ?_
  refine t_r ?_
  simp [go_sem, hP, hgl, hn, hs0, hs1, hs2] <;> (try omega)

theorem notype_ok (t : Ty) : Con1 Tryd.prog gl 84 [t.dv] [] (dbool t.zero) [] := by
  refine t_in Tryd.func84 ?_
  intro X hP hgl hf hfn hn hR hids hfit
  by_cases h : t.kind = 0
  · refine t_g @h ?_
    refine t_r ?_
    simp [go_sem, hP, hgl, hn, Ty.zero, h] <;> (try omega)
  · refine t_g @h ?_
    refine t_r ?_
    simp [go_sem, hP, hgl, hn, Ty.zero, h] <;> (try omega)

def Ty.nodesR (t : Ty) : DV := .tup [dint (if t.shape = true then t.count else 0 : Nat), dbool t.shape]

theorem typenodes_ok (t : Ty) (hc : t.count ≤ 2147483648) : Con1 Tryd.prog gl 87 [t.dv] [] t.nodesR [] := by
  induction t using Ty.ind with
  | h t ih =>
  rw [Ty.count_eq] at hc
  refine t_in Tryd.func87 ?_
  intro X hP hgl hf hfn hn hR hids hfit
  have hlen := Ty.fit_len (hfit t.dv (by simp))
  have hs := Ty.shape_eq t
  have no : t.shape = false → t.nodesR = .tup [dint 0, dbool false] := fun h => by simp [Ty.nodesR, h]
  refine t_rg0 ?_
  refine t_rg0 ?_
  refine t_rg0 ?_
  repeat (first | refine W_seq ?_ | refine W_skip ?_ | refine W_inBlock ?_ | refine W_label ?_)
  refine W_cutP (t.kind = 1 ∨ t.kind = 2 ∨ t.kind = 5 ∨ t.kind = 3 ∨ t.kind = 4) [(.slot 4, .one (.v (dint (wantI t.kind)))), (.loc 1, .row ([.v (dint t.kind), .v (.sl (t.args.map Ty.cells))])), (.slot 1, .one (.loc 1 0))] ?_ ?_
  · intro hrest
    by_cases h1 : t.kind = 1
    · repeat (first | (refine W_sub [] (by simp [go_sem]) (by simp [go_sem, wantI, h1] <;> omega) (by simp [go_sem]) (hrest (by simp [h1]))) | refine W_seq ?_ | refine W_skip ?_ | refine W_block ?_ | refine W_inBlock ?_ | refine W_label ?_ | refine W_exit rfl ?_ | ((first | refine W_reg [] fun K hK => ?_ | refine W_regd (by rw [hP]; exact mixed) [] fun K hK => ?_); simp [go_sem, hP, hgl, hn, h1]; (repeat (refine ⟨by omega, ?_⟩)); (first | refine hK _ ?_ | refine ⟨by rfl, hK _ ?_⟩); clear hK K) | refine W_cond rfl (fun _ => ?_) (fun hq => False.elim (by first | (simp [h1]; done) | (simp [h1]; omega) | (simp [h1] at hq; done) | (simp [h1] at hq; omega))) | refine W_cond rfl (fun hq => False.elim (by first | (simp [h1]; done) | (simp [h1]; omega) | (simp [h1] at hq; done) | (simp [h1] at hq; omega))) (fun _ => ?_))
    by_cases h2 : t.kind = 2
    · repeat (first | (refine W_sub [] (by simp [go_sem]) (by simp [go_sem, wantI, h2] <;> omega) (by simp [go_sem]) (hrest (by simp [h2]))) | refine W_seq ?_ | refine W_skip ?_ | refine W_block ?_ | refine W_inBlock ?_ | refine W_label ?_ | refine W_exit rfl ?_ | ((first | refine W_reg [] fun K hK => ?_ | refine W_regd (by rw [hP]; exact mixed) [] fun K hK => ?_); simp [go_sem, hP, hgl, hn, h2]; (repeat (refine ⟨by omega, ?_⟩)); (first | refine hK _ ?_ | refine ⟨by rfl, hK _ ?_⟩); clear hK K) | refine W_cond rfl (fun _ => ?_) (fun hq => False.elim (by first | (simp [h2]; done) | (simp [h2]; omega) | (simp [h2] at hq; done) | (simp [h2] at hq; omega))) | refine W_cond rfl (fun hq => False.elim (by first | (simp [h2]; done) | (simp [h2]; omega) | (simp [h2] at hq; done) | (simp [h2] at hq; omega))) (fun _ => ?_))
    by_cases h3 : t.kind = 5
    · repeat (first | (refine W_sub [] (by simp [go_sem]) (by simp [go_sem, wantI, h3] <;> omega) (by simp [go_sem]) (hrest (by simp [h3]))) | refine W_seq ?_ | refine W_skip ?_ | refine W_block ?_ | refine W_inBlock ?_ | refine W_label ?_ | refine W_exit rfl ?_ | ((first | refine W_reg [] fun K hK => ?_ | refine W_regd (by rw [hP]; exact mixed) [] fun K hK => ?_); simp [go_sem, hP, hgl, hn, h3]; (repeat (refine ⟨by omega, ?_⟩)); (first | refine hK _ ?_ | refine ⟨by rfl, hK _ ?_⟩); clear hK K) | refine W_cond rfl (fun _ => ?_) (fun hq => False.elim (by first | (simp [h3]; done) | (simp [h3]; omega) | (simp [h3] at hq; done) | (simp [h3] at hq; omega))) | refine W_cond rfl (fun hq => False.elim (by first | (simp [h3]; done) | (simp [h3]; omega) | (simp [h3] at hq; done) | (simp [h3] at hq; omega))) (fun _ => ?_))
    by_cases h4 : t.kind = 3
    · repeat (first | (refine W_sub [] (by simp [go_sem]) (by simp [go_sem, wantI, h4] <;> omega) (by simp [go_sem]) (hrest (by simp [h4]))) | refine W_seq ?_ | refine W_skip ?_ | refine W_block ?_ | refine W_inBlock ?_ | refine W_label ?_ | refine W_exit rfl ?_ | ((first | refine W_reg [] fun K hK => ?_ | refine W_regd (by rw [hP]; exact mixed) [] fun K hK => ?_); simp [go_sem, hP, hgl, hn, h4]; (repeat (refine ⟨by omega, ?_⟩)); (first | refine hK _ ?_ | refine ⟨by rfl, hK _ ?_⟩); clear hK K) | refine W_cond rfl (fun _ => ?_) (fun hq => False.elim (by first | (simp [h4]; done) | (simp [h4]; omega) | (simp [h4] at hq; done) | (simp [h4] at hq; omega))) | refine W_cond rfl (fun hq => False.elim (by first | (simp [h4]; done) | (simp [h4]; omega) | (simp [h4] at hq; done) | (simp [h4] at hq; omega))) (fun _ => ?_))
    by_cases h5 : t.kind = 4
    · repeat (first | (refine W_sub [] (by simp [go_sem]) (by simp [go_sem, wantI, h5] <;> omega) (by simp [go_sem]) (hrest (by simp [h5]))) | refine W_seq ?_ | refine W_skip ?_ | refine W_block ?_ | refine W_inBlock ?_ | refine W_label ?_ | refine W_exit rfl ?_ | ((first | refine W_reg [] fun K hK => ?_ | refine W_regd (by rw [hP]; exact mixed) [] fun K hK => ?_); simp [go_sem, hP, hgl, hn, h5]; (repeat (refine ⟨by omega, ?_⟩)); (first | refine hK _ ?_ | refine ⟨by rfl, hK _ ?_⟩); clear hK K) | refine W_cond rfl (fun _ => ?_) (fun hq => False.elim (by first | (simp [h5]; done) | (simp [h5]; omega) | (simp [h5] at hq; done) | (simp [h5] at hq; omega))) | refine W_cond rfl (fun hq => False.elim (by first | (simp [h5]; done) | (simp [h5]; omega) | (simp [h5] at hq; done) | (simp [h5] at hq; omega))) (fun _ => ?_))
    have hz := no (by rw [hs]; simp [tyKind, h1, h2, h3, h4, h5])
    refine t_g (j2 @h1 (j2 @h2 (j2 @h3 (j2 @h4 @h5)))) ?_
    refine t_r ?_
    simp [go_sem, hP, hgl, hn, hz] <;> (try omega)
  · intro hk
    by_cases hl : (t.args.length : Int) = wantI t.kind
    · have hty : tyKind t.kind t.args.length = true := by
        unfold wantI at hl
        unfold tyKind
        rcases hk with h | h | h | h | h <;> simp [h] at hl ⊢ <;> omega
      refine t_g @hl ?_
      refine t_a ?_
      refine W_sub [] (by simp [go_sem]) (by simp [go_sem, Ty.count.counts] <;> omega) (by simp [go_sem]) (W_listI (t.args) (fun done => Ty.shape.shapes done = true) (fun done rest => [(.slot 5, .one (.v (dint (1 + Ty.count.counts done : Nat)))), (.slot 27, .one (.v (dint done.length))), (.slot 26, .one (.v (dint t.args.length))), (.slot 25, .one (.v (.sl (t.args.map Ty.cells))))]) (rfl) ?_ ?_)
      · intro done x rest hL hg hI hnext
        have hlt : done.length < t.args.length := by rw [hL]; simp
        have hcx : Ty.count.counts t.args = Ty.count.counts done + (x.count + Ty.count.counts rest) := by rw [hL, Ty.counts_append]; rfl
        rw [Ty.counts_append] at hnext
        refine t_rg0 ?_
        refine t_yes ?_
        refine t_rg @hg ?_
        by_cases hx : x.shape = true
        · refine t_a ?_
          first | refine W_reg [] fun K hK => ?_ | refine W_regd (by rw [hP]; exact mixed) [] fun K hK => ?_
          simp [go_sem, hP, hgl, hn, hg, Ty.nodesR, hx]
          repeat (refine ⟨by omega, ?_⟩)
          first | refine vcK_call hP hgl (ih x (List.mem_of_getElem? hg) (by omega)) (by simp [go_sem, hP, hgl, hn, hg, Ty.nodesR, hx]) rfl (by simp [go_sem]) (by simp) (by rw [hn]; exact Nat.le_of_ble_eq_true rfl) ?_ | refine vcdC_call (fun _ _ => vcd_sound) hP hgl (ih x (List.mem_of_getElem? hg) (by omega)) (by simp [go_sem, hP, hgl, hn, hg, Ty.nodesR, hx]) rfl (by simp [go_sem]) (by simp) (by rw [hn]; exact Nat.le_of_ble_eq_true rfl) ?_ | refine vcK_callG hP hgl (ih x (List.mem_of_getElem? hg) (by omega)) (by simp [go_sem, hP, hgl, hn, hg, Ty.nodesR, hx]) rfl (by simp [go_sem]) (by simp) (by rw [hn]; exact Nat.le_of_ble_eq_true rfl) (by simp [go_sem]; rfl) (by rw [hn]; exact Nat.le_of_ble_eq_true rfl) (by simp [go_sem]) ?_ | refine vcdC_callG (fun _ _ => vcd_sound) hP hgl (ih x (List.mem_of_getElem? hg) (by omega)) (by simp [go_sem, hP, hgl, hn, hg, Ty.nodesR, hx]) rfl (by simp [go_sem]) (by simp) (by rw [hn]; exact Nat.le_of_ble_eq_true rfl) (by simp [go_sem]; rfl) (by rw [hn]; exact Nat.le_of_ble_eq_true rfl) (by simp [go_sem]) ?_
          simp [go_sem, hP, hgl, hn, hg, Ty.nodesR, hx]
          refine t_e ?_
          clear hK K
          repeat (first | (refine W_sub [] (by simp [go_sem]) (by simp [go_sem, Ty.count.counts] <;> omega) (by simp [go_sem]) (hnext (by rw [Ty.shapes_append]; simp [hI, Ty.shape.shapes, hx]))) | refine W_seq ?_ | refine W_skip ?_ | refine W_block ?_ | refine W_inBlock ?_ | refine W_label ?_ | refine W_exit rfl ?_ | ((first | refine W_reg [] fun K hK => ?_ | refine W_regd (by rw [hP]; exact mixed) [] fun K hK => ?_); simp [go_sem, hP, hgl, hn, hx]; (repeat (refine ⟨by omega, ?_⟩)); (first | refine hK _ ?_ | refine ⟨by rfl, hK _ ?_⟩); clear hK K) | refine W_cond rfl (fun _ => ?_) (fun hq => False.elim (by first | (simp [hx]; done) | (simp [hx]; omega) | (simp [hx] at hq; done) | (simp [hx] at hq; omega))) | refine W_cond rfl (fun hq => False.elim (by first | (simp [hx]; done) | (simp [hx]; omega) | (simp [hx] at hq; done) | (simp [hx] at hq; omega))) (fun _ => ?_))
        · have hz := no (by rw [hs, hL, Ty.shapes_append]; simp [Ty.shape.shapes, hx])
          refine t_a ?_
          first | refine W_reg [] fun K hK => ?_ | refine W_regd (by rw [hP]; exact mixed) [] fun K hK => ?_
          simp [go_sem, hP, hgl, hn, hg, Ty.nodesR, hx]
          repeat (refine ⟨by omega, ?_⟩)
          first | refine vcK_call hP hgl (ih x (List.mem_of_getElem? hg) (by omega)) (by simp [go_sem, hP, hgl, hn, hg, Ty.nodesR, hx]) rfl (by simp [go_sem]) (by simp) (by rw [hn]; exact Nat.le_of_ble_eq_true rfl) ?_ | refine vcdC_call (fun _ _ => vcd_sound) hP hgl (ih x (List.mem_of_getElem? hg) (by omega)) (by simp [go_sem, hP, hgl, hn, hg, Ty.nodesR, hx]) rfl (by simp [go_sem]) (by simp) (by rw [hn]; exact Nat.le_of_ble_eq_true rfl) ?_ | refine vcK_callG hP hgl (ih x (List.mem_of_getElem? hg) (by omega)) (by simp [go_sem, hP, hgl, hn, hg, Ty.nodesR, hx]) rfl (by simp [go_sem]) (by simp) (by rw [hn]; exact Nat.le_of_ble_eq_true rfl) (by simp [go_sem]; rfl) (by rw [hn]; exact Nat.le_of_ble_eq_true rfl) (by simp [go_sem]) ?_ | refine vcdC_callG (fun _ _ => vcd_sound) hP hgl (ih x (List.mem_of_getElem? hg) (by omega)) (by simp [go_sem, hP, hgl, hn, hg, Ty.nodesR, hx]) rfl (by simp [go_sem]) (by simp) (by rw [hn]; exact Nat.le_of_ble_eq_true rfl) (by simp [go_sem]; rfl) (by rw [hn]; exact Nat.le_of_ble_eq_true rfl) (by simp [go_sem]) ?_
          simp [go_sem, hP, hgl, hn, hg, Ty.nodesR, hx]
          refine t_e ?_
          clear hK K
          refine t_g @hx ?_
          refine t_r ?_
          simp [go_sem, hP, hgl, hn, hz] <;> (try omega)
      · intro hI
        have hz : t.nodesR = .tup [dint t.count, dbool true] := by simp [Ty.nodesR, hs, hty, hI]
        refine t_rg0 ?_
        refine t_no ?_
        refine t_g0 ?_
        refine t_r ?_
        simp [go_sem, hP, hgl, hn, hz, Ty.count_eq] <;> (try omega)
    · have hz := no (by
        rw [hs]
        have : tyKind t.kind t.args.length = false := by
          unfold wantI at hl
          unfold tyKind
          rcases hk with h | h | h | h | h <;> simp [h] at hl ⊢ <;> omega
        simp [this])
      refine t_g @hl ?_
      refine t_r ?_
      simp [go_sem, hP, hgl, hn, hz] <;> (try omega)

theorem checktype_ok (t : Ty) (hc : t.count ≤ 2147483648) : Con1 Tryd.prog gl 83 [t.dv] [] (.tup [dint (if t.checkN = 0 then t.count else 0 : Nat), dint t.checkN]) [] := by
  refine t_in Tryd.func83 ?_
  intro X hP hgl hf hfn hn hR hids hfit
  refine t_g0 ?_
  by_cases h : t.shape = true
  · refine t_a ?_
    first | refine W_reg [] fun K hK => ?_ | refine W_regd (by rw [hP]; exact mixed) [] fun K hK => ?_
    simp [go_sem, hP, hgl, hn, Ty.nodesR, h]
    repeat (refine ⟨by omega, ?_⟩)
    first | refine vcK_call hP hgl (typenodes_ok t hc) (by simp [go_sem, hP, hgl, hn, Ty.nodesR, h]) rfl (by simp [go_sem]) (by simp) (by rw [hn]; exact Nat.le_of_ble_eq_true rfl) ?_ | refine vcdC_call (fun _ _ => vcd_sound) hP hgl (typenodes_ok t hc) (by simp [go_sem, hP, hgl, hn, Ty.nodesR, h]) rfl (by simp [go_sem]) (by simp) (by rw [hn]; exact Nat.le_of_ble_eq_true rfl) ?_ | refine vcK_callG hP hgl (typenodes_ok t hc) (by simp [go_sem, hP, hgl, hn, Ty.nodesR, h]) rfl (by simp [go_sem]) (by simp) (by rw [hn]; exact Nat.le_of_ble_eq_true rfl) (by simp [go_sem]; rfl) (by rw [hn]; exact Nat.le_of_ble_eq_true rfl) (by simp [go_sem]) ?_ | refine vcdC_callG (fun _ _ => vcd_sound) hP hgl (typenodes_ok t hc) (by simp [go_sem, hP, hgl, hn, Ty.nodesR, h]) rfl (by simp [go_sem]) (by simp) (by rw [hn]; exact Nat.le_of_ble_eq_true rfl) (by simp [go_sem]; rfl) (by rw [hn]; exact Nat.le_of_ble_eq_true rfl) (by simp [go_sem]) ?_
    simp [go_sem, hP, hgl, hn, Ty.nodesR, h]
    refine t_e ?_
    clear hK K
    by_cases h2 : 64 < t.count
    · refine t_g (j2 @h @h2) ?_
      refine t_r ?_
      simp [go_sem, hP, hgl, hn, Ty.checkN, h, h2] <;> (try omega)
    · refine t_g (j2 @h @h2) ?_
      refine t_r ?_
      simp [go_sem, hP, hgl, hn, Ty.checkN, h, h2] <;> (try omega)
  · refine t_a ?_
    first | refine W_reg [] fun K hK => ?_ | refine W_regd (by rw [hP]; exact mixed) [] fun K hK => ?_
    simp [go_sem, hP, hgl, hn, Ty.nodesR, h]
    repeat (refine ⟨by omega, ?_⟩)
    first | refine vcK_call hP hgl (typenodes_ok t hc) (by simp [go_sem, hP, hgl, hn, Ty.nodesR, h]) rfl (by simp [go_sem]) (by simp) (by rw [hn]; exact Nat.le_of_ble_eq_true rfl) ?_ | refine vcdC_call (fun _ _ => vcd_sound) hP hgl (typenodes_ok t hc) (by simp [go_sem, hP, hgl, hn, Ty.nodesR, h]) rfl (by simp [go_sem]) (by simp) (by rw [hn]; exact Nat.le_of_ble_eq_true rfl) ?_ | refine vcK_callG hP hgl (typenodes_ok t hc) (by simp [go_sem, hP, hgl, hn, Ty.nodesR, h]) rfl (by simp [go_sem]) (by simp) (by rw [hn]; exact Nat.le_of_ble_eq_true rfl) (by simp [go_sem]; rfl) (by rw [hn]; exact Nat.le_of_ble_eq_true rfl) (by simp [go_sem]) ?_ | refine vcdC_callG (fun _ _ => vcd_sound) hP hgl (typenodes_ok t hc) (by simp [go_sem, hP, hgl, hn, Ty.nodesR, h]) rfl (by simp [go_sem]) (by simp) (by rw [hn]; exact Nat.le_of_ble_eq_true rfl) (by simp [go_sem]; rfl) (by rw [hn]; exact Nat.le_of_ble_eq_true rfl) (by simp [go_sem]) ?_
    simp [go_sem, hP, hgl, hn, Ty.nodesR, h]
    refine t_e ?_
    clear hK K
    refine t_g @h ?_
    refine t_r ?_
    simp [go_sem, hP, hgl, hn, Ty.checkN, h] <;> (try omega)

def okNodeP (t : Tm) : Bool := known t.kind && decide ((t.args.length : Int) = arityI t.kind) && decide (0 ≤ t.index) && (decide (t.index = 0) || decide (t.kind = 1))
theorem okNodeP_eq (t : Tm) : okNodeP t = okNode t := by
  unfold okNodeP okNode
  rw [arityI_known]
  cases h : decide ((t.args.length : Int) = arityI t.kind) with
  | false => simp
  | true =>
    have h1 : (t.args.length : Int) = arityI t.kind := by simpa using h
    have : decide (0 ≤ arityI t.kind) = true := by simp; omega
    rw [this]
    cases decide (0 ≤ t.index) <;> cases decide (t.index = 0) <;> cases decide (t.kind = 1) <;> rfl

def Tm.nodesR (t : Tm) : DV := .tup [dint (if t.shape = true then t.count else 0 : Nat), dbool t.shape]

theorem termnodes_ok (har : globOf gl 1 = some arEls) (t : Tm) (ht : t.tys) (hc : t.count ≤ 2147483648) : Con1 Tryd.prog gl 77 [t.dv] [] t.nodesR [] := by
  induction t using Tm.ind with
  | h t ih =>
  obtain ⟨ht1, ht2⟩ := (Tm.tys_eq t).1 ht
  rw [Tm.count_eq] at hc
  refine t_in Tryd.func77 ?_
  intro X hP hgl hf hfn hn hR hids hfit
  have hlen := Tm.fit_len (hfit t.dv (by simp))
  have hs := Tm.shape_eq t
  have no : t.shape = false → t.nodesR = .tup [dint 0, dbool false] := fun h => by simp [Tm.nodesR, h]
  refine t_g0 ?_
  refine t_c1 trivial (arity_ok har t.kind) ?_
  repeat (first | refine W_seq ?_ | refine W_skip ?_ | refine W_inBlock ?_ | refine W_label ?_)
  refine W_cut [(.slot 42, .one (.v (dbool (!okNodeP t)))), (.loc 1, .row ([.v (dint t.kind), .v (dint t.index), .v (dint t.type.kind), .v (.sl (t.type.args.map Ty.cells)), .v (.sl (t.args.map Tm.cells))])), (.slot 1, .one (.loc 1 0))] ?_ ?_
  · intro hrest
    by_cases h0 : known t.kind = true
    · by_cases hA : (t.args.length : Int) = arityI t.kind
      · by_cases hB : t.index < 0
        · refine t_rg (j2 @h0 (j2 @hA @hB)) ?_
          repeat (first | refine W_inBlock ?_ | refine W_skip ?_ | refine W_label ?_ | refine W_exit rfl ?_)
          refine W_sub [] (by simp [go_sem]) (by simp [go_sem, okNodeP, h0, hA, hB] <;> omega) (by simp [go_sem]) hrest
        · by_cases hD : t.index = 0
          · refine t_rg (j2 @h0 (j2 @hA (j2 @hB @hD))) ?_
            repeat (first | refine W_inBlock ?_ | refine W_skip ?_ | refine W_label ?_ | refine W_exit rfl ?_)
            refine W_sub [] (by simp [go_sem]) (by simp [go_sem, okNodeP, h0, hA, hB, hD] <;> omega) (by simp [go_sem]) hrest
          · by_cases hC : t.kind = 1
            · have h01 : known 1 = true := rfl
              refine t_rg (j2 @h0 (j2 @hA (j2 @hB (j2 @hD (j2 @hC @h01))))) ?_
              repeat (first | refine W_inBlock ?_ | refine W_skip ?_ | refine W_label ?_ | refine W_exit rfl ?_)
              refine W_sub [] (by simp [go_sem]) (by simp [go_sem, okNodeP, h0, hA, hB, hD, hC, h01] <;> omega) (by simp [go_sem]) hrest
            · refine t_rg (j2 @h0 (j2 @hA (j2 @hB (j2 @hD @hC)))) ?_
              repeat (first | refine W_inBlock ?_ | refine W_skip ?_ | refine W_label ?_ | refine W_exit rfl ?_)
              refine W_sub [] (by simp [go_sem]) (by simp [go_sem, okNodeP, h0, hA, hB, hD, hC] <;> omega) (by simp [go_sem]) hrest
      · refine t_rg (j2 @h0 @hA) ?_
        repeat (first | refine W_inBlock ?_ | refine W_skip ?_ | refine W_label ?_ | refine W_exit rfl ?_)
        refine W_sub [] (by simp [go_sem]) (by simp [go_sem, okNodeP, h0, hA] <;> omega) (by simp [go_sem]) hrest
    · refine t_rg @h0 ?_
      repeat (first | refine W_inBlock ?_ | refine W_skip ?_ | refine W_label ?_ | refine W_exit rfl ?_)
      refine W_sub [] (by simp [go_sem]) (by simp [go_sem, okNodeP, h0] <;> omega) (by simp [go_sem]) hrest
  · rw [okNodeP_eq]
    by_cases hok : okNode t = true
    · have hk : tmKind t.kind t.index t.type t.args.length = tyOfKind t.kind t.type := by
        simp only [okNode, Bool.and_eq_true, decide_eq_true_eq] at hok
        simp [tmKind, hok]
      refine t_n @hok ?_
      refine t_c1 trivial (typed_ok t.kind) ?_
      repeat (first | refine W_seq ?_ | refine W_skip ?_ | refine W_inBlock ?_ | refine W_label ?_)
      refine W_cutP (tyOfKind t.kind t.type = true) [(.loc 1, .row ([.v (dint t.kind), .v (dint t.index), .v (dint t.type.kind), .v (.sl (t.type.args.map Ty.cells)), .v (.sl (t.args.map Tm.cells))])), (.slot 1, .one (.loc 1 0))] ?_ ?_
      · intro hrest
        by_cases k2 : t.kind = 2
        · refine t_g @k2 ?_
          refine t_c1 trivial (checktype_ok t.type (by omega)) ?_
          by_cases hc : t.type.checkN = 0
          · refine t_gt (wr []) @k2 (j2 @k2 @hc) (hrest (by simp [tyOfKind, k2, hc]))
          · have hz := no (by rw [hs, hk]; simp [tyOfKind, k2, hc])
            refine t_g @hc ?_
            refine t_r ?_
            simp [go_sem, hP, hgl, hn, hz] <;> (try omega)
        by_cases k6 : t.kind = 6
        · refine t_g @k6 ?_
          refine t_c1 trivial (checktype_ok t.type (by omega)) ?_
          by_cases hc : t.type.checkN = 0
          · refine t_gt (wr []) @k6 (j2 @k6 @hc) (hrest (by simp [tyOfKind, k6, hc]))
          · have hz := no (by rw [hs, hk]; simp [tyOfKind, k6, hc])
            refine t_g @hc ?_
            refine t_r ?_
            simp [go_sem, hP, hgl, hn, hz] <;> (try omega)
        by_cases k9 : t.kind = 9
        · refine t_g @k9 ?_
          refine t_c1 trivial (checktype_ok t.type (by omega)) ?_
          by_cases hc : t.type.checkN = 0
          · refine t_gt (wr []) @k9 (j2 @k9 @hc) (hrest (by simp [tyOfKind, k9, hc]))
          · have hz := no (by rw [hs, hk]; simp [tyOfKind, k9, hc])
            refine t_g @hc ?_
            refine t_r ?_
            simp [go_sem, hP, hgl, hn, hz] <;> (try omega)
        refine t_g (j2 @k2 (j2 @k6 @k9)) ?_
        refine t_c1 trivial (notype_ok t.type) ?_
        by_cases hc : t.type.zero = true
        · refine t_gt (wr []) trivial @hc (hrest (by simp [tyOfKind, k2, k6, k9, hc]))
        · have hz := no (by rw [hs, hk]; simp [tyOfKind, k2, k6, k9, hc])
          refine t_g @hc ?_
          refine t_r ?_
          simp [go_sem, hP, hgl, hn, hz] <;> (try omega)
      · intro hty
        refine t_g0 ?_
        refine t_a ?_
        refine W_sub [] (by simp [go_sem]) (by simp [go_sem, Tm.count.counts] <;> omega) (by simp [go_sem]) (W_listI (t.args) (fun done => Tm.shape.shapes done = true) (fun done rest => [(.slot 8, .one (.v (dint (1 + Tm.count.counts done : Nat)))), (.slot 61, .one (.v (dint done.length))), (.slot 60, .one (.v (dint t.args.length))), (.slot 59, .one (.v (.sl (t.args.map Tm.cells))))]) (rfl) ?_ ?_)
        · intro done x rest hL hg hI hnext
          have hlt : done.length < t.args.length := by rw [hL]; simp
          have hcx : Tm.count.counts t.args = Tm.count.counts done + (x.count + Tm.count.counts rest) := by rw [hL, Tm.counts_append]; rfl
          rw [Tm.counts_append] at hnext
          refine t_rg0 ?_
          refine t_yes ?_
          refine t_rg @hg ?_
          by_cases hx : x.shape = true
          · refine t_a ?_
            first | refine W_reg [] fun K hK => ?_ | refine W_regd (by rw [hP]; exact mixed) [] fun K hK => ?_
            simp [go_sem, hP, hgl, hn, hg, Tm.nodesR, hx]
            repeat (refine ⟨by omega, ?_⟩)
            first | refine vcK_call hP hgl (ih x (List.mem_of_getElem? hg) (ht2 x (List.mem_of_getElem? hg)) (by omega)) (by simp [go_sem, hP, hgl, hn, hg, Tm.nodesR, hx]) rfl (by simp [go_sem]) (by simp) (by rw [hn]; exact Nat.le_of_ble_eq_true rfl) ?_ | refine vcdC_call (fun _ _ => vcd_sound) hP hgl (ih x (List.mem_of_getElem? hg) (ht2 x (List.mem_of_getElem? hg)) (by omega)) (by simp [go_sem, hP, hgl, hn, hg, Tm.nodesR, hx]) rfl (by simp [go_sem]) (by simp) (by rw [hn]; exact Nat.le_of_ble_eq_true rfl) ?_ | refine vcK_callG hP hgl (ih x (List.mem_of_getElem? hg) (ht2 x (List.mem_of_getElem? hg)) (by omega)) (by simp [go_sem, hP, hgl, hn, hg, Tm.nodesR, hx]) rfl (by simp [go_sem]) (by simp) (by rw [hn]; exact Nat.le_of_ble_eq_true rfl) (by simp [go_sem]; rfl) (by rw [hn]; exact Nat.le_of_ble_eq_true rfl) (by simp [go_sem]) ?_ | refine vcdC_callG (fun _ _ => vcd_sound) hP hgl (ih x (List.mem_of_getElem? hg) (ht2 x (List.mem_of_getElem? hg)) (by omega)) (by simp [go_sem, hP, hgl, hn, hg, Tm.nodesR, hx]) rfl (by simp [go_sem]) (by simp) (by rw [hn]; exact Nat.le_of_ble_eq_true rfl) (by simp [go_sem]; rfl) (by rw [hn]; exact Nat.le_of_ble_eq_true rfl) (by simp [go_sem]) ?_
            simp [go_sem, hP, hgl, hn, hg, Tm.nodesR, hx]
            refine t_e ?_
            clear hK K
            repeat (first | (refine W_sub [] (by simp [go_sem]) (by simp [go_sem, Tm.count.counts] <;> omega) (by simp [go_sem]) (hnext (by rw [Tm.shapes_append]; simp [hI, Tm.shape.shapes, hx]))) | refine W_seq ?_ | refine W_skip ?_ | refine W_block ?_ | refine W_inBlock ?_ | refine W_label ?_ | refine W_exit rfl ?_ | ((first | refine W_reg [] fun K hK => ?_ | refine W_regd (by rw [hP]; exact mixed) [] fun K hK => ?_); simp [go_sem, hP, hgl, hn, hx]; (repeat (refine ⟨by omega, ?_⟩)); (first | refine hK _ ?_ | refine ⟨by rfl, hK _ ?_⟩); clear hK K) | refine W_cond rfl (fun _ => ?_) (fun hq => False.elim (by first | (simp [hx]; done) | (simp [hx]; omega) | (simp [hx] at hq; done) | (simp [hx] at hq; omega))) | refine W_cond rfl (fun hq => False.elim (by first | (simp [hx]; done) | (simp [hx]; omega) | (simp [hx] at hq; done) | (simp [hx] at hq; omega))) (fun _ => ?_))
          · have hz := no (by rw [hs, hL, Tm.shapes_append]; simp [Tm.shape.shapes, hx])
            refine t_a ?_
            first | refine W_reg [] fun K hK => ?_ | refine W_regd (by rw [hP]; exact mixed) [] fun K hK => ?_
            simp [go_sem, hP, hgl, hn, hg, Tm.nodesR, hx]
            repeat (refine ⟨by omega, ?_⟩)
            first | refine vcK_call hP hgl (ih x (List.mem_of_getElem? hg) (ht2 x (List.mem_of_getElem? hg)) (by omega)) (by simp [go_sem, hP, hgl, hn, hg, Tm.nodesR, hx]) rfl (by simp [go_sem]) (by simp) (by rw [hn]; exact Nat.le_of_ble_eq_true rfl) ?_ | refine vcdC_call (fun _ _ => vcd_sound) hP hgl (ih x (List.mem_of_getElem? hg) (ht2 x (List.mem_of_getElem? hg)) (by omega)) (by simp [go_sem, hP, hgl, hn, hg, Tm.nodesR, hx]) rfl (by simp [go_sem]) (by simp) (by rw [hn]; exact Nat.le_of_ble_eq_true rfl) ?_ | refine vcK_callG hP hgl (ih x (List.mem_of_getElem? hg) (ht2 x (List.mem_of_getElem? hg)) (by omega)) (by simp [go_sem, hP, hgl, hn, hg, Tm.nodesR, hx]) rfl (by simp [go_sem]) (by simp) (by rw [hn]; exact Nat.le_of_ble_eq_true rfl) (by simp [go_sem]; rfl) (by rw [hn]; exact Nat.le_of_ble_eq_true rfl) (by simp [go_sem]) ?_ | refine vcdC_callG (fun _ _ => vcd_sound) hP hgl (ih x (List.mem_of_getElem? hg) (ht2 x (List.mem_of_getElem? hg)) (by omega)) (by simp [go_sem, hP, hgl, hn, hg, Tm.nodesR, hx]) rfl (by simp [go_sem]) (by simp) (by rw [hn]; exact Nat.le_of_ble_eq_true rfl) (by simp [go_sem]; rfl) (by rw [hn]; exact Nat.le_of_ble_eq_true rfl) (by simp [go_sem]) ?_
            simp [go_sem, hP, hgl, hn, hg, Tm.nodesR, hx]
            refine t_e ?_
            clear hK K
            refine t_g @hx ?_
            refine t_r ?_
            simp [go_sem, hP, hgl, hn, hz] <;> (try omega)
        · intro hI
          have hz : t.nodesR = .tup [dint t.count, dbool true] := by simp [Tm.nodesR, hs, hk, hty, hI]
          refine t_rg0 ?_
          refine t_no ?_
          refine t_g0 ?_
          refine t_r ?_
          simp [go_sem, hP, hgl, hn, hz, Tm.count_eq] <;> (try omega)
    · have hk : tmKind t.kind t.index t.type t.args.length = false := by
        simp only [okNode, Bool.and_eq_true, decide_eq_true_eq] at hok
        simp only [tmKind]
        cases hh : (decide ((t.args.length : Int) = arityI t.kind) && decide (0 ≤ t.index) && (decide (t.kind = 1) || decide (t.index = 0))) with
        | true => exact absurd (by simpa using hh) hok
        | false => rfl
      have hz := no (by rw [hs, hk]; rfl)
      refine t_g @hok ?_
      refine t_r ?_
      simp [go_sem, hP, hgl, hn, hz] <;> (try omega)
end Go.Proofs.YtmdjiajbnifjpaaDoor.Lift

namespace Go.Proofs.YtmdjiajbnifjpaaDoor.Lift
set_option linter.unusedSimpArgs false
set_option linter.unusedVariables false
set_option linter.unnecessarySimpa false
open Go
variable {gl : Globs}

theorem nextD_le {l : List Int} {p : Nat} {n : Int} (h : p ≤ l.length) : (nextD l p n).2 ≤ l.length := by
  unfold nextD
  split
  · exact h
  · split
    · rename_i x hx
      have := (List.getElem?_eq_some_iff.1 hx).1
      simp only; omega
    · exact h

theorem nextD_bd {l : List Int} {p : Nat} {n : Int} (h : 1 ≤ n) : 0 ≤ (nextD l p n).1 ∧ (nextD l p n).1 < n := by
  unfold nextD
  rw [if_neg (by omega)]
  split
  · rename_i x hx
    have := modz_bd x n h
    exact ⟨this.1, this.2.1⟩
  · exact ⟨by simp, by simp; omega⟩

def plainD (l : List Int) (p : Nat) : Ty × Nat :=
  let k := (nextD l p 6).1
  (if k = 0 ∨ k = 1 then Ty.mk 1 [] else if k = 2 then Ty.mk 2 [] else if k = 3 then Ty.mk 5 [] else if k = 4 then Ty.mk 3 [Ty.mk 1 [], Ty.mk 2 []] else Ty.mk 3 [Ty.mk 1 [], Ty.mk 1 []], (nextD l p 6).2)

theorem plain_ok (b : Nat) (l : List Int) (p : Nat) (hl : l.length ≤ 500) (hp : p ≤ l.length) :
    Con1 Tryd.prog gl 71 [ptr b] [(b, deck l p)] (plainD l p).1.dv [(b, deck l (plainD l p).2)] := by
  refine t_in Tryd.func71 ?_
  intro X hP hgl hf hfn hn hR hids hfit
  have hp1 := nextD_le (n := 6) hp
  refine t_rg0 ?_
  refine t_a ?_
  first | refine W_reg [] fun K hK => ?_ | refine W_regd (by rw [hP]; exact mixed) [] fun K hK => ?_
  refine t_s0 ?_
  refine t_c trivial (next_ok b l p 6 (by decide) (by omega)) ?_
  refine t_e ?_
  clear hK K
  have hkb := nextD_bd (l := l) (p := p) (n := 6) (by decide)
  generalize hd : nextD l p 6 = d at *
  obtain ⟨k, q⟩ := d
  by_cases h0 : k = 0
  · refine t_rg @h0 ?_
    refine t_a ?_
    refine W_cond rfl ?_ ?_
    rotate_left
    · intro h; simp at h
    intro _
    refine t_a ?_
    refine W_cond rfl ?_ ?_
    rotate_left
    · intro h; simp at h
    intro _
    refine t_a ?_
    first | refine W_reg [] fun K hK => ?_ | refine W_regd (by rw [hP]; exact mixed) [] fun K hK => ?_
    refine t_s0 ?_
    refine t_c trivial (ref01_nat_ok) ?_
    refine t_e ?_
    clear hK K
    repeat (first | refine W_seq ?_ | refine W_skip ?_ | refine W_block ?_ | refine W_inBlock ?_ | refine W_label ?_ | refine W_exit rfl ?_)
    first | refine W_retR hP hf hfn _ ([(b, deck l q)]) (by first | (simp [go_sem, hP, hgl, hn, plainD, hd, h0]; done) | (simp [go_sem, hP, hgl, hn, plainD, hd, h0]; rfl)) (by simp [go_sem, hP, hgl, hn, plainD, hd, h0]) (by simp) ?_ hR.2 | refine W_endR hP hf hfn _ ([(b, deck l q)]) (by first | (simp [go_sem, hP, hgl, hn, plainD, hd, h0]; done) | (simp [go_sem, hP, hgl, hn, plainD, hd, h0]; rfl)) (by simp [go_sem, hP, hgl, hn, plainD, hd, h0]) (by simp) ?_ hR.2
    rw [hR.1]
    refine ⟨?_, by simp [plainD, hd, h0]⟩
    try simp [plainD, hd, h0]
    try all_goals (simp [Ty.dv, Ty.cells_eq, Ty.kind_mk, Ty.args_mk, Tm.dv, Tm.cells_eq, Tm.kind_mk, Tm.index_mk, Tm.type_mk, Tm.args_mk, Val.dv, Val.cells_eq, Val.kind_mk, Val.num_mk, Val.list_mk, Val.args_mk, ints])
  by_cases h1 : k = 1
  · refine t_rg @h1 ?_
    refine t_a ?_
    refine W_cond rfl ?_ ?_
    · intro h; simp at h
    intro _
    refine t_rg @h1 ?_
    refine t_a ?_
    refine W_cond rfl ?_ ?_
    rotate_left
    · intro h; simp at h
    intro _
    refine t_a ?_
    first | refine W_reg [] fun K hK => ?_ | refine W_regd (by rw [hP]; exact mixed) [] fun K hK => ?_
    refine t_s0 ?_
    refine t_c trivial (ref01_nat_ok) ?_
    refine t_e ?_
    clear hK K
    repeat (first | refine W_seq ?_ | refine W_skip ?_ | refine W_block ?_ | refine W_inBlock ?_ | refine W_label ?_ | refine W_exit rfl ?_)
    first | refine W_retR hP hf hfn _ ([(b, deck l q)]) (by first | (simp [go_sem, hP, hgl, hn, plainD, hd, h1]; done) | (simp [go_sem, hP, hgl, hn, plainD, hd, h1]; rfl)) (by simp [go_sem, hP, hgl, hn, plainD, hd, h1]) (by simp) ?_ hR.2 | refine W_endR hP hf hfn _ ([(b, deck l q)]) (by first | (simp [go_sem, hP, hgl, hn, plainD, hd, h1]; done) | (simp [go_sem, hP, hgl, hn, plainD, hd, h1]; rfl)) (by simp [go_sem, hP, hgl, hn, plainD, hd, h1]) (by simp) ?_ hR.2
    rw [hR.1]
    refine ⟨?_, by simp [plainD, hd, h1]⟩
    try simp [plainD, hd, h1]
    try all_goals (simp [Ty.dv, Ty.cells_eq, Ty.kind_mk, Ty.args_mk, Tm.dv, Tm.cells_eq, Tm.kind_mk, Tm.index_mk, Tm.type_mk, Tm.args_mk, Val.dv, Val.cells_eq, Val.kind_mk, Val.num_mk, Val.list_mk, Val.args_mk, ints])
  by_cases h2 : k = 2
  · refine t_rg @h2 ?_
    refine t_a ?_
    refine W_cond rfl ?_ ?_
    · intro h; simp at h
    intro _
    refine t_rg @h2 ?_
    refine t_a ?_
    refine W_cond rfl ?_ ?_
    · intro h; simp at h
    intro _
    refine t_rg @h2 ?_
    refine t_a ?_
    refine W_cond rfl ?_ ?_
    rotate_left
    · intro h; simp at h
    intro _
    refine t_a ?_
    first | refine W_reg [] fun K hK => ?_ | refine W_regd (by rw [hP]; exact mixed) [] fun K hK => ?_
    refine t_s0 ?_
    refine t_c trivial (ref01_list_ok) ?_
    refine t_e ?_
    clear hK K
    repeat (first | refine W_seq ?_ | refine W_skip ?_ | refine W_block ?_ | refine W_inBlock ?_ | refine W_label ?_ | refine W_exit rfl ?_)
    first | refine W_retR hP hf hfn _ ([(b, deck l q)]) (by first | (simp [go_sem, hP, hgl, hn, plainD, hd, h2]; done) | (simp [go_sem, hP, hgl, hn, plainD, hd, h2]; rfl)) (by simp [go_sem, hP, hgl, hn, plainD, hd, h2]) (by simp) ?_ hR.2 | refine W_endR hP hf hfn _ ([(b, deck l q)]) (by first | (simp [go_sem, hP, hgl, hn, plainD, hd, h2]; done) | (simp [go_sem, hP, hgl, hn, plainD, hd, h2]; rfl)) (by simp [go_sem, hP, hgl, hn, plainD, hd, h2]) (by simp) ?_ hR.2
    rw [hR.1]
    refine ⟨?_, by simp [plainD, hd, h2]⟩
    try simp [plainD, hd, h2]
    try all_goals (simp [Ty.dv, Ty.cells_eq, Ty.kind_mk, Ty.args_mk, Tm.dv, Tm.cells_eq, Tm.kind_mk, Tm.index_mk, Tm.type_mk, Tm.args_mk, Val.dv, Val.cells_eq, Val.kind_mk, Val.num_mk, Val.list_mk, Val.args_mk, ints])
  by_cases h3 : k = 3
  · refine t_rg @h3 ?_
    refine t_a ?_
    refine W_cond rfl ?_ ?_
    · intro h; simp at h
    intro _
    refine t_rg @h3 ?_
    refine t_a ?_
    refine W_cond rfl ?_ ?_
    · intro h; simp at h
    intro _
    refine t_rg @h3 ?_
    refine t_a ?_
    refine W_cond rfl ?_ ?_
    · intro h; simp at h
    intro _
    refine t_rg @h3 ?_
    refine t_a ?_
    refine W_cond rfl ?_ ?_
    rotate_left
    · intro h; simp at h
    intro _
    refine t_a ?_
    first | refine W_reg [] fun K hK => ?_ | refine W_regd (by rw [hP]; exact mixed) [] fun K hK => ?_
    refine t_s0 ?_
    refine t_c trivial (ref01_unit_ok) ?_
    refine t_e ?_
    clear hK K
    repeat (first | refine W_seq ?_ | refine W_skip ?_ | refine W_block ?_ | refine W_inBlock ?_ | refine W_label ?_ | refine W_exit rfl ?_)
    first | refine W_retR hP hf hfn _ ([(b, deck l q)]) (by first | (simp [go_sem, hP, hgl, hn, plainD, hd, h3]; done) | (simp [go_sem, hP, hgl, hn, plainD, hd, h3]; rfl)) (by simp [go_sem, hP, hgl, hn, plainD, hd, h3]) (by simp) ?_ hR.2 | refine W_endR hP hf hfn _ ([(b, deck l q)]) (by first | (simp [go_sem, hP, hgl, hn, plainD, hd, h3]; done) | (simp [go_sem, hP, hgl, hn, plainD, hd, h3]; rfl)) (by simp [go_sem, hP, hgl, hn, plainD, hd, h3]) (by simp) ?_ hR.2
    rw [hR.1]
    refine ⟨?_, by simp [plainD, hd, h3]⟩
    try simp [plainD, hd, h3]
    try all_goals (simp [Ty.dv, Ty.cells_eq, Ty.kind_mk, Ty.args_mk, Tm.dv, Tm.cells_eq, Tm.kind_mk, Tm.index_mk, Tm.type_mk, Tm.args_mk, Val.dv, Val.cells_eq, Val.kind_mk, Val.num_mk, Val.list_mk, Val.args_mk, ints])
  by_cases h4 : k = 4
  · refine t_rg @h4 ?_
    refine t_a ?_
    refine W_cond rfl ?_ ?_
    · intro h; simp at h
    intro _
    refine t_rg @h4 ?_
    refine t_a ?_
    refine W_cond rfl ?_ ?_
    · intro h; simp at h
    intro _
    refine t_rg @h4 ?_
    refine t_a ?_
    refine W_cond rfl ?_ ?_
    · intro h; simp at h
    intro _
    refine t_rg @h4 ?_
    refine t_a ?_
    refine W_cond rfl ?_ ?_
    · intro h; simp at h
    intro _
    refine t_rg @h4 ?_
    refine t_a ?_
    refine W_cond rfl ?_ ?_
    rotate_left
    · intro h; simp at h
    intro _
    refine t_a ?_
    first | refine W_reg [] fun K hK => ?_ | refine W_regd (by rw [hP]; exact mixed) [] fun K hK => ?_
    refine t_s0 ?_
    refine t_c trivial (ref01_nat_ok) ?_
    refine t_c trivial (ref01_list_ok) ?_
    refine t_c trivial (ref01_two_ok (Ty.mk 1 []) (Ty.mk 2 [])) ?_
    refine t_e ?_
    clear hK K
    repeat (first | refine W_seq ?_ | refine W_skip ?_ | refine W_block ?_ | refine W_inBlock ?_ | refine W_label ?_ | refine W_exit rfl ?_)
    first | refine W_retR hP hf hfn _ ([(b, deck l q)]) (by first | (simp [go_sem, hP, hgl, hn, plainD, hd, h4]; done) | (simp [go_sem, hP, hgl, hn, plainD, hd, h4]; rfl)) (by simp [go_sem, hP, hgl, hn, plainD, hd, h4]) (by simp) ?_ hR.2 | refine W_endR hP hf hfn _ ([(b, deck l q)]) (by first | (simp [go_sem, hP, hgl, hn, plainD, hd, h4]; done) | (simp [go_sem, hP, hgl, hn, plainD, hd, h4]; rfl)) (by simp [go_sem, hP, hgl, hn, plainD, hd, h4]) (by simp) ?_ hR.2
    rw [hR.1]
    refine ⟨?_, by simp [plainD, hd, h4]⟩
    try simp [plainD, hd, h4]
    try all_goals (simp [Ty.dv, Ty.cells_eq, Ty.kind_mk, Ty.args_mk, Tm.dv, Tm.cells_eq, Tm.kind_mk, Tm.index_mk, Tm.type_mk, Tm.args_mk, Val.dv, Val.cells_eq, Val.kind_mk, Val.num_mk, Val.list_mk, Val.args_mk, ints])
  · have h5 : k = 5 := by simp at hkb; omega
    refine t_rg @h5 ?_
    refine t_a ?_
    refine W_cond rfl ?_ ?_
    · intro h; simp at h
    intro _
    refine t_rg @h5 ?_
    refine t_a ?_
    refine W_cond rfl ?_ ?_
    · intro h; simp at h
    intro _
    refine t_rg @h5 ?_
    refine t_a ?_
    refine W_cond rfl ?_ ?_
    · intro h; simp at h
    intro _
    refine t_rg @h5 ?_
    refine t_a ?_
    refine W_cond rfl ?_ ?_
    · intro h; simp at h
    intro _
    refine t_rg @h5 ?_
    refine t_a ?_
    refine W_cond rfl ?_ ?_
    · intro h; simp at h
    intro _
    refine t_a ?_
    first | refine W_reg [] fun K hK => ?_ | refine W_regd (by rw [hP]; exact mixed) [] fun K hK => ?_
    refine t_s0 ?_
    refine t_c trivial (ref01_nat_ok) ?_
    refine t_c trivial (ref01_nat_ok) ?_
    refine t_c trivial (ref01_two_ok (Ty.mk 1 []) (Ty.mk 1 [])) ?_
    refine t_e ?_
    clear hK K
    repeat (first | refine W_seq ?_ | refine W_skip ?_ | refine W_block ?_ | refine W_inBlock ?_ | refine W_label ?_ | refine W_exit rfl ?_)
    first | refine W_retR hP hf hfn _ ([(b, deck l q)]) (by first | (simp [go_sem, hP, hgl, hn, plainD, hd, h5]; done) | (simp [go_sem, hP, hgl, hn, plainD, hd, h5]; rfl)) (by simp [go_sem, hP, hgl, hn, plainD, hd, h5]) (by simp) ?_ hR.2 | refine W_endR hP hf hfn _ ([(b, deck l q)]) (by first | (simp [go_sem, hP, hgl, hn, plainD, hd, h5]; done) | (simp [go_sem, hP, hgl, hn, plainD, hd, h5]; rfl)) (by simp [go_sem, hP, hgl, hn, plainD, hd, h5]) (by simp) ?_ hR.2
    rw [hR.1]
    refine ⟨?_, by simp [plainD, hd, h5]⟩
    try simp [plainD, hd, h5]
    try all_goals (simp [Ty.dv, Ty.cells_eq, Ty.kind_mk, Ty.args_mk, Tm.dv, Tm.cells_eq, Tm.kind_mk, Tm.index_mk, Tm.type_mk, Tm.args_mk, Val.dv, Val.cells_eq, Val.kind_mk, Val.num_mk, Val.list_mk, Val.args_mk, ints])

/-- the types of plain values: a pair has two parts -/
def Ty.plain : Ty → Prop
  | .mk k ts => (k = 3 → ts.length = 2) ∧ plains ts
where
  plains : List Ty → Prop
    | [] => True
    | t :: r => t.plain ∧ plains r

end Go.Proofs.YtmdjiajbnifjpaaDoor.Lift

namespace Go.Proofs.YtmdjiajbnifjpaaDoor.Lift
set_option linter.unusedSimpArgs false
set_option linter.unusedVariables false
set_option linter.unnecessarySimpa false
open Go
variable {gl : Globs}

def numTm : Nat → Tm
  | 0 => Tm.mk 4 0 (Ty.mk 0 []) []
  | n + 1 => Tm.mk 5 0 (Ty.mk 0 []) [numTm n]

def sizeI (n : Int) : Int := min n 4096 + 1
/-- the number of nodes of a value, and whether all have a form -/
def Val.okB (v : Val) : Bool :=
  if v.kind = 1 then decide (0 ≤ v.num) && decide (v.list.length = 0) && decide (v.args.length = 0)
  else if v.kind = 2 then decide (v.num = 0) && !v.list.any (fun n => decide (n < 0)) && decide (v.args.length = 0)
  else if v.kind = 3 then decide (v.num = 0) && decide (v.list.length = 0) && decide (v.args.length = 2)
  else if v.kind = 4 then decide (v.num = 0) && decide (v.list.length = 0) && decide (v.args.length = 0)
  else false

end Go.Proofs.YtmdjiajbnifjpaaDoor.Lift

namespace Go.Proofs.YtmdjiajbnifjpaaDoor.Lift
set_option linter.unusedSimpArgs false
set_option linter.unusedVariables false
set_option linter.unnecessarySimpa false
open Go
variable {gl : Globs}

def Val.nodesN : Val → Int × Bool
  | .mk k n l a => nodesL a (1, Val.okB (.mk k n l a))
where
  nodesL : List Val → Int × Bool → Int × Bool
    | [], p => p
    | a :: r, p => if p.2 then nodesL r (p.1 + (Val.nodesN a).1, (Val.nodesN a).2) else p
/-- the number of nodes of a value -/
def Val.count : Val → Nat
  | .mk _ _ _ a => 1 + counts a
where
  counts : List Val → Nat
    | [] => 0
    | a :: r => a.count + counts r
theorem Val.count_eq (t : Val) : t.count = 1 + Val.count.counts t.args := by cases t; simp [count, args]
theorem Val.counts_append (l m : List Val) : Val.count.counts (l ++ m) = Val.count.counts l + Val.count.counts m := by
  induction l with
  | nil => simp [Val.count.counts]
  | cons a r ih => simp [Val.count.counts, ih]; omega

end Go.Proofs.YtmdjiajbnifjpaaDoor.Lift

namespace Go.Proofs.YtmdjiajbnifjpaaDoor.Lift
set_option linter.unusedSimpArgs false
set_option linter.unusedVariables false
set_option linter.unnecessarySimpa false
open Go
variable {gl : Globs}

theorem checkterm_ok (har : globOf gl 1 = some arEls) (t : Tm) (ht : t.tys) (hc : t.count ≤ 2147483648) : Con1 Tryd.prog gl 68 [t.dv] [] (.tup [dint (if t.checkN = 0 then t.count else 0 : Nat), dint t.checkN]) [] := by
  refine t_in Tryd.func68 ?_
  intro X hP hgl hf hfn hn hR hids hfit
  refine t_g0 ?_
  by_cases h : t.shape = true
  · refine t_a ?_
    first | refine W_reg [] fun K hK => ?_ | refine W_regd (by rw [hP]; exact mixed) [] fun K hK => ?_
    simp [go_sem, hP, hgl, hn, Tm.nodesR, h]
    repeat (refine ⟨by omega, ?_⟩)
    first | refine vcK_call hP hgl (termnodes_ok har t ht hc) (by simp [go_sem, hP, hgl, hn, Tm.nodesR, h]) rfl (by simp [go_sem]) (by simp) (by rw [hn]; exact Nat.le_of_ble_eq_true rfl) ?_ | refine vcdC_call (fun _ _ => vcd_sound) hP hgl (termnodes_ok har t ht hc) (by simp [go_sem, hP, hgl, hn, Tm.nodesR, h]) rfl (by simp [go_sem]) (by simp) (by rw [hn]; exact Nat.le_of_ble_eq_true rfl) ?_ | refine vcK_callG hP hgl (termnodes_ok har t ht hc) (by simp [go_sem, hP, hgl, hn, Tm.nodesR, h]) rfl (by simp [go_sem]) (by simp) (by rw [hn]; exact Nat.le_of_ble_eq_true rfl) (by simp [go_sem]; rfl) (by rw [hn]; exact Nat.le_of_ble_eq_true rfl) (by simp [go_sem]) ?_ | refine vcdC_callG (fun _ _ => vcd_sound) hP hgl (termnodes_ok har t ht hc) (by simp [go_sem, hP, hgl, hn, Tm.nodesR, h]) rfl (by simp [go_sem]) (by simp) (by rw [hn]; exact Nat.le_of_ble_eq_true rfl) (by simp [go_sem]; rfl) (by rw [hn]; exact Nat.le_of_ble_eq_true rfl) (by simp [go_sem]) ?_
    simp [go_sem, hP, hgl, hn, Tm.nodesR, h]
    refine t_e ?_
    clear hK K
    by_cases h2 : 4096 < t.count
    · refine t_g (j2 @h @h2) ?_
      refine t_r ?_
      simp [go_sem, hP, hgl, hn, Tm.checkN, h, h2] <;> (try omega)
    · refine t_g (j2 @h @h2) ?_
      refine t_r ?_
      simp [go_sem, hP, hgl, hn, Tm.checkN, h, h2] <;> (try omega)
  · refine t_a ?_
    first | refine W_reg [] fun K hK => ?_ | refine W_regd (by rw [hP]; exact mixed) [] fun K hK => ?_
    simp [go_sem, hP, hgl, hn, Tm.nodesR, h]
    repeat (refine ⟨by omega, ?_⟩)
    first | refine vcK_call hP hgl (termnodes_ok har t ht hc) (by simp [go_sem, hP, hgl, hn, Tm.nodesR, h]) rfl (by simp [go_sem]) (by simp) (by rw [hn]; exact Nat.le_of_ble_eq_true rfl) ?_ | refine vcdC_call (fun _ _ => vcd_sound) hP hgl (termnodes_ok har t ht hc) (by simp [go_sem, hP, hgl, hn, Tm.nodesR, h]) rfl (by simp [go_sem]) (by simp) (by rw [hn]; exact Nat.le_of_ble_eq_true rfl) ?_ | refine vcK_callG hP hgl (termnodes_ok har t ht hc) (by simp [go_sem, hP, hgl, hn, Tm.nodesR, h]) rfl (by simp [go_sem]) (by simp) (by rw [hn]; exact Nat.le_of_ble_eq_true rfl) (by simp [go_sem]; rfl) (by rw [hn]; exact Nat.le_of_ble_eq_true rfl) (by simp [go_sem]) ?_ | refine vcdC_callG (fun _ _ => vcd_sound) hP hgl (termnodes_ok har t ht hc) (by simp [go_sem, hP, hgl, hn, Tm.nodesR, h]) rfl (by simp [go_sem]) (by simp) (by rw [hn]; exact Nat.le_of_ble_eq_true rfl) (by simp [go_sem]; rfl) (by rw [hn]; exact Nat.le_of_ble_eq_true rfl) (by simp [go_sem]) ?_
    simp [go_sem, hP, hgl, hn, Tm.nodesR, h]
    refine t_e ?_
    clear hK K
    refine t_g @h ?_
    refine t_r ?_
    simp [go_sem, hP, hgl, hn, Tm.checkN, h] <;> (try omega)

theorem termscheck_ok (har : globOf gl 1 = some arEls) (t : Tm) (ht : t.tys) (hc : t.count ≤ 2147483648) : Con1 Tryd.prog gl 47 [t.dv] [] (dint t.checkN) [] := by
  refine t_in Tryd.func47 ?_
  intro X hP hgl hf hfn hn hR hids hfit
  refine t_g0 ?_
  refine t_c1 trivial (checkterm_ok har t ht hc) ?_
  refine t_g0 ?_
  refine t_r ?_
  simp [go_sem, hP, hgl, hn] <;> (try omega)

end Go.Proofs.YtmdjiajbnifjpaaDoor.Lift

/-
  Package code: byTerm, and the block of a term (emit).
-/
namespace Go.Proofs.YtmdjiajbnifjpaaDoor.Lift
set_option linter.unusedSimpArgs false
set_option linter.unusedVariables false
set_option linter.unnecessarySimpa false
open Go
variable {gl : Globs}

/-- the package's table of operations: what each takes, the kind of term that it is for -/
def opEls : List (List DV) := [[dint 0, dint 0], [dint 0, dint 1], [dint 0, dint 2], [dint 2, dint 3], [dint 0, dint 4], [dint 1, dint 5], [dint 3, dint 6], [dint 0, dint 7], [dint 2, dint 8], [dint 3, dint 9], [dint 2, dint 10], [dint 1, dint 11], [dint 1, dint 12], [dint 0, dint 13]]
theorem evG_op : evG (some opEls) = some (.dp opEls 0 0) := rfl
attribute [go_sem] evG_op
theorem opEls_get (i : Nat) (h1 : 1 ≤ i) (h2 : i ≤ 13) : opEls[i]? = some [dint (takesI (i : Int)), dint i] := by
  have : i = 1 ∨ i = 2 ∨ i = 3 ∨ i = 4 ∨ i = 5 ∨ i = 6 ∨ i = 7 ∨ i = 8 ∨ i = 9 ∨ i = 10 ∨ i = 11 ∨ i = 12 ∨ i = 13 := by omega
  rcases this with rfl | rfl | rfl | rfl | rfl | rfl | rfl | rfl | rfl | rfl | rfl | rfl | rfl <;> rfl

theorem byterm_ok (hop : globOf gl 0 = some opEls) (k : Nat) (h1 : 1 ≤ k) (h2 : k ≤ 13) : Con1 Tryd.prog gl 49 [dint k] [] (dint k) [] := by
  refine t_in Tryd.func49 ?_
  intro X hP hgl hf hfn hn hR hids hfit
  refine t_rg0 ?_
  refine t_rg0 ?_
  refine t_a ?_
  refine t_sub [] trivial (W_rounds (fun i : Nat => 1 ≤ i ∧ i ≤ k) (fun i : Nat => [(.slot 0, .one (.v (dint k))), (.slot 3, .one (.v (dint i)))]) (fun i : Nat => k - i) 1 (⟨Nat.le_refl _, h1⟩) ?_)
  rintro i ⟨i1, i2⟩ ih
  have hg := opEls_get i i1 (by omega)
  have hle : (i : Int) < 14 := by omega
  have hle2 : (i : Nat) < 14 := by omega
  refine t_rg (j2 @hop @hg) ?_
  by_cases hik : i = k
  · subst hik
    refine t_no ?_
    refine t_g0 ?_
    refine t_r ?_
    simp [go_sem, hP, hgl, hn] <;> (try omega)
  · refine t_yes ?_
    refine t_rg0 ?_
    refine t_b ?_
    refine t_sub [] trivial (ih (i + 1) ⟨by omega, by omega⟩ (by omega))

theorem byterm_okI (hop : globOf gl 0 = some opEls) (k : Int) (h1 : 1 ≤ k) (h2 : k ≤ 13) : Con1 Tryd.prog gl 49 [dint k] [] (dint k) [] := by
  obtain ⟨n, rfl⟩ := Int.eq_ofNat_of_zero_le (by omega : 0 ≤ k)
  exact byterm_ok hop n (by omega) (by omega)
theorem kind_in {t : Tm} (h : t.shape = true) : 1 ≤ t.kind ∧ t.kind ≤ 13 := by
  rw [Tm.shape_eq, Bool.and_eq_true] at h
  have h1 := h.1
  simp only [tmKind, Bool.and_eq_true, decide_eq_true_eq] at h1
  have h2 := h1.1.1.1
  unfold arityI at h2
  repeat' split at h2
  all_goals omega
theorem W_cutM {α : Type} {X : Ctx} {k kk : List Item} {s : St} (E : α → Prop) (S : α → St) (h1 : (∀ x, E x → W X kk (S x)) → W X k s) (h2 : ∀ x, E x → W X kk (S x)) : W X k s := h1 h2
/-! emit: the block of a term is laid -/
def emV (bf bo bt be : Nat) : DV := .prim (.func (.func 48) #[] #[.pointer (some ⟨bf, 0, none⟩), .pointer (some ⟨bo, 0, none⟩), .pointer (some ⟨bt, 0, none⟩), .pointer (some ⟨be, 0, none⟩)])
/-- the objects: the boxes of functions, out, todo and emit, and the arrays of the first three -/
def emO (bf bo bt be : Nat) (vF vO vT : DV) (F O T : RS) : Objs := (bf, [vF]) :: (bo, [vO]) :: (bt, [vT]) :: (be, [emV bf bo bt be]) :: (F.objs ++ (O.objs ++ T.objs))
theorem emO_F (bf bo bt be : Nat) (vF vO vT : DV) (F O T : RS) : emO bf bo bt be vF vO vT F O T = [(bf, [vF]), (bo, [vO]), (bt, [vT]), (be, [emV bf bo bt be])] ++ (F.objs ++ (O.objs ++ T.objs)) := rfl
theorem emO_O (bf bo bt be : Nat) (vF vO vT : DV) (F O T : RS) : emO bf bo bt be vF vO vT F O T = ([(bf, [vF]), (bo, [vO]), (bt, [vT]), (be, [emV bf bo bt be])] ++ F.objs) ++ (O.objs ++ T.objs) := by simp [emO]
theorem emO_T (bf bo bt be : Nat) (vF vO vT : DV) (F O T : RS) : emO bf bo bt be vF vO vT F O T = ([(bf, [vF]), (bo, [vO]), (bt, [vT]), (be, [emV bf bo bt be])] ++ F.objs ++ O.objs) ++ (T.objs ++ []) := by simp [emO]
def rowsI (l : List Ins) : List (List DV) := l.map Ins.row
theorem rowsI_app (l m : List Ins) : rowsI (l ++ m) = rowsI l ++ rowsI m := List.map_append
theorem ints_app (l m : List Int) : ints (l ++ m) = ints l ++ ints m := by simp [ints]
/-- what emit leaves -/
def EmR (bf bo bt be : Nat) (fs : List Int) (os : List Ins) (ts : List Tm) (r : DV) (ψ : Objs) : Prop :=
  r = .tup [] ∧ ∃ F O T : RS, F.is 1 (ints fs) ∧ O.is 2 (rowsI os) ∧ T.is 5 (ts.map Tm.cells) ∧ (ψ.map (·.1)).Nodup ∧ ψ = emO bf bo bt be F.v O.v T.v F O T
theorem emO_get {bf bo bt be : Nat} {vF vO vT : DV} {F O T : RS} (h : ((emO bf bo bt be vF vO vT F O T).map (·.1)).Nodup) :
    get (heapSt (emO bf bo bt be vF vO vT F O T)) (.heap bf) = some (.row [.v vF]) ∧ get (heapSt (emO bf bo bt be vF vO vT F O T)) (.heap bo) = some (.row [.v vO]) ∧ get (heapSt (emO bf bo bt be vF vO vT F O T)) (.heap bt) = some (.row [.v vT]) ∧ get (heapSt (emO bf bo bt be vF vO vT F O T)) (.heap be) = some (.row [.v (emV bf bo bt be)]) ∧
    (∀ b, F.q = some b → get (heapSt (emO bf bo bt be vF vO vT F O T)) (.heap b) = some (.row (arrRow F.full))) ∧ (∀ b, O.q = some b → get (heapSt (emO bf bo bt be vF vO vT F O T)) (.heap b) = some (.row (arrRow O.full))) ∧ (∀ b, T.q = some b → get (heapSt (emO bf bo bt be vF vO vT F O T)) (.heap b) = some (.row (arrRow T.full))) := by
  have hm : ∀ b cs, (b, cs) ∈ emO bf bo bt be vF vO vT F O T → get (heapSt (emO bf bo bt be vF vO vT F O T)) (.heap b) = some (.row (cs.map SV.v)) := fun b cs hb => get_heapSt_of h hb
  refine ⟨hm bf [vF] (by simp [emO]), hm bo [vO] (by simp [emO]), hm bt [vT] (by simp [emO]), hm be [emV bf bo bt be] (by simp [emO]), fun b hb => hm b F.full.flatten ?_, fun b hb => hm b O.full.flatten ?_, fun b hb => hm b T.full.flatten ?_⟩
  · have := RS.mem_objs (x := F).2 ⟨hb, rfl⟩
    simp [emO, this]
  · have := RS.mem_objs (x := O).2 ⟨hb, rfl⟩
    simp [emO, this]
  · have := RS.mem_objs (x := T).2 ⟨hb, rfl⟩
    simp [emO, this]
/-- the objects' blocks are apart -/
theorem emO_ne {bf bo bt be : Nat} {vF vO vT : DV} {F O T : RS} (h : ((emO bf bo bt be vF vO vT F O T).map (·.1)).Nodup) :
    (bf ≠ bo ∧ bf ≠ bt ∧ bf ≠ be ∧ bo ≠ bt ∧ bo ≠ be ∧ bt ≠ be) ∧ (F.q ≠ some bf ∧ F.q ≠ some bo ∧ F.q ≠ some bt ∧ F.q ≠ some be) ∧ (O.q ≠ some bf ∧ O.q ≠ some bo ∧ O.q ≠ some bt ∧ O.q ≠ some be) ∧ (T.q ≠ some bf ∧ T.q ≠ some bo ∧ T.q ≠ some bt ∧ T.q ≠ some be) := by
  simp only [emO, List.map_cons, List.map_append, List.nodup_cons, List.mem_cons, List.mem_append, List.mem_map, not_or] at h
  obtain ⟨⟨a1, a2, a3, a4, a5, a6⟩, ⟨b2, b3, b4, b5, b6⟩, ⟨c3, c4, c5, c6⟩, ⟨d4, d5, d6⟩, -⟩ := h
  have key : ∀ {x : RS} {b : Nat}, (¬ ∃ p, p ∈ x.objs ∧ p.1 = b) → x.q ≠ some b := fun hh e => hh ⟨_, RS.mem_objs.2 ⟨e, rfl⟩, rfl⟩
  exact ⟨⟨a1, a2, a3, b2, b3, c3⟩, ⟨key a4, key b4, key c4, key d4⟩, ⟨key a5, key b5, key c5, key d5⟩, ⟨key a6, key b6, key c6, key d6⟩⟩
theorem len_counts (l : List Tm) : l.length ≤ Tm.count.counts l := by
  induction l with
  | nil => exact Nat.zero_le _
  | cons a r ih => have := Tm.count_eq a; simp only [Tm.count.counts, List.length_cons]; omega
theorem skels_le (l : List Tm) : (Tm.skel.skels l).length ≤ Tm.count.counts l := by
  induction l with
  | nil => exact Nat.zero_le _
  | cons a r ih => have := Tm.skel_count a; simp only [Tm.skel.skels, Tm.count.counts, List.length_append]; omega
theorem subs_le (t : Tm) : t.subs.length ≤ t.count := by
  have := Tm.skel_count t
  have := len_counts t.subs
  omega
theorem skel_le (t : Tm) : t.skel.length ≤ t.count := by
  have := Tm.skel_count t
  omega
theorem subss_le (l : List Tm) : (Tm.subs.subss l).length ≤ Tm.count.counts l := by
  induction l with
  | nil => exact Nat.zero_le _
  | cons a r ih => have := subs_le a; simp only [Tm.subs.subss, Tm.count.counts, List.length_append]; omega
theorem funPos_le (n : Nat) (c : List Ins) : (funPos n c).length ≤ c.length := by
  rw [funPos_length]
  exact List.length_filter_le _ _
theorem counts_at {l : List Tm} {i : Nat} {x : Tm} (h : l[i]? = some x) : l.take (i + 1) = l.take i ++ [x] ∧ Tm.count.counts (l.take i) + x.count ≤ Tm.count.counts l := by
  have h1 : l.take (i + 1) = l.take i ++ [x] := by rw [List.take_add_one, h]; rfl
  refine ⟨h1, ?_⟩
  have h2 := Tm.counts_app (l.take (i + 1)) (l.drop (i + 1))
  rw [List.take_append_drop, h1, Tm.counts_app] at h2
  simp only [Tm.count.counts] at h2
  omega
end Go.Proofs.YtmdjiajbnifjpaaDoor.Lift

/-
  Structs of two numbers, compared.
-/
namespace Go.Proofs.YtmdjiajbnifjpaaDoor.Lift
set_option linter.unusedSimpArgs false
set_option linter.unusedVariables false
set_option linter.unnecessarySimpa false
open Go
section
variable {X : Ctx} {s s0 : St} {k : List Item}

def intB (P : Program) (t : TypeId) : Bool :=
  match P.underlying t with
  | some (.int .i64) => true
  | _ => false
theorem intB_spec {P : Program} {t : TypeId} (h : intB P t = true) : P.underlying t = some (.int .i64) := by
  unfold intB at h
  split at h
  · assumption
  · cases h
/-- a struct of two numbers -/
def insT (P : Program) (T : TypeId) : Bool :=
  match P.underlying T with
  | some (.struct fs) => match fs.toList with
    | [f, g] => (f.name != "_") && ((g.name != "_") && ((f.offset == 0) && ((g.offset == 1) && (intB P f.type && (intB P g.type && (!(P.stoodInHeld T) && !(P.eqGuardType P.depth T)))))))
    | _ => false
  | _ => false
theorem insT_spec {P : Program} {T : TypeId} (h : insT P T = true) : ∃ f g : Field, P.underlying T = some (.struct #[f, g]) ∧ f.name ≠ "_" ∧ g.name ≠ "_" ∧ f.offset = 0 ∧ g.offset = 1 ∧ P.underlying f.type = some (.int .i64) ∧ P.underlying g.type = some (.int .i64) ∧ P.stoodInHeld T = false ∧ P.eqGuardType P.depth T = false := by
  unfold insT at h
  split at h
  · rename_i fs hu
    split at h
    · rename_i f g hl
      simp only [Bool.and_eq_true, bne_iff_ne, beq_iff_eq, Bool.not_eq_true'] at h
      obtain ⟨h1, h2, h3, h4, h5, h6, h7, h8⟩ := h
      have : fs = #[f, g] := by
        cases fs with
        | mk l => simp at hl; rw [hl]
      exact ⟨f, g, by rw [hu, this], h1, h2, h3, h4, intB_spec h5, intB_spec h6, h7, h8⟩
    · cases h
  · cases h
theorem run_partI {P : Program} {w : World} {t : TypeId} (ht : P.underlying t = some (.int .i64)) (cs : Array Value) (off : Nat) {v : Value} (h : cs[off]? = some v) : (part t cs off).run P w = .ok v w := by
  simp [part, isAgg, run_underlying ht, h]
theorem run_eqI {P : Program} {w : World} {t : TypeId} (ht : P.underlying t = some (.int .i64)) (d : Nat) (a b : Int) : (Op.equalIn (d + 1) t (.int .i64 a) (.int .i64 b)).run P w = .ok (a == b) w := by
  unfold Op.equalIn
  simp [run_underlying ht]
theorem run_eqS {P : Program} {w : World} {T : TypeId} (hT : insT P T = true) (a b c d : Int) (n : Nat) : (Op.equalIn (n + 2) T (.agg #[.int .i64 a, .int .i64 b]) (.agg #[.int .i64 c, .int .i64 d])).run P w = .ok ((a == c) && (b == d)) w := by
  obtain ⟨f, g, h1, h2, h3, h4, h5, h6, h7, h8, h9⟩ := insT_spec hT
  unfold Op.equalIn
  have e1 := fun (w : World) => run_partI (w := w) h6 #[.int .i64 a, .int .i64 b] f.offset (v := .int .i64 a) (by rw [h4]; rfl)
  have e2 := fun (w : World) => run_partI (w := w) h6 #[.int .i64 c, .int .i64 d] f.offset (v := .int .i64 c) (by rw [h4]; rfl)
  have e3 := fun (w : World) => run_partI (w := w) h7 #[.int .i64 a, .int .i64 b] g.offset (v := .int .i64 b) (by rw [h5]; rfl)
  have e4 := fun (w : World) => run_partI (w := w) h7 #[.int .i64 c, .int .i64 d] g.offset (v := .int .i64 d) (by rw [h5]; rfl)
  have e5 := fun (w : World) => run_eqI (w := w) h6 n a c
  have e6 := fun (w : World) => run_eqI (w := w) h7 n b d
  have hb1 : ∀ x y : Int, (x == y) = decide (x = y) := fun x y => by by_cases h : x = y <;> simp [h]
  simp only [hb1] at e5 e6
  by_cases k1 : a = c
  · have e5' := fun (w : World) => (e5 w).trans (by rw [decide_eq_true k1])
    by_cases k2 : b = d
    · have e6' := fun (w : World) => (e6 w).trans (by rw [decide_eq_true k2])
      have hr : ((a == c) && (b == d)) = true := by simp [k1, k2]
      rw [hr]
      simp [run_underlying h1, h8, h2, h3, e1, e2, e3, e4, e5', e6']
    · have e6' := fun (w : World) => (e6 w).trans (by rw [decide_eq_false k2])
      have hr : ((a == c) && (b == d)) = false := by simp [k2]
      rw [hr]
      simp [run_underlying h1, h8, h2, h3, e1, e2, e3, e4, e5', e6']
  · have e5' := fun (w : World) => (e5 w).trans (by rw [decide_eq_false k1])
    have hr : ((a == c) && (b == d)) = false := by simp [k1]
    rw [hr]
    simp [run_underlying h1, h8, h2, h3, e1, e2, e3, e4, e5']

/-- what a comparison of structs gives -/
def eqR (neq : Bool) (a b c d : Int) : Bool := if neq then !(decide (a = c) && decide (b = d)) else decide (a = c) && decide (b = d)
theorem agg2 {D : Nat → Nat → Prop} {w : World} {a b : Int} {v : Value} (h : RV D w (.agg [dint a, dint b]) v) : v = .agg #[.int .i64 a, .int .i64 b] := by
  cases h with
  | agg cs vs hl hcell h =>
    have h0 : 0 < vs.size := by rw [hl]; simp
    have h1 : 1 < vs.size := by rw [hl]; simp
    have e0 := (prim_of (h 0 (dint a) vs[0] rfl (by simp))).1
    have e1 := (prim_of (h 1 (dint b) vs[1] rfl (by simp))).1
    congr 1
    apply Array.ext
    · rw [hl]; rfl
    · intro i hi hj
      have : i = 0 ∨ i = 1 := by simp at hj; omega
      rcases this with rfl | rfl
      · exact e0
      · exact e1
theorem step_eqS {o : Oper} {neq : Bool} {T T2 : TypeId} {x y : Operand} (ho : o.op = .binOp (if neq then .neq else .eql) T x y T2) {d : Nat} (hd : o.dst = some d) (hn : d < X.n) (hT : insT X.P T = true) {a b c e : Int}
    (hx : (evl X (get s) x).bind toD = some (.agg [dint a, dint b])) (hy : (evl X (get s) y).bind toD = some (.agg [dint c, dint e])) : StepOK X s o (upd s (.slot d) (.one (.v (dbool (eqR neq a b c e))))) := by
  intro G ac w R next Q hK
  obtain ⟨x1, hx1, hx2⟩ := Option.bind_eq_some_iff.1 hx
  obtain ⟨y1, hy1, hy2⟩ := Option.bind_eq_some_iff.1 hy
  have hv := agg2 (toD_sound hx2 (evl_sound R hx1))
  have hw := agg2 (toD_sound hy2 (evl_sound R hy1))
  obtain ⟨f, g, h1, -, -, -, -, -, -, -, h9⟩ := insT_spec hT
  refine opIn (by intro c e; rw [ho] at e; cases e) ?_
  have hq := run_eqS (w := w) hT a b c e 9998
  have hrun : (Op.equal T (.agg #[.int .i64 a, .int .i64 b]) (.agg #[.int .i64 c, .int .i64 e])).run X.P w = .ok ((a == c) && (b == e)) w := hq
  have hb1 : ∀ x y : Int, (x == y) = decide (x = y) := fun x y => by by_cases h : x = y <;> simp [h]
  have hexec : (execOp ac.eval o).run X.P w = .ok (.value (.bool (eqR neq a b c e))) w := by
    cases neq
    · simp [execOp, ho, hv, hw, eqGuard, h9, Go.binOp, hrun, eqR, hb1]
    · simp [execOp, ho, hv, hw, eqGuard, h9, Go.binOp, hrun, eqR, hb1]
  rw [hexec, upn_value, hd]
  exact hK G _ w (R.setSlot (Trans.refl X G ac w R.nil) rfl rfl (fun _ h => h) hn (.prim _ trivial))
theorem vcK_eqS {esc : List Nat} {ops : Array Oper} {l : List Oper} {K : St → Prop} {d : Tmp} {T T2 ty : TypeId} {x y : Operand} {pos : String} {af : Array Edge} {q : Option (Prop × St)} (neq : Bool) {a b c e : Int} (hn : d < X.n) (hT : insT X.P T = true)
    (hx : (evl X (get s) x).bind toD = some (.agg [dint a, dint b])) (hy : (evl X (get s) y).bind toD = some (.agg [dint c, dint e])) {op : BinOp} (hop : op = if neq then .neq else .eql) (hq : q = none)
    (h : vc X esc ops l (upd s (.slot d) (.one (.v (dbool (eqR neq a b c e))))) K) : vcK X esc ops l K ⟨some d, .binOp op T x y T2, ty, pos, af, none⟩ s q := by
  subst hq hop
  exact VL_step rfl (step_eqS (neq := neq) (o := ⟨some d, .binOp (if neq then .neq else .eql) T x y T2, ty, pos, af, none⟩) rfl rfl hn hT hx hy) (vc_sound h)
theorem vcK_eqSG {esc : List Nat} {ops : Array Oper} {l : List Oper} {K : St → Prop} {d : Tmp} {T T2 ty : TypeId} {x y : Operand} {pos : String} {af : Array Edge} {q : Option (Prop × St)} {j dj : Nat} {want : Bool} (neq : Bool) {a b c e : Int} (hn : d < X.n) (hT : insT X.P T = true)
    (hx : (evl X (get s) x).bind toD = some (.agg [dint a, dint b])) (hy : (evl X (get s) y).bind toD = some (.agg [dint c, dint e])) {op : BinOp} (hop : op = if neq then .neq else .eql) (hq : q = none)
    (hj : gsl ops j = some dj) (hjn : dj < X.n) (hb : get s (.slot dj) = some (.one (.v (.prim (.bool want)))))
    (h : vc X esc ops l (upd s (.slot d) (.one (.v (dbool (eqR neq a b c e))))) K) : vcK X esc ops l K ⟨some d, .binOp op T x y T2, ty, pos, af, some (j, want)⟩ s q := by
  subst hq hop
  exact VL_op (opOK_of (.inr ⟨j, dj, want, rfl, hj, hjn, hb⟩) (step_eqS (neq := neq) (o := ⟨some d, .binOp (if neq then .neq else .eql) T x y T2, ty, pos, af, some (j, want)⟩) rfl rfl hn hT hx hy)) (vc_sound h)
end
end Go.Proofs.YtmdjiajbnifjpaaDoor.Lift

/-
  Package code: emit, walked.
-/
namespace Go.Proofs.YtmdjiajbnifjpaaDoor.Lift
set_option linter.unusedSimpArgs false
set_option linter.unusedVariables false
set_option linter.unnecessarySimpa false
open Go
variable {gl : Globs}

set_option maxHeartbeats 1000000 in
set_option maxRecDepth 10000 in
theorem emit_ok (hop : globOf gl 0 = some opEls) (t : Tm) (bf bo bt be : Nat) : ∀ (fs : List Int) (os : List Ins) (ts : List Tm) (F O T : RS), t.shape = true → t.count ≤ 1000000 → fs.length + t.count ≤ 1000000000 → os.length + t.count ≤ 1000000000 → ts.length + t.count ≤ 1000000000 →
    F.is 1 (ints fs) → O.is 2 (rowsI os) → T.is 5 (ts.map Tm.cells) → ((emO bf bo bt be F.v O.v T.v F O T).map (·.1)).Nodup →
    Con Tryd.prog gl 48 [t.dv, ptr bf, ptr bo, ptr bt, ptr be] (emO bf bo bt be F.v O.v T.v F O T) (EmR bf bo bt be (fs ++ funPos os.length t.skel) (os ++ t.skel) (ts ++ t.subs)) := by
  induction t using Tm.ind with
  | h t ih =>
  intro fs os ts F O T hs hc hfs hos hts hF hO hT hnd
  refine t_in Tryd.func48 ?_
  intro X hP hgl hf hfn hn hR hids hfit
  have hfo := Tm.fold t
  have hlen := Tm.fit_len (hfit t.dv (by simp))
  have hge := emO_get hnd
  have hne := emO_ne hnd
  simp only [entry, argSt, List.cons_append, List.nil_append]
  refine t_rg0 ?_
  refine t_rg0 ?_
  apply W_cutM (fun x : RS × RS × RS => x.1.is 1 (ints (fs ++ funPos os.length t.skel)) ∧ x.2.1.is 2 (rowsI (os ++ if t.kind = 2 then [] else Tm.skel.skels t.args)) ∧ x.2.2.is 5 ((ts ++ t.subs).map Tm.cells) ∧ ((emO bf bo bt be x.1.v x.2.1.v x.2.2.v x.1 x.2.1 x.2.2).map (·.1)).Nodup)
    (fun x => (.slot 1, .one (.v (ptr bf))) :: (.slot 2, .one (.v (ptr bo))) :: (.slot 3, .one (.v (ptr bt))) :: (.slot 4, .one (.v (ptr be))) :: (.slot 5, .one (.loc 5 0)) :: (.loc 5, .row [.v (dint t.kind), .v (dint t.index), .v (dint t.type.kind), .v (.sl (t.type.args.map Ty.cells)), .v (.sl (t.args.map Tm.cells))]) :: heapSt (emO bf bo bt be x.1.v x.2.1.v x.2.2.v x.1 x.2.1 x.2.2))
  · intro hrest
    by_cases h2 : t.kind = 2
    · refine t_yes ?_
      obtain ⟨a, ha⟩ : ∃ a, t.args = [a] := by
        have h1 := hs
        rw [Tm.shape_eq, Bool.and_eq_true] at h1
        have h1 := h1.1
        simp only [tmKind, h2, Bool.and_eq_true, decide_eq_true_eq, arityI] at h1
        exact List.length_eq_one_iff.1 (by have := h1.1.1.1; simp at this; omega)
      have hcnt := Tm.count_eq t
      refine t_a ?_
      refine W_regF (by rw [hP]; exact mixed) 11 4 _ (by decide) (by decide) rfl (by rfl) (d := 15) (by rw [hn]; exact Nat.le_of_ble_eq_true rfl) F.q (AppP X F.q 1 F.n F.full [[dint (os.length : Int)]]) fresh_app [] fun K hK => ?_
      have hOn : O.n = os.length := by rw [hO.n_eq]; simp [rowsI]
      have hFn : F.n = fs.length := by rw [hF.n_eq]; simp [ints]
      have hTn : T.n = ts.length := by rw [hT.n_eq]; simp
      simp [go_sem, hP, hgl, hn, hge, hne, ha, hOn, markO]
      refine ⟨by omega, ?_⟩
      refine vcdF_append (E := 1) (B := 8) (q := F.q) (n := F.n) (cap := F.cap) (full := F.full) (zs := [[dint (os.length : Int)]]) (zd := [dint 0]) (by simp [go_sem, hP, hgl, hn]) (by simp [go_sem, hP, hgl, hn]) (by simp [go_sem, hP]) (by rw [hP]; kernel_rfl) rfl (by decide) (by rw [hP]; rfl) (by rw [hn]; exact Nat.le_of_ble_eq_true rfl) (fun b hb => by simp [go_sem, hge, hb]) hF.nil hF.len hF.le (by simp) (by simp [hFn]; unfold BIG; omega) hF.wid (by simp) ?_
      simp [go_sem, hP, hgl, hn, hge, hne, ha, hOn]
      refine ⟨by generalize F.q = q; cases q <;> rfl, by simp [evFree, evFree.evFree', allL, freeR, freeW, wrL, hne], ?_⟩
      intro y b cs hap hnew
      obtain ⟨F', hq', rfl, rfl, hF'⟩ := hF.app hap
      have hnew' := newA_objs (by repeat (first | exact Tail.nil _ | apply Tail.slot | apply Tail.loc)) hnd hnew
      refine VL_eff F' (emO bf bo bt be F.v O.v T.v F' O T) (by repeat (first | exact Tail.nil _ | apply Tail.slot | apply Tail.loc)) (emO_F ..) (emO_F ..) hnd hq' hnew' fun hnd1 => vc_sound (esc := [22]) ?_
      have hge1 := emO_get hnd1
      have hne1 := emO_ne hnd1
      simp [go_sem, hP, hgl, hn, hge1, hne1, ha, hOn]
      refine vcK_eff (x := T) (E := 5) (zs := [[dint a.kind, dint a.index, dint a.type.kind, .sl (a.type.args.map Ty.cells), .sl (a.args.map Tm.cells)]]) (fun T' => emO bf bo bt be F.v O.v T.v F' O T') rfl (by repeat (first | exact Tail.nil _ | apply Tail.slot | apply Tail.loc)) (emO_T ..) (fun _ => emO_T ..) hnd1 hT (free_append (E := 5) (B := 72) (zd := [dint 0, dint 0, dint 0, .sl [], .sl []]) rfl rfl (by rw [hn]; exact Nat.le_of_ble_eq_true rfl) (by simp [go_sem, hP]) (by decide) (by rw [hP]; rfl) (by simp [go_sem, hP, hgl, hn]) (by simp [go_sem, hP, hgl, hn]) (fun b hb => by simp [go_sem, hge1, hb]) hT.nil hT.len hT.le (by simp) (by simp [hTn]; unfold BIG; omega) hT.wid (by simp) (by rw [hP]; kernel_rfl) rfl) rfl ?_
      intro T' hT' hqT hnd2
      have hge2 := emO_get hnd2
      have hne2 := emO_ne hnd2
      simp only [go_sem, List.cons_append, List.nil_append]
      refine VL_boxT (agg := false) (b := bf) (c := F.v) (d := F'.v) (A := []) (B := (bo, [O.v]) :: (bt, [T.v]) :: (be, [emV bf bo bt be]) :: (F'.objs ++ (O.objs ++ T'.objs))) (emO bf bo bt be F'.v O.v T.v F' O T') (by repeat (first | exact Tail.nil _ | apply Tail.slot | apply Tail.loc)) rfl rfl hnd2 (by simp [go_sem]) (by simp [go_sem]) (by simp [go_sem, hP]) rfl rfl fun hnd3 => ?_
      simp only [List.cons_append, List.nil_append]
      refine VL_boxT (agg := false) (b := bt) (c := T.v) (d := T'.v) (A := [(bf, [F'.v]), (bo, [O.v])]) (B := (be, [emV bf bo bt be]) :: (F'.objs ++ (O.objs ++ T'.objs))) (emO bf bo bt be F'.v O.v T'.v F' O T') (by repeat (first | exact Tail.nil _ | apply Tail.slot | apply Tail.loc)) rfl rfl hnd3 (by simp [go_sem]) (by simp [go_sem]) (by simp [go_sem, hP]) rfl rfl fun hnd4 => ?_
      simp only [List.cons_append, List.nil_append]
      refine VL_nil (hK _ ?_)
      clear hK K
      have e1 : funPos os.length t.skel = [(os.length : Int)] := by rw [Tm.skel_eq, if_pos h2]; rfl
      have e2 : t.subs = [a] := by rw [Tm.subs_eq, if_pos h2, ha]
      refine W_sub [] (by simp [go_sem]) ?_ (by simp [go_sem]) (hrest (F', O, T') ⟨?_, ?_, ?_, hnd4⟩)
      · simp [go_sem, subLe_hs_self _ hnd4, ha, Tm.cells_eq]
      · rw [e1, ints_app]; exact hF'
      · simp only [if_pos h2, List.append_nil]; exact hO
      · rw [e2, List.map_append]; rw [List.map_cons, List.map_nil, Tm.cells_eq]; exact hT'
    · refine t_no ?_
      refine t_rg0 ?_
      refine t_a ?_
      have hcnt := Tm.count_eq t
      have hsh := (Tm.shapes_iff _).1 ((Bool.and_eq_true _ _ ▸ (Tm.shape_eq t ▸ hs : _ = true) : _ ∧ _).2)
      refine W_sub [] (by simp [go_sem]) ?_ (by simp [go_sem]) (W_rounds
        (fun x : Nat × RS × RS × RS => x.1 ≤ t.args.length ∧ x.2.1.is 1 (ints (fs ++ funPos os.length (Tm.skel.skels (t.args.take x.1)))) ∧ x.2.2.1.is 2 (rowsI (os ++ Tm.skel.skels (t.args.take x.1))) ∧ x.2.2.2.is 5 ((ts ++ Tm.subs.subss (t.args.take x.1)).map Tm.cells) ∧ ((emO bf bo bt be x.2.1.v x.2.2.1.v x.2.2.2.v x.2.1 x.2.2.1 x.2.2.2).map (·.1)).Nodup)
        (fun x => (.slot 1, .one (.v (ptr bf))) :: (.slot 2, .one (.v (ptr bo))) :: (.slot 3, .one (.v (ptr bt))) :: (.slot 4, .one (.v (ptr be))) :: (.slot 24, .one (.v (.sl (t.args.map Tm.cells)))) :: (.slot 25, .one (.v (dint t.args.length))) :: (.slot 26, .one (.v (dint x.1))) :: (.slot 5, .one (.loc 5 0)) :: (.loc 5, .row [.v (dint t.kind), .v (dint t.index), .v (dint t.type.kind), .v (.sl (t.type.args.map Ty.cells)), .v (.sl (t.args.map Tm.cells))]) :: heapSt (emO bf bo bt be x.2.1.v x.2.2.1.v x.2.2.2.v x.2.1 x.2.2.1 x.2.2.2))
        (fun x => t.args.length - x.1) (0, F, O, T) ⟨Nat.zero_le _, ?_, ?_, ?_, hnd⟩ ?_)
      · simp [go_sem, subLe_hs_self _ hnd]
      · simpa [Tm.skel.skels, funPos] using hF
      · simpa [Tm.skel.skels] using hO
      · simpa [Tm.subs.subss] using hT
      · rintro ⟨i, F1, O1, T1⟩ ⟨i1, i2, i3, i4, i5⟩ ihr
        simp only at i1 i2 i3 i4 i5
        have hg1 := emO_get i5
        rcases Nat.lt_or_ge i t.args.length with hlt | hgt
        · obtain ⟨x, hx⟩ : ∃ x, t.args[i]? = some x := ⟨_, List.getElem?_eq_getElem hlt⟩
          have hxm := List.mem_of_getElem? hx
          refine t_rg0 ?_
          refine t_yes ?_
          refine t_rg @hx ?_
          obtain ⟨ht1, hcx⟩ := counts_at hx
          have b1 := skels_le (t.args.take i)
          have b2 := subss_le (t.args.take i)
          have b3 := funPos_le os.length (Tm.skel.skels (t.args.take i))
          refine t_a ?_
          refine W_reg [] fun K hK => ?_
          simp [go_sem, hP, hgl, hn, hg1]
          repeat (refine ⟨by omega, ?_⟩)
          refine vcK_callVT hP hgl (f := 48) (fi := #[]) (ca := #[.pointer (some ⟨bf, 0, none⟩), .pointer (some ⟨bo, 0, none⟩), .pointer (some ⟨bt, 0, none⟩), .pointer (some ⟨be, 0, none⟩)]) (by simp [go_sem, emV]) (by simp [primOK]) (ih x hxm _ _ _ F1 O1 T1 (hsh x hxm) (by omega) (by rw [List.length_append]; omega) (by rw [List.length_append]; omega) (by rw [List.length_append]; omega) i2 i3 i4 i5) (by simp [go_sem]; rfl) (by simp [Tm.dv]) (by repeat (first | exact Tail.nil _ | apply Tail.slot | apply Tail.loc)) i5 (by rw [hn]; exact Nat.le_of_ble_eq_true rfl) rfl ?_
          rintro r ψ ⟨rfl, F2, O2, T2, q1, q2, q3, q4, rfl⟩
          refine ⟨q4, ?_⟩
          simp [go_sem]
          refine hK _ ?_
          clear hK K
          refine t_rg0 ?_
          refine t_b ?_
          refine W_sub [] (by simp [go_sem]) ?_ (by simp [go_sem]) (ihr (i + 1, F2, O2, T2) ⟨hlt, ?_, ?_, ?_, q4⟩ (by simp only; omega))
          · simp [go_sem, subLe_hs_self _ q4]
          · rw [ht1, Tm.skels_append, funPos_append]
            simpa [Tm.skel.skels] using q1
          · rw [ht1, Tm.skels_append]
            simpa [Tm.skel.skels] using q2
          · rw [ht1, Tm.subss_append]
            simpa [Tm.subs.subss] using q3
        · have hie : i = t.args.length := by omega
          refine t_rg0 ?_
          refine t_no ?_
          refine t_b ?_
          have e1 : funPos os.length t.skel = funPos os.length (Tm.skel.skels t.args) := by rw [Tm.skel_eq, if_neg h2, funPos_append]; simp [funPos, h2]
          have e2 : t.subs = Tm.subs.subss t.args := by rw [Tm.subs_eq, if_neg h2]
          rw [hie, List.take_length] at i2 i3 i4
          refine W_sub [] (by simp [go_sem]) ?_ (by simp [go_sem]) (hrest (F1, O1, T1) ⟨?_, ?_, ?_, i5⟩)
          · simp [go_sem, subLe_hs_self _ i5]
          · rw [e1]; exact i2
          · simp only [if_neg h2]; exact i3
          · rw [e2]; exact i4
  · rintro ⟨F1, O1, T1⟩ ⟨i2, i3, i4, i5⟩
    simp only at i2 i3 i4 i5
    have hg1 := emO_get i5
    have hn1 := emO_ne i5
    obtain ⟨hk1, hk2⟩ := kind_in hs
    have hOn : O1.n ≤ os.length + t.count := by
      rw [i3.n_eq]
      simp only [rowsI, List.length_map, List.length_append]
      have b1 := skels_le t.args
      have hcnt := Tm.count_eq t
      split
      · simp
      · omega
    refine t_a ?_
    refine W_regT (by rw [hP]; exact mixed) 8 (by decide) (by rfl) [] [42] fun K hK => ?_
    simp [go_sem, hP, hgl, hn, hg1]
    refine t_c trivial (byterm_okI hop t.kind hk1 hk2) ?_
    repeat (refine ⟨by omega, ?_⟩)
    refine ⟨by rfl, ?_⟩
    refine vcK_eff (x := O1) (E := 2) (zs := [[dint t.kind, dint t.index]]) (fun O2 => emO bf bo bt be F1.v O1.v T1.v F1 O2 T1) rfl (by repeat (first | exact Tail.nil _ | apply Tail.slot | apply Tail.loc)) (emO_O ..) (fun _ => emO_O ..) i5 i3 (free_append (E := 2) (B := 16) (zd := [dint 0, dint 0]) rfl rfl (by rw [hn]; exact Nat.le_of_ble_eq_true rfl) (by simp [go_sem, hP]) (by decide) (by rw [hP]; rfl) (by simp [go_sem, hP, hgl, hn]) (by simp [go_sem, hP, hgl, hn]) (fun b hb => by simp [go_sem, hg1, hb]) i3.nil i3.len i3.le (by simp) (by simp; unfold BIG; omega) i3.wid (by simp) (by rw [hP]; kernel_rfl) rfl) rfl ?_
    intro O2 hO2 hq hnd2
    simp only [go_sem, List.cons_append, List.nil_append]
    refine VL_boxT (agg := false) (b := bo) (c := O1.v) (d := O2.v) (A := [(bf, [F1.v])]) (B := (bt, [T1.v]) :: (be, [emV bf bo bt be]) :: (F1.objs ++ (O2.objs ++ T1.objs))) (emO bf bo bt be F1.v O2.v T1.v F1 O2 T1) (by repeat (first | exact Tail.nil _ | apply Tail.slot | apply Tail.loc)) rfl rfl hnd2 (by simp [go_sem]) (by simp [go_sem]) (by simp [go_sem, hP]) rfl rfl fun hnd3 => ?_
    simp only [List.cons_append, List.nil_append]
    refine VL_nil (hK _ ?_)
    clear hK K
    refine t_a ?_
    refine W_endR hP hf hfn (.tup []) (emO bf bo bt be F1.v O2.v T1.v F1 O2 T1) (by simp [go_sem, hP, hgl, hn]) ?_ hnd3 ?_ hR.2
    · repeat (first | exact objsIn_self hnd3 | refine objsIn_slot ?_ | refine objsIn_loc ?_)
    · rw [hR.1]
      refine ⟨rfl, F1, O2, T1, i2, ?_, i4, hnd3, rfl⟩
      have e1 : t.skel = (if t.kind = 2 then [] else Tm.skel.skels t.args) ++ [(t.kind, t.index)] := by
        rw [Tm.skel_eq]
        by_cases h2 : t.kind = 2
        · simp [h2]
        · rw [if_neg h2, if_neg h2]
      rw [e1, ← List.append_assoc, rowsI_app]
      exact hO2
end Go.Proofs.YtmdjiajbnifjpaaDoor.Lift

/-
  Package code: Compile, walked: the rounds over what is to be laid.
-/
namespace Go.Proofs.YtmdjiajbnifjpaaDoor.Lift
set_option linter.unusedSimpArgs false
set_option linter.unusedVariables false
set_option linter.unnecessarySimpa false
open Go
variable {gl : Globs}

theorem bfs_len (t : Tm) : (Tm.bfs [t]).length ≤ t.count := by
  have h := Tm.bfs_count [t]
  simp only [Tm.count.counts, Nat.add_zero] at h
  rw [← h]
  generalize Tm.bfs [t] = l
  induction l with
  | nil => exact Nat.zero_le _
  | cons a r ih => have := Tm.skel_pos a; simp only [List.map_cons, List.flatten_cons, List.length_append, List.length_cons]; omega
theorem bfs_mem : ∀ (q : List Tm) (x : Tm), x ∈ Tm.bfs q → x.count ≤ Tm.count.counts q
  | [], x, h => by rw [Tm.bfs_nil] at h; cases h
  | t :: r, x, h => by
    rw [Tm.bfs_cons] at h
    have h1 := Tm.skel_count t
    have h2 := Tm.skel_pos t
    rcases List.mem_cons.1 h with rfl | h
    · simp only [Tm.count.counts]; omega
    · have := bfs_mem (r ++ t.subs) x h
      rw [Tm.counts_app] at this
      simp only [Tm.count.counts]
      omega
termination_by q => Tm.count.counts q
decreasing_by
  have := Tm.skel_count t
  have := Tm.skel_pos t
  simp only [Tm.counts_app, Tm.count.counts]
  omega
/-- what is laid before round i -/
def Tm.laid (t : Tm) (i : Nat) : List (List Ins) := ((Tm.bfs [t]).take i).map Tm.skel
/-- what stands in todo before round i -/
def Tm.todo (t : Tm) (i : Nat) : List Tm := t :: ((Tm.bfs [t]).take i).flatMap Tm.subs
theorem laid_length (t : Tm) {i : Nat} (h : i ≤ (Tm.bfs [t]).length) : (t.laid i).length = i := by simp [Tm.laid, h]
theorem todo_at (t : Tm) {i : Nat} (h : i ≤ (Tm.bfs [t]).length) :
    (i = (Tm.bfs [t]).length ∧ (t.todo i).length = i) ∨ ∃ x, i < (t.todo i).length ∧ (t.todo i)[i]? = some x ∧ (Tm.bfs [t])[i]? = some x ∧ t.laid (i + 1) = t.laid i ++ [x.skel] ∧ t.todo (i + 1) = t.todo i ++ x.subs ∧ i + 1 ≤ (Tm.bfs [t]).length := by
  obtain ⟨r, h1, h2⟩ := bfs_take i [t] h
  have h1' : (Tm.bfs [t]).take i ++ r = t.todo i := h1
  have hl : ((Tm.bfs [t]).take i).length = i := by simp [h]
  cases r with
  | nil =>
    rw [Tm.bfs_nil, List.append_nil] at h2
    rw [List.append_nil] at h1'
    refine .inl ⟨?_, by rw [← h1', hl]⟩
    have := congrArg List.length h2
    rw [hl] at this
    exact this.symm
  | cons x r =>
    have hx : (Tm.bfs [t])[i]? = some x := by
      rw [h2, List.getElem?_append_right (by omega), hl, Nat.sub_self, Tm.bfs_cons]; rfl
    have ht : (Tm.bfs [t]).take (i + 1) = (Tm.bfs [t]).take i ++ [x] := by rw [List.take_add_one, hx]; rfl
    refine .inr ⟨x, ?_, ?_, hx, ?_, ?_, (List.getElem?_eq_some_iff.1 hx).1⟩
    · rw [← h1', List.length_append, hl]; simp
    · rw [← h1', List.getElem?_append_right (by omega), hl, Nat.sub_self]; rfl
    · simp [Tm.laid, ht]
    · simp [Tm.todo, ht]
theorem todo_bfs (t : Tm) (i : Nat) : (t.todo i).length ≤ t.count := by
  have h1 : (Tm.bfs [t]).length = 1 + ((Tm.bfs [t]).flatMap Tm.subs).length := by
    conv => lhs; rw [Tm.bfs_eq]
    simp; omega
  have h2 : (((Tm.bfs [t]).take i).flatMap Tm.subs).length ≤ ((Tm.bfs [t]).flatMap Tm.subs).length := by
    conv => rhs; rw [← List.take_append_drop i (Tm.bfs [t])]
    rw [List.flatMap_append, List.length_append]
    exact Nat.le_add_right _ _
  have h3 := bfs_len t
  simp only [Tm.todo, List.length_cons]
  omega
theorem laid_le (t : Tm) {i : Nat} (h : i ≤ (Tm.bfs [t]).length) : (lay (t.laid i)).length ≤ t.count + i := by
  rw [lay_length, laid_length t h]
  have h1 := Tm.bfs_count [t]
  simp only [Tm.count.counts, Nat.add_zero] at h1
  have h2 : ((t.laid i).flatten).length ≤ (((Tm.bfs [t]).map Tm.skel).flatten).length := by
    conv => rhs; rw [← List.take_append_drop i (Tm.bfs [t])]
    rw [List.map_append, List.flatten_append, List.length_append]
    exact Nat.le_add_right _ _
  omega
theorem todo_funs (t : Tm) (h : t.shape = true) (i : Nat) : (t.todo i).length = 1 + funs (lay (t.laid i)) := by
  rw [Tm.todo, Tm.laid, funs_lay_skel _ fun x hx => bfs_shape [t] (by simpa using h) x (List.mem_of_mem_take hx)]
  simp; omega
/-- a function's number is put in: the i-th function has the place of block i + 1 -/
theorem partC_put (bs : List (List Ins)) {m : Nat} (hb : bs.length = m + 1) (hm : m < funs (lay bs)) : ∃ i : Nat, (funPos 0 (lay bs))[m]? = some (i : Int) ∧ i < (partC bs).length ∧ (∃ a, (partC bs)[i]? = some (2, a)) ∧
    (partC bs).set i (2, ((lay bs).length : Nat)) = fillF (fun j => if j < m + 1 then ((startAt bs (j + 1) : Nat) : Int) else 0) 0 (lay bs) := by
  obtain ⟨i, h1, h2, h3, h4⟩ := funPos_set (fun j => if j + 1 < bs.length then ((startAt bs (j + 1) : Nat) : Int) else 0) (lay bs) 0 0 m hm
  refine ⟨i, by simpa using h1, by rw [partC, fillF_length]; exact h2, ⟨_, h3⟩, ?_⟩
  rw [partC, h4]
  refine fillF_congr fun j hj => ?_
  simp only [Nat.zero_add]
  by_cases e : j = m
  · subst e
    rw [if_pos rfl, if_pos (by omega)]
    have := startAt_all bs
    rw [hb] at this
    rw [this]
  · rw [if_neg e]
    by_cases h : j + 1 < bs.length
    · rw [if_pos h, if_pos (by omega)]
    · rw [if_neg h, if_neg (by omega)]
/-- a block is laid -/
theorem partC_lay (bs : List (List Ins)) (x : Tm) (hx : x.shape = true) {m : Nat} (hb : bs.length = m) (hm : m ≤ funs (lay bs)) :
    fillF (fun j => if j < m then ((startAt bs (j + 1) : Nat) : Int) else 0) 0 (lay bs) ++ x.skel ++ [(14, 0)] = partC (bs ++ [x.skel]) := by
  have h0 : ∀ (p : Nat → Int) (c : List Ins) (j : Nat), (∀ y ∈ c, y.1 = 2 → y.2 = 0) → (∀ k, j ≤ k → p k = 0) → fillF p j c = c := by
    intro p c
    induction c with
    | nil => intro _ _ _; rfl
    | cons y r ih =>
      obtain ⟨o, a⟩ := y
      intro j h1 h2
      simp only [fillF]
      split
      · rename_i ho
        have := h1 (o, a) (by simp) ho
        simp only at this
        rw [h2 j (Nat.le_refl _), ih (j + 1) (fun y hy => h1 y (by simp [hy])) (fun k hk => h2 k (by omega)), ho, this]
      · rw [ih j (fun y hy => h1 y (by simp [hy])) h2]
  rw [partC, lay_append, lay_one, fillF_append, Nat.zero_add, List.append_assoc]
  congr 1
  · refine fillF_congr fun j hj => ?_
    simp only [Nat.zero_add, List.length_append, List.length_singleton, hb]
    by_cases h : j < m
    · rw [if_pos h, if_pos (by omega), startAt_app _ _ (by omega)]
    · rw [if_neg h, if_neg (by omega)]
  · symm
    refine h0 _ _ _ (fun y hy h2 => ?_) fun k hk => ?_
    · rcases List.mem_append.1 hy with hy | hy
      · have := (skel_ok x hx y hy).2.2
        rw [if_neg (by omega)] at this
        exact this
      · rw [List.mem_singleton.1 hy]
    · rw [if_neg (by simp [hb]; omega)]
theorem partC_all (t : Tm) (h : t.shape = true) : partC (t.laid (Tm.bfs [t]).length) = t.codeN := by
  have e : t.laid (Tm.bfs [t]).length = t.blocks := by rw [Tm.laid, List.take_length]; rfl
  rw [e, partC, Tm.codeN, prog]
  have hf := blocks_funs t h
  refine fillF_congr fun j hj => ?_
  simp only [Nat.zero_add]
  rw [if_pos (by omega)]
theorem funPos_lay (bs : List (List Ins)) (b : List Ins) : funPos 0 (lay (bs ++ [b])) = funPos 0 (lay bs) ++ funPos (lay bs).length b := by
  rw [lay_append, lay_one, funPos_append, funPos_append, Nat.zero_add]
  simp [funPos]
end Go.Proofs.YtmdjiajbnifjpaaDoor.Lift

namespace Go.Proofs.YtmdjiajbnifjpaaDoor.Lift
set_option linter.unusedSimpArgs false
set_option linter.unusedVariables false
set_option linter.unnecessarySimpa false
open Go
variable {gl : Globs}

/-- lengths of a list's numbers, until they are too many -/
def lenL : List Int → Int → Int × Bool
  | [], n => (n, false)
  | x :: r, n => if 4096 < n + (1 + sizeI x) then (n + (1 + sizeI x), true) else lenL r (n + (1 + sizeI x))

/-- no negative numbers -/
def Val.pos (v : Val) : Prop := 0 ≤ v.num ∧ ∀ n ∈ v.list, (0 : Int) ≤ n
/-- the length ahead of the parts -/
def Val.head (v : Val) : Int := if v.kind = 1 then sizeI v.num else if v.kind = 2 then (lenL v.list 1).1 else 1
end Go.Proofs.YtmdjiajbnifjpaaDoor.Lift

namespace Go.Proofs.YtmdjiajbnifjpaaDoor.Lift
set_option linter.unusedSimpArgs false
set_option linter.unusedVariables false
set_option linter.unnecessarySimpa false
open Go
variable {gl : Globs}

def Val.checkN (v : Val) : Int := if v.nodesN.2 = true then if v.nodesN.1 > 64 then 4 else 0 else 2

end Go.Proofs.YtmdjiajbnifjpaaDoor.Lift

/-
  Plain facts: the types of terms.
-/
namespace Go.Proofs.YtmdjiajbnifjpaaDoor.Lift
set_option linter.unusedSimpArgs false
set_option linter.unusedVariables false
set_option linter.unnecessarySimpa false
open Go

def zeroTy : Ty := Ty.mk 0 []
def Ty.arg (t : Ty) (i : Nat) : Ty := t.args.getD i zeroTy
def Ty.ok (t : Ty) : Prop := t.shape = true ∧ t.count ≤ 64

theorem Ty.checkN_iff (t : Ty) : t.checkN = 0 ↔ t.ok := by
  unfold Ty.checkN Ty.ok
  split
  · split
    · rename_i h; simp; omega
    · rename_i h; simp; constructor <;> first | assumption | omega
  · rename_i h; simp [h]

namespace Tm
set_option linter.unusedSimpArgs false
set_option linter.unusedVariables false
set_option linter.unnecessarySimpa false
end Tm

theorem Ty.ok_arg {t : Ty} (h : t.ok) {a : Ty} (ha : a ∈ t.args) : a.ok := by
  obtain ⟨h1, h2⟩ := h
  rw [Ty.shape_eq, Bool.and_eq_true, Ty.shapes_iff] at h1
  have := Ty.count_mem ha
  rw [Ty.count_eq] at h2
  exact ⟨h1.2 a ha, by omega⟩

theorem Ty.ok_two {t : Ty} (h : t.ok) (hk : t.kind = 3 ∨ t.kind = 4) : t.args.length = 2 := by
  obtain ⟨h1, h2⟩ := h
  rw [Ty.shape_eq, Bool.and_eq_true] at h1
  rcases hk with hk | hk <;> simpa [tyKind, hk] using h1.1

theorem Ty.ok_args {t : Ty} (h : t.ok) (hk : t.kind = 3 ∨ t.kind = 4) : ∃ a b, t.args = [a, b] ∧ a.ok ∧ b.ok ∧ t.arg 0 = a ∧ t.arg 1 = b := by
  have h2 := Ty.ok_two h hk
  match ha : t.args, h2 with
  | [a, b], _ => exact ⟨a, b, rfl, Ty.ok_arg h (by rw [ha]; simp), Ty.ok_arg h (by rw [ha]; simp), by simp [Ty.arg, ha], by simp [Ty.arg, ha]⟩

/-- what a valid term says about its node -/
theorem Tm.shape_node {t : Tm} (h : t.shape = true) : ((t.args.length : Int) = arityI t.kind) ∧ 0 ≤ t.index ∧ (t.kind = 1 ∨ t.index = 0) ∧ (if t.kind = 2 ∨ t.kind = 6 ∨ t.kind = 9 then t.type.ok else t.type.zero = true) ∧ ∀ a ∈ t.args, a.shape = true := by
  rw [Tm.shape_eq, Bool.and_eq_true, Tm.shapes_iff] at h
  obtain ⟨h1, h2⟩ := h
  simp only [tmKind, Bool.and_eq_true, Bool.or_eq_true, decide_eq_true_eq, tyOfKind] at h1
  refine ⟨h1.1.1.1, h1.1.1.2, h1.1.2, ?_, h2⟩
  by_cases hk : t.kind = 2 ∨ t.kind = 6 ∨ t.kind = 9
  · rw [if_pos hk] at h1 ⊢; exact (Ty.checkN_iff _).1 (by simpa using h1.2)
  · rw [if_neg hk] at h1 ⊢; exact h1.2

end Go.Proofs.YtmdjiajbnifjpaaDoor.Lift

namespace Go.Proofs.YtmdjiajbnifjpaaDoor.Lift
set_option linter.unusedSimpArgs false
set_option linter.unusedVariables false
set_option linter.unnecessarySimpa false
open Go
variable {gl : Globs}

theorem ref01_fun_ok (a b : Ty) : Con1 Tryd.prog gl 46 [a.dv, b.dv] [] (Ty.mk 4 [a, b]).dv [] := by
  refine t_in Tryd.func46 ?_
  intro X hP hgl hf hfn hn hR hids hfit
  refine t_g0 ?_
  refine t_c2 trivial (ref01_copy_ok a) (ref01_copy_ok b) ?_
  refine t_r ?_
  simp [go_sem, hP, hgl, hn] <;> (try omega)
  all_goals exact t_f

theorem nat_v : (Ty.mk 1 []).dv = .agg [dint 1, .sl []] := rfl
theorem list_v : (Ty.mk 2 []).dv = .agg [dint 2, .sl []] := rfl

end Go.Proofs.YtmdjiajbnifjpaaDoor.Lift

namespace Go.Proofs.YtmdjiajbnifjpaaDoor.Lift
set_option linter.unusedSimpArgs false
set_option linter.unusedVariables false
set_option linter.unnecessarySimpa false
open Go
variable {gl : Globs}

theorem Tm.checkN_iff (t : Tm) : t.checkN = 0 ↔ t.shape = true ∧ t.count ≤ 4096 := by
  unfold Tm.checkN
  split
  · split
    · rename_i h; simp; omega
    · rename_i h; simp; constructor <;> first | assumption | omega
  · rename_i h; simp [h]

end Go.Proofs.YtmdjiajbnifjpaaDoor.Lift

/-
  Package code: Compile, walked.
-/
namespace Go.Proofs.YtmdjiajbnifjpaaDoor.Lift
set_option linter.unusedSimpArgs false
set_option linter.unusedVariables false
set_option linter.unnecessarySimpa false
open Go
variable {gl : Globs}

set_option maxHeartbeats 1000000 in
set_option maxRecDepth 10000 in
theorem compile_ok (har : globOf gl 1 = some arEls) (hop : globOf gl 0 = some opEls) (t : Tm) (ht : t.tys) (hc : t.count ≤ 1000000) :
    Con1 Tryd.prog gl 17 [t.dv] [] (.tup [.sl (rowsI t.compN.1), dint t.compN.2]) [] := by
  refine t_in Tryd.func17 ?_
  intro X hP hgl hf hfn hn hR hids hfit
  have hfo := Tm.fold t
  refine t_g0 ?_
  refine t_c1 @hfo (termscheck_ok har t ht (by omega)) ?_
  by_cases h : t.checkN = 0
  · have hsh := ((Tm.checkN_iff t).1 h).1
    refine t_rg @h ?_
    refine t_no ?_
    refine t_rg0 ?_
    refine t_rg0 ?_
    refine t_a ?_
    refine W_reg [16] fun K hK => ?_
    simp [go_sem, hP, hgl, hn, hfo]
    refine vcK_litX (E := 5) (els := [[dint t.kind, dint t.index, dint t.type.kind, .sl (t.type.args.map Ty.cells), .sl (t.args.map Tm.cells)]]) (by simp [go_sem, hP]; rfl) (by simp [go_sem, hP, hgl, hn]) ⟨rfl, by decide⟩ (by rw [hn]; exact Nat.le_of_ble_eq_true rfl) (by rfl) ?_
    intro bT hbT hwT
    simp [go_sem] at hbT
    simp [go_sem, hP, hgl, hn]
    refine hK _ ?_
    clear hK K
    refine t_rg0 ?_
    refine W_expose 6 (by simp [go_sem]; rfl) ?_
    intro bf hbf
    simp [go_sem] at hbf ⊢
    refine W_expose 5 (by simp [go_sem]; rfl) ?_
    intro bo hbo
    simp [go_sem] at hbo ⊢
    refine W_expose 7 (by simp [go_sem]; rfl) ?_
    intro bt hbt
    simp [go_sem] at hbt ⊢
    refine W_expose 8 (by simp [go_sem]; rfl) ?_
    intro be hbe
    simp [go_sem] at hbe ⊢
    refine W_nilraw ?_
    simp [nlz, nlzLV, nlzRow, nlzSV, nlzRow_arr]
    have hd : (bf ≠ bo ∧ bf ≠ bt ∧ bf ≠ be ∧ bo ≠ bt ∧ bo ≠ be ∧ bt ≠ be) ∧ (bo ≠ bf ∧ bt ≠ bf ∧ be ≠ bf ∧ bt ≠ bo ∧ be ≠ bo ∧ be ≠ bt) ∧ (bT ≠ bf ∧ bT ≠ bo ∧ bT ≠ bt ∧ bT ≠ be) ∧ (bf ≠ bT ∧ bo ≠ bT ∧ bt ≠ bT ∧ be ≠ bT) := by
      refine ⟨⟨?_, ?_, ?_, ?_, ?_, ?_⟩, ⟨?_, ?_, ?_, ?_, ?_, ?_⟩, ⟨?_, ?_, ?_, ?_⟩, ⟨?_, ?_, ?_, ?_⟩⟩ <;> intro e <;> subst e <;> simp at hbf hbo hbt hbe
    refine t_rg @hd ?_
    refine t_rg @hd ?_
    refine t_a ?_
    have hnd0 : ((emO bf bo bt be (RS.v ⟨none, 0, 0, []⟩) (RS.v ⟨none, 0, 0, []⟩) (RS.v ⟨some bT, 1, 1, [t.cells]⟩) ⟨none, 0, 0, []⟩ ⟨none, 0, 0, []⟩ ⟨some bT, 1, 1, [t.cells]⟩).map (·.1)).Nodup := by
      simp [emO, RS.objs, hd]
    refine W_sub [] (by simp [go_sem]) ?_ (by simp [go_sem]) (W_rounds
      (fun x : Nat × RS × RS × RS => x.1 ≤ (Tm.bfs [t]).length ∧ x.2.1.is 1 (ints (funPos 0 (lay (t.laid x.1)))) ∧ x.2.2.1.is 2 (rowsI (partC (t.laid x.1))) ∧ x.2.2.2.is 5 ((t.todo x.1).map Tm.cells) ∧ ((emO bf bo bt be x.2.1.v x.2.2.1.v x.2.2.2.v x.2.1 x.2.2.1 x.2.2.2).map (·.1)).Nodup)
      (fun x => (.slot 5, .one (.v (ptr bo))) :: (.slot 6, .one (.v (ptr bf))) :: (.slot 7, .one (.v (ptr bt))) :: (.slot 8, .one (.v (ptr be))) :: (.slot 9, .one (.v (dint x.1))) :: heapSt (emO bf bo bt be x.2.1.v x.2.2.1.v x.2.2.2.v x.2.1 x.2.2.1 x.2.2.2))
      (fun x => (Tm.bfs [t]).length - x.1) (0, ⟨none, 0, 0, []⟩, ⟨none, 0, 0, []⟩, ⟨some bT, 1, 1, [t.cells]⟩) ⟨Nat.zero_le _, ?_, ?_, ?_, hnd0⟩ ?_)
    · simp [go_sem, emO, RS.objs, emV, hd, Tm.cells_eq, arrRow]
    · exact ⟨fun _ => ⟨rfl, rfl⟩, rfl, by simp, Nat.le_refl _, by simp [Tm.laid, lay, funPos, ints]⟩
    · exact ⟨fun _ => ⟨rfl, rfl⟩, rfl, by simp, Nat.le_refl _, by simp [Tm.laid, lay, partC, fillF, rowsI]⟩
    · exact ⟨(fun h => nomatch h), rfl, by simp [Tm.cells_eq], Nat.le_refl _, by simp [Tm.todo]⟩
    · rintro ⟨i, F1, O1, T1⟩ ⟨i1, i2, i3, i4, i5⟩ ihr
      simp only at i1 i2 i3 i4 i5
      have hg1 := emO_get i5
      have hn1 := emO_ne i5
      have hTn : T1.n = (t.todo i).length := by rw [i4.n_eq, List.length_map]
      have hOn : O1.n = (lay (t.laid i)).length := by rw [i3.n_eq]; simp [rowsI, partC, fillF_length]
      have hFn : F1.n = funs (lay (t.laid i)) := by rw [i2.n_eq]; simp [ints, funPos_length]
      have htl := todo_bfs t i
      have hll := laid_le t i1
      have hbl := bfs_len t
      have hb1 : T1.n ≤ 2147483648 := by omega
      have hb2 : O1.n ≤ 2147483648 := by omega
      rcases todo_at t i1 with ⟨hie, hlen⟩ | ⟨x, hlt, hx, hxb, hl1, ht1, hi1⟩
      · rw [hlen] at hTn
        refine t_rg (j2 @hg1 @hTn) ?_
        refine t_no ?_
        have hall := partC_all t hsh
        rw [← hie] at hall
        rw [hall] at i3
        have hOc : O1.n = t.codeN.length := by rw [i3.n_eq]; simp [rowsI]
        by_cases h4 : 4096 < t.codeN.length
        · refine t_g (j2 @hg1 (j2 @hOc (j2 @h4 @hb2))) ?_
          refine t_r ?_
          simp [go_sem, hP, hgl, hn, Tm.compN, h, h4, rowsI] <;> (try omega)
        · have hne : rowsI t.codeN ≠ [] := by
            rw [code_lay]
            intro e
            have := congrArg List.length e
            simp only [rowsI, List.length_map, lay_length, List.length_nil] at this
            have h1 := blocks_ne t
            have h2 : t.code.length = t.blocks.length := fillB_length _ _ _
            exact h1 (List.length_eq_zero_iff.1 (by omega))
          obtain ⟨aO, haO⟩ := i3.there hne
          have hga := hg1.2.2.2.2.2.1 aO haO
          refine t_g (j2 @hg1 (j2 @hOc (j2 @h4 @hb2))) ?_
          refine t_a ?_
          refine W_sub [] (s' := [(.slot 2, .one (.v O1.v)), (.slot 3, .one (.v (dint 0))), (.heap aO, .row (arrRow O1.full))]) (by simp [go_sem]) (by simp [go_sem, hga, rowLe_arrZ]) (by simp [go_sem]) ?_
          refine W_freezeN (b := aO) (E := 2) (full := O1.full) O1.n (by simp [go_sem]) i3.wid (by rw [i3.len]; exact i3.le) (by unfold BIG; omega) (by rw [hids]; rfl) ?_
          have hle := i3.le
          have hvv : frzSV aO (rowsI t.codeN) (.v O1.v) = .v (.sl (rowsI t.codeN)) := by
            rw [← i3.els]
            unfold frzSV RS.v rawQ
            rw [haO]
            simp only [Option.map_some, List.length_take, i3.len]
            rw [if_pos ⟨trivial, by omega, hle⟩]
          rw [i3.els]
          have hv0 : frzSV aO (rowsI t.codeN) (.v (.prim (.int .i64 0))) = .v (dint 0) := rfl
          simp [go_sem, frz, frzLV, hvv, hv0]
          refine t_r ?_
          simp [go_sem, hP, hgl, hn, Tm.compN, h, h4] <;> (try omega)
      · have hlt' : (i : Int) < ((t.todo i).length : Nat) := by omega
        refine t_rg (j2 @hg1 (j2 @hTn @hlt')) ?_
        refine t_yes ?_
        refine t_rg0 ?_
        have hxs := bfs_shape [t] (by simpa using hsh) x (List.mem_of_getElem? hxb)
        have hxc : x.count ≤ t.count := by
          have := bfs_mem [t] x (List.mem_of_getElem? hxb)
          simpa [Tm.count.counts] using this
        have hfun := todo_funs t hsh i
        apply W_cutM (fun O2 : RS => O2.is 2 (rowsI (fillF (fun j => if j < i then ((startAt (t.laid i) (j + 1) : Nat) : Int) else 0) 0 (lay (t.laid i)))) ∧ ((emO bf bo bt be F1.v O2.v T1.v F1 O2 T1).map (·.1)).Nodup)
          (fun O2 => (.slot 5, .one (.v (ptr bo))) :: (.slot 6, .one (.v (ptr bf))) :: (.slot 7, .one (.v (ptr bt))) :: (.slot 8, .one (.v (ptr be))) :: (.slot 9, .one (.v (dint i))) :: heapSt (emO bf bo bt be F1.v O2.v T1.v F1 O2 T1))
        · intro hrest
          rcases Nat.eq_zero_or_pos i with h0 | h0
          · subst h0
            refine t_no ?_
            refine t_b ?_
            refine W_sub [] (by simp [go_sem]) ?_ (by simp [go_sem]) (hrest O1 ⟨?_, i5⟩)
            · simp [go_sem, subLe_hs_self _ i5]
            · simpa [Tm.laid, partC, lay, fillF] using i3
          · obtain ⟨m, rfl⟩ : ∃ m, i = m + 1 := ⟨i - 1, by omega⟩
            obtain ⟨p, p1, p2, ⟨a0, p3⟩, p4⟩ := partC_put (t.laid (m + 1)) (laid_length t i1) (by omega : m < funs (lay (t.laid (m + 1))))
            have hFe : (ints (funPos 0 (lay (t.laid (m + 1)))))[m]? = some [dint (p : Int)] := by simp [ints, p1]
            have hOe : (rowsI (partC (t.laid (m + 1))))[p]? = some [dint 2, dint a0] := by simp [rowsI, p3, Ins.row]
            obtain ⟨aF, haF⟩ := i2.there (by intro e; rw [e] at hFe; cases hFe)
            obtain ⟨aO, haO⟩ := i3.there (by intro e; rw [e] at hOe; cases hOe)
            have hF0 := i2.at hFe
            have hO0 := i3.at hOe
            have hFc : (arrRow F1.full)[m]? = some (.v (dint (p : Int))) := by
              have := arrRow_cell (E := 1) i2.wid hF0 (j := 0) rfl
              simpa using this
            have hFv : F1.v = rawS aF F1.n F1.cap := by unfold RS.v rawQ; rw [haF]; rfl
            have hOv : O1.v = rawS aO O1.n O1.cap := by unfold RS.v rawQ; rw [haO]; rfl
            have hpl : p < O1.n := by rw [i3.n_eq]; simpa [rowsI] using p2
            have hol : (arrRow O1.full).length = O1.cap * 2 := by rw [arrRow_len i3.wid, i3.len]
            have hoc := i3.le
            have hmF : m < F1.n := by omega
            have hgF := hg1.2.2.2.2.1 aF haF
            have hgO := hg1.2.2.2.2.2.1 aO haO
            have hgbf := hg1.1
            have hgbo := hg1.2.1
            refine t_yes ?_
            refine t_a ?_
            generalize hφ : emO bf bo bt be F1.v O1.v T1.v F1 O1 T1 = φ1 at hgF hgO hgbf hgbo i5 ⊢
            refine W_regT (by rw [hP]; exact mixed) 8 (by decide) (by rfl) [] [] fun K hK => ?_
            simp [go_sem, hP, hgl, hn, hgF, hgO, hgbf, hgbo, hFv, hOv, hFc, hb2]
            refine ⟨by omega, by omega, by rfl, hpl, by omega, hK _ ?_⟩
            clear hK K
            have hob1 : O1.objs = [(aO, O1.full.flatten)] := by unfold RS.objs; rw [haO]
            have hob2 : RS.objs ⟨O1.q, O1.n, O1.cap, O1.full.set p [dint 2, dint (O1.n : Nat)]⟩ = [(aO, (O1.full.set p [dint 2, dint (O1.n : Nat)]).flatten)] := by unfold RS.objs; rw [haO]
            refine t_b ?_
            refine W_putT (φ := φ1) (A := [(bf, [F1.v]), (bo, [O1.v]), (bt, [T1.v]), (be, [emV bf bo bt be])] ++ F1.objs) (B := T1.objs) (c := O1.full.flatten) (c' := (O1.full.set p [dint 2, dint (O1.n : Nat)]).flatten) (emO bf bo bt be F1.v O1.v T1.v F1 ⟨O1.q, O1.n, O1.cap, O1.full.set p [dint 2, dint (O1.n : Nat)]⟩ T1) (by repeat (first | exact TailD.nil _ _ | apply TailD.slot | apply TailD.loc)) (by rw [← hφ, emO_O, hob1]; rfl) (by rw [emO_O, hob2]; rfl) i5 ?_ fun hnd2 => ?_
            · have := put_cell i3.wid hO0 (j := 1) (by decide) (dint (O1.n : Nat))
              simpa [arrRow] using this
            · refine W_sub [] (by simp [go_sem]) ?_ (by simp [go_sem]) (hrest ⟨O1.q, O1.n, O1.cap, O1.full.set p [dint 2, dint (O1.n : Nat)]⟩ ⟨?_, hnd2⟩)
              · simp [go_sem, subLe_hs_self _ hnd2]
              · have hset := i3.set (i := p) (e := [dint 2, dint (O1.n : Nat)]) (by simpa [rowsI] using p2) rfl
                have e2 : (rowsI (partC (t.laid (m + 1)))).set p [dint 2, dint (O1.n : Nat)] = rowsI ((partC (t.laid (m + 1))).set p (2, (O1.n : Nat))) := by
                  simp [rowsI, List.map_set, Ins.row]
                rw [e2, hOn, p4] at hset
                rw [hOn]
                exact hset
        · rintro O2 ⟨o1, o2⟩
          have hg2 := emO_get o2
          have hxe : ((t.todo i).map Tm.cells)[i]? = some x.cells := by rw [List.getElem?_map, hx]; rfl
          obtain ⟨aT, haT⟩ := i4.there (by intro e; rw [e] at hxe; cases hxe)
          have hT0 := i4.at hxe
          have hrd := arrRow_rd i4.wid hT0
          rw [Tm.cells_eq x] at hrd
          have hfx := Tm.fold x
          have hTv : T1.v = rawS aT T1.n T1.cap := by unfold RS.v rawQ; rw [haT]; rfl
          have hgT := hg2.2.2.2.2.2.2 aT haT
          have hgbt := hg2.2.2.1
          have hgbe := hg2.2.2.2.1
          have hos : (fillF (fun j => if j < i then ((startAt (t.laid i) (j + 1) : Nat) : Int) else 0) 0 (lay (t.laid i))).length = (lay (t.laid i)).length := fillF_length _ _ _
          have hfl : (funPos 0 (lay (t.laid i))).length = funs (lay (t.laid i)) := funPos_length _ _
          have hcon := emit_ok hop x bf bo bt be (funPos 0 (lay (t.laid i))) (fillF (fun j => if j < i then ((startAt (t.laid i) (j + 1) : Nat) : Int) else 0) 0 (lay (t.laid i))) (t.todo i) F1 O2 T1 hxs (by omega) (by omega) (by omega) (by omega) i2 o1 i4 o2
          rw [hos] at hcon
          refine t_a ?_
          generalize hφ : emO bf bo bt be F1.v O2.v T1.v F1 O2 T1 = φ2 at hgT hgbt hgbe o2 hcon ⊢
          refine W_regT (by rw [hP]; exact mixed) 5 (by decide) (by rfl) [] [] fun K hK => ?_
          simp [go_sem, hP, hgl, hn, hgT, hgbt, hgbe, hTv, hrd, hfx]
          refine ⟨by omega, by rfl, ?_⟩
          refine vcK_callVT hP hgl (f := 48) (fi := #[]) (ca := #[.pointer (some ⟨bf, 0, none⟩), .pointer (some ⟨bo, 0, none⟩), .pointer (some ⟨bt, 0, none⟩), .pointer (some ⟨be, 0, none⟩)]) (by simp [go_sem, emV]) (by simp [primOK]) hcon (by simp [go_sem]; rfl) (by simp) (by repeat (first | exact Tail.nil _ | apply Tail.slot | apply Tail.loc)) o2 (by rw [hn]; exact Nat.le_of_ble_eq_true rfl) rfl ?_
          rintro r ψ ⟨rfl, F2, O3, T2, q1, q2, q3, q4, rfl⟩
          refine ⟨q4, ?_⟩
          simp [go_sem]
          refine hK _ ?_
          clear hK K
          have hg3 := emO_get q4
          have hO3 : O3.n ≤ 1000000000 := by
            rw [q2.n_eq]
            have := skel_le x
            simp only [rowsI, List.length_map, List.length_append]
            omega
          refine t_a ?_
          refine W_reg [45] fun K hK => ?_
          simp [go_sem, hP, hgl, hn, hg3]
          refine vcK_eff (x := O3) (E := 2) (zs := [[dint 14, dint 0]]) (fun O4 => emO bf bo bt be F2.v O3.v T2.v F2 O4 T2) rfl (by repeat (first | exact Tail.nil _ | apply Tail.slot | apply Tail.loc)) (emO_O ..) (fun _ => emO_O ..) q4 q2 (free_append (E := 2) (B := 16) (zd := [dint 0, dint 0]) rfl rfl (by rw [hn]; exact Nat.le_of_ble_eq_true rfl) (by simp [go_sem, hP]) (by decide) (by rw [hP]; rfl) (by simp [go_sem, hP, hgl, hn]) (by simp [go_sem, hP, hgl, hn]) (fun b hb => by simp [go_sem, hg3, hb]) q2.nil q2.len q2.le (by simp) (by simp; unfold BIG; omega) q2.wid (by simp) (by rw [hP]; kernel_rfl) rfl) rfl ?_
          intro O4 hO4 hq hnd2
          simp only [go_sem, List.cons_append, List.nil_append]
          refine VL_boxT (agg := false) (b := bo) (c := O3.v) (d := O4.v) (A := [(bf, [F2.v])]) (B := (bt, [T2.v]) :: (be, [emV bf bo bt be]) :: (F2.objs ++ (O4.objs ++ T2.objs))) (emO bf bo bt be F2.v O4.v T2.v F2 O4 T2) (by repeat (first | exact Tail.nil _ | apply Tail.slot | apply Tail.loc)) rfl rfl hnd2 (by simp [go_sem]) (by simp [go_sem]) (by simp [go_sem, hP]) rfl rfl fun hnd3 => ?_
          simp only [List.cons_append, List.nil_append]
          refine VL_nil (hK _ ?_)
          clear hK K
          refine t_rg0 ?_
          refine t_b ?_
          refine W_sub [] (by simp [go_sem]) ?_ (by simp [go_sem]) (ihr (i + 1, F2, O4, T2) ⟨hi1, ?_, ?_, ?_, hnd3⟩ (by simp only; omega))
          · simp [go_sem, subLe_hs_self _ hnd3]
          · rw [hl1, funPos_lay]
            exact q1
          · rw [hl1, ← partC_lay (t.laid i) x hxs (m := i) (laid_length t i1) (by omega), rowsI_app]
            exact hO4
          · rw [ht1]
            exact q3
  · refine t_g @h ?_
    refine t_r ?_
    simp [go_sem, hP, hgl, hn, Tm.compN, h, rowsI] <;> (try omega)
    all_goals exact t_f
end Go.Proofs.YtmdjiajbnifjpaaDoor.Lift

/-
  Part R of the small logic: a drawn region with two operations of several outcomes, and STRAYS: moves that only the last operations wait for.
-/
namespace Go.Proofs.YtmdjiajbnifjpaaDoor.Lift
set_option linter.unusedSimpArgs false
set_option linter.unusedVariables false
set_option linter.unnecessarySimpa false
open Go
section
variable {X : Ctx} {s s0 : St} {k : List Item}

structure Stray where
  pos : Nat
  dst : Nat
  src : Nat
  val : LV

/-- from m to n1 each operation waits for all before it but strays, from n1 on for all -/
def tailS (T : List Nat) (zs : List Stray) (m n1 n : Nat) : Bool := (List.range n).all fun j => decide (j < m) || (List.range j).all fun i => (T.getD j 0).testBit i || (decide (j < n1) && zs.any fun z => z.pos == i)
theorem tailS_spec {T : List Nat} {zs : List Stray} {m n1 n : Nat} (h : tailS T zs m n1 n = true) : ∀ j, m ≤ j → j < n → ∀ i, i < j → (T.getD j 0).testBit i = true ∨ (j < n1 ∧ ∃ z ∈ zs, z.pos = i) := by
  intro j hj hn i hi
  have := List.all_eq_true.1 h j (List.mem_range.2 hn)
  rw [Bool.or_eq_true] at this
  rcases this with h1 | h1
  · exact absurd (of_decide_eq_true h1) (by omega)
  · have h2 := List.all_eq_true.1 h1 i (List.mem_range.2 hi)
    simp only [Bool.or_eq_true, Bool.and_eq_true, decide_eq_true_eq, List.any_eq_true, beq_iff_eq] at h2
    exact h2
def tailOKS (ops : List Oper) (zs : List Stray) (q m n1 : Nat) : Bool :=
  let T := tabGo ops []
  backB 0 ops && fixB T T ops && tailS T zs m n1 ops.length && ops.all (fun o => o.guard.isNone) && zs.all fun z => decide (z.pos < m) && z.pos != q && zs.all fun y => z.src != y.dst && (y.pos != z.pos || y.dst == z.dst)

/-- the tail's events leave the strays alone -/
def tailEB (T : List Nat) (zs : List Stray) : Nat → List Ev → Bool
  | _, [] => true
  | j, x :: r => x.nm.isEmpty && (zs.all fun z => disL (wrL x.e) [.slot z.src, .slot z.dst] && ((T.getD j 0).testBit z.pos || disL x.fp [.slot z.dst])) && tailEB T zs (j + 1) r

/-- what is known while strays are out -/
def agree (zs : List Stray) (L : Nat → Bool) (s1 s : St) : Prop := ∀ l, (∀ z ∈ zs, L z.pos = false → l ≠ .slot z.dst) → get s1 l = get s l

/-- a stray's step -/
def StrayStep (X : Ctx) (ops : Array Oper) (s0 : St) (z : Stray) : Prop :=
  ∃ (oz : Oper) (ops' : Array Oper), ops[z.pos]? = some oz ∧ oz.guard = none ∧ ∀ s, get s (.slot z.src) = get s0 (.slot z.src) → OpOK X ops' oz s (apply s [(.slot z.dst, some z.val)])

section
variable {ops : Array Oper} {m n1 : Nat} {T0 : List Nat} {zs : List Stray} {K : St → Prop}

theorem stuck_ready {n : Nat} {listed : Array Bool} (hback0 : backB 0 ops.toList = true) (hsz : listed.size = ops.size) (hn : n ≤ ops.size) (hr : Region.ready .any ops listed = []) : ∀ j, j < n → Lof listed j = true := by
  intro j
  induction j using Nat.strongRecOn with
  | _ j ihj =>
    intro hj
    cases hq : Lof listed j with
    | true => rfl
    | false =>
      have hjo : j < ops.size := by omega
      have : j ∈ Region.ready .any ops listed := by
        rw [mem_ready]
        refine ⟨by rw [getD_tf (by omega)]; exact hq, ops[j], Array.getElem?_eq_getElem hjo, fun e he hb => ?_⟩
        have hlt := backB_spec hback0 j ops[j] (by simp [hjo]) e he hb
        exact ihj e.on (by omega) (by omega)
      rw [hr] at this
      cases this
theorem closed_set {listed : Array Bool} {i : Nat} {o : Oper} (hil : i < listed.size) (ho : ops[i]? = some o) (hall : ∀ e ∈ o.after, Region.binds .any e = true → Lof listed e.on = true) (hcl : Closed ops (Lof listed)) : Closed ops (Lof (listed.setIfInBounds i true)) := by
  rw [Lof_set hil]
  intro j o' hL hoj e he hb
  simp only [Bool.or_eq_true, beq_iff_eq] at hL ⊢
  rcases hL with rfl | hL
  · rw [ho] at hoj; cases hoj
    exact .inr (hall e he hb)
  · exact .inr (hcl j o' hL hoj e he hb)
/-- an operation that is wanted anyhow -/
theorem wp_of_op {o : Oper} {i : Nat} {ops' : Array Oper} {s1 s2 : St} {next : Act → World → Prop} {Q : Exit → Act → World → Prop} (ho : ops[i]? = some o) (hg : o.guard = none) (hop : OpOK X ops' o s1 s2) {G : Gh} {a : Act} {w : World} (R : Rel X G s1 a w) (hnext : ∀ G' a' w', Rel X G' s2 a' w' → next a' w') :
    wpOpIn X.F 0 X.P ops Q i next a w := by
  have := hop G a w R next Q hnext
  unfold wpOpIn
  simp only [ho]
  have hw : ∀ y, Region.wanted o y = true := fun y => by simp [Region.wanted, hg]
  simp only [hw, if_true] at this ⊢
  exact this
theorem wp_of_free {o : Oper} {i d : Nat} {a0 : Option Nat} {P : SV → Nat → List SV → Prop} {s1 sr : St} {next : Act → World → Prop} {Q : Exit → Act → World → Prop} (ho : ops[i]? = some o) (hg : o.guard = none) (hf : FreeStep X o sr d a0 P) (hle : leS sr s1) {G : Gh} {a : Act} {w : World} (R : Rel X G s1 a w)
    (hnext : ∀ y b cs, P y b cs → newA b a0 s1 → ∀ G' a' w', Rel X G' (effO d a0 y b cs s1) a' w' → next a' w') : wpOpIn X.F 0 X.P ops Q i next a w := by
  have := hf s1 hle G a w R next Q hnext
  unfold wpOpIn
  simp only [ho]
  have hw : ∀ y, Region.wanted o y = true := fun y => by simp [Region.wanted, hg]
  simp only [hw, if_true]
  exact this
theorem agree_set {L : Nat → Bool} {i : Nat} {s1 s : St} (h : agree zs L s1 s) (hi : ∀ z ∈ zs, z.pos ≠ i) : agree zs (fun j => j == i || L j) s1 s := by
  intro l hl
  refine h l fun z hz hq => hl z hz ?_
  show (z.pos == i || L z.pos) = false
  rw [hq, Bool.or_false]
  simpa using hi z hz
/-- a stray comes in -/
theorem agree_stray {L : Nat → Bool} {z : Stray} {s1 s : St} (hp : ∀ y ∈ zs, y.pos = z.pos → y.dst = z.dst) (h : agree zs L s1 s) (hv : get s (.slot z.dst) = some z.val) : agree zs (fun j => j == z.pos || L j) (apply s1 [(.slot z.dst, some z.val)]) s := by
  intro l hl
  have e : apply s1 [(.slot z.dst, some z.val)] = upd s1 (.slot z.dst) z.val := rfl
  rw [e, get_upd]
  by_cases h1 : Loc.slot z.dst = l
  · rw [if_pos h1, ← h1, hv]
  · rw [if_neg h1]
    refine h l fun y hy hq e2 => ?_
    by_cases hyz : y.pos = z.pos
    · exact h1 (by rw [e2, hp y hy hyz])
    · refine hl y hy ?_ e2
      show (y.pos == z.pos || L y.pos) = false
      rw [hq, Bool.or_false]
      simpa using hyz
theorem agree_apply {L : Nat → Bool} {s1 s : St} (h : agree zs L s1 s) (e : Eff) : agree zs L (apply s1 e) (apply s e) := by
  intro l hl
  rw [get_apply, get_apply, h l hl]
theorem agree_eff {L : Nat → Bool} {s1 s : St} (h : agree zs L s1 s) {d : Nat} {a : Option Nat} {y : SV} {b : Nat} {cs : List SV} : agree zs L (effO d a y b cs s1) (effO d a y b cs s) := by
  intro l hl
  exact effO_eq (.inl (h l hl))

/-- the tail behind the second free operation -/
theorem draw_T2 (hback0 : backB 0 ops.toList = true) (hfix0 : fixB T0 T0 ops.toList = true) (htail : ∀ j, m ≤ j → j < ops.size → ∀ i, i < j → (T0.getD j 0).testBit i = true ∨ (j < n1 ∧ ∃ z ∈ zs, z.pos = i)) (hn1 : n1 ≤ ops.size) (hmn : m ≤ n1)
    (hz : ∀ z ∈ zs, z.pos < m ∧ StrayStep X ops s0 z) (hzd : ∀ z ∈ zs, ∀ y ∈ zs, z.src ≠ y.dst ∧ (y.pos = z.pos → y.dst = z.dst)) :
    ∀ (fuel : Nat) (l : List Oper) (evs : List Ev) (S : St) (j : Nat) (listed : Array Bool) (G : Gh) (a : Act) (w : World) (s1 : St), j + l.length = n1 → m ≤ j → (∀ i o, l[i]? = some o → ops[j + i]? = some o ∧ o.guard = none) → RunL X #[] l S evs → tailEB T0 zs j evs = true →
      (∀ z ∈ zs, get S (.slot z.src) = get s0 (.slot z.src) ∧ get S (.slot z.dst) = some z.val) → VL X ops (ops.toList.drop n1) (appAll S evs) K → listed.size = ops.size → Closed ops (Lof listed) → (∀ i, j ≤ i → Lof listed i = false) → (∀ i, i < j → Lof listed i = true ∨ ∃ z ∈ zs, z.pos = i) → agree zs (Lof listed) s1 S →
      (left n1 listed).length + (ops.size - n1) ≤ fuel → Rel X G s1 a w → wpAnyIn X.F 0 X.P .any ops (Nrm X K) fuel listed a w := by
  intro fuel
  induction fuel with
  | zero =>
    intro l evs S j listed G a w s1 hj hmj hl hrun hte hzs hK hsz hcl htl hlt hag hle R
    have hall : ∀ i, i < n1 → Lof listed i = true := by
      intro i hi
      cases hq : Lof listed i with
      | true => rfl
      | false =>
        have hm : i ∈ left n1 listed := by simp [left, hi, hq]
        have := List.length_pos_of_mem hm
        omega
    have hjn : j = n1 := by
      rcases Nat.lt_or_ge j n1 with h | h
      · have := hall j h; rw [htl j (Nat.le_refl _)] at this; cases this
      · omega
    subst hjn
    have hl0 : l = [] := List.length_eq_zero_iff.1 (by omega)
    subst hl0
    have he0 : evs = [] := by cases evs with | nil => rfl | cons _ _ => exact hrun.elim
    subst he0
    have hR : Rel X G S a w := R.congr fun lc => (hag lc fun z hz1 hq => by
      have := hall z.pos (by have := (hz z hz1).1; omega)
      rw [this] at hq; cases hq).symm
    refine seq_any hback0 hfix0 (fun j' h1 h2 i hi => (htail j' (by omega) h2 i hi).resolve_right fun h => by omega) (ops.size - j) j 0 listed a w (by omega) (Nat.le_refl _) hsz (fun i hi => ?_) (by omega) ?_
    · by_cases him : i < j
      · rw [hall i him]; exact (decide_eq_true him).symm
      · rw [htl i (by omega)]; exact (decide_eq_false him).symm
    · have hw := hK j rfl G a w hR
      have hd : (ops.toList.drop j).length = ops.size - j := by simp
      rw [hd] at hw
      exact hw
  | succ fuel ih =>
    intro l evs S j listed G a w s1 hj hmj hl hrun hte hzs hK hsz hcl htl hlt hag hle R
    by_cases hall : ∀ i, i < n1 → Lof listed i = true
    · have hjn : j = n1 := by
        rcases Nat.lt_or_ge j n1 with h | h
        · have := hall j h; rw [htl j (Nat.le_refl _)] at this; cases this
        · omega
      subst hjn
      have hl0 : l = [] := List.length_eq_zero_iff.1 (by omega)
      subst hl0
      have he0 : evs = [] := by cases evs with | nil => rfl | cons _ _ => exact hrun.elim
      subst he0
      have hR : Rel X G S a w := R.congr fun lc => (hag lc fun z hz1 hq => by
        have := hall z.pos (by have := (hz z hz1).1; omega)
        rw [this] at hq; cases hq).symm
      refine seq_any hback0 hfix0 (fun j' h1 h2 i hi => (htail j' (by omega) h2 i hi).resolve_right fun h => by omega) (ops.size - j) j (fuel + 1) listed a w (by omega) (Nat.le_refl _) hsz (fun i hi => ?_) (by omega) ?_
      · by_cases him : i < j
        · rw [hall i him]; exact (decide_eq_true him).symm
        · rw [htl i (by omega)]; exact (decide_eq_false him).symm
      · have hw := hK j rfl G a w hR
        have hd : (ops.toList.drop j).length = ops.size - j := by simp
        rw [hd] at hw
        exact hw
    refine ⟨fun hr => absurd (stuck_ready hback0 hsz hn1 hr) hall, fun i hi => ?_⟩
    obtain ⟨h1, o, ho, hall1⟩ := mem_ready.1 hi
    have hio : i < ops.size := (Array.getElem?_eq_some_iff.1 ho).1
    have hil : i < listed.size := by omega
    rw [getD_tf hil] at h1
    have hall' : ∀ e ∈ o.after, Region.binds .any e = true → Lof listed e.on = true := hall1
    have hcl' := closed_set hil ho hall' hcl
    rcases Nat.lt_or_ge i j with hij | hij
    · obtain ⟨z, hz1, rfl⟩ := (hlt i hij).resolve_left fun h => by rw [h1] at h; cases h
      obtain ⟨hzm, oz, ops', hoz, hog, hst⟩ := hz z hz1
      have hlft := left_set (n := n1) hil (by omega) h1
      have hsrc : get s1 (.slot z.src) = get s0 (.slot z.src) := by
        rw [hag (.slot z.src) fun y hy _ e => by injection e with e; exact (hzd z hz1 y hy).1 e, (hzs z hz1).1]
      refine wp_of_op hoz hog (hst s1 hsrc) R fun G' a' w' R' => ih l evs S j _ G' a' w' _ hj hmj hl hrun hte hzs hK (by simpa using hsz) hcl' ?_ ?_ ?_ (by omega) R'
      · intro i' hi'
        rw [Lof_set hil]
        show (i' == z.pos || Lof listed i') = false
        rw [htl i' hi', Bool.or_false]
        simp; omega
      · intro i' hi'
        rw [Lof_set hil]
        rcases hlt i' hi' with h | h
        · exact .inl (by simp [h])
        · exact .inr h
      · rw [Lof_set hil]
        exact agree_stray (fun y hy => (hzd z hz1 y hy).2) hag (hzs z hz1).2
    · have hbit : ∀ i', i' < i → (T0.getD i 0).testBit i' = true → Lof listed i' = true := fun i' _ hb => anc_spec hback0 hfix0 hcl i o ho hall' hb
      have hij2 : i = j := by
        rcases Nat.lt_or_ge j i with h | h
        · rcases htail i (by omega) hio j h with h2 | ⟨-, z, hz1, h2⟩
          · have := hbit j h h2; rw [htl j (Nat.le_refl _)] at this; cases this
          · have := (hz z hz1).1; omega
        · omega
      subst hij2
      cases l with
      | nil =>
        have hin : i = n1 := by simpa using hj
        exact absurd (fun i' hi' => by
          rcases htail i (by omega) hio i' (by omega) with h2 | ⟨h2, -⟩
          · exact hbit i' (by omega) h2
          · omega) hall
      | cons o1 l =>
        cases evs with
        | nil => exact hrun.elim
        | cons x evs =>
          obtain ⟨hst, hrun'⟩ := hrun
          obtain ⟨ho1, hog⟩ := hl 0 o1 rfl
          rw [Nat.add_zero] at ho1
          simp only [tailEB, Bool.and_eq_true, List.all_eq_true, Bool.or_eq_true, disL_iff, List.isEmpty_iff] at hte
          obtain ⟨⟨hnm, hze⟩, hte'⟩ := hte
          have hlen1 : i + 1 + l.length = n1 := by simp at hj; omega
          have hlft := left_set (n := n1) hil (by omega) h1
          have hop := hst s1 (fun lc v hg => by
            obtain ⟨hfp, hg1⟩ := get_restr hg
            rw [hag lc fun z hz1 hq e => ?_]
            · exact hg1
            · rcases (hze z hz1).2 with h2 | h2
              · have hb := hbit z.pos (by have := (hz z hz1).1; omega) h2
                rw [hb] at hq; cases hq
              · exact h2 lc hfp (by rw [e]; simp)) (by rw [hnm]; intro n hn; cases hn)
          refine wp_of_op ho1 hog hop R fun G' a' w' R' => ih l evs (apply S x.e) (i + 1) _ G' a' w' _ hlen1 (by omega) ?_ hrun' hte' ?_ hK (by simpa using hsz) hcl' ?_ ?_ ?_ (by omega) R'
          · intro i' o' ho'
            have := hl (i' + 1) o' (by simpa using ho')
            rwa [show i + (i' + 1) = i + 1 + i' from by omega] at this
          · intro z hz1
            have hzw := (hze z hz1).1
            refine ⟨?_, ?_⟩
            · rw [get_apply_ne fun hm => hzw _ hm (by simp)]; exact (hzs z hz1).1
            · rw [get_apply_ne fun hm => hzw _ hm (by simp)]; exact (hzs z hz1).2
          · intro i' hi'
            rw [Lof_set hil]
            show (i' == i || Lof listed i') = false
            rw [htl i' (by omega), Bool.or_false]
            simp; omega
          · intro i' hi'
            rw [Lof_set hil]
            by_cases h : i' = i
            · exact .inl (by simp [h])
            · rcases hlt i' (by omega) with h | h
              · exact .inl (by simp [h])
              · exact .inr h
          · rw [Lof_set hil]
            exact agree_set (agree_apply hag x.e) fun z hz1 e => by have := (hz z hz1).1; omega

/-- up to the second free operation -/
theorem draw_T1 (hback0 : backB 0 ops.toList = true) (hfix0 : fixB T0 T0 ops.toList = true) (htail : ∀ j, m ≤ j → j < ops.size → ∀ i, i < j → (T0.getD j 0).testBit i = true ∨ (j < n1 ∧ ∃ z ∈ zs, z.pos = i)) (hn1 : n1 ≤ ops.size) (hmn : m < n1)
    (hz : ∀ z ∈ zs, z.pos < m ∧ StrayStep X ops s0 z) (hzd : ∀ z ∈ zs, ∀ y ∈ zs, z.src ≠ y.dst ∧ (y.pos = z.pos → y.dst = z.dst)) {S : St} (hzs : ∀ z ∈ zs, get S (.slot z.src) = get s0 (.slot z.src) ∧ get S (.slot z.dst) = some z.val)
    {o2 : Oper} (ho2 : ops[m]? = some o2) (hog2 : o2.guard = none) {fp2 : List Loc} {d2 : Nat} {a2 : Option Nat} {P2 : SV → Nat → List SV → Prop} (hf2 : FreeStep X o2 (restr S fp2) d2 a2 P2) (hfp2 : ∀ z ∈ zs, (T0.getD m 0).testBit z.pos = true ∨ Loc.slot z.dst ∉ fp2) (hd2 : ∀ z ∈ zs, z.src ≠ d2 ∧ z.dst ≠ d2)
    (l : List Oper) (hl : ∀ i o, l[i]? = some o → ops[m + 1 + i]? = some o ∧ o.guard = none) (hll : m + 1 + l.length = n1)
    (hnext : ∀ y b cs, P2 y b cs → newA b a2 S → ∃ evs, RunL X #[] l (effO d2 a2 y b cs S) evs ∧ tailEB T0 zs (m + 1) evs = true ∧ VL X ops (ops.toList.drop n1) (appAll (effO d2 a2 y b cs S) evs) K) :
    ∀ (fuel : Nat) (listed : Array Bool) (G : Gh) (a : Act) (w : World) (s1 : St), listed.size = ops.size → Closed ops (Lof listed) → (∀ i, m ≤ i → Lof listed i = false) → (∀ i, i < m → Lof listed i = true ∨ ∃ z ∈ zs, z.pos = i) → agree zs (Lof listed) s1 S →
      (left n1 listed).length + (ops.size - n1) ≤ fuel → Rel X G s1 a w → wpAnyIn X.F 0 X.P .any ops (Nrm X K) fuel listed a w := by
  intro fuel
  induction fuel with
  | zero =>
    intro listed G a w s1 hsz hcl htl hlt hag hle R
    have hm : m ∈ left n1 listed := by simp [left, hmn, htl m (Nat.le_refl _)]
    have := List.length_pos_of_mem hm
    omega
  | succ fuel ih =>
    intro listed G a w s1 hsz hcl htl hlt hag hle R
    refine ⟨fun hr => ?_, fun i hi => ?_⟩
    · have := stuck_ready hback0 hsz hn1 hr m hmn
      rw [htl m (Nat.le_refl _)] at this; cases this
    obtain ⟨h1, o, ho, hall1⟩ := mem_ready.1 hi
    have hio : i < ops.size := (Array.getElem?_eq_some_iff.1 ho).1
    have hil : i < listed.size := by omega
    rw [getD_tf hil] at h1
    have hall' : ∀ e ∈ o.after, Region.binds .any e = true → Lof listed e.on = true := hall1
    have hcl' := closed_set hil ho hall' hcl
    rcases Nat.lt_or_ge i m with hij | hij
    · obtain ⟨z, hz1, rfl⟩ := (hlt i hij).resolve_left fun h => by rw [h1] at h; cases h
      obtain ⟨hzm, oz, ops', hoz, hog, hst⟩ := hz z hz1
      have hlft := left_set (n := n1) hil (by omega) h1
      have hsrc : get s1 (.slot z.src) = get s0 (.slot z.src) := by
        rw [hag (.slot z.src) fun y hy _ e => by injection e with e; exact (hzd z hz1 y hy).1 e, (hzs z hz1).1]
      refine wp_of_op hoz hog (hst s1 hsrc) R fun G' a' w' R' => ih _ G' a' w' _ (by simpa using hsz) hcl' ?_ ?_ ?_ (by omega) R'
      · intro i' hi'
        rw [Lof_set hil]
        show (i' == z.pos || Lof listed i') = false
        rw [htl i' hi', Bool.or_false]
        simp; omega
      · intro i' hi'
        rw [Lof_set hil]
        rcases hlt i' hi' with h | h
        · exact .inl (by simp [h])
        · exact .inr h
      · rw [Lof_set hil]
        exact agree_stray (fun y hy => (hzd z hz1 y hy).2) hag (hzs z hz1).2
    · have hbit : ∀ i', i' < i → (T0.getD i 0).testBit i' = true → Lof listed i' = true := fun i' _ hb => anc_spec hback0 hfix0 hcl i o ho hall' hb
      have hij2 : i = m := by
        rcases Nat.lt_or_ge m i with h | h
        · rcases htail i (by omega) hio m h with h2 | ⟨-, z, hz1, h2⟩
          · have := hbit m h h2; rw [htl m (Nat.le_refl _)] at this; cases this
          · have := (hz z hz1).1; omega
        · omega
      subst hij2
      have hlft := left_set (n := n1) hil (by omega) h1
      refine wp_of_free ho2 hog2 hf2 (fun lc v hg => ?_) R fun y b cs hp hnew G' a' w' R' => ?_
      · obtain ⟨hfp, hg1⟩ := get_restr hg
        rw [hag lc fun z hz1 hq e => ?_]
        · exact hg1
        · rcases hfp2 z hz1 with h2 | h2
          · have hb := hbit z.pos (by have := (hz z hz1).1; omega) h2
            rw [hb] at hq; cases hq
          · exact h2 (by rw [← e]; exact hfp)
      · have hnew' : newA b a2 S := fun h hne hg => hnew h hne (by rw [hag (.heap h) fun z _ _ e => by cases e]; exact hg)
        obtain ⟨evs, e1, e2, e3⟩ := hnext y b cs hp hnew'
        refine draw_T2 (m := i) hback0 hfix0 htail hn1 (by omega) hz hzd fuel l evs (effO d2 a2 y b cs S) (i + 1) _ G' a' w' _ hll (by omega) hl e1 e2 ?_ e3 (by simpa using hsz) hcl' ?_ ?_ ?_ (by omega) R'
        · intro z hz1
          have hb := hd2 z hz1
          refine ⟨?_, ?_⟩
          · rw [effO_ne (by intro e; injection e with e; exact hb.1 e) (by intro e; cases e) (by intro _ _ e; cases e)]; exact (hzs z hz1).1
          · rw [effO_ne (by intro e; injection e with e; exact hb.2 e) (by intro e; cases e) (by intro _ _ e; cases e)]; exact (hzs z hz1).2
        · intro i' hi'
          rw [Lof_set hil]
          show (i' == i || Lof listed i') = false
          rw [htl i' (by omega), Bool.or_false]
          simp; omega
        · intro i' hi'
          rw [Lof_set hil]
          by_cases h : i' = i
          · exact .inl (by simp [h])
          · rcases hlt i' (by omega) with h | h
            · exact .inl (by simp [h])
            · exact .inr h
        · rw [Lof_set hil]
          exact agree_set (agree_eff hag) fun z hz1 e => by have := (hz z hz1).1; omega
end

section
variable {ops ops' : Array Oper} {m n1 q : Nat} {T0 : List Nat} {zs : List Stray} {evs : List Ev} {K : St → Prop} {d : Nat} {a0 : Option Nat}

/-- behind the free operation -/
theorem draw_S2 (hsz' : ops'.size = m) (hget : ∀ i, i < m → i ≠ q → ops'[i]? = ops[i]?) (haf : ∀ o o' : Oper, ops[q]? = some o → ops'[q]? = some o' → o'.after = o.after) (hqm : q < m) (hmn : m ≤ ops.size) (hrun : RunL X ops' ops'.toList s0 evs) (hg : ∀ i o, i < m → i ≠ q → ops[i]? = some o → o.guard = none) (hchk : chkB ops'.toList s0 evs = true)
    (hback0 : backB 0 ops.toList = true) (hfix0 : fixB T0 T0 ops.toList = true) (htail : ∀ i, m ≤ i → i < ops.size → ∀ j, j < m → (T0.getD i 0).testBit j = true ∨ ∃ z ∈ zs, z.pos = j) (hn1 : n1 ≤ ops.size) (hmn1 : m < n1)
    (hfree : evFree d a0 q evs) (hqe : ∀ x, evs[q]? = some x → ∀ l ∈ wrL x.e, l = .slot d) {y : SV} {b : Nat} {cs : List SV} (hnew : newA b a0 s0) (hfr0 : ∀ n s, fresh n s = true → fresh n (effO d a0 y b cs s) = true) 
    (hend : ∀ (fuel : Nat) (listed : Array Bool) (G : Gh) (a : Act) (w : World), listed.size = ops.size → Closed ops (Lof listed) → (∀ j, m ≤ j → Lof listed j = false) → (∀ j, j < m → Lof listed j = true ∨ ∃ z ∈ zs, z.pos = j) → (left n1 listed).length + (ops.size - n1) ≤ fuel → Rel X G (effO d a0 y b cs (sel (Lof listed) 0 evs s0)) a w → wpAnyIn X.F 0 X.P .any ops (Nrm X K) fuel listed a w) :
    ∀ (fuel : Nat) (listed : Array Bool) (G : Gh) (a : Act) (w : World), listed.size = ops.size → Closed ops (Lof listed) → (∀ j, m ≤ j → Lof listed j = false) → Lof listed q = true → (left n1 listed).length + (ops.size - n1) ≤ fuel → Rel X G (effO d a0 y b cs (sel (Lof listed) 0 evs s0)) a w →
      wpAnyIn X.F 0 X.P .any ops (Nrm X K) fuel listed a w := by
  simp only [chkB, Bool.and_eq_true] at hchk
  obtain ⟨⟨⟨hback, hfix⟩, hfr⟩, hp⟩ := hchk
  generalize tabGo ops'.toList [] = T at *
  have hlen : evs.length = m := by have := RunL_length hrun; simp at this; omega
  have hw : ∀ (j : Nat) (x : Ev), evs[j]? = some x → ∀ l ∈ wrL x.e, ∀ h, l ≠ .heap h := by
    intro j x hj l hl h e
    by_cases hjq : j = q
    · subst hjq
      have := hqe x hj l hl
      rw [this] at e
      cases e
    · have := (evFree_at hfree j x hj hjq).2 l hl
      rw [e] at this
      exact this
  intro fuel
  induction fuel with
  | zero =>
    intro listed G a w hsz hcl htl hLq hle R
    have hm : m ∈ left n1 listed := by simp [left, hmn1, htl m (Nat.le_refl _)]
    have := List.length_pos_of_mem hm
    omega
  | succ fuel ih =>
    intro listed G a w hsz hcl htl hLq hle R
    by_cases hall : ∀ j, j < m → Lof listed j = true ∨ ∃ z ∈ zs, z.pos = j
    · exact hend (fuel + 1) listed G a w hsz hcl htl hall hle R
    refine ⟨fun hr => absurd (fun j hj => .inl (stuck_ready hback0 hsz (by omega) hr j hj)) hall, fun i hi => ?_⟩
    obtain ⟨h1, o, ho, hall1⟩ := mem_ready.1 hi
    have hio : i < ops.size := (Array.getElem?_eq_some_iff.1 ho).1
    have hil : i < listed.size := by omega
    rw [getD_tf hil] at h1
    have hall' : ∀ e ∈ o.after, Region.binds .any e = true → Lof listed e.on = true := hall1
    have him : i < m := by
      rcases Nat.lt_or_ge i m with h | h
      · exact h
      · exact absurd (fun j hj => (htail i h hio j hj).imp_left fun hb => anc_spec hback0 hfix0 hcl i o ho hall' hb) hall
    have hiq : i ≠ q := fun e => by subst e; rw [hLq] at h1; cases h1
    have hcl' : Closed ops' (Lof listed) := by
      intro j o' hL ho' e he hb
      have hj : j < m := by have := (Array.getElem?_eq_some_iff.1 ho').1; omega
      by_cases hjq : j = q
      · subst hjq
        have h2 : ops[j]? = some ops[j] := Array.getElem?_eq_getElem (by omega)
        rw [haf _ _ h2 ho'] at he
        exact hcl j _ hL h2 e he hb
      · exact hcl j o' hL (by rw [← hget j hj hjq]; exact ho') e he hb
    have ho' : ops'[i]? = some o := by rw [hget i him hiq]; exact ho
    have hie : i < evs.length := by omega
    have hev : evs[i]? = some evs[i] := List.getElem?_eq_getElem hie
    have hstep := RunL_at 0 hrun i o evs[i] (by simpa using ho') hev
    have hfi := evFree_at hfree i _ hev hiq
    have hind1 : ∀ (j : Nat) (ev : Ev), evs[j]? = some ev → i < j → Lof listed j = true → apart evs[i] ev = true := by
      intro j ev hj hij hL
      have hjm : j < m := by rw [← hlen]; exact (List.getElem?_eq_some_iff.1 hj).1
      have hjo : j < ops'.size := by omega
      rcases (chkP_spec hp i j _ ev hij hev hj).2 with h | h
      · have := anc_spec hback hfix hcl' j ops'[j] (Array.getElem?_eq_getElem hjo) (fun e he hb => hcl' j _ hL (Array.getElem?_eq_getElem hjo) e he hb) (by simpa using h)
        rw [h1] at this; cases this
      · exact h
    have hind2 : ∀ (j : Nat) (ev : Ev), evs[j]? = some ev → j < i → Lof listed j = false → apart ev evs[i] = true := by
      intro j ev hj hij hL
      rcases (chkP_spec hp j i ev _ hij hj hev).2 with h | h
      · have := anc_spec hback hfix hcl' i o ho' hall' (by simpa using h)
        rw [hL] at this; cases this
      · exact h
    have hop : OpOK X ops' o (effO d a0 y b cs (sel (Lof listed) 0 evs s0)) (apply (effO d a0 y b cs (sel (Lof listed) 0 evs s0)) evs[i].e) := by
      refine hstep _ (fun l v hl => ?_) (fun n hn => ?_)
      · obtain ⟨hfp, hg⟩ := get_restr hl
        have hfl := hfi.1 l hfp
        rw [effO_ne (fun e => by subst e; exact hfl rfl) (fun e => by
          subst e
          rw [heaps_sel hw] at hg
          exact hnew b hfl (by rw [hg]; simp) rfl) (fun b' hb' e => by subst e; exact hfl hb')]
        rw [← hg]
        refine sel_diff evs 0 _ _ rfl fun j ev hj hne hw => ?_
        simp only [Nat.zero_add] at hne
        by_cases hij : j < i
        · cases hq : Lof listed j with
          | true => rw [hq] at hne; simp [hij] at hne
          | false =>
            have := hind2 j ev hj hij hq
            simp only [apart, Bool.and_eq_true, disL_iff] at this
            exact this.1.1.1 l hw hfp
        · cases hq : Lof listed j with
          | false => rw [hq] at hne; simp [hij] at hne
          | true =>
            have hne' : j ≠ i := fun e => by rw [e, h1] at hq; cases hq
            have := hind1 j ev hj (by omega) hq
            simp only [apart, Bool.and_eq_true, disL_iff] at this
            exact this.1.1.2 l hw hfp
      · refine hfr0 n _ (sel_fresh evs 0 s0 (chkF_spec hfr i _ hev n hn) fun j ev hj hL => ?_)
        simp only [Nat.zero_add] at hL
        have hne' : j ≠ i := fun e => by rw [e, h1] at hL; cases hL
        by_cases hij : j < i
        · exact (chkP_spec hp j i ev _ hij hj hev).1 n hn
        · have := hind1 j ev hj (by omega) hL
          simp only [apart, Bool.and_eq_true, allN_iff] at this
          simpa using this.2 n hn
    have hnext : ∀ G' a' w', Rel X G' (apply (effO d a0 y b cs (sel (Lof listed) 0 evs s0)) evs[i].e) a' w' → wpAnyIn X.F 0 X.P .any ops (Nrm X K) fuel (listed.setIfInBounds i true) a' w' := by
      intro G' a' w' R'
      refine ih _ G' a' w' (by simpa using hsz) ?_ ?_ ?_ ?_ ?_
      · rw [Lof_set hil]
        intro j o' hL hoj e he hb
        simp only [Bool.or_eq_true, beq_iff_eq] at hL ⊢
        rcases hL with rfl | hL
        · rw [ho] at hoj; cases hoj
          exact .inr (hall' e he hb)
        · exact .inr (hcl j o' hL hoj e he hb)
      · intro j hj
        rw [Lof_set hil]
        show (j == i || Lof listed j) = false
        rw [htl j hj, Bool.or_false]
        simp; omega
      · rw [Lof_set hil]
        show (q == i || Lof listed q) = true
        rw [hLq, Bool.or_true]
      · have := left_set (n := n1) hil (by omega) h1
        omega
      · rw [Lof_set hil]
        refine R'.congr fun l => ?_
        have hadd : get (sel (fun j => j == i || Lof listed j) 0 evs s0) l = get (apply (sel (Lof listed) 0 evs s0) evs[i].e) l := sel_add h1 evs 0 s0 (Nat.zero_le _) hev fun j ev hj hlt hL hw => by
          simp only [Nat.zero_add] at hlt hL
          have := hind1 j ev hj hlt hL
          simp only [apart, Bool.and_eq_true, disL_iff] at this
          exact this.1.2 l hw
        by_cases hl : l = .slot d ∨ l = .heap b ∨ ∃ b', a0 = some b' ∧ l = .heap b'
        · have hnw : l ∉ wrL evs[i].e := by
            intro hm
            have hfw := hfi.2 l hm
            rcases hl with rfl | rfl | ⟨b', -, rfl⟩
            · exact hfw rfl
            · exact hfw
            · exact hfw
          rw [get_apply_ne hnw]
          exact effO_eq (.inr hl)
        · have h3 := not_or.1 hl
          have h4 := not_or.1 h3.2
          have h5 : ∀ s : St, get (effO d a0 y b cs s) l = get s l := fun s => effO_ne h3.1 h4.1 fun b' hb' e => h4.2 ⟨b', hb', e⟩
          rw [h5, hadd, get_apply, get_apply, h5]
    have hgn : o.guard = none := hg i o him hiq ho
    have := hop G a w R _ (Nrm X K) hnext
    unfold wpOpIn
    simp only [ho]
    have hw : ∀ y, Region.wanted o y = true := fun y => by simp [Region.wanted, hgn]
    simp only [hw, if_true] at this ⊢
    exact this

/-- up to the free operation -/
theorem draw_S1 (hsz' : ops'.size = m) (hget : ∀ i, i < m → i ≠ q → ops'[i]? = ops[i]?) (haf : ∀ o o' : Oper, ops[q]? = some o → ops'[q]? = some o' → o'.after = o.after) (hqm : q < m) (hmn : m ≤ ops.size) (hrun : RunL X ops' ops'.toList s0 evs) (hg : ∀ i o, i < m → ops[i]? = some o → o.guard = none) (hchk : chkB ops'.toList s0 evs = true)
    (hback0 : backB 0 ops.toList = true) (hfix0 : fixB T0 T0 ops.toList = true) (htail : ∀ i, m ≤ i → i < ops.size → ∀ j, j < m → (T0.getD i 0).testBit j = true ∨ ∃ z ∈ zs, z.pos = j) (hqz : ∀ z ∈ zs, z.pos ≠ q) (hn1 : n1 ≤ ops.size) (hmn1 : m < n1)
    (hfree : evFree d a0 q evs) (hqe : ∀ x, evs[q]? = some x → ∀ l ∈ wrL x.e, l = .slot d) {oq : Oper} (hoq : ops[q]? = some oq) {evq : Ev} (hevq : evs[q]? = some evq) {P : SV → Nat → List SV → Prop} (hstepq : FreeStep X oq (restr (sel (fun j => decide (j < 0 + q)) 0 evs s0) evq.fp) d a0 P)
    (hP : ∀ y b cs, P y b cs → newA b a0 s0 → (∀ n s, fresh n s = true → fresh n (effO d a0 y b cs s) = true) ∧ ∀ (fuel : Nat) (listed : Array Bool) (G : Gh) (a : Act) (w : World), listed.size = ops.size → Closed ops (Lof listed) → (∀ j, m ≤ j → Lof listed j = false) → (∀ j, j < m → Lof listed j = true ∨ ∃ z ∈ zs, z.pos = j) → (left n1 listed).length + (ops.size - n1) ≤ fuel → Rel X G (effO d a0 y b cs (sel (Lof listed) 0 evs s0)) a w → wpAnyIn X.F 0 X.P .any ops (Nrm X K) fuel listed a w) :
    ∀ (fuel : Nat) (listed : Array Bool) (G : Gh) (a : Act) (w : World), listed.size = ops.size → Closed ops (Lof listed) → (∀ j, m ≤ j → Lof listed j = false) → Lof listed q = false → (left n1 listed).length + (ops.size - n1) ≤ fuel → Rel X G (sel (Lof listed) 0 evs s0) a w →
      wpAnyIn X.F 0 X.P .any ops (Nrm X K) fuel listed a w := by
  have hF2 := fun (y : SV) (b : Nat) (cs : List SV) (hp : P y b cs) (hn : newA b a0 s0) => draw_S2 (y := y) (b := b) (cs := cs) (K := K) hsz' hget haf hqm hmn hrun (fun i o h1 h2 h3 => hg i o h1 h3) hchk hback0 hfix0 htail hn1 hmn1 hfree hqe hn (hP y b cs hp hn).1 (hP y b cs hp hn).2
  simp only [chkB, Bool.and_eq_true] at hchk
  obtain ⟨⟨⟨hback, hfix⟩, hfr⟩, hp⟩ := hchk
  generalize tabGo ops'.toList [] = T at *
  have hlen : evs.length = m := by have := RunL_length hrun; simp at this; omega
  have hw : ∀ (j : Nat) (x : Ev), evs[j]? = some x → ∀ l ∈ wrL x.e, ∀ h, l ≠ .heap h := by
    intro j x hj l hl h e
    by_cases hjq : j = q
    · subst hjq
      have := hqe x hj l hl
      rw [this] at e
      cases e
    · have := (evFree_at hfree j x hj hjq).2 l hl
      rw [e] at this
      exact this
  intro fuel
  induction fuel with
  | zero =>
    intro listed G a w hsz hcl htl hLq hle R
    have hm : m ∈ left n1 listed := by simp [left, hmn1, htl m (Nat.le_refl _)]
    have := List.length_pos_of_mem hm
    omega
  | succ fuel ih =>
    intro listed G a w hsz hcl htl hLq hle R
    have hall : ¬ ∀ j, j < m → Lof listed j = true := fun h => by have := h q hqm; rw [hLq] at this; cases this
    refine ⟨fun hr => absurd (stuck_ready hback0 hsz (by omega) hr) hall, fun i hi => ?_⟩
    obtain ⟨h1, o, ho, hall1⟩ := mem_ready.1 hi
    have hio : i < ops.size := (Array.getElem?_eq_some_iff.1 ho).1
    have hil : i < listed.size := by omega
    rw [getD_tf hil] at h1
    have hall' : ∀ e ∈ o.after, Region.binds .any e = true → Lof listed e.on = true := hall1
    have him : i < m := by
      rcases Nat.lt_or_ge i m with h | h
      · exact h
      · rcases htail i h hio q hqm with hb | ⟨z, hz1, hz2⟩
        · have := anc_spec hback0 hfix0 hcl i o ho hall' hb
          rw [hLq] at this; cases this
        · exact absurd hz2 (hqz z hz1)
    have hcl' : Closed ops' (Lof listed) := by
      intro j o' hL ho' e he hb
      have hj : j < m := by have := (Array.getElem?_eq_some_iff.1 ho').1; omega
      by_cases hjq : j = q
      · subst hjq
        rw [hLq] at hL; cases hL
      · exact hcl j o' hL (by rw [← hget j hj hjq]; exact ho') e he hb
    have hclu : Closed ops (Lof (listed.setIfInBounds i true)) := by
      rw [Lof_set hil]
      intro j o' hL hoj e he hb
      simp only [Bool.or_eq_true, beq_iff_eq] at hL ⊢
      rcases hL with rfl | hL
      · rw [ho] at hoj; cases hoj
        exact .inr (hall' e he hb)
      · exact .inr (hcl j o' hL hoj e he hb)
    have htlu : ∀ j, m ≤ j → Lof (listed.setIfInBounds i true) j = false := by
      intro j hj
      rw [Lof_set hil]
      show (j == i || Lof listed j) = false
      rw [htl j hj, Bool.or_false]
      simp; omega
    have hie : i < evs.length := by omega
    obtain ⟨o', ho', hae⟩ : ∃ o', ops'[i]? = some o' ∧ o'.after = o.after := by
      by_cases hiq : i = q
      · subst hiq
        have h2 : ops'[i]? = some ops'[i] := Array.getElem?_eq_getElem (by omega)
        exact ⟨_, h2, haf _ _ ho h2⟩
      · exact ⟨o, by rw [hget i him hiq]; exact ho, rfl⟩
    have hind1 : ∀ (j : Nat) (ev : Ev), evs[j]? = some ev → i < j → Lof listed j = true → apart evs[i] ev = true := by
      intro j ev hj hij hL
      have hjm : j < m := by rw [← hlen]; exact (List.getElem?_eq_some_iff.1 hj).1
      have hjo : j < ops'.size := by omega
      rcases (chkP_spec hp i j _ ev hij (List.getElem?_eq_getElem hie) hj).2 with h | h
      · have := anc_spec hback hfix hcl' j ops'[j] (Array.getElem?_eq_getElem hjo) (fun e he hb => hcl' j _ hL (Array.getElem?_eq_getElem hjo) e he hb) (by simpa using h)
        rw [h1] at this; cases this
      · exact h
    have hind2 : ∀ (j : Nat) (ev : Ev), evs[j]? = some ev → j < i → Lof listed j = false → apart ev evs[i] = true := by
      intro j ev hj hij hL
      rcases (chkP_spec hp j i ev _ hij hj (List.getElem?_eq_getElem hie)).2 with h | h
      · have := anc_spec hback hfix hcl' i o' ho' (by rw [hae]; exact hall') (by simpa using h)
        rw [hL] at this; cases this
      · exact h
    have hfpk : ∀ l v, get (restr (sel (fun j => decide (j < 0 + i)) 0 evs s0) evs[i].fp) l = some v → get (sel (Lof listed) 0 evs s0) l = some v := by
      intro l v hl
      obtain ⟨hfp, hg⟩ := get_restr hl
      rw [← hg]
      refine sel_diff evs 0 _ _ rfl fun j ev hj hne hw => ?_
      simp only [Nat.zero_add] at hne
      by_cases hij : j < i
      · cases hq : Lof listed j with
        | true => rw [hq] at hne; simp [hij] at hne
        | false =>
          have := hind2 j ev hj hij hq
          simp only [apart, Bool.and_eq_true, disL_iff] at this
          exact this.1.1.1 l hw hfp
      · cases hq : Lof listed j with
        | false => rw [hq] at hne; simp [hij] at hne
        | true =>
          have hne' : j ≠ i := fun e => by rw [e, h1] at hq; cases hq
          have := hind1 j ev hj (by omega) hq
          simp only [apart, Bool.and_eq_true, disL_iff] at this
          exact this.1.1.2 l hw hfp
    have hadd : ∀ l, get (sel (fun j => j == i || Lof listed j) 0 evs s0) l = get (apply (sel (Lof listed) 0 evs s0) evs[i].e) l := fun l => sel_add h1 evs 0 s0 (Nat.zero_le _) (List.getElem?_eq_getElem hie) fun j ev hj hlt hL hw => by
      simp only [Nat.zero_add] at hlt hL
      have := hind1 j ev hj hlt hL
      simp only [apart, Bool.and_eq_true, disL_iff] at this
      exact this.1.2 l hw
    have hgn : o.guard = none := hg i o him ho
    have hwt : ∀ y, Region.wanted o y = true := fun y => by simp [Region.wanted, hgn]
    have hlft := left_set (n := n1) hil (by omega) h1
    unfold wpOpIn
    simp only [ho, hwt, if_true]
    by_cases hiq : i = q
    · subst hiq
      rw [ho] at hoq
      cases hoq
      rw [List.getElem?_eq_getElem hie] at hevq
      cases hevq
      refine hstepq _ hfpk G a w R _ (Nrm X K) fun y b cs hpb hn G' a' w' R' => ?_
      have hn0 : newA b a0 s0 := fun h hne hg => hn h hne (by rw [heaps_sel hw]; exact hg)
      refine hF2 y b cs hpb hn0 fuel _ G' a' w' (by simpa using hsz) hclu htlu (by rw [Lof_set hil]; simp) (by omega) ?_
      rw [Lof_set hil]
      refine R'.congr fun l => effO_eq ?_
      rw [hadd]
      by_cases hl : l ∈ wrL evs[i].e
      · exact .inr (.inl (hqe _ (List.getElem?_eq_getElem hie) l hl))
      · exact .inl (get_apply_ne hl)
    · have ho2 : ops'[i]? = some o := by rw [hget i him hiq]; exact ho
      have hstep := RunL_at 0 hrun i o evs[i] (by simpa using ho2) (List.getElem?_eq_getElem hie)
      have hop : OpOK X ops' o (sel (Lof listed) 0 evs s0) (apply (sel (Lof listed) 0 evs s0) evs[i].e) := by
        refine hstep _ hfpk (fun n hn => ?_)
        refine sel_fresh evs 0 s0 (chkF_spec hfr i _ (List.getElem?_eq_getElem hie) n hn) fun j ev hj hL => ?_
        simp only [Nat.zero_add] at hL
        have hne' : j ≠ i := fun e => by rw [e, h1] at hL; cases hL
        by_cases hij : j < i
        · exact (chkP_spec hp j i ev _ hij hj (List.getElem?_eq_getElem hie)).1 n hn
        · have := hind1 j ev hj (by omega) hL
          simp only [apart, Bool.and_eq_true, allN_iff] at this
          simpa using this.2 n hn
      have hnext : ∀ G' a' w', Rel X G' (apply (sel (Lof listed) 0 evs s0) evs[i].e) a' w' → wpAnyIn X.F 0 X.P .any ops (Nrm X K) fuel (listed.setIfInBounds i true) a' w' := by
        intro G' a' w' R'
        refine ih _ G' a' w' (by simpa using hsz) hclu htlu ?_ (by omega) ?_
        · rw [Lof_set hil]
          show (q == i || Lof listed q) = false
          rw [hLq, Bool.or_false]
          simpa using fun e => hiq e.symm
        · rw [Lof_set hil]
          exact R'.congr hadd
      have := hop G a w R _ (Nrm X K) hnext
      simp only [hwt, if_true] at this
      exact this
end

/-- a run of operations each with one outcome -/
def vcdN (X : Ctx) (esc : List Nat) (K : St → List Ev → Prop) : List Oper → St → List Ev → Prop
  | [], s, ev => K s ev.reverse
  | o :: l, s, ev => o.guard = none ∧ vcdA X esc #[] [] l (fun _ => False) (vcdN X esc K l) o ev s (fpOf X (get s) o.op)
theorem vcdN_nil {esc : List Nat} {K : St → List Ev → Prop} {ev : List Ev} : vcdN X esc K [] s ev = K s ev.reverse := by rw [vcdN]
theorem vcdN_op {esc : List Nat} {K : St → List Ev → Prop} {ev : List Ev} {l : List Oper} (d : Option Tmp) (op : Op) (ty : TypeId) (pos : String) (af : Array Edge) :
    vcdN X esc K (⟨d, op, ty, pos, af, none⟩ :: l) s ev = vcdA X esc #[] [] l (fun _ => False) (vcdN X esc K l) ⟨d, op, ty, pos, af, none⟩ ev s (fpOf X (get s) op) := by rw [vcdN]; simp
attribute [go_sem] vcdN_nil vcdN_op
theorem vcdN_sound {esc : List Nat} {K : St → List Ev → Prop} : ∀ {l : List Oper} {s : St} {ev : List Ev}, vcdN X esc K l s ev → ∃ evs, RunL X #[] l s evs ∧ K (appAll s evs) (ev.reverse ++ evs)
  | [], s, ev, h => ⟨[], trivial, by rw [List.append_nil]; exact h⟩
  | o :: l, s, ev, h => by
    unfold vcdN vcdA vcdB vcdC at h
    obtain ⟨hg, h⟩ := h
    split at h
    · rename_i c s1' hs
      obtain ⟨evs, h1, h3⟩ := vcdN_sound h.2
      refine ⟨⟨fpOf X (get s) o.op, effOf s1' (wrOp X (get (restr s (fpOf X (get s) o.op))) o.dst o.op), nmOf o.dst o.op⟩ :: evs, ⟨locStep_of hs h.1 (.inl hg), h1⟩, ?_⟩
      simpa [appAll] using h3
    · obtain ⟨evs, -, -, h⟩ := h
      exact h.elim

/-- what is known of the strays behind the prefix -/
def strayE (zs : List Stray) (evs : List Ev) (s' : St) : Prop := ∀ z ∈ zs, evs[z.pos]? = some ⟨[.slot z.src], [(.slot z.dst, some z.val)], []⟩ ∧ (evs.all fun x => disL (wrL x.e) [.slot z.src]) = true ∧ get s' (.slot z.dst) = some z.val

/-- what follows the first free operation: the second, and the tail -/
def afterS (X : Ctx) (ops : Array Oper) (zs : List Stray) (m n1 : Nat) (o2 : Oper) (K : St → Prop) (S : St) : Prop :=
  ∃ (fp2 : List Loc) (d2 : Nat) (a2 : Option Nat) (P2 : SV → Nat → List SV → Prop), FreeStep X o2 (restr S fp2) d2 a2 P2 ∧ (zs.all fun z => ((tabGo ops.toList []).getD m 0).testBit z.pos || disL fp2 [.slot z.dst]) = true ∧ (∀ z ∈ zs, z.src ≠ d2 ∧ z.dst ≠ d2) ∧
    ∀ y2 b2 cs2, P2 y2 b2 cs2 → newA b2 a2 S → ∃ evs, RunL X #[] ((ops.toList.drop (m + 1)).take (n1 - (m + 1))) (effO d2 a2 y2 b2 cs2 S) evs ∧ tailEB (tabGo ops.toList []) zs (m + 1) evs = true ∧ VL X ops (ops.toList.drop n1) (appAll (effO d2 a2 y2 b2 cs2 S) evs) K
theorem leS_restr {s1 s : St} (h : leS s1 s) (fp : List Loc) : leS (restr s1 fp) (restr s fp) := fun l v hg => by
  obtain ⟨h1, h2⟩ := get_restr hg
  exact get_restr_mem h1 (h l v h2)
theorem leS_apply {s1 s : St} (h : leS s1 s) (e : Eff) : leS (apply s1 e) (apply s e) := fun l v hg => by
  rw [get_apply] at hg ⊢
  cases hq : e.says l with
  | none => rw [hq] at hg; exact h l v hg
  | some u => rw [hq] at hg; exact hg
theorem leS_trans {s1 s2 s3 : St} (h1 : leS s1 s2) (h2 : leS s2 s3) : leS s1 s3 := fun l v h => h2 l v (h1 l v h)
theorem leS_effO {s1 s : St} (h : leS s1 s) (d : Nat) (a : Option Nat) (y : SV) (b : Nat) (cs : List SV) : leS (effO d a y b cs s1) (effO d a y b cs s) := fun l v hg => by
  unfold effO at hg ⊢
  rw [get_upd] at hg ⊢
  by_cases h1 : Loc.heap b = l
  · rw [if_pos h1] at hg ⊢; exact hg
  · rw [if_neg h1] at hg ⊢
    rw [get_upd] at hg ⊢
    by_cases h2 : Loc.slot d = l
    · rw [if_pos h2] at hg ⊢; exact hg
    · rw [if_neg h2] at hg ⊢
      cases a with
      | none => exact h l v hg
      | some b0 =>
        simp only [delO, get_del] at hg ⊢
        split
        · rename_i h3; rw [if_pos h3] at hg; exact hg
        · rename_i h3; rw [if_neg h3] at hg; exact h l v hg
theorem RunL_le {ops : Array Oper} : ∀ {l : List Oper} {s1 s : St} {evs : List Ev}, leS s1 s → RunL X ops l s1 evs → RunL X ops l s evs
  | [], _, _, [], _, _ => trivial
  | o :: l, s1, s, ev :: evs, h, hr => ⟨fun s' hs => hr.1 s' (leS_trans (leS_restr h ev.fp) hs), RunL_le (leS_apply h ev.e) hr.2⟩
  | [], _, _, _ :: _, _, hr => hr.elim
  | _ :: _, _, _, [], _, hr => hr.elim
theorem leS_appAll {s1 s : St} (h : leS s1 s) : ∀ (evs : List Ev), leS (appAll s1 evs) (appAll s evs) := by
  intro evs
  induction evs generalizing s1 s with
  | nil => exact h
  | cons ev r ih => exact ih (leS_apply h ev.e)
theorem afterS_le {ops : Array Oper} {zs : List Stray} {m n1 : Nat} {o2 : Oper} {K : St → Prop} {S1 S : St} (h : leS S1 S) (ha : afterS X ops zs m n1 o2 K S1) : afterS X ops zs m n1 o2 K S := by
  obtain ⟨fp2, d2, a2, P2, h1, h2, h3, h4⟩ := ha
  refine ⟨fp2, d2, a2, P2, fun s hs => h1 s (leS_trans (leS_restr h fp2) hs), h2, h3, fun y b cs hp hn => ?_⟩
  obtain ⟨evs, e1, e2, e3⟩ := h4 y b cs hp fun hh hne hg => hn hh hne (by
    cases hq : get S1 (.heap hh) with
    | none => exact absurd hq hg
    | some v => rw [h _ _ hq]; simp)
  have hle := leS_effO h d2 a2 y b cs
  exact ⟨evs, RunL_le hle e1, e2, VL_le (leS_appAll hle evs) e3⟩
/-- the second is an append to a raw slice, in a state that ends in objects -/
theorem afterS_app {ops : Array Oper} {zs : List Stray} {m n1 : Nat} {esc2 : List Nat} {K : St → Prop} {S l : St} {φ A B : Objs} {x : RS} {E Bz : Nat} {ys ws : List (List DV)} (ψ : RS → Objs) (ht : Tail S l φ) (hφ : φ = A ++ (x.objs ++ B)) (hψ : ∀ x', ψ x' = A ++ (x'.objs ++ B)) (hnd : (φ.map (·.1)).Nodup) (hi : x.is E ys)
    {d : Nat} {xo yo : Operand} {T T2 ty : TypeId} {pos : String} {af : Array Edge} {zd : List DV} (hx : evl X (get S) xo = some (.v x.v)) (hy : evl X (get S) yo = some (.v (.sl ws)))
    (he : elemZ X.P T = some (E, Bz)) (hz : zeroE X.P T = some zd) (hzc : cellB zd = true) (hB : 0 < Bz ∧ Bz ≤ 1024) (h2 : (elemT X.P T2).isSome = true) (hn : d < X.n)
    (hrow : ∀ b, x.q = some b → get S (.heap b) = some (.row (arrRow x.full))) (hpos : 0 < ws.length) (hbig : x.n + ws.length ≤ BIG) (hE2 : ∀ e ∈ ws, e.length = E)
    (hb : (zs.all fun z => ((tabGo ops.toList []).getD m 0).testBit z.pos || disL (slotsOf [xo, yo] ++ qL x.q) [.slot z.dst]) = true) (hd2 : ∀ z ∈ zs, z.src ≠ d ∧ z.dst ≠ d)
    (h : ∀ x' : RS, x'.is E (ys ++ ws) → (∃ b, x'.q = some b) → ((ψ x').map (·.1)).Nodup → vcdN X esc2 (fun s3 evs3 => tailEB (tabGo ops.toList []) zs (m + 1) evs3 = true ∧ VL X ops (ops.toList.drop n1) s3 K) ((ops.toList.drop (m + 1)).take (n1 - (m + 1))) (upd l (.slot d) (.one (.v x'.v)) ++ heapSt (ψ x')) []) :
    afterS X ops zs m n1 ⟨some d, .call { callee := .builtin .append, args := #[xo, yo], argTypes := #[T, T2] }, ty, pos, af, none⟩ K S := by
  have hsl : ∀ z : Operand, z = xo ∨ z = yo → ∀ t, z = .tmp t → Loc.slot t ∈ slotsOf [xo, yo] ++ qL x.q := by
    intro z hz t ht
    subst ht
    refine List.mem_append.2 (.inl ?_)
    rcases hz with rfl | rfl
    · simp [slotsOf]
    · cases xo <;> simp [slotsOf]
  have hy' : evl X (get (restr S (slotsOf [xo, yo] ++ qL x.q))) yo = some (.v (.sl ws)) := evl_restr (hsl yo (.inr rfl)) (fun _ _ h => h) hy
  refine ⟨slotsOf [xo, yo] ++ qL x.q, d, x.q, AppP X x.q E x.n x.full ws, free_append (cap := x.cap) (o := ⟨some d, .call { callee := .builtin .append, args := #[xo, yo], argTypes := #[T, T2] }, ty, pos, af, none⟩) rfl rfl hn he hB h2 (evl_restr (hsl xo (.inl rfl)) (fun _ _ h => h) hx) (by rw [hy']; rfl) (fun b hb => ?_) hi.nil hi.len hi.le hpos hbig hi.wid hE2 hz hzc, hb, hd2, fun y b cs hap hnew => ?_⟩
  · refine get_restr_mem (List.mem_append.2 (.inr ?_)) (hrow b hb)
    rw [hb]
    exact List.mem_singleton.2 rfl
  · obtain ⟨x', hq', rfl, rfl, hx'⟩ := hi.app hap
    have h0 := newA_objs ht hnd hnew
    subst hφ
    obtain ⟨hs, hl⟩ := ht.spec
    subst hs
    obtain ⟨h1, h2⟩ := eff_objs (d := d) (y := .v x'.v) hl hnd hq' h0
    have h3 := h x' hx' ⟨b, hq'⟩ (by rw [hψ]; exact h2)
    rw [hψ] at h3
    obtain ⟨evs, e1, e2, e3⟩ := vcdN_sound h3
    exact ⟨evs, RunL_le h1 e1, e2, VL_le (leS_appAll h1 evs) e3⟩

theorem afterS_eff {ops : Array Oper} {zs : List Stray} {m n1 : Nat} {o2 : Oper} {K : St → Prop} {s l : St} {φ A B : Objs} {x : RS} {b d : Nat} {y : SV} (x' : RS) (ψ : Objs) (ht : Tail s l φ) (hφ : φ = A ++ (x.objs ++ B)) (hψ : ψ = A ++ (x'.objs ++ B)) (hnd : (φ.map (·.1)).Nodup) (hx : x'.q = some b) (hnew : ∀ h, x.q ≠ some h → (∃ cs, (h, cs) ∈ φ) → b ≠ h)
    (h : (ψ.map (·.1)).Nodup → afterS X ops zs m n1 o2 K (upd l (.slot d) (.one y) ++ heapSt ψ)) : afterS X ops zs m n1 o2 K (effO d x.q y b (arrRow x'.full) s) := by
  subst hφ hψ
  obtain ⟨hs, hl⟩ := ht.spec
  subst hs
  obtain ⟨h1, h2⟩ := eff_objs (d := d) (y := y) hl hnd hx hnew
  exact afterS_le h1 (h h2)

/-- A DRAWN REGION WITH TWO OPERATIONS OF SEVERAL OUTCOMES (q and m) AND STRAYS -/
theorem W_regS {id : Nat} {ops : Array Oper} {s : St} (hm : X.P.follows .mixedOrders = true) (zs : List Stray) (q m n1 : Nat) (oq o2 : Oper) (hmn : m < n1) (hn1 : n1 ≤ ops.size) (hqm : q < m) (hoq : ops[q]? = some oq) (ho2 : ops[m]? = some o2) (hfull : tailOKS ops.toList zs q m n1 = true) {d : Nat} (hd : d < X.n) (a0 : Option Nat) (P : SV → Nat → List SV → Prop)
    (hfr : ∀ y b cs, P y b cs → ∀ n s, fresh n s = true → fresh n (effO d a0 y b cs s) = true) (esc : List Nat)
    (h : ∀ K : St → Prop, (∀ s', W X k s' → K s') → vcdF X esc ((ops.toList.take m).set q (dumOp d oq)).toArray s oq d a0 P (fun s' evs => evFree d a0 q evs ∧ strayE zs evs s' ∧ ∀ y b cs, P y b cs → newA b a0 s →
      afterS X ops zs m n1 o2 K (effO d a0 y b cs s')) (markO q (ops.toList.take m)) s []) : W X (.code (.region id ops true) :: k) s := by
  intro G a w b cs hf hk hr R
  simp only [tailOKS, Bool.and_eq_true, List.all_eq_true] at hfull
  obtain ⟨⟨⟨⟨t1, t2⟩, t3⟩, t4⟩, t5⟩ := hfull
  have t3 := tailS_spec t3
  have hgn : ∀ (i : Nat) (o : Oper), ops[i]? = some o → o.guard = none := fun i o ho => by
    have := t4 o (List.mem_of_getElem? (i := i) (by simpa using ho))
    cases hq : o.guard with
    | none => rfl
    | some _ => rw [hq] at this; cases this
  have t6 : ∀ z ∈ zs, z.pos < m ∧ z.pos ≠ q := fun z hz => by
    have := (t5 z hz).1
    simpa using this
  have t7 : ∀ z ∈ zs, ∀ y ∈ zs, z.src ≠ y.dst ∧ (y.pos = z.pos → y.dst = z.dst) := fun z hz y hy => by
    have h1 := (t5 z hz).2 y hy
    simp only [Bool.and_eq_true, bne_iff_ne, Bool.or_eq_true, beq_iff_eq] at h1
    exact ⟨h1.1, fun e => h1.2.resolve_left fun hne => hne e⟩
  obtain ⟨evs, h1, h2, ⟨h3, hst, h5⟩, h4⟩ := vcdF_sound hd (h (fun s' => W X k s') (fun _ h => h))
  have htq : (ops.toList.take m)[q]? = some oq := by rw [List.getElem?_take_of_lt hqm]; simpa using hoq
  obtain ⟨m1, m2⟩ := markO_spec d oq q _ htq
  rw [m2] at h1
  rw [List.reverse_nil, List.nil_append] at h2 h3 hst
  have hlen : evs.length = m := by
    have := RunL_length h1
    simp at this
    omega
  have hqe : evs[q]? = some (evs[q]'(by omega)) := List.getElem?_eq_getElem (by omega)
  obtain ⟨k1, k2⟩ := h4 q _ 0 m1 hqe
  have hsrc : ∀ z ∈ zs, ∀ (L : Nat → Bool), get (sel L 0 evs s) (.slot z.src) = get s (.slot z.src) := by
    intro z hz L
    rw [← sel_none (L := fun _ => false) evs 0 s fun _ _ => rfl]
    refine sel_diff evs 0 _ _ ?_ fun j x hj _ hm => ?_
    · rw [sel_none _ _ _ fun _ _ => rfl]
    · have h6 := (hst z hz).2.1
      rw [List.all_eq_true] at h6
      exact (disL_iff _ _).1 (h6 x (List.mem_of_getElem? hj)) _ hm (by simp)
  have hdd : ∀ z ∈ zs, z.src ≠ d ∧ z.dst ≠ d := fun z hz => by
    have h6 := evFree_at h3 z.pos _ (hst z hz).1 (t6 z hz).2
    exact ⟨h6.1 (.slot z.src) (by simp), h6.2 (.slot z.dst) (by simp [wrL])⟩
  have hzz : ∀ z ∈ zs, z.pos < m ∧ StrayStep X ops s z := by
    intro z hz
    have hzm := (t6 z hz).1
    have hzo : z.pos < ops.size := by omega
    refine ⟨hzm, ops[z.pos], ((ops.toList.take m).set q (dumOp d oq)).toArray, Array.getElem?_eq_getElem hzo, hgn z.pos _ (Array.getElem?_eq_getElem hzo), fun s' hs' => ?_⟩
    refine RunL_at 0 h1 z.pos ops[z.pos] _ ?_ (hst z hz).1 s' (fun l v hg => ?_) (fun n hn => by cases hn)
    · simp [List.getElem?_set, (t6 z hz).2.symm, List.getElem?_take_of_lt hzm]
    · obtain ⟨g1, g2⟩ := get_restr hg
      have g1 : l = .slot z.src := by simpa using g1
      subst g1
      rw [hs', ← g2, hsrc z hz]
  have hany := draw_S1 (ops := ops) (ops' := ((ops.toList.take m).set q (dumOp d oq)).toArray) (s0 := s) (K := fun s' => W X k s') (m := m) (n1 := n1) (zs := zs) (q := q) (T0 := tabGo ops.toList []) (evs := evs) (d := d) (a0 := a0) (by simp; omega)
    (fun i hi hne => by simp [List.getElem?_set, hne.symm, List.getElem?_take_of_lt hi])
    (fun o o' ho ho' => by
      rw [hoq] at ho; cases ho
      have hlt : q < (ops.toList.take m).length := by simp; omega
      simp only [List.getElem?_toArray, List.getElem?_set_self hlt, Option.some.injEq] at ho'
      rw [← ho']; rfl)
    hqm (by omega) h1
    (fun i o hi ho => hgn i o ho)
    h2 t1 t2 (fun i h1 h2 j hj => (t3 i h1 (by simpa using h2) j (by omega)).imp_right fun h => h.2) (fun z hz => (t6 z hz).2) hn1 hmn h3 (fun x hx l hl => by
      rw [hqe] at hx; cases hx
      rw [k1] at hl
      simpa [dumE, wrL] using hl) hoq hqe k2 (fun y b cs hp hn => ⟨hfr y b cs hp, ?_⟩) ops.size (Array.replicate ops.size false) G a { w with drawn := w.drawn + 1 } (by simp) (fun j o hL => by simp [Lof, Array.getElem?_replicate] at hL; split at hL <;> simp at hL) (fun j _ => by simp only [Lof, Array.getD_eq_getD_getElem?, Array.getElem?_replicate]; split <;> rfl)
    (by simp only [Lof, Array.getD_eq_getD_getElem?, Array.getElem?_replicate]; split <;> rfl) (by
      have : (left n1 (Array.replicate ops.size false)).length ≤ n1 := Nat.le_trans (List.length_filter_le _ _) (by simp)
      omega) (by
      rw [sel_none _ _ _ (fun j _ => by simp only [Lof, Array.getD_eq_getD_getElem?, Array.getElem?_replicate]; split <;> rfl)]
      exact R.drawn _)
  · obtain ⟨e', a', w', ⟨rfl, G', s', hK, R'⟩, harr⟩ := wpIn_region_any (F := X.F) (n := 0) hm hany b k cs hr trivial (roomF _)
    obtain ⟨w'', fr, q1, q2⟩ := hK G' a' w' b cs hf hk hr R'
    exact ⟨w'', fr, q1, Steps.trans (StepsIn.steps harr) q2⟩
  · obtain ⟨fp2, d2, a2, P2, f1, f2, f3, f4⟩ := h5 y b cs hp hn
    intro fuel listed G a w hsz hcl htl hlt hle R
    have hS : ∀ z ∈ zs, get (effO d a0 y b cs (appAll s evs)) (.slot z.src) = get s (.slot z.src) ∧ get (effO d a0 y b cs (appAll s evs)) (.slot z.dst) = some z.val := by
      intro z hz
      have hb := hdd z hz
      refine ⟨?_, ?_⟩
      · rw [effO_ne (by intro e; injection e with e; exact hb.1 e) (by intro e; cases e) (by intro _ _ e; cases e), ← sel_all 0]
        exact hsrc z hz _
      · rw [effO_ne (by intro e; injection e with e; exact hb.2 e) (by intro e; cases e) (by intro _ _ e; cases e)]
        exact (hst z hz).2.2
    refine draw_T1 (m := m) (n1 := n1) (T0 := tabGo ops.toList []) (zs := zs) (s0 := s) (S := effO d a0 y b cs (appAll s evs)) t1 t2 (fun j h1 h2 => t3 j h1 (by simpa using h2)) hn1 hmn hzz t7 hS ho2 (hgn m o2 ho2) f1 (fun z hz => ?_) f3 ((ops.toList.drop (m + 1)).take (n1 - (m + 1))) (fun i o ho => ?_) ?_ (fun y2 b2 cs2 hp2 hn2 => ?_) fuel listed G a w _ hsz hcl htl hlt ?_ hle R
    · have := List.all_eq_true.1 f2 z hz
      rw [Bool.or_eq_true, disL_iff] at this
      rcases this with h | h
      · exact .inl h
      · exact .inr fun hm => h _ hm (by simp)
    · have h6 := ho
      have hi : i < n1 - (m + 1) := by
        have := (List.getElem?_eq_some_iff.1 ho).1
        simp at this; omega
      rw [List.getElem?_take_of_lt hi, List.getElem?_drop] at h6
      have h7 : ops[m + 1 + i]? = some o := by simpa using h6
      exact ⟨h7, hgn _ o h7⟩
    · simp; omega
    · exact f4 y2 b2 cs2 hp2 hn2
    · intro l hl
      refine effO_eq (.inl ?_)
      rw [← sel_all 0]
      refine sel_diff evs 0 _ _ rfl fun j ev hj hne hw => ?_
      have hj' : j < m := by rw [← hlen]; exact (List.getElem?_eq_some_iff.1 hj).1
      simp only [Nat.zero_add] at hne
      have hL : Lof listed j = false := by
        cases hq : Lof listed j with
        | false => rfl
        | true => exact absurd hq hne
      obtain ⟨z, hz, rfl⟩ := (hlt j hj').resolve_left fun h => by rw [hL] at h; cases h
      rw [(hst z hz).1] at hj
      cases hj
      exact hl z hz hL (by simpa [wrL] using hw)
/-- as W_freezeN, where there are objects of the caller's -/
theorem W_freezeI {b E : Nat} {full : List (List DV)} {kk : List Item} (n : Nat) (hrow : get s (.heap b) = some (.row (arrRow full))) (hE : ∀ e ∈ full, e.length = E) (hn : n ≤ full.length) (hbig : n ≤ BIG) (hids : b ∉ X.ids) (h : W X kk (frz b (full.take n) (del s (.heap b)))) : W X kk s := by
  intro G a w b' cs hf hkk hr R
  have hw : X.w0.heap.size ≤ b := by
    rcases R.own _ _ b hrow rfl with h | ⟨h, -⟩
    · exact h
    · exact absurd h hids
  have hpre : arrRow full = arrRow (full.take n) ++ arrRow (full.drop n) := by rw [← arrRow_append, List.take_append_drop]
  have R1 : Rel X G (upd s (.heap b) (.row (arrRow (full.take n)))) a w := by
    have hb : BlkAt G w b (arrRow (full.take n)) := by
      obtain ⟨c, e, h1, h2, h3⟩ := R.holds _ _ hrow
      rw [hpre, List.length_append] at h2
      refine ⟨c, e, h1, by omega, fun i x hx => ?_⟩
      have hlt := (List.getElem?_eq_some_iff.1 hx).1
      exact h3 i x (by rw [hpre, List.getElem?_append_left hlt]; exact hx)
    refine ⟨R.size, R.defers, R.ext, R.wf, R.nil, fun l v hl => ?_, fun l v l' v' b' hl hl' hb1 hb2 => ?_, fun l v b' hl hb1 => ?_, fun l v b' o hl hb1 ht => ?_⟩
    · rw [get_upd] at hl
      split at hl
      · subst_vars; cases hl; exact hb
      · exact R.holds _ _ hl
    · have key : ∀ l v, get (upd s (.heap b) (.row (arrRow (full.take n)))) l = some v → ∃ v0, get s l = some v0 ∧ blkOf G l v = blkOf G l v0 := by
        intro l v hl
        rw [get_upd] at hl
        split at hl
        · subst_vars; cases hl; exact ⟨_, hrow, rfl⟩
        · exact ⟨v, hl, rfl⟩
      obtain ⟨v0, k1, k2⟩ := key _ _ hl
      obtain ⟨v1, k3, k4⟩ := key _ _ hl'
      rw [k2] at hb1
      rw [k4] at hb2
      exact R.sep _ _ _ _ _ k1 k3 hb1 hb2
    · rw [get_upd] at hl
      split at hl
      · subst_vars; cases hl; exact R.own _ _ _ hrow hb1
      · exact R.own _ _ _ hl hb1
    · rw [get_upd] at hl
      split at hl
      · subst_vars; cases hl; exact R.data _ _ _ o hrow hb1 ht
      · exact R.data _ _ _ o hl hb1 ht
  obtain ⟨G', R'⟩ := R1.freeze (ys := full.take n) (fun e he => hE e (List.mem_of_mem_take he)) (by rw [List.length_take]; omega) hw (by rw [get_upd, if_pos rfl])
  refine h G' a w b' cs hf hkk hr (R'.congr fun l => ?_)
  rw [get_frz, get_frz, get_del, get_del, get_upd]
  by_cases h1 : Loc.heap b = l
  · rw [if_pos h1, if_pos h1]
  · rw [if_neg h1, if_neg h1, if_neg h1]
end
/-! a drawn region's check, where one pair of events is told apart by hand -/
def chkAtX (T : List Nat) (x : Ev) (i i0 j0 : Nat) : Nat → List Ev → Bool
  | _, [] => true
  | j, y :: r => allN (fun d => !ment d x.e) y.nm && ((T.getD j 0).testBit i || ((i == i0 && j == j0) || apart x y)) && chkAtX T x i i0 j0 (j + 1) r
def chkPX (T : List Nat) (i0 j0 : Nat) : Nat → List Ev → Bool
  | _, [] => true
  | i, x :: r => chkAtX T x i i0 j0 (i + 1) r && chkPX T i0 j0 (i + 1) r
def chkBX (i0 j0 : Nat) (ops : List Oper) (s : St) (evs : List Ev) : Bool :=
  let T := tabGo ops []
  backB 0 ops && fixB T T ops && chkF s evs && chkPX T i0 j0 0 evs
theorem chkAtX_to {T : List Nat} {x : Ev} {i i0 j0 : Nat} : ∀ (evs : List Ev) (j : Nat), (i = i0 → ∀ y, j ≤ j0 → evs[j0 - j]? = some y → apart x y = true) → chkAtX T x i i0 j0 j evs = true → chkAt T x i j evs = true
  | [], _, _, _ => rfl
  | y :: r, j, ha, h => by
    simp only [chkAtX, Bool.and_eq_true, Bool.or_eq_true, beq_iff_eq] at h
    simp only [chkAt, Bool.and_eq_true, Bool.or_eq_true]
    refine ⟨⟨h.1.1, ?_⟩, chkAtX_to r (j + 1) (fun e z hj hz => ha e z (by omega) (by rw [show j0 - j = j0 - (j + 1) + 1 from by omega]; simpa using hz)) h.2⟩
    rcases h.1.2 with h | ⟨h1, h2⟩ | h
    · exact .inl h
    · exact .inr (ha h1 y (by omega) (by rw [h2, Nat.sub_self]; rfl))
    · exact .inr h
theorem chkPX_to {T : List Nat} {i0 j0 : Nat} (hij : i0 < j0) {x0 y0 : Ev} (ha : apart x0 y0 = true) : ∀ (evs : List Ev) (i : Nat), (i ≤ i0 → evs[i0 - i]? = some x0 ∧ evs[j0 - i]? = some y0) → chkPX T i0 j0 i evs = true → chkP T i evs = true
  | [], _, _, _ => rfl
  | x :: r, i, he, h => by
    simp only [chkPX, Bool.and_eq_true] at h
    simp only [chkP, Bool.and_eq_true]
    refine ⟨chkAtX_to r (i + 1) (fun e y hj hy => ?_) h.1, chkPX_to hij ha r (i + 1) (fun hi => ?_) h.2⟩
    · obtain ⟨h1, h2⟩ := he (by omega)
      subst e
      rw [Nat.sub_self] at h1
      simp at h1
      subst h1
      rw [show j0 - i = j0 - (i + 1) + 1 from by omega] at h2
      simp only [List.getElem?_cons_succ] at h2
      rw [h2] at hy
      cases hy
      exact ha
    · obtain ⟨h1, h2⟩ := he (by omega)
      rw [show i0 - i = i0 - (i + 1) + 1 from by omega] at h1
      rw [show j0 - i = j0 - (i + 1) + 1 from by omega] at h2
      exact ⟨by simpa using h1, by simpa using h2⟩
theorem chkB_skip {ops : List Oper} {s : St} {evs : List Ev} (i0 j0 : Nat) (hij : i0 < j0) {x0 y0 : Ev} (hx : evs[i0]? = some x0) (hy : evs[j0]? = some y0) (ha : apart x0 y0 = true) (h : chkBX i0 j0 ops s evs = true) : chkB ops s evs = true := by
  simp only [chkBX, Bool.and_eq_true] at h
  simp only [chkB, Bool.and_eq_true]
  exact ⟨h.1, chkPX_to hij ha evs 0 (fun _ => ⟨hx, hy⟩) h.2⟩
end Go.Proofs.YtmdjiajbnifjpaaDoor.Lift

/-
  The reference's maker: emit, op, the block of a term.
-/
namespace Go.Proofs.YtmdjiajbnifjpaaDoor.Lift
set_option linter.unusedSimpArgs false
set_option linter.unusedVariables false
set_option linter.unnecessarySimpa false
open Go
variable {gl : Globs}

/-- a function called by relation, in a state that ends in objects -/
theorem vcK_callRT {X : Ctx} {s : St} {esc : List Nat} {ops : Array Oper} {l : List Oper} {K : St → Prop} {d : Tmp} {f : FuncId} {args : Array Operand} {ats : Array TypeId} {ty : TypeId} {pos : String} {af : Array Edge} {P : Program} {gl : Globs} (hP : X.P = P) (hgl : X.gl = gl)
    {ds : List DV} {φ : Objs} {R : DV → Objs → Prop} (hc : Con P gl f ds φ R) (hargs : evlDs X (get s) args.toList = some ds) {sl : St} (ht : Tail s sl φ) (hnd : (φ.map (·.1)).Nodup) (hdn : d < X.n) {q : Option (Prop × St)} (hq : q = none)
    (h : ∀ r φ', R r φ' → (φ'.map (·.1)).Nodup ∧ vc X esc ops l (upd sl (.slot d) (.one (.v r)) ++ heapSt φ') K) :
    vcK X esc ops l K ⟨some d, .call { callee := .value (.func f), args := args, argTypes := ats }, ty, pos, af, none⟩ s q :=
  vcK_callVT hP hgl (fi := #[]) (ca := #[]) (x := .func f) rfl (by simp) hc hargs (by simp) ht hnd hdn hq h

theorem VL_putD {X : Ctx} {ops : Array Oper} {lst : List Oper} {K : St → Prop} {rest l : St} {φ A B : Objs} {b : Nat} {c c' : List DV} {row : List SV} (ψ : Objs) (ht : TailD rest l φ b) (hφ : φ = A ++ (b, c) :: B) (hψ : ψ = A ++ (b, c') :: B) (hnd : (φ.map (·.1)).Nodup) (hrow : row = c'.map SV.v)
    (h : (ψ.map (·.1)).Nodup → VL X ops lst (l ++ heapSt ψ) K) : VL X ops lst ((.heap b, .row row) :: rest) K := by
  subst hφ hψ hrow
  obtain ⟨hs, hh⟩ := ht.spec
  obtain ⟨k1, k2⟩ := upd_objs (c' := c') hh hnd
  refine VL_le (fun m v hm => ?_) (h k2)
  have h1 := k1 m v hm
  rw [get_upd] at h1
  rw [hs]
  simp only [get]
  split
  · rename_i e; rw [if_pos e] at h1; exact h1
  · rename_i e
    rw [if_neg e, get_append] at h1
    rw [get_append, get_del, if_neg e]
    exact h1
/-- the maker's objects: the maker, and the arrays of its code, bodies and places -/
def mkO (bm : Nat) (vC vB vP : DV) (C B P : RS) : Objs := (bm, [vC, vB, vP]) :: (C.objs ++ (B.objs ++ P.objs))
theorem mkO_C (bm : Nat) (vC vB vP : DV) (C B P : RS) : mkO bm vC vB vP C B P = [(bm, [vC, vB, vP])] ++ (C.objs ++ (B.objs ++ P.objs)) := rfl
theorem mkO_B (bm : Nat) (vC vB vP : DV) (C B P : RS) : mkO bm vC vB vP C B P = ([(bm, [vC, vB, vP])] ++ C.objs) ++ (B.objs ++ P.objs) := by simp [mkO]
theorem mkO_P (bm : Nat) (vC vB vP : DV) (C B P : RS) : mkO bm vC vB vP C B P = ([(bm, [vC, vB, vP])] ++ C.objs ++ B.objs) ++ (P.objs ++ []) := by simp [mkO]
theorem mkO_get {bm : Nat} {vC vB vP : DV} {C B P : RS} (h : ((mkO bm vC vB vP C B P).map (·.1)).Nodup) :
    get (heapSt (mkO bm vC vB vP C B P)) (.heap bm) = some (.row [.v vC, .v vB, .v vP]) ∧
    (∀ b, C.q = some b → get (heapSt (mkO bm vC vB vP C B P)) (.heap b) = some (.row (arrRow C.full))) ∧ (∀ b, B.q = some b → get (heapSt (mkO bm vC vB vP C B P)) (.heap b) = some (.row (arrRow B.full))) ∧ (∀ b, P.q = some b → get (heapSt (mkO bm vC vB vP C B P)) (.heap b) = some (.row (arrRow P.full))) := by
  have hm : ∀ b cs, (b, cs) ∈ mkO bm vC vB vP C B P → get (heapSt (mkO bm vC vB vP C B P)) (.heap b) = some (.row (cs.map SV.v)) := fun b cs hb => get_heapSt_of h hb
  refine ⟨hm bm [vC, vB, vP] (by simp [mkO]), fun b hb => hm b C.full.flatten ?_, fun b hb => hm b B.full.flatten ?_, fun b hb => hm b P.full.flatten ?_⟩
  · have := RS.mem_objs (x := C).2 ⟨hb, rfl⟩
    simp [mkO, this]
  · have := RS.mem_objs (x := B).2 ⟨hb, rfl⟩
    simp [mkO, this]
  · have := RS.mem_objs (x := P).2 ⟨hb, rfl⟩
    simp [mkO, this]
theorem mkO_ne {bm : Nat} {vC vB vP : DV} {C B P : RS} (h : ((mkO bm vC vB vP C B P).map (·.1)).Nodup) : C.q ≠ some bm ∧ B.q ≠ some bm ∧ P.q ≠ some bm := by
  simp only [mkO, List.map_cons, List.map_append, List.nodup_cons, List.mem_append, List.mem_map, not_or] at h
  obtain ⟨⟨a1, a2, a3⟩, -⟩ := h
  have key : ∀ {x : RS} {b : Nat}, (¬ ∃ p, p ∈ x.objs ∧ p.1 = b) → x.q ≠ some b := fun hh e => hh ⟨_, RS.mem_objs.2 ⟨e, rfl⟩, rfl⟩
  exact ⟨key a1, key a2, key a3⟩
/-- what emit leaves: bodies and places as they were -/
def EmM (bm : Nat) (cs : List Ins) (B P : RS) (r : DV) (ψ : Objs) : Prop := r = .tup [] ∧ ∃ C : RS, C.is 2 (rowsI cs) ∧ (ψ.map (·.1)).Nodup ∧ ψ = mkO bm C.v B.v P.v C B P

set_option maxHeartbeats 1000000 in
set_option maxRecDepth 10000 in
theorem memit_ok (bm : Nat) (cs : List Ins) (op a : Int) (C B P : RS) (hl : cs.length ≤ 1000000000) (hC : C.is 2 (rowsI cs)) (hnd : ((mkO bm C.v B.v P.v C B P).map (·.1)).Nodup) :
    Con Tryd.prog gl 52 [ptr bm, dint op, dint a] (mkO bm C.v B.v P.v C B P) (EmM bm (cs ++ [(op, a)]) B P) := by
  refine t_in Tryd.func52 ?_
  intro X hP hgl hf hfn hn hR hids hfit
  have hg := mkO_get hnd
  have hCn : C.n = cs.length := by rw [hC.n_eq]; simp [rowsI]
  simp only [entry, argSt, List.cons_append, List.nil_append]
  refine t_a ?_
  refine W_reg [15] fun K hK => ?_
  simp [go_sem, hP, hgl, hn, hg]
  refine vcK_eff (x := C) (E := 2) (zs := [[dint op, dint a]]) (fun C2 => mkO bm C.v B.v P.v C2 B P) rfl (by repeat (first | exact Tail.nil _ | apply Tail.slot | apply Tail.loc)) (mkO_C ..) (fun _ => mkO_C ..) hnd hC (free_append (E := 2) (B := 16) (zd := [dint 0, dint 0]) rfl rfl (by rw [hn]; exact Nat.le_of_ble_eq_true rfl) (by simp [go_sem, hP]) (by decide) (by rw [hP]; rfl) (by simp [go_sem, hP, hgl, hn]) (by simp [go_sem, hP, hgl, hn]) (fun b hb => by simp [go_sem, hg, hb]) hC.nil hC.len hC.le (by simp) (by simp [hCn]; unfold BIG; omega) hC.wid (by simp) (by rw [hP]; kernel_rfl) rfl) rfl ?_
  intro C2 hC2 hq hnd2
  have hg2 := mkO_get hnd2
  simp only [go_sem, List.cons_append, List.nil_append]
  refine vc_sound (esc := []) ?_
  simp [go_sem, hP, hgl, hn, hg2]
  refine hK _ ?_
  clear hK K
  refine W_putT (φ := mkO bm C.v B.v P.v C2 B P) (A := []) (B := C2.objs ++ (B.objs ++ P.objs)) (c := [C.v, B.v, P.v]) (c' := [C2.v, B.v, P.v]) (mkO bm C2.v B.v P.v C2 B P) (by repeat (first | exact TailD.nil _ _ | apply TailD.slot | apply TailD.loc)) rfl rfl hnd2 rfl fun hnd3 => ?_
  refine t_a ?_
  refine W_endR hP hf hfn (.tup []) (mkO bm C2.v B.v P.v C2 B P) (by simp [go_sem, hP, hgl, hn]) ?_ hnd3 ?_ hR.2
  · repeat (first | exact objsIn_self hnd3 | refine objsIn_slot ?_ | refine objsIn_loc ?_)
  · rw [hR.1]
    refine ⟨rfl, C2, ?_, hnd3, rfl⟩
    rw [rowsI_app]
    exact hC2

def op37 (k : Int) : Int := if 3 ≤ k ∧ k ≤ 12 then k else 13
theorem op37_ok (k : Int) : Con1 Tryd.prog gl 70 [dint k] [] (dint (op37 k)) [] := by
  refine t_in Tryd.func70 ?_
  intro X hP hgl hf hfn hn hR hids hfit
  unfold op37 at hR
  refine t_g0 ?_
  by_cases hs0 : k = 3
  · refine t_g @hs0 ?_
    refine t_r ?_
    simp [go_sem, hP, hgl, hn, op37, hs0] <;> (try omega)
  by_cases hs1 : k = 4
  · refine t_g @hs1 ?_
    refine t_r ?_
    simp [go_sem, hP, hgl, hn, op37, hs1] <;> (try omega)
  by_cases hs2 : k = 5
  · refine t_g @hs2 ?_
    refine t_r ?_
    simp [go_sem, hP, hgl, hn, op37, hs2] <;> (try omega)
  by_cases hs3 : k = 6
  · refine t_g @hs3 ?_
    refine t_r ?_
    simp [go_sem, hP, hgl, hn, op37, hs3] <;> (try omega)
  by_cases hs4 : k = 7
  · refine t_g @hs4 ?_
    refine t_r ?_
    simp [go_sem, hP, hgl, hn, op37, hs4] <;> (try omega)
  by_cases hs5 : k = 8
  · refine t_g @hs5 ?_
    refine t_r ?_
    simp [go_sem, hP, hgl, hn, op37, hs5] <;> (try omega)
  by_cases hs6 : k = 9
  · refine t_g @hs6 ?_
    refine t_r ?_
    simp [go_sem, hP, hgl, hn, op37, hs6] <;> (try omega)
  by_cases hs7 : k = 10
  · refine t_g @hs7 ?_
    refine t_r ?_
    simp [go_sem, hP, hgl, hn, op37, hs7] <;> (try omega)
  by_cases hs8 : k = 11
  · refine t_g @hs8 ?_
    refine t_r ?_
    simp [go_sem, hP, hgl, hn, op37, hs8] <;> (try omega)
  by_cases hs9 : k = 12
  · refine t_g @hs9 ?_
    refine t_r ?_
    simp [go_sem, hP, hgl, hn, op37, hs9] <;> (try omega)
  refine t_g (j2 @hs0 (j2 @hs1 (j2 @hs2 (j2 @hs3 (j2 @hs4 (j2 @hs5 (j2 @hs6 (j2 @hs7 (j2 @hs8 @hs9))))))))) ?_
  refine t_r ?_
  simp [go_sem, hP, hgl, hn, op37, hs0, hs1, hs2, hs3, hs4, hs5, hs6, hs7, hs8, hs9] <;> (try omega)

/-- what block leaves -/
def BlM (bm : Nat) (cs : List Ins) (bs : List Tm) (ps : List Int) (r : DV) (ψ : Objs) : Prop :=
  r = .tup [] ∧ ∃ C B P : RS, C.is 2 (rowsI cs) ∧ B.is 5 (bs.map Tm.cells) ∧ P.is 1 (ints ps) ∧ (ψ.map (·.1)).Nodup ∧ ψ = mkO bm C.v B.v P.v C B P

set_option maxHeartbeats 1000000 in
set_option maxRecDepth 10000 in
theorem mblock_ok (t : Tm) (bm : Nat) : ∀ (cs : List Ins) (bs : List Tm) (ps : List Int) (C B P : RS), t.shape = true → t.count ≤ 1000000 → cs.length + t.count ≤ 1000000000 → bs.length + t.count ≤ 1000000000 → ps.length + t.count ≤ 1000000000 →
    C.is 2 (rowsI cs) → B.is 5 (bs.map Tm.cells) → P.is 1 (ints ps) → ((mkO bm C.v B.v P.v C B P).map (·.1)).Nodup →
    Con Tryd.prog gl 51 [ptr bm, t.dv] (mkO bm C.v B.v P.v C B P) (BlM bm (cs ++ t.skel) (bs ++ t.subs) (ps ++ funPos cs.length t.skel)) := by
  induction t using Tm.ind with
  | h t ih =>
  intro cs bs ps C B P hs hc hcs hbs hps hC hB hP0 hnd
  refine t_in Tryd.func51 ?_
  intro X hP hgl hf hfn hn hR hids hfit
  have hfo := Tm.fold t
  have hlen := Tm.fit_len (hfit t.dv (by simp))
  have hg := mkO_get hnd
  have hne := mkO_ne hnd
  have hcnt := Tm.count_eq t
  have hCn : C.n = cs.length := by rw [hC.n_eq]; simp [rowsI]
  have hBn : B.n = bs.length := by rw [hB.n_eq]; simp
  have hPn : P.n = ps.length := by rw [hP0.n_eq]; simp [ints]
  simp only [entry, argSt, List.cons_append, List.nil_append]
  refine t_rg0 ?_
  refine t_rg0 ?_
  have e3 : ∀ h1 : t.kind = 1, t.args = [] := by
    intro h1
    have h2 := hs
    rw [Tm.shape_eq, Bool.and_eq_true] at h2
    have h2 := h2.1
    simp only [tmKind, h1, Bool.and_eq_true, decide_eq_true_eq, arityI] at h2
    exact List.length_eq_zero_iff.1 (by have := h2.1.1.1; simp at this; omega)
  by_cases h1 : t.kind = 1
  · have e1 : t.skel = [(1, t.index)] := by rw [Tm.skel_eq, if_neg (by omega), e3 h1, h1]; rfl
    have e2 : t.subs = [] := by rw [Tm.subs_eq, if_neg (by omega), e3 h1]; rfl
    refine t_rg @h1 ?_
    refine t_yes ?_
    refine t_a ?_
    refine W_reg [] fun K hK => ?_
    simp [go_sem, hP, hgl, hn]
    refine vcK_callRT hP hgl (memit_ok bm cs 1 t.index C B P (by omega) hC hnd) (by simp [go_sem, hP, hgl, hn]) (by repeat (first | exact Tail.nil _ | apply Tail.slot | apply Tail.loc)) hnd (by rw [hn]; exact Nat.le_of_ble_eq_true rfl) rfl ?_
    rintro r ψ ⟨rfl, C2, q1, q2, rfl⟩
    refine ⟨q2, ?_⟩
    simp [go_sem]
    refine hK _ ?_
    clear hK K
    refine W_retR hP hf hfn (.tup []) (mkO bm C2.v B.v P.v C2 B P) (by simp [go_sem, hP, hgl, hn]) ?_ q2 ?_ hR.2
    · repeat (first | exact objsIn_self q2 | refine objsIn_slot ?_ | refine objsIn_loc ?_)
    · rw [hR.1]
      refine ⟨rfl, C2, B, P, ?_, ?_, ?_, q2, rfl⟩
      · rw [e1]; exact q1
      · rw [e2, List.append_nil]; exact hB
      · rw [e1]; simpa [funPos] using hP0
  by_cases h2 : t.kind = 2
  · obtain ⟨a, ha⟩ : ∃ a, t.args = [a] := by
      have h1 := hs
      rw [Tm.shape_eq, Bool.and_eq_true] at h1
      have h1 := h1.1
      simp only [tmKind, h2, Bool.and_eq_true, decide_eq_true_eq, arityI] at h1
      exact List.length_eq_one_iff.1 (by have := h1.1.1.1; simp at this; omega)
    have hix : t.index = 0 := by
      have h1 := hs
      rw [Tm.shape_eq, Bool.and_eq_true] at h1
      have h1 := h1.1
      simp only [tmKind, h2, Bool.and_eq_true, Bool.or_eq_true, decide_eq_true_eq] at h1
      exact h1.1.2.resolve_left (by omega)
    have e1 : t.skel = [(2, 0)] := by rw [Tm.skel_eq, if_pos h2, hix]
    have e2 : t.subs = [a] := by rw [Tm.subs_eq, if_pos h2, ha]
    refine t_rg @h2 ?_
    refine t_no ?_
    refine t_rg @h2 ?_
    refine t_yes ?_
    refine t_a ?_
    refine W_regS (by rw [hP]; exact mixed) [⟨0, 15, 0, .one (.v (ptr bm))⟩, ⟨1, 16, 0, .one (.v (ptr bm))⟩] 11 22 26 _ _ (by decide) (by decide) (by decide) (by rfl) (by rfl) (by rfl) (d := 26) (by rw [hn]; exact Nat.le_of_ble_eq_true rfl) B.q (AppP X B.q 5 B.n B.full [[dint a.kind, dint a.index, dint a.type.kind, .sl (a.type.args.map Ty.cells), .sl (a.args.map Tm.cells)]]) fresh_app [] fun K hK => ?_
    simp [go_sem, hP, hgl, hn, hg, ha, hCn, markO]
    refine vcdF_append (E := 5) (B := 72) (q := B.q) (n := B.n) (cap := B.cap) (full := B.full) (zs := [[dint a.kind, dint a.index, dint a.type.kind, .sl (a.type.args.map Ty.cells), .sl (a.args.map Tm.cells)]]) (zd := [dint 0, dint 0, dint 0, .sl [], .sl []]) (by simp [go_sem, hP, hgl, hn]) (by simp [go_sem, hP, hgl, hn]) (by simp [go_sem, hP]) (by rw [hP]; kernel_rfl) rfl (by decide) (by rw [hP]; rfl) (by rw [hn]; exact Nat.le_of_ble_eq_true rfl) (fun b hb => by simp [go_sem, hg, hb]) hB.nil hB.len hB.le (by simp) (by simp [hBn]; unfold BIG; omega) hB.wid (by simp) ?_
    simp [go_sem, hP, hgl, hn, hg, hne, ha, hCn]
    refine ⟨by omega, by generalize B.q = q; cases q <;> rfl, by simp [evFree, evFree.evFree', allL, freeR, freeW, wrL, hne], ?_, ?_⟩
    · intro z hz
      rcases List.mem_cons.1 hz with rfl | hz
      · exact ⟨rfl, rfl, by simp [go_sem]⟩
      · rw [List.mem_singleton.1 hz]
        exact ⟨rfl, rfl, by simp [go_sem]⟩
    intro y b cs2 hap hnew
    obtain ⟨B2, hq', rfl, rfl, hB2⟩ := hB.app hap
    have hnew' := newA_objs (by repeat (first | exact Tail.nil _ | apply Tail.slot | apply Tail.loc)) hnd hnew
    refine afterS_eff B2 (mkO bm C.v B.v P.v C B2 P) (by repeat (first | exact Tail.nil _ | apply Tail.slot | apply Tail.loc)) (mkO_B ..) (mkO_B ..) hnd hq' hnew' fun hnd1 => ?_
    have hg1 := mkO_get hnd1
    have hne1 := mkO_ne hnd1
    simp only [go_sem, List.cons_append, List.nil_append]
    refine afterS_app (esc2 := []) (x := P) (E := 1) (Bz := 8) (ws := [[dint (cs.length : Int)]]) (zd := [dint 0]) (fun P2 => mkO bm C.v B.v P.v C B2 P2) (by repeat (first | exact Tail.nil _ | apply Tail.slot | apply Tail.loc)) (mkO_P ..) (fun _ => mkO_P ..) hnd1 hP0 (by simp [go_sem, hP, hgl, hn]) (by simp [go_sem, hP, hgl, hn]) (by simp [go_sem, hP]) (by rw [hP]; kernel_rfl) rfl (by decide) (by rw [hP]; rfl) (by rw [hn]; exact Nat.le_of_ble_eq_true rfl) (fun b hb => by simp [go_sem, hg1, hb]) (by simp) (by simp [hPn]; unfold BIG; omega) (by simp) (by
      rw [List.all_eq_true]; intro z hz; rw [Bool.or_eq_true]; refine .inr ?_; generalize P.q = q
      rcases List.mem_cons.1 hz with rfl | hz
      · cases q <;> rfl
      · rw [List.mem_singleton.1 hz]; cases q <;> rfl) (by simp) ?_
    intro P2 hP2 hqP hnd2
    have hg2 := mkO_get hnd2
    have hne2 := mkO_ne hnd2
    simp [go_sem, hP, hgl, hn, hg2]
    refine ⟨by kernel_rfl, ?_⟩
    refine VL_putD (φ := mkO bm C.v B.v P.v C B2 P2) (A := []) (B := C.objs ++ (B2.objs ++ P2.objs)) (c := [C.v, B.v, P.v]) (c' := [C.v, B2.v, P.v]) (mkO bm C.v B2.v P.v C B2 P2) (by repeat (first | exact TailD.nil _ _ | apply TailD.slot | apply TailD.loc)) rfl rfl hnd2 rfl fun hnd3 => ?_
    have hg3 := mkO_get hnd3
    simp only [go_sem, List.cons_append, List.nil_append]
    refine vc_sound (esc := []) ?_
    simp [go_sem, hP, hgl, hn, hg3]
    refine hK _ ?_
    clear hK K
    refine W_putT (φ := mkO bm C.v B2.v P.v C B2 P2) (A := []) (B := C.objs ++ (B2.objs ++ P2.objs)) (c := [C.v, B2.v, P.v]) (c' := [C.v, B2.v, P2.v]) (mkO bm C.v B2.v P2.v C B2 P2) (by repeat (first | exact TailD.nil _ _ | apply TailD.slot | apply TailD.loc)) rfl rfl hnd3 rfl fun hnd4 => ?_
    simp only [List.cons_append, List.nil_append]
    refine t_a ?_
    refine W_reg [] fun K hK => ?_
    simp [go_sem, hP, hgl, hn]
    refine vcK_callRT hP hgl (memit_ok bm cs 2 0 C B2 P2 (by omega) hC hnd4) (by simp [go_sem, hP, hgl, hn]) (by repeat (first | exact Tail.nil _ | apply Tail.slot | apply Tail.loc)) hnd4 (by rw [hn]; exact Nat.le_of_ble_eq_true rfl) rfl ?_
    rintro r ψ ⟨rfl, C2, q1, q2, rfl⟩
    refine ⟨q2, ?_⟩
    simp [go_sem]
    refine hK _ ?_
    clear hK K
    refine W_retR hP hf hfn (.tup []) (mkO bm C2.v B2.v P2.v C2 B2 P2) (by simp [go_sem, hP, hgl, hn]) ?_ q2 ?_ hR.2
    · repeat (first | exact objsIn_self q2 | refine objsIn_slot ?_ | refine objsIn_loc ?_)
    · rw [hR.1]
      refine ⟨rfl, C2, B2, P2, ?_, ?_, ?_, q2, rfl⟩
      · rw [e1]; exact q1
      · rw [e2, List.map_append, List.map_cons, List.map_nil, Tm.cells_eq]; exact hB2
      · rw [e1, ints_app]; exact hP2
  · obtain ⟨hk1, hk2⟩ := kind_in hs
    have hsh := (Tm.shapes_iff _).1 ((Bool.and_eq_true _ _ ▸ (Tm.shape_eq t ▸ hs : _ = true) : _ ∧ _).2)
    have hix : t.index = 0 := by
      have h3 := hs
      rw [Tm.shape_eq, Bool.and_eq_true] at h3
      have h3 := h3.1
      simp only [tmKind, Bool.and_eq_true, Bool.or_eq_true, decide_eq_true_eq] at h3
      exact h3.1.2.resolve_left h1
    have hop : op37 t.kind = t.kind := by unfold op37; split <;> omega
    have e1 : t.skel = Tm.skel.skels t.args ++ [(t.kind, 0)] := by rw [Tm.skel_eq, if_neg h2, hix]
    have e2 : t.subs = Tm.subs.subss t.args := by rw [Tm.subs_eq, if_neg h2]
    have e4 : funPos cs.length t.skel = funPos cs.length (Tm.skel.skels t.args) := by rw [e1, funPos_append]; simp [funPos, h2]
    refine t_rg @h1 ?_
    refine t_no ?_
    refine t_rg @h2 ?_
    refine t_no ?_
    refine t_rg0 ?_
    refine t_a ?_
    refine W_sub [] (by simp [go_sem]) ?_ (by simp [go_sem]) (W_rounds
      (fun x : Nat × RS × RS × RS => x.1 ≤ t.args.length ∧ x.2.1.is 2 (rowsI (cs ++ Tm.skel.skels (t.args.take x.1))) ∧ x.2.2.1.is 5 ((bs ++ Tm.subs.subss (t.args.take x.1)).map Tm.cells) ∧ x.2.2.2.is 1 (ints (ps ++ funPos cs.length (Tm.skel.skels (t.args.take x.1)))) ∧ ((mkO bm x.2.1.v x.2.2.1.v x.2.2.2.v x.2.1 x.2.2.1 x.2.2.2).map (·.1)).Nodup)
      (fun x => (.slot 0, .one (.v (ptr bm))) :: (.slot 4, .one (.v (dint x.1))) :: (.slot 3, .one (.loc 3 0)) :: (.loc 3, .row [.v (dint t.kind), .v (dint t.index), .v (dint t.type.kind), .v (.sl (t.type.args.map Ty.cells)), .v (.sl (t.args.map Tm.cells))]) :: heapSt (mkO bm x.2.1.v x.2.2.1.v x.2.2.2.v x.2.1 x.2.2.1 x.2.2.2))
      (fun x => t.args.length - x.1) (0, C, B, P) ⟨Nat.zero_le _, ?_, ?_, ?_, hnd⟩ ?_)
    · simp [go_sem, subLe_hs_self _ hnd]
    · simpa [Tm.skel.skels] using hC
    · simpa [Tm.subs.subss] using hB
    · simpa [Tm.skel.skels, funPos] using hP0
    · rintro ⟨i, C1, B1, P1⟩ ⟨i1, i2, i3, i4, i5⟩ ihr
      simp only at i1 i2 i3 i4 i5
      rcases Nat.lt_or_ge i t.args.length with hlt | hgt
      · obtain ⟨x, hx⟩ : ∃ x, t.args[i]? = some x := ⟨_, List.getElem?_eq_getElem hlt⟩
        have hxm := List.mem_of_getElem? hx
        refine t_rg0 ?_
        refine t_yes ?_
        obtain ⟨ht1, hcx⟩ := counts_at hx
        have b1 := skels_le (t.args.take i)
        have b2 := subss_le (t.args.take i)
        have b3 := funPos_le cs.length (Tm.skel.skels (t.args.take i))
        refine t_a ?_
        refine W_reg [] fun K hK => ?_
        simp [go_sem, hP, hgl, hn, hx]
        repeat (refine ⟨by omega, ?_⟩)
        refine vcK_callRT hP hgl (ih x hxm _ _ _ C1 B1 P1 (hsh x hxm) (by omega) (by rw [List.length_append]; omega) (by rw [List.length_append]; omega) (by rw [List.length_append]; omega) i2 i3 i4 i5) (by simp [go_sem]) (by repeat (first | exact Tail.nil _ | apply Tail.slot | apply Tail.loc)) i5 (by rw [hn]; exact Nat.le_of_ble_eq_true rfl) rfl ?_
        rintro r ψ ⟨rfl, C2, B2, P2, q1, q2, q3, q4, rfl⟩
        refine ⟨q4, ?_⟩
        simp [go_sem]
        refine hK _ ?_
        clear hK K
        refine t_rg0 ?_
        refine t_b ?_
        refine W_sub [] (by simp [go_sem]) ?_ (by simp [go_sem]) (ihr (i + 1, C2, B2, P2) ⟨hlt, ?_, ?_, ?_, q4⟩ (by simp only; omega))
        · simp [go_sem, subLe_hs_self _ q4]
        · rw [ht1, Tm.skels_append]
          simpa [Tm.skel.skels] using q1
        · rw [ht1, Tm.subss_append]
          simpa [Tm.subs.subss] using q2
        · rw [ht1, Tm.skels_append, funPos_append]
          simpa [Tm.skel.skels] using q3
      · have hie : i = t.args.length := by omega
        rw [hie, List.take_length] at i2 i3 i4
        have b1 := skels_le t.args
        refine t_rg0 ?_
        refine t_no ?_
        refine t_g0 ?_
        refine t_a ?_
        refine W_reg [] fun K hK => ?_
        simp [go_sem, hP, hgl, hn]
        refine t_c trivial (op37_ok t.kind) ?_
        refine vcK_callRT hP hgl (memit_ok bm (cs ++ Tm.skel.skels t.args) (op37 t.kind) 0 C1 B1 P1 (by rw [List.length_append]; omega) i2 i5) (by simp [go_sem, hP, hgl, hn]) (by repeat (first | exact Tail.nil _ | apply Tail.slot | apply Tail.loc)) i5 (by rw [hn]; exact Nat.le_of_ble_eq_true rfl) rfl ?_
        rintro r ψ ⟨rfl, C2, q1, q2, rfl⟩
        refine ⟨q2, ?_⟩
        simp [go_sem]
        refine hK _ ?_
        clear hK K
        refine t_a ?_
        refine W_endR hP hf hfn (.tup []) (mkO bm C2.v B1.v P1.v C2 B1 P1) (by simp [go_sem, hP, hgl, hn]) ?_ q2 ?_ hR.2
        · repeat (first | exact objsIn_self q2 | refine objsIn_slot ?_ | refine objsIn_loc ?_)
        · rw [hR.1]
          refine ⟨rfl, C2, B1, P1, ?_, ?_, ?_, q2, rfl⟩
          · rw [e1, ← List.append_assoc]; rw [hop] at q1; exact q1
          · rw [e2]; exact i3
          · rw [e4]; exact i4
end Go.Proofs.YtmdjiajbnifjpaaDoor.Lift

/-
  The reference's Compile, walked.
-/
namespace Go.Proofs.YtmdjiajbnifjpaaDoor.Lift
set_option linter.unusedSimpArgs false
set_option linter.unusedVariables false
set_option linter.unnecessarySimpa false
open Go
variable {gl : Globs}

/-- what the reference's Compile returns: its code as a raw slice, or nil and the error -/
def RefC (t : Tm) (r : DV) (ψ : Objs) : Prop :=
  (t.compN.2 ≠ 0 ∧ r = .tup [.sl [], dint t.compN.2] ∧ ψ = []) ∨ (t.compN.2 = 0 ∧ ∃ C : RS, C.is 2 (rowsI t.compN.1) ∧ (ψ.map (·.1)).Nodup ∧ ψ = C.objs ∧ r = .tup [C.v, dint 0])

theorem laid_one (t : Tm) : t.laid 1 = [t.skel] := by rw [Tm.laid, Tm.bfs_cons]; rfl
theorem todo_one (t : Tm) : t.todo 1 = t :: t.subs := by rw [Tm.todo, Tm.bfs_cons]; simp

set_option maxHeartbeats 1000000 in
set_option maxRecDepth 10000 in
theorem refcompile_ok (t : Tm) (ht : t.tys) (hc : t.count ≤ 1000000) : Con Tryd.prog gl 18 [t.dv] [] (RefC t) := by
  refine t_in Tryd.func18 ?_
  intro X hP hgl hf hfn hn hR hids hfit
  have hfo := Tm.fold t
  refine t_g0 ?_
  refine t_c1 @hfo (ref02_check_ok t ht (by omega)) ?_
  by_cases h : t.checkN = 0
  · have hsh := ((Tm.checkN_iff t).1 h).1
    refine t_rg @h ?_
    refine t_no ?_
    refine t_rg0 ?_
    refine W_expose 13 (by simp [go_sem]; rfl) ?_
    intro bm hbm
    simp [go_sem] at hbm ⊢
    refine W_nilraw ?_
    simp [nlz, nlzLV, nlzRow, nlzSV, nlzRow_arr]
    have hnd0 : ((mkO bm (RS.v ⟨none, 0, 0, []⟩) (RS.v ⟨none, 0, 0, []⟩) (RS.v ⟨none, 0, 0, []⟩) ⟨none, 0, 0, []⟩ ⟨none, 0, 0, []⟩ ⟨none, 0, 0, []⟩).map (·.1)).Nodup := by
      simp [mkO, RS.objs]
    refine W_sub [] (s' := (.slot 5, .one (.v (ptr bm))) :: (.loc 1, .row [.v (dint t.kind), .v (dint t.index), .v (dint t.type.kind), .v (.sl (t.type.args.map Ty.cells)), .v (.sl (t.args.map Tm.cells))]) :: (.slot 1, .one (.loc 1 0)) :: heapSt (mkO bm (RS.v ⟨none, 0, 0, []⟩) (RS.v ⟨none, 0, 0, []⟩) (RS.v ⟨none, 0, 0, []⟩) ⟨none, 0, 0, []⟩ ⟨none, 0, 0, []⟩ ⟨none, 0, 0, []⟩)) (by simp [go_sem]) (by simp [go_sem, mkO, RS.objs]) (by simp [go_sem]) ?_
    refine t_a ?_
    refine W_reg [] fun K hK => ?_
    simp [go_sem, hP, hgl, hn, hfo]
    refine vcK_callRT hP hgl (mblock_ok t bm [] [] [] ⟨none, 0, 0, []⟩ ⟨none, 0, 0, []⟩ ⟨none, 0, 0, []⟩ hsh hc (by simp; omega) (by simp; omega) (by simp; omega) ⟨fun _ => ⟨rfl, rfl⟩, rfl, by simp, Nat.le_refl _, by simp [rowsI]⟩ ⟨fun _ => ⟨rfl, rfl⟩, rfl, by simp, Nat.le_refl _, by simp⟩ ⟨fun _ => ⟨rfl, rfl⟩, rfl, by simp, Nat.le_refl _, by simp [ints]⟩ hnd0) (by simp [go_sem]) (by repeat (first | exact Tail.nil _ | apply Tail.slot | apply Tail.loc)) hnd0 (by rw [hn]; exact Nat.le_of_ble_eq_true rfl) rfl ?_
    rintro r ψ ⟨rfl, C0, B0, P0, q1, q2, q3, q4, rfl⟩
    refine ⟨q4, ?_⟩
    simp [go_sem]
    refine hK _ ?_
    clear hK K
    simp only [List.nil_append, List.length_nil] at q1 q2 q3
    have hsk := skel_le t
    refine t_a ?_
    refine W_reg [] fun K hK => ?_
    simp [go_sem, hP, hgl, hn]
    refine vcK_callRT hP hgl (memit_ok bm t.skel 14 0 C0 B0 P0 (by omega) q1 q4) (by simp [go_sem]) (by repeat (first | exact Tail.nil _ | apply Tail.slot | apply Tail.loc)) q4 (by rw [hn]; exact Nat.le_of_ble_eq_true rfl) rfl ?_
    rintro r ψ ⟨rfl, C1, r1, r2, rfl⟩
    refine ⟨r2, ?_⟩
    simp [go_sem]
    refine hK _ ?_
    clear hK K
    refine t_rg0 ?_
    refine t_a ?_
    have hbl1 : 1 ≤ (Tm.bfs [t]).length := by rw [Tm.bfs_cons]; simp
    refine W_sub [] (by simp [go_sem]) ?_ (by simp [go_sem]) (W_rounds
      (fun x : Nat × RS × RS × RS => x.1 + 1 ≤ (Tm.bfs [t]).length ∧ x.2.1.is 2 (rowsI (partC (t.laid (x.1 + 1)))) ∧ x.2.2.1.is 5 ((t.todo (x.1 + 1)).tail.map Tm.cells) ∧ x.2.2.2.is 1 (ints (funPos 0 (lay (t.laid (x.1 + 1))))) ∧ ((mkO bm x.2.1.v x.2.2.1.v x.2.2.2.v x.2.1 x.2.2.1 x.2.2.2).map (·.1)).Nodup)
      (fun x => (.slot 5, .one (.v (ptr bm))) :: (.slot 6, .one (.v (dint x.1))) :: heapSt (mkO bm x.2.1.v x.2.2.1.v x.2.2.2.v x.2.1 x.2.2.1 x.2.2.2))
      (fun x => (Tm.bfs [t]).length - x.1) (0, C1, B0, P0) ⟨hbl1, ?_, ?_, ?_, r2⟩ ?_)
    · simp [go_sem, subLe_hs_self _ r2]
    · have h0 := partC_lay [] t hsh (m := 0) rfl (Nat.zero_le _)
      rw [laid_one]
      have h1 : t.skel ++ [(14, 0)] = partC [t.skel] := h0
      rw [← h1]; exact r1
    · rw [todo_one]; exact q2
    · rw [laid_one]
      have h0 := funPos_lay [] t.skel
      have h1 : funPos 0 (lay [t.skel]) = funPos 0 t.skel := h0
      rw [h1]; exact q3
    · rintro ⟨i, C, B, P⟩ ⟨i1, i2, i3, i4, i5⟩ ihr
      simp only at i1 i2 i3 i4 i5
      have hg1 := mkO_get i5
      have hn1 := mkO_ne i5
      have hBn : B.n = (t.todo (i + 1)).length - 1 := by rw [i3.n_eq, List.length_map, List.length_tail]
      have hCn : C.n = (lay (t.laid (i + 1))).length := by rw [i2.n_eq]; simp [rowsI, partC, fillF_length]
      have hPn : P.n = funs (lay (t.laid (i + 1))) := by rw [i4.n_eq]; simp [ints, funPos_length]
      have htl := todo_bfs t (i + 1)
      have hll := laid_le t i1
      have hbl := bfs_len t
      have hb1 : B.n ≤ 2147483648 := by omega
      have hb2 : C.n ≤ 2147483648 := by omega
      have hfun := todo_funs t hsh (i + 1)
      rcases todo_at t i1 with ⟨hie, hlen⟩ | ⟨x, hlt, hx, hxb, hl1, ht1, hi1⟩
      · have hBi : B.n = i := by omega
        refine t_rg (j2 @hg1 @hBi) ?_
        refine t_no ?_
        have hall := partC_all t hsh
        rw [← hie] at hall
        rw [hall] at i2
        have hCc : C.n = t.codeN.length := by rw [i2.n_eq]; simp [rowsI]
        by_cases h4 : 4096 < t.codeN.length
        · refine t_g (j2 @hg1 (j2 @hCc (j2 @h4 @hb2))) ?_
          refine W_retR hP hf hfn (.tup [.sl [], dint 4]) [] (by simp [go_sem, hP, hgl, hn]) (by intro b cs hm; cases hm) (by simp) ?_ hR.2
          rw [hR.1]
          exact .inl (by simp [Tm.compN, h, h4])
        · refine t_g (j2 @hg1 (j2 @hCc (j2 @h4 @hb2))) ?_
          have hnd1 : (C.objs.map (·.1)).Nodup := by unfold RS.objs; cases C.q <;> simp
          refine W_retR hP hf hfn (.tup [C.v, dint 0]) C.objs (by simp [go_sem, hP, hgl, hn]) ?_ hnd1 ?_ hR.2
          · repeat (first | refine objsIn_slot ?_ | refine objsIn_loc ?_ )
            intro b cs hm
            exact get_heapSt_of i5 (by simp [mkO, hm])
          · rw [hR.1]
            exact .inr ⟨by simp [Tm.compN, h, h4], C, by simpa [Tm.compN, h, h4] using i2, hnd1, rfl, rfl⟩
      · have hlt' : i < B.n := by omega
        refine t_rg (j2 @hg1 @hlt') ?_
        refine t_yes ?_
        have hxs := bfs_shape [t] (by simpa using hsh) x (List.mem_of_getElem? hxb)
        have hxc : x.count ≤ t.count := by
          have := bfs_mem [t] x (List.mem_of_getElem? hxb)
          simpa [Tm.count.counts] using this
        obtain ⟨p, p1, p2, ⟨a0, p3⟩, p4⟩ := partC_put (t.laid (i + 1)) (laid_length t i1) (by omega : i < funs (lay (t.laid (i + 1))))
        have hPe : (ints (funPos 0 (lay (t.laid (i + 1)))))[i]? = some [dint (p : Int)] := by simp [ints, p1]
        have hCe : (rowsI (partC (t.laid (i + 1))))[p]? = some [dint 2, dint a0] := by simp [rowsI, p3, Ins.row]
        obtain ⟨aP, haP⟩ := i4.there (by intro e; rw [e] at hPe; cases hPe)
        obtain ⟨aC, haC⟩ := i2.there (by intro e; rw [e] at hCe; cases hCe)
        have hP0 := i4.at hPe
        have hC0 := i2.at hCe
        have hPc : (arrRow P.full)[i]? = some (.v (dint (p : Int))) := by
          have := arrRow_cell (E := 1) i4.wid hP0 (j := 0) rfl
          simpa using this
        have hPv : P.v = rawS aP P.n P.cap := by unfold RS.v rawQ; rw [haP]; rfl
        have hCv : C.v = rawS aC C.n C.cap := by unfold RS.v rawQ; rw [haC]; rfl
        have hpl : p < C.n := by rw [i2.n_eq]; simpa [rowsI] using p2
        have hol : (arrRow C.full).length = C.cap * 2 := by rw [arrRow_len i2.wid, i2.len]
        have hoc := i2.le
        have hiP : i < P.n := by omega
        have hgP := hg1.2.2.2 aP haP
        have hgC := hg1.2.1 aC haC
        have hgm := hg1.1
        refine t_a ?_
        have i5' := i5
        generalize hφ : mkO bm C.v B.v P.v C B P = φ1 at hgP hgC hgm i5 ⊢
        refine W_regT (by rw [hP]; exact mixed) 16 (by decide) (by rfl) [] [] fun K hK => ?_
        simp [go_sem, hP, hgl, hn, hgP, hgC, hgm, hPv, hCv, hPc, hb2]
        refine ⟨by omega, by rfl, hpl, by omega, hK _ ?_⟩
        clear hK K
        have hob1 : C.objs = [(aC, C.full.flatten)] := by unfold RS.objs; rw [haC]
        have hob2 : RS.objs ⟨C.q, C.n, C.cap, C.full.set p [dint 2, dint (C.n : Nat)]⟩ = [(aC, (C.full.set p [dint 2, dint (C.n : Nat)]).flatten)] := by unfold RS.objs; rw [haC]
        refine W_putT (φ := φ1) (A := [(bm, [C.v, B.v, P.v])]) (B := B.objs ++ P.objs) (c := C.full.flatten) (c' := (C.full.set p [dint 2, dint (C.n : Nat)]).flatten) (mkO bm C.v B.v P.v ⟨C.q, C.n, C.cap, C.full.set p [dint 2, dint (C.n : Nat)]⟩ B P) (by repeat (first | exact TailD.nil _ _ | apply TailD.slot | apply TailD.loc)) (by rw [← hφ, mkO_C, hob1]; rfl) (by rw [mkO_C, hob2]; rfl) i5 ?_ fun hnd2 => ?_
        · have := put_cell i2.wid hC0 (j := 1) (by decide) (dint (C.n : Nat))
          simpa [arrRow] using this
        have hset := i2.set (i := p) (e := [dint 2, dint (C.n : Nat)]) (by simpa [rowsI] using p2) rfl
        have e2 : (rowsI (partC (t.laid (i + 1)))).set p [dint 2, dint (C.n : Nat)] = rowsI ((partC (t.laid (i + 1))).set p (2, (C.n : Nat))) := by
          simp [rowsI, List.map_set, Ins.row]
        rw [e2, hCn, p4] at hset
        rw [← hCn] at hset
        have hvv : C.v = RS.v ⟨C.q, C.n, C.cap, C.full.set p [dint 2, dint (C.n : Nat)]⟩ := rfl
        rw [hvv] at hnd2 ⊢
        generalize (⟨C.q, C.n, C.cap, C.full.set p [dint 2, dint (C.n : Nat)]⟩ : RS) = C2 at hset hnd2 ⊢
        have hg2 := mkO_get hnd2
        have hxe : ((t.todo (i + 1)).tail.map Tm.cells)[i]? = some x.cells := by rw [List.getElem?_map, List.getElem?_tail, hx]; rfl
        obtain ⟨aB, haB⟩ := i3.there (by intro e; rw [e] at hxe; cases hxe)
        have hB0 := i3.at hxe
        have hrd := arrRow_rd i3.wid hB0
        rw [Tm.cells_eq x] at hrd
        have hfx := Tm.fold x
        have hBv : B.v = rawS aB B.n B.cap := by unfold RS.v rawQ; rw [haB]; rfl
        have hgB := hg2.2.2.1 aB haB
        have hgm2 := hg2.1
        have hos : (fillF (fun j => if j < i + 1 then ((startAt (t.laid (i + 1)) (j + 1) : Nat) : Int) else 0) 0 (lay (t.laid (i + 1)))).length = (lay (t.laid (i + 1))).length := fillF_length _ _ _
        have hfl : (funPos 0 (lay (t.laid (i + 1)))).length = funs (lay (t.laid (i + 1))) := funPos_length _ _
        have htt : (t.todo (i + 1)).tail.length = (t.todo (i + 1)).length - 1 := List.length_tail
        have hcon := mblock_ok (gl := gl) x bm (fillF (fun j => if j < i + 1 then ((startAt (t.laid (i + 1)) (j + 1) : Nat) : Int) else 0) 0 (lay (t.laid (i + 1)))) ((t.todo (i + 1)).tail) (funPos 0 (lay (t.laid (i + 1)))) C2 B P hxs (by omega) (by omega) (by omega) (by omega) hset i3 i4 hnd2
        rw [hos] at hcon
        refine t_a ?_
        generalize hφ2 : mkO bm C2.v B.v P.v C2 B P = φ2 at hgB hgm2 hnd2 hcon ⊢
        refine W_reg [] fun K hK => ?_
        simp [go_sem, hP, hgl, hn, hgB, hgm2, hBv, hrd, hfx]
        refine ⟨by omega, ?_⟩
        refine vcK_callRT hP hgl hcon (by simp [go_sem]) (by repeat (first | exact Tail.nil _ | apply Tail.slot | apply Tail.loc)) hnd2 (by rw [hn]; exact Nat.le_of_ble_eq_true rfl) rfl ?_
        rintro r ψ ⟨rfl, C3, B3, P3, q1, q2, q3, q4, rfl⟩
        refine ⟨q4, ?_⟩
        simp [go_sem]
        refine hK _ ?_
        clear hK K
        have hC3 := skel_le x
        refine t_a ?_
        refine W_reg [] fun K hK => ?_
        simp [go_sem, hP, hgl, hn]
        refine vcK_callRT hP hgl (memit_ok bm _ 14 0 C3 B3 P3 (by rw [List.length_append, hos]; omega) q1 q4) (by simp [go_sem]) (by repeat (first | exact Tail.nil _ | apply Tail.slot | apply Tail.loc)) q4 (by rw [hn]; exact Nat.le_of_ble_eq_true rfl) rfl ?_
        rintro r ψ ⟨rfl, C4, r1, r2, rfl⟩
        refine ⟨r2, ?_⟩
        simp [go_sem]
        refine hK _ ?_
        clear hK K
        refine t_rg0 ?_
        refine t_b ?_
        refine W_sub [] (by simp [go_sem]) ?_ (by simp [go_sem]) (ihr (i + 1, C4, B3, P3) ⟨hi1, ?_, ?_, ?_, r2⟩ (by simp only; omega))
        · simp [go_sem, subLe_hs_self _ r2]
        · simp only
          rw [hl1, ← partC_lay (t.laid (i + 1)) x hxs (m := i + 1) (laid_length t i1) (by omega)]
          exact r1
        · simp only
          rw [ht1]
          have hne : t.todo (i + 1) ≠ [] := by unfold Tm.todo; simp
          rw [List.tail_append_of_ne_nil hne]
          exact q2
        · simp only
          rw [hl1, funPos_lay]
          exact q3
  · refine t_g @h ?_
    refine W_retR hP hf hfn (.tup [.sl [], dint t.checkN]) [] (by simp [go_sem, hP, hgl, hn]) (by intro b cs hm; cases hm) (by simp) ?_ hR.2
    rw [hR.1]
    exact .inl (by simp [Tm.compN, h])
end Go.Proofs.YtmdjiajbnifjpaaDoor.Lift

/-
  Programs of terms, plainly: the main block, how long they are, how many blocks they have, pairs.
-/
namespace Go.Proofs.YtmdjiajbnifjpaaDoor.Lift
set_option linter.unusedSimpArgs false
set_option linter.unusedVariables false
set_option linter.unnecessarySimpa false
open Go

/-- how many functions a term has -/
def Tm.nlam : Tm → Nat
  | .mk k _ _ a => (if k = 2 then 1 else 0) + nlams a
where
  nlams : List Tm → Nat
    | [] => 0
    | a :: r => a.nlam + nlams r
theorem nlam_eq (t : Tm) : t.nlam = (if t.kind = 2 then 1 else 0) + Tm.nlam.nlams t.args := by cases t; rfl
theorem nlams_app (l m : List Tm) : Tm.nlam.nlams (l ++ m) = Tm.nlam.nlams l + Tm.nlam.nlams m := by
  induction l with
  | nil => simp [Tm.nlam.nlams]
  | cons a r ih => simp [Tm.nlam.nlams, ih]; omega
theorem nlam_subs (t : Tm) (h : t.shape = true) : t.subs.length + Tm.nlam.nlams t.subs = t.nlam := by
  induction t using Tm.ind with
  | h t ih =>
    have hs := h
    rw [Tm.shape_eq, Bool.and_eq_true] at hs
    have hss := (Tm.shapes_iff _).1 hs.2
    rw [Tm.subs_eq, nlam_eq]
    by_cases hk : t.kind = 2
    · rw [if_pos hk, if_pos hk]
      have h1 := hs.1
      simp only [tmKind, hk, Bool.and_eq_true, decide_eq_true_eq, arityI] at h1
      have := h1.1.1.1
      simp at this
      omega
    · rw [if_neg hk, if_neg hk, Nat.zero_add]
      have hl : ∀ l : List Tm, (∀ a ∈ l, a.subs.length + Tm.nlam.nlams a.subs = a.nlam) → (Tm.subs.subss l).length + Tm.nlam.nlams (Tm.subs.subss l) = Tm.nlam.nlams l := by
        intro l
        induction l with
        | nil => intro _; rfl
        | cons a r ihr =>
          intro h
          have h1 := h a (by simp)
          have h2 := ihr fun b hb => h b (by simp [hb])
          simp only [Tm.subs.subss, List.length_append, nlams_app, Tm.nlam.nlams]
          omega
      exact hl _ fun a ha => ih a ha (hss a ha)
theorem bfs_nlam : ∀ q : List Tm, (∀ t ∈ q, t.shape = true) → (Tm.bfs q).length = q.length + Tm.nlam.nlams q
  | [], _ => by rw [Tm.bfs_nil]; rfl
  | t :: r, h => by
    have h1 := nlam_subs t (h t (by simp))
    have ih := bfs_nlam (r ++ t.subs) fun x hx => by
      rcases List.mem_append.1 hx with hx | hx
      · exact h x (by simp [hx])
      · exact subs_shape t (h t (by simp)) x hx
    rw [Tm.bfs_cons, List.length_cons, ih, List.length_append, nlams_app, List.length_cons]
    simp only [Tm.nlam.nlams]
    omega
termination_by q => Tm.count.counts q
decreasing_by
  have := Tm.skel_count t
  have := Tm.skel_pos t
  simp only [Tm.counts_app, Tm.count.counts]
  omega
theorem code_length (t : Tm) (h : t.shape = true) : t.codeN.length = t.count + 1 + t.nlam := by
  have h1 := Tm.bfs_count [t]
  simp only [Tm.count.counts, Nat.add_zero] at h1
  have h2 := bfs_nlam [t] (by simpa using h)
  simp only [Tm.nlam.nlams, Nat.add_zero, List.length_singleton] at h2
  have h3 : (lay t.blocks).length = t.count + (Tm.bfs [t]).length := by
    rw [lay_length]
    unfold Tm.blocks
    rw [h1, List.length_map]
  unfold Tm.codeN prog
  rw [fillF_length, h3, h2]
  omega
theorem compN_of (t : Tm) (h : t.shape = true) (hc : t.count ≤ 4096) : t.compN = if 4096 < t.codeN.length then ([], 4) else (t.codeN, 0) := by
  unfold Tm.compN
  rw [if_pos]
  unfold Tm.checkN
  rw [if_pos h, if_neg (by omega)]
theorem compN_cases (t : Tm) (h : t.shape = true) (hc : t.count ≤ 4096) : (t.compN = (t.codeN, 0) ∧ t.codeN.length ≤ 4096) ∨ t.compN = ([], 4) := by
  rw [compN_of t h hc]
  by_cases hl : 4096 < t.codeN.length
  · rw [if_pos hl]; exact .inr rfl
  · rw [if_neg hl]; exact .inl ⟨rfl, by omega⟩
end Go.Proofs.YtmdjiajbnifjpaaDoor.Lift

/-
  Plain facts: lifting, putting in, reducing.
-/
namespace Go.Proofs.YtmdjiajbnifjpaaDoor.Lift
set_option linter.unusedSimpArgs false
set_option linter.unusedVariables false
set_option linter.unnecessarySimpa false
open Go

namespace Tm
set_option linter.unusedSimpArgs false
set_option linter.unusedVariables false
set_option linter.unnecessarySimpa false
/-- all indexes are numbers up to m -/
def idx : Tm → Int → Prop
  | .mk _ i _ a, m => (0 ≤ i ∧ i ≤ m) ∧ idxs a m
where
  idxs : List Tm → Int → Prop
    | [], _ => True
    | x :: r, m => x.idx m ∧ idxs r m
theorem idxs_iff (l : List Tm) (m : Int) : idx.idxs l m ↔ ∀ x ∈ l, x.idx m := by
  induction l with
  | nil => simp [idx.idxs]
  | cons a r ih => simp [idx.idxs, ih]
theorem idx_eq (t : Tm) (m : Int) : t.idx m ↔ (0 ≤ t.index ∧ t.index ≤ m) ∧ ∀ x ∈ t.args, x.idx m := by cases t; simp only [idx, idxs_iff, index, args]
theorem idx_mono {t : Tm} {m n : Int} (h : m ≤ n) (hi : t.idx m) : t.idx n := by
  induction t using Tm.ind with
  | h t ih =>
  rw [idx_eq] at hi ⊢
  exact ⟨⟨hi.1.1, by omega⟩, fun x hx => ih x hx (hi.2 x hx)⟩
end Tm
end Go.Proofs.YtmdjiajbnifjpaaDoor.Lift

namespace Go.Proofs.YtmdjiajbnifjpaaDoor.Lift
set_option linter.unusedSimpArgs false
set_option linter.unusedVariables false
set_option linter.unnecessarySimpa false
open Go
variable {gl : Globs}

/-- several ways lead to one state, at a place that the first way tells -/
theorem W_cutX {X : Ctx} {k kk : List Item} {s : St} (S : St) (h1 : W X kk S → W X k s) (h2 : W X kk S) : W X k s := h1 h2

theorem ref02_var_ok (i : Int) : Con1 Tryd.prog gl 33 [dint i] [] (Tm.mk 1 i (Ty.mk 0 []) []).dv [] := by
  refine t_in Tryd.func33 ?_
  intro X hP hgl hf hfn hn hR hids hfit
  refine t_g0 ?_
  refine t_r ?_
  simp [go_sem, hP, hgl, hn] <;> (try omega)
  all_goals exact t_f

end Go.Proofs.YtmdjiajbnifjpaaDoor.Lift

namespace Go.Proofs.YtmdjiajbnifjpaaDoor.Lift
set_option linter.unusedSimpArgs false
set_option linter.unusedVariables false
set_option linter.unnecessarySimpa false
open Go
variable {gl : Globs}

def appT (f a : Tm) : Tm := Tm.mk 3 0 (Ty.mk 0 []) [f, a]

theorem ref02_t_ok (k : Int) (s : Ty) (l : List Tm) : Con1 Tryd.prog gl 35 [dint k, s.dv, .sl (l.map Tm.cells)] [] (Tm.mk k 0 s l).dv [] := by
  refine t_in Tryd.func35 ?_
  intro X hP hgl hf hfn hn hR hids hfit
  refine t_g0 ?_
  refine t_c1 trivial (ref02_n_ok k l) ?_
  refine t_g0 ?_
  refine t_c1 trivial (ref01_copy_ok s) ?_
  refine t_g0 ?_
  refine t_r ?_
  simp [go_sem, hP, hgl, hn] <;> (try omega)
  all_goals exact t_f

end Go.Proofs.YtmdjiajbnifjpaaDoor.Lift

namespace Go.Proofs.YtmdjiajbnifjpaaDoor.Lift
set_option linter.unusedSimpArgs false
set_option linter.unusedVariables false
set_option linter.unnecessarySimpa false
open Go
variable {gl : Globs}

def lamsT (b : Tm) (l : List Ty) : Tm := l.foldr (fun s b => Tm.mk 2 0 s [b]) b
def appsT (f : Tm) (l : List Tm) : Tm := l.foldl appT f
theorem appsT_snoc (f : Tm) (l : List Tm) (x : Tm) : appsT f (l ++ [x]) = appT (appsT f l) x := by simp [appsT]
theorem appsT_nil (f : Tm) : appsT f [] = f := rfl
theorem mk_app_ok (f : Tm) (l : List Tm) : Con1 Tryd.prog gl 41 [f.dv, .sl (l.map Tm.cells)] [] (appsT f l).dv [] := by
  refine t_in Tryd.func41 ?_
  intro X hP hgl hf hfn hn hR hids hfit
  have hlen := sl_len (hfit (.sl (l.map Tm.cells)) (by simp))
  simp only [List.length_map] at hlen
  refine t_g0 ?_
  refine t_a ?_
  refine t_sub [] @appsT_nil (W_list (l) (fun done rest => [(.slot 9, .one (.v (dint done.length))), (.slot 8, .one (.v (dint l.length))), (.slot 7, .one (.v (.sl (l.map Tm.cells)))), (.loc 2, .row ([.v (dint (appsT f done).kind), .v (dint (appsT f done).index), .v (dint (appsT f done).type.kind), .v (.sl ((appsT f done).type.args.map Ty.cells)), .v (.sl ((appsT f done).args.map Tm.cells))])), (.slot 2, .one (.loc 2 0)), (.loc 4, .row ([.v (dint 0), .v (dint 0), .v (dint 0), .own 0 [], .own 0 []])), (.slot 4, .one (.loc 4 0))]) ?_ ?_)
  · intro done x rest hL hg0 hnext
    have hlt : done.length < l.length := by rw [hL]; simp
    refine t_rg0 ?_
    refine t_yes ?_
    refine t_g @hg0 ?_
    refine t_c1 @hg0 (ref02_n_ok 3 [appsT f done, x]) ?_
    repeat (first | (refine W_sub [] (by simp [go_sem]) (by simp [go_sem, appsT_snoc, appT, Tm.kind_mk, Tm.index_mk, Tm.type_mk, Tm.args_mk] <;> omega) (by simp [go_sem]) hnext) | refine W_seq ?_ | refine W_skip ?_ | refine W_block ?_ | refine W_inBlock ?_ | refine W_label ?_ | refine W_exit rfl ?_ | ((first | refine W_reg [] fun K hK => ?_ | refine W_regd (by rw [hP]; exact mixed) [] fun K hK => ?_); simp [go_sem, hP, hgl, hn]; (repeat (refine ⟨by omega, ?_⟩)); (first | refine hK _ ?_ | refine ⟨by rfl, hK _ ?_⟩); clear hK K) | refine W_cond rfl (fun _ => ?_) (fun hq => False.elim (by first | (simp; done) | (simp; omega) | (simp at hq; done) | (simp at hq; omega))) | refine W_cond rfl (fun hq => False.elim (by first | (simp; done) | (simp; omega) | (simp at hq; done) | (simp at hq; omega))) (fun _ => ?_))
  · refine t_rg0 ?_
    refine t_no ?_
    refine t_g0 ?_
    refine t_r ?_
    simp [go_sem, hP, hgl, hn] <;> (try omega)
    all_goals exact t_f

def vT (i : Int) : Tm := Tm.mk 1 i (Ty.mk 0 []) []
def nT (k : Int) (l : List Tm) : Tm := Tm.mk k 0 (Ty.mk 0 []) l
def recT (b s o : Tm) : Tm := Tm.mk 6 0 (Ty.mk 1 []) [b, lamsT s [Ty.mk 1 [], Ty.mk 1 []], o]
def twoT (b : Tm) : Tm := lamsT b [Ty.mk 1 [], Ty.mk 1 []]
def predT : Tm := lamsT (recT (nT 4 []) (vT 1) (vT 0)) [Ty.mk 1 []]
def plusT : Tm := twoT (recT (vT 1) (nT 5 [vT 0]) (vT 0))
def subT : Tm := twoT (recT (vT 1) (appsT predT [vT 0]) (vT 0))
end Go.Proofs.YtmdjiajbnifjpaaDoor.Lift

namespace Go.Proofs.YtmdjiajbnifjpaaDoor.Lift
set_option linter.unusedSimpArgs false
set_option linter.unusedVariables false
set_option linter.unnecessarySimpa false
open Go
variable {gl : Globs}

theorem plainD_cases (l : List Int) (p : Nat) : (plainD l p).1 = Ty.mk 1 [] ∨ (plainD l p).1 = Ty.mk 2 [] ∨ (plainD l p).1 = Ty.mk 5 [] ∨ (plainD l p).1 = Ty.mk 3 [Ty.mk 1 [], Ty.mk 2 []] ∨ (plainD l p).1 = Ty.mk 3 [Ty.mk 1 [], Ty.mk 1 []] := by
  unfold plainD
  generalize nextD l p 6 = q
  obtain ⟨k, p'⟩ := q
  simp only
  by_cases h1 : k = 0 ∨ k = 1
  · rw [if_pos h1]; simp
  · rw [if_neg h1]
    by_cases h2 : k = 2
    · rw [if_pos h2]; simp
    · rw [if_neg h2]
      by_cases h3 : k = 3
      · rw [if_pos h3]; simp
      · rw [if_neg h3]
        by_cases h4 : k = 4
        · rw [if_pos h4]; simp
        · rw [if_neg h4]; simp
theorem numTm_count : ∀ n : Nat, (numTm n).count = n + 1
  | 0 => rfl
  | n + 1 => by rw [numTm, Tm.count_eq]; simp [Tm.args, Tm.count.counts, numTm_count n]; omega
end Go.Proofs.YtmdjiajbnifjpaaDoor.Lift

/-
  Plain facts: the terms of small values.
-/
namespace Go.Proofs.YtmdjiajbnifjpaaDoor.Lift
set_option linter.unusedSimpArgs false
set_option linter.unusedVariables false
set_option linter.unnecessarySimpa false
open Go

theorem num_shape : ∀ n : Nat, (numTm n).shape = true
  | 0 => rfl
  | n + 1 => by
    rw [numTm, Tm.shape_eq]
    simp [Tm.kind, Tm.index, Tm.type, Tm.args, Tm.shape.shapes, num_shape n, tmKind, tyOfKind, arityI, Ty.zero, Ty.kind, Ty.args]
end Go.Proofs.YtmdjiajbnifjpaaDoor.Lift

/-
  Plain facts: what is drawn out of a deck of numbers: types, contexts, terms; their forms.
-/
namespace Go.Proofs.YtmdjiajbnifjpaaDoor.Lift
set_option linter.unusedSimpArgs false
set_option linter.unusedVariables false
set_option linter.unnecessarySimpa false
open Go

/-- a small type -/
def typeD (l : List Int) : Nat → Nat → Ty × Nat
  | 0, p =>
    if (nextD l p 7).1 = 3 then (Ty.mk 2 [], (nextD l p 7).2) else if (nextD l p 7).1 = 4 then (Ty.mk 5 [], (nextD l p 7).2) else (Ty.mk 1 [], (nextD l p 7).2)
  | n + 1, p =>
    if (nextD l p 7).1 = 3 then (Ty.mk 2 [], (nextD l p 7).2) else if (nextD l p 7).1 = 4 then (Ty.mk 5 [], (nextD l p 7).2)
    else if (nextD l p 7).1 = 5 then (Ty.mk 3 [(typeD l n (nextD l p 7).2).1, (typeD l n (typeD l n (nextD l p 7).2).2).1], (typeD l n (typeD l n (nextD l p 7).2).2).2)
    else if (nextD l p 7).1 = 6 then (Ty.mk 4 [(typeD l n (nextD l p 7).2).1, (typeD l n (typeD l n (nextD l p 7).2).2).1], (typeD l n (typeD l n (nextD l p 7).2).2).2)
    else (Ty.mk 1 [], (nextD l p 7).2)

/-- the variable i's type -/
def varTy (g : List Ty) (i : Nat) : Ty := g.getD (g.length - 1 - i) zeroTy
/-- the variables of a type -/
def varsN (g : List Ty) (t : Ty) : List Nat := (List.range g.length).filter fun i => (varTy g i).same t
/-- the first variable that is a function into a type -/
def funN (g : List Ty) (t : Ty) : Option Nat := (List.range g.length).find? fun i => decide ((varTy g i).kind = 4) && ((varTy g i).arg 1).same t

/-- a variable, if one is chosen -/
def pickD (l : List Int) (t : Ty) (g : List Ty) (p : Nat) : Option Tm × Nat :=
  if (varsN g t).length = 0 then (none, p)
  else if (nextD l p 3).1 = 0 then (none, (nextD l p 3).2)
  else (some (vT ((varsN g t).getD (nextD l (nextD l p 3).2 (varsN g t).length).1.toNat 0 : Nat)), (nextD l (nextD l p 3).2 (varsN g t).length).2)

def numD (l : List Int) (p : Nat) : Tm × Nat := (numTm (nextD l p 3).1.toNat, (nextD l p 3).2)

/-- a term of a type, without depth -/
def leafD (l : List Int) (t : Ty) (g : List Ty) (p : Nat) : Tm × Nat :=
  match pickD l t g p with
  | (some x, q) => (x, q)
  | (none, q) =>
    match t with
    | .mk k ts =>
      if k = 1 then numD l q
      else if k = 2 then (nT 7 [], q)
      else match ts with
        | [a, b] =>
          if k = 3 then (nT 10 [(leafD l a g q).1, (leafD l b g (leafD l a g q).2).1], (leafD l b g (leafD l a g q).2).2)
          else if k = 4 then (Tm.mk 2 0 a [(leafD l b (g ++ [a]) q).1], (leafD l b (g ++ [a]) q).2)
          else (nT 13 [], q)
        | _ => (nT 13 [], q)
termination_by SizeOf.sizeOf t

/-- the end of a draw: by the type -/
def endD (l : List Int) (F : Ty → List Ty → Nat → Tm × Nat) (t : Ty) (g : List Ty) (q : Nat) : Tm × Nat :=
  if t.kind = 1 then
    if (nextD l q 5).1 = 0 then (nT 5 [(F t g (nextD l q 5).2).1], (F t g (nextD l q 5).2).2)
    else if (nextD l q 5).1 = 1 then (appsT plusT [(F t g (nextD l q 5).2).1, (F t g (F t g (nextD l q 5).2).2).1], (F t g (F t g (nextD l q 5).2).2).2)
    else if (nextD l q 5).1 = 2 then (appsT subT [(F t g (nextD l q 5).2).1, (F t g (F t g (nextD l q 5).2).2).1], (F t g (F t g (nextD l q 5).2).2).2)
    else numD l (nextD l q 5).2
  else if t.kind = 2 then
    if (nextD l q 2).1 = 0 then (nT 8 [(F (Ty.mk 1 []) g (nextD l q 2).2).1, (F t g (F (Ty.mk 1 []) g (nextD l q 2).2).2).1], (F t g (F (Ty.mk 1 []) g (nextD l q 2).2).2).2)
    else (nT 7 [], (nextD l q 2).2)
  else if t.kind = 3 then (nT 10 [(F (t.arg 0) g q).1, (F (t.arg 1) g (F (t.arg 0) g q).2).1], (F (t.arg 1) g (F (t.arg 0) g q).2).2)
  else if t.kind = 4 then (Tm.mk 2 0 (t.arg 0) [(F (t.arg 1) (g ++ [t.arg 0]) q).1], (F (t.arg 1) (g ++ [t.arg 0]) q).2)
  else (nT 13 [], q)

/-- a draw with depth, without a variable: by the choice k -/
def stepD (l : List Int) (F : Ty → List Ty → Nat → Tm × Nat) (t : Ty) (g : List Ty) (k : Int) (q : Nat) : Tm × Nat :=
  if k = 0 then
    let s := typeD l 0 q
    let x := F t (g ++ [s.1]) s.2
    let y := F s.1 g x.2
    (nT 3 [Tm.mk 2 0 s.1 [x.1], y.1], y.2)
  else if k = 1 then
    let s := typeD l 0 q
    let x := F t g s.2
    let y := F s.1 g x.2
    (nT 11 [nT 10 [x.1, y.1]], y.2)
  else if k = 2 then
    let x := F t (g ++ [Ty.mk 1 [], t]) q
    let y := F t g x.2
    let z := numD l y.2
    (Tm.mk 6 0 t [y.1, Tm.mk 2 0 (Ty.mk 1 []) [Tm.mk 2 0 t [x.1]], z.1], z.2)
  else if k = 3 then
    let x := F t (g ++ [Ty.mk 1 [], Ty.mk 2 [], t]) q
    let y := F t g x.2
    let z := F (Ty.mk 2 []) g y.2
    (Tm.mk 9 0 t [y.1, Tm.mk 2 0 (Ty.mk 1 []) [Tm.mk 2 0 (Ty.mk 2 []) [Tm.mk 2 0 t [x.1]]], z.1], z.2)
  else if k = 4 then
    let s := typeD l 0 q
    let x := F s.1 g s.2
    let y := F t g x.2
    (nT 12 [nT 10 [x.1, y.1]], y.2)
  else if k = 5 then
    match funN g t with
    | some i => (nT 3 [vT i, (F ((varTy g i).arg 0) g q).1], (F ((varTy g i).arg 0) g q).2)
    | none => endD l F t g q
  else endD l F t g q

/-- a term of a type in a context -/
def termD (l : List Int) : Nat → Ty → List Ty → Nat → Tm × Nat
  | 0, t, g, p => leafD l t g p
  | n + 1, t, g, p =>
    match pickD l t g p with
    | (some x, q) => (x, q)
    | (none, q) => stepD l (termD l n) t g (nextD l q 8).1 (nextD l q 8).2

theorem leafD_eq (l : List Int) (t : Ty) (g : List Ty) (p : Nat) (ht : t.ok) : leafD l t g p =
    match pickD l t g p with
    | (some x, q) => (x, q)
    | (none, q) =>
      if t.kind = 1 then numD l q
      else if t.kind = 2 then (nT 7 [], q)
      else if t.kind = 3 then (nT 10 [(leafD l (t.arg 0) g q).1, (leafD l (t.arg 1) g (leafD l (t.arg 0) g q).2).1], (leafD l (t.arg 1) g (leafD l (t.arg 0) g q).2).2)
      else if t.kind = 4 then (Tm.mk 2 0 (t.arg 0) [(leafD l (t.arg 1) (g ++ [t.arg 0]) q).1], (leafD l (t.arg 1) (g ++ [t.arg 0]) q).2)
      else (nT 13 [], q) := by
  rw [leafD.eq_def]
  rcases pickD l t g p with ⟨_ | x, q⟩
  · cases t with
    | mk k ts =>
      simp only [Ty.kind]
      by_cases h1 : k = 1
      · simp [h1]
      by_cases h2 : k = 2
      · simp [h2]
      simp only [h1, h2, if_false]
      by_cases h34 : k = 3 ∨ k = 4
      · obtain ⟨a, b, e, -, -, e0, e1⟩ := Ty.ok_args ht h34
        simp only [Ty.args] at e
        subst e
        rw [e0, e1]
        rfl
      · have h3 : k ≠ 3 := fun e => h34 (.inl e)
        have h4 : k ≠ 4 := fun e => h34 (.inr e)
        simp only [h3, h4, if_false]
        match ts with
        | [a, b] => rfl
        | [] => rfl
        | [_] => rfl
        | _ :: _ :: _ :: _ => rfl
  · rfl

theorem ty_two {k : Int} {a b : Ty} (hk : k = 3 ∨ k = 4) (ha : a.shape = true) (hb : b.shape = true) : (Ty.mk k [a, b]).shape = true := by
  rcases hk with rfl | rfl <;> simp [Ty.shape, Ty.shape.shapes, tyKind, ha, hb]

theorem typeD_facts (l : List Int) : ∀ (n p : Nat), p ≤ l.length → (typeD l n p).2 ≤ l.length ∧ (typeD l n p).1.shape = true ∧ (typeD l n p).1.count + 1 ≤ 2 ^ (n + 1)
  | 0, p, hp => by
    have hq := nextD_le (n := 7) hp
    unfold typeD
    split
    · exact ⟨hq, rfl, Nat.le_refl 2⟩
    · split
      · exact ⟨hq, rfl, Nat.le_refl 2⟩
      · exact ⟨hq, rfl, Nat.le_refl 2⟩
  | n + 1, p, hp => by
    have hq := nextD_le (n := 7) hp
    obtain ⟨a1, a2, a3⟩ := typeD_facts l n _ hq
    obtain ⟨b1, b2, b3⟩ := typeD_facts l n _ a1
    have h2 : 2 ≤ 2 ^ (n + 1) := Nat.pow_le_pow_right (n := 2) (by decide) (show 1 ≤ n + 1 by omega)
    have h3 : 2 ^ (n + 1 + 1) = 2 ^ (n + 1) * 2 := Nat.pow_succ ..
    have hc : ∀ (k : Int) (a b : Ty), (Ty.mk k [a, b]).count = 1 + (a.count + (b.count + 0)) := fun _ _ _ => rfl
    unfold typeD
    split
    · exact ⟨hq, rfl, by show 1 + 0 + 1 ≤ _; omega⟩
    split
    · exact ⟨hq, rfl, by show 1 + 0 + 1 ≤ _; omega⟩
    split
    · exact ⟨b1, ty_two (.inl rfl) a2 b2, by rw [hc]; omega⟩
    split
    · exact ⟨b1, ty_two (.inr rfl) a2 b2, by rw [hc]; omega⟩
    · exact ⟨hq, rfl, by show 1 + 0 + 1 ≤ _; omega⟩

/-- a small type -/
def Ty.small (t : Ty) : Prop := t.shape = true ∧ t.count ≤ 15
theorem Ty.small.ok {t : Ty} (h : t.small) : t.ok := ⟨h.1, by have := h.2; omega⟩
theorem Ty.small.arg {t : Ty} (h : t.small) (hk : t.kind = 3 ∨ t.kind = 4) : (t.arg 0).small ∧ (t.arg 1).small ∧ (t.arg 0).count + (t.arg 1).count < t.count := by
  obtain ⟨a, b, e, oa, ob, e0, e1⟩ := Ty.ok_args h.ok hk
  have hc : t.count = 1 + (a.count + (b.count + 0)) := by rw [Ty.count_eq, e]; rfl
  have := h.2
  rw [e0, e1]
  exact ⟨⟨oa.1, by omega⟩, ⟨ob.1, by omega⟩, by omega⟩
theorem typeD_small (l : List Int) {n p : Nat} (hp : p ≤ l.length) (hn : n ≤ 3) : (typeD l n p).2 ≤ l.length ∧ (typeD l n p).1.small := by
  obtain ⟨h1, h2, h3⟩ := typeD_facts l n p hp
  have : 2 ^ (n + 1) ≤ 2 ^ 4 := Nat.pow_le_pow_right (by decide) (by omega)
  exact ⟨h1, h2, by omega⟩
theorem small_nat : (Ty.mk 1 []).small := ⟨rfl, by decide⟩
theorem small_list : (Ty.mk 2 []).small := ⟨rfl, by decide⟩
theorem varTy_mem {g : List Ty} {i : Nat} (h : i < g.length) : varTy g i ∈ g ∧ g[g.length - 1 - i]? = some (varTy g i) := by
  have hl : g.length - 1 - i < g.length := by omega
  unfold varTy
  rw [List.getD_eq_getElem?_getD, List.getElem?_eq_getElem hl]
  exact ⟨List.getElem_mem _, rfl⟩
theorem varsN_mem {g : List Ty} {t : Ty} {i : Nat} (h : i ∈ varsN g t) : i < g.length ∧ varTy g i = t := by
  simp only [varsN, List.mem_filter, List.mem_range, Ty.same_iff] at h
  exact h
theorem funN_some {g : List Ty} {t : Ty} {i : Nat} (h : funN g t = some i) : i < g.length ∧ (varTy g i).kind = 4 ∧ (varTy g i).arg 1 = t := by
  have h1 := List.find?_some h
  have h2 := List.mem_of_find?_eq_some h
  simp only [Bool.and_eq_true, decide_eq_true_eq, Ty.same_iff] at h1
  exact ⟨List.mem_range.1 h2, h1.1, h1.2⟩

theorem pickD_le {l : List Int} {t : Ty} {g : List Ty} {p : Nat} (hp : p ≤ l.length) : (pickD l t g p).2 ≤ l.length := by
  unfold pickD
  split
  · exact hp
  · split
    · exact nextD_le hp
    · exact nextD_le (nextD_le hp)
theorem pickD_some {l : List Int} {t : Ty} {g : List Ty} {p q : Nat} {x : Tm} (h : pickD l t g p = (some x, q)) : ∃ i : Nat, x = vT i ∧ i < g.length ∧ varTy g i = t := by
  unfold pickD at h
  split at h
  · cases h
  · rename_i hne
    split at h
    · cases h
    · simp only [Prod.mk.injEq, Option.some.injEq] at h
      generalize hk : (nextD l (nextD l p 3).2 (varsN g t).length).1.toNat = k at h
      have hb := nextD_bd (l := l) (p := (nextD l p 3).2) (n := (varsN g t).length) (by omega)
      have hlt : k < (varsN g t).length := by omega
      refine ⟨(varsN g t)[k], ?_, varsN_mem (List.getElem_mem hlt)⟩
      rw [← h.1, List.getD_eq_getElem?_getD, List.getElem?_eq_getElem hlt, Option.getD_some]

theorem shape_v {i : Nat} : (vT i).shape = true := by
  unfold vT
  rw [Tm.shape_eq]
  simp [Tm.kind, Tm.index, Tm.type, Tm.args, Tm.shape.shapes, tmKind, tyOfKind, arityI, Ty.zero, Ty.kind, Ty.args]
theorem shape_n {k : Int} {a : List Tm} (h : (a.length : Int) = arityI k) (hk : ¬ (k = 2 ∨ k = 6 ∨ k = 9)) (ha : ∀ x ∈ a, x.shape = true) : (nT k a).shape = true := by
  unfold nT
  rw [Tm.shape_eq]
  have hz : tyOfKind k (Ty.mk 0 []) = true := by unfold tyOfKind; rw [if_neg hk]; rfl
  simp only [Tm.kind, Tm.index, Tm.type, Tm.args, (Tm.shapes_iff a).2 ha, tmKind, hz, h]
  simp
theorem shape_t {k : Int} {s : Ty} {a : List Tm} (h : (a.length : Int) = arityI k) (hk : k = 2 ∨ k = 6 ∨ k = 9) (hs : s.ok) (ha : ∀ x ∈ a, x.shape = true) : (Tm.mk k 0 s a).shape = true := by
  rw [Tm.shape_eq]
  simp only [Tm.kind, Tm.index, Tm.type, Tm.args, (Tm.shapes_iff a).2 ha, tmKind, tyOfKind, if_pos hk, h, (Ty.checkN_iff s).2 hs]
  simp

/-- what holds of all that F draws -/
def Draws (l : List Int) (F : Ty → List Ty → Nat → Tm × Nat) (Q : Ty → List Ty → Tm → Prop) : Prop :=
  ∀ t g p, t.small → (∀ x ∈ g, x.small) → p ≤ l.length → (F t g p).2 ≤ l.length ∧ Q t g (F t g p).1

/-- what a property of drawn terms must obey -/
structure DrawOK (Q : Ty → List Ty → Tm → Prop) : Prop where
  var : ∀ g i, i < g.length → Q (varTy g i) g (vT (i : Nat))
  num : ∀ g n, n < 3 → Q (Ty.mk 1 []) g (numTm n)
  app : ∀ g s t f x, s.small → t.small → Q (Ty.mk 4 [s, t]) g f → Q s g x → Q t g (nT 3 [f, x])
  lam : ∀ g s t x, s.small → t.small → Q t (g ++ [s]) x → Q (Ty.mk 4 [s, t]) g (Tm.mk 2 0 s [x])
  lam2 : ∀ g s t r x, s.small → t.small → r.small → Q r (g ++ [s, t]) x → Q (Ty.mk 4 [s, Ty.mk 4 [t, r]]) g (Tm.mk 2 0 s [Tm.mk 2 0 t [x]])
  lam3 : ∀ g s t u r x, s.small → t.small → u.small → r.small → Q r (g ++ [s, t, u]) x → Q (Ty.mk 4 [s, Ty.mk 4 [t, Ty.mk 4 [u, r]]]) g (Tm.mk 2 0 s [Tm.mk 2 0 t [Tm.mk 2 0 u [x]]])
  pair : ∀ g s t x y, s.small → t.small → Q s g x → Q t g y → Q (Ty.mk 3 [s, t]) g (nT 10 [x, y])
  fst : ∀ g s t x, s.small → t.small → Q (Ty.mk 3 [s, t]) g x → Q s g (nT 11 [x])
  snd : ∀ g s t x, s.small → t.small → Q (Ty.mk 3 [s, t]) g x → Q t g (nT 12 [x])
  rc : ∀ g t x f n, t.small → Q t g x → Q (Ty.mk 4 [Ty.mk 1 [], Ty.mk 4 [t, t]]) g f → Q (Ty.mk 1 []) g n → Q t g (Tm.mk 6 0 t [x, f, n])
  fold : ∀ g t x f n, t.small → Q t g x → Q (Ty.mk 4 [Ty.mk 1 [], Ty.mk 4 [Ty.mk 2 [], Ty.mk 4 [t, t]]]) g f → Q (Ty.mk 2 []) g n → Q t g (Tm.mk 9 0 t [x, f, n])
  succ : ∀ g x, Q (Ty.mk 1 []) g x → Q (Ty.mk 1 []) g (nT 5 [x])
  plus : ∀ g x y, Q (Ty.mk 1 []) g x → Q (Ty.mk 1 []) g y → Q (Ty.mk 1 []) g (appsT plusT [x, y])
  sub : ∀ g x y, Q (Ty.mk 1 []) g x → Q (Ty.mk 1 []) g y → Q (Ty.mk 1 []) g (appsT subT [x, y])
  nil : ∀ g, Q (Ty.mk 2 []) g (nT 7 [])
  cons : ∀ g x y, Q (Ty.mk 1 []) g x → Q (Ty.mk 2 []) g y → Q (Ty.mk 2 []) g (nT 8 [x, y])
  unit : ∀ g, Q (Ty.mk 5 []) g (nT 13 [])

theorem numD_facts {l : List Int} {Q : Ty → List Ty → Tm → Prop} (hQ : DrawOK Q) {p : Nat} (hp : p ≤ l.length) (g : List Ty) : (numD l p).2 ≤ l.length ∧ Q (Ty.mk 1 []) g (numD l p).1 := by
  have := nextD_bd (l := l) (p := p) (n := 3) (by decide)
  exact ⟨nextD_le hp, hQ.num g _ (by omega)⟩

theorem small_kinds {t : Ty} (h : t.small) : (t.kind = 1 ∧ t = Ty.mk 1 []) ∨ (t.kind = 2 ∧ t = Ty.mk 2 []) ∨ (t.kind = 5 ∧ t = Ty.mk 5 []) ∨ (t.kind = 3 ∧ t = Ty.mk 3 [t.arg 0, t.arg 1]) ∨ (t.kind = 4 ∧ t = Ty.mk 4 [t.arg 0, t.arg 1]) := by
  cases t with
  | mk k ts =>
    have h1 := h.1
    rw [Ty.shape_eq, Bool.and_eq_true] at h1
    have hk := h1.1
    unfold tyKind at hk
    simp [Ty.kind, Ty.args] at hk
    rcases hk with ⟨h2, rfl⟩ | ⟨h2, h3⟩
    · rcases of_decide_eq_true h2 with rfl | rfl | rfl <;> simp [Ty.kind]
    · match ts, h3 with
      | [a, b], _ => rcases of_decide_eq_true h2 with rfl | rfl <;> simp [Ty.kind, Ty.arg, Ty.args]

theorem endD_facts {l : List Int} {F : Ty → List Ty → Nat → Tm × Nat} {Q : Ty → List Ty → Tm → Prop} (hQ : DrawOK Q) (hF : Draws l F Q) : Draws l (endD l F) Q := by
  intro t g p ht hg hp
  unfold endD
  have h5 := nextD_le (n := 5) hp
  have h2 := nextD_le (n := 2) hp
  rcases small_kinds ht with ⟨h, e⟩ | ⟨h, e⟩ | ⟨h, e⟩ | ⟨h, e⟩ | ⟨h, e⟩
  · rw [if_pos h]
    obtain ⟨a1, a2⟩ := hF t g _ ht hg h5
    obtain ⟨b1, b2⟩ := hF t g _ ht hg a1
    rw [e] at a1 a2 b1 b2 ⊢
    split
    · exact ⟨a1, hQ.succ g _ a2⟩
    split
    · exact ⟨b1, hQ.plus g _ _ a2 b2⟩
    split
    · exact ⟨b1, hQ.sub g _ _ a2 b2⟩
    · exact numD_facts hQ h5 g
  · rw [if_neg (by omega), if_pos h]
    obtain ⟨a1, a2⟩ := hF _ g _ small_nat hg h2
    obtain ⟨b1, b2⟩ := hF t g _ ht hg a1
    rw [e] at b1 b2 ⊢
    split
    · exact ⟨b1, hQ.cons g _ _ a2 b2⟩
    · exact ⟨h2, hQ.nil g⟩
  · rw [if_neg (by omega), if_neg (by omega), if_neg (by omega), if_neg (by omega)]
    rw [e]
    exact ⟨hp, hQ.unit g⟩
  · rw [if_neg (by omega), if_neg (by omega), if_pos h]
    obtain ⟨s0, s1, _⟩ := ht.arg (.inl h)
    obtain ⟨a1, a2⟩ := hF _ g _ s0 hg hp
    obtain ⟨b1, b2⟩ := hF _ g _ s1 hg a1
    refine ⟨b1, ?_⟩
    rw [e]
    exact hQ.pair g _ _ _ _ s0 s1 a2 b2
  · rw [if_neg (by omega), if_neg (by omega), if_neg (by omega), if_pos h]
    obtain ⟨s0, s1, _⟩ := ht.arg (.inr h)
    obtain ⟨a1, a2⟩ := hF (t.arg 1) (g ++ [t.arg 0]) _ s1 (by intro x hx; rcases List.mem_append.1 hx with hx | hx; exact hg x hx; rw [List.mem_singleton.1 hx]; exact s0) hp
    refine ⟨a1, ?_⟩
    rw [e]
    exact hQ.lam g _ _ _ s0 s1 a2

theorem stepD_facts {l : List Int} {F : Ty → List Ty → Nat → Tm × Nat} {Q : Ty → List Ty → Tm → Prop} (hQ : DrawOK Q) (hF : Draws l F Q) (k : Int) : Draws l (fun t g p => stepD l F t g k p) Q := by
  intro t g p ht hg hp
  have hg1 : ∀ a : List Ty, (∀ x ∈ a, x.small) → ∀ x ∈ g ++ a, x.small := by
    intro a ha x hx
    rcases List.mem_append.1 hx with hx | hx
    · exact hg x hx
    · exact ha x hx
  have hg2 : ∀ s : Ty, s.small → ∀ x ∈ g ++ [s], x.small := fun s hs => hg1 [s] (by simpa using hs)
  obtain ⟨s1, s2⟩ := typeD_small l (n := 0) hp (by decide)
  show (stepD l F t g k p).2 ≤ l.length ∧ Q t g (stepD l F t g k p).1
  unfold stepD
  split
  · obtain ⟨a1, a2⟩ := hF t _ _ ht (hg2 _ s2) s1
    obtain ⟨b1, b2⟩ := hF _ g _ s2 hg a1
    exact ⟨b1, hQ.app g _ _ _ _ s2 ht (hQ.lam g _ _ _ s2 ht a2) b2⟩
  split
  · obtain ⟨a1, a2⟩ := hF t g _ ht hg s1
    obtain ⟨b1, b2⟩ := hF _ g _ s2 hg a1
    exact ⟨b1, hQ.fst g _ _ _ ht s2 (hQ.pair g _ _ _ _ ht s2 a2 b2)⟩
  split
  · obtain ⟨a1, a2⟩ := hF t _ _ ht (hg1 [Ty.mk 1 [], t] (by intro x hx; simp at hx; rcases hx with rfl | rfl; exact small_nat; exact ht)) hp
    obtain ⟨b1, b2⟩ := hF t g _ ht hg a1
    obtain ⟨c1, c2⟩ := numD_facts hQ b1 g
    exact ⟨c1, hQ.rc g _ _ _ _ ht b2 (hQ.lam2 g _ _ _ _ small_nat ht ht a2) c2⟩
  split
  · obtain ⟨a1, a2⟩ := hF t _ _ ht (hg1 [Ty.mk 1 [], Ty.mk 2 [], t] (by intro x hx; simp at hx; rcases hx with rfl | rfl | rfl; exact small_nat; exact small_list; exact ht)) hp
    obtain ⟨b1, b2⟩ := hF t g _ ht hg a1
    obtain ⟨c1, c2⟩ := hF _ g _ small_list hg b1
    exact ⟨c1, hQ.fold g _ _ _ _ ht b2 (hQ.lam3 g _ _ _ _ _ small_nat small_list ht ht a2) c2⟩
  split
  · obtain ⟨a1, a2⟩ := hF _ g _ s2 hg s1
    obtain ⟨b1, b2⟩ := hF t g _ ht hg a1
    exact ⟨b1, hQ.snd g _ _ _ s2 ht (hQ.pair g _ _ _ _ s2 ht a2 b2)⟩
  split
  · split
    · rename_i i hi
      obtain ⟨f1, f2, f3⟩ := funN_some hi
      have hfs := hg _ (varTy_mem f1).1
      obtain ⟨c0, c1, -⟩ := hfs.arg (.inr f2)
      obtain ⟨a1, a2⟩ := hF _ g _ c0 hg hp
      have hv := hQ.var g i f1
      rcases small_kinds hfs with ⟨h, e⟩ | ⟨h, e⟩ | ⟨h, e⟩ | ⟨h, e⟩ | ⟨h, e⟩
      · omega
      · omega
      · omega
      · omega
      · rw [e, f3] at hv
        exact ⟨a1, hQ.app g _ _ _ _ c0 ht hv a2⟩
    · exact endD_facts hQ hF t g p ht hg hp
  · exact endD_facts hQ hF t g p ht hg hp

theorem leafD_facts {l : List Int} {Q : Ty → List Ty → Tm → Prop} (hQ : DrawOK Q) : Draws l (leafD l) Q := by
  intro t
  generalize hn : t.count = n
  induction n using Nat.strongRecOn generalizing t with
  | _ n ih =>
  intro g p ht hg hp
  rw [leafD_eq l t g p ht.ok]
  have hq := pickD_le (t := t) (g := g) hp
  split
  · rename_i x q hx
    obtain ⟨i, rfl, h1, h2⟩ := pickD_some hx
    rw [hx] at hq
    have := hQ.var g i h1
    rw [h2] at this
    exact ⟨hq, this⟩
  · rename_i q hx
    rw [hx] at hq
    rcases small_kinds ht with ⟨h, e⟩ | ⟨h, e⟩ | ⟨h, e⟩ | ⟨h, e⟩ | ⟨h, e⟩
    · rw [if_pos h, e]; exact numD_facts hQ hq g
    · rw [if_neg (by omega), if_pos h, e]; exact ⟨hq, hQ.nil g⟩
    · rw [if_neg (by omega), if_neg (by omega), if_neg (by omega), if_neg (by omega), e]; exact ⟨hq, hQ.unit g⟩
    · rw [if_neg (by omega), if_neg (by omega), if_pos h]
      obtain ⟨s0, s1, hc⟩ := ht.arg (.inl h)
      have p0 := Ty.count_eq (t.arg 0)
      have p1 := Ty.count_eq (t.arg 1)
      obtain ⟨a1, a2⟩ := ih _ (by omega) (t.arg 0) rfl g _ s0 hg hq
      obtain ⟨b1, b2⟩ := ih _ (by omega) (t.arg 1) rfl g _ s1 hg a1
      refine ⟨b1, ?_⟩
      have := hQ.pair g _ _ _ _ s0 s1 a2 b2
      rw [← e] at this
      exact this
    · rw [if_neg (by omega), if_neg (by omega), if_neg (by omega), if_pos h]
      obtain ⟨s0, s1, hc⟩ := ht.arg (.inr h)
      have p0 := Ty.count_eq (t.arg 0)
      have p1 := Ty.count_eq (t.arg 1)
      obtain ⟨a1, a2⟩ := ih _ (by omega) (t.arg 1) rfl (g ++ [t.arg 0]) _ s1 (by intro x hx; rcases List.mem_append.1 hx with hx | hx; exact hg x hx; rw [List.mem_singleton.1 hx]; exact s0) hq
      refine ⟨a1, ?_⟩
      have := hQ.lam g _ _ _ s0 s1 a2
      rw [← e] at this
      exact this

theorem termD_facts {l : List Int} {Q : Ty → List Ty → Tm → Prop} (hQ : DrawOK Q) : ∀ n, Draws l (termD l n) Q
  | 0 => leafD_facts hQ
  | n + 1 => by
    intro t g p ht hg hp
    have hq := pickD_le (t := t) (g := g) hp
    unfold termD
    split
    · rename_i x q hx
      obtain ⟨i, rfl, h1, h2⟩ := pickD_some hx
      rw [hx] at hq
      have := hQ.var g i h1
      rw [h2] at this
      exact ⟨hq, this⟩
    · rename_i q hx
      rw [hx] at hq
      exact stepD_facts hQ (termD_facts hQ n) _ t g _ ht hg (nextD_le hq)

theorem app2_shape {f x y : Tm} (hf : f.shape = true) (hx : x.shape = true) (hy : y.shape = true) : (appsT f [x, y]).shape = true := by
  show (nT 3 [nT 3 [f, x], y]).shape = true
  exact shape_n rfl (by decide) (by intro z hz; simp at hz; rcases hz with rfl | rfl; exact shape_n rfl (by decide) (by intro z hz; simp at hz; rcases hz with rfl | rfl; exact hf; exact hx); exact hy)

theorem closed_shape : DrawOK (fun _ _ x => x.shape = true) where
  var _ _ _ := shape_v
  num _ n _ := num_shape n
  app _ _ _ _ _ _ _ hf hx := shape_n rfl (by decide) (by intro z hz; simp at hz; rcases hz with rfl | rfl; exact hf; exact hx)
  lam _ _ _ _ hs _ hx := shape_t rfl (.inl rfl) hs.ok (by intro z hz; simp at hz; rw [hz]; exact hx)
  lam2 _ _ _ _ _ hs ht _ hx := shape_t rfl (.inl rfl) hs.ok (by intro z hz; simp at hz; rw [hz]; exact shape_t rfl (.inl rfl) ht.ok (by intro z hz; simp at hz; rw [hz]; exact hx))
  lam3 _ _ _ _ _ _ hs ht hu _ hx := shape_t rfl (.inl rfl) hs.ok (by intro z hz; simp at hz; rw [hz]; exact shape_t rfl (.inl rfl) ht.ok (by intro z hz; simp at hz; rw [hz]; exact shape_t rfl (.inl rfl) hu.ok (by intro z hz; simp at hz; rw [hz]; exact hx)))
  pair _ _ _ _ _ _ _ hf hx := shape_n rfl (by decide) (by intro z hz; simp at hz; rcases hz with rfl | rfl; exact hf; exact hx)
  fst _ _ _ _ _ _ hx := shape_n rfl (by decide) (by intro z hz; simp at hz; rw [hz]; exact hx)
  snd _ _ _ _ _ _ hx := shape_n rfl (by decide) (by intro z hz; simp at hz; rw [hz]; exact hx)
  rc _ _ _ _ _ ht hx hf hn := shape_t rfl (.inr (.inl rfl)) ht.ok (by intro z hz; simp at hz; rcases hz with rfl | rfl | rfl; exact hx; exact hf; exact hn)
  fold _ _ _ _ _ ht hx hf hn := shape_t rfl (.inr (.inr rfl)) ht.ok (by intro z hz; simp at hz; rcases hz with rfl | rfl | rfl; exact hx; exact hf; exact hn)
  succ _ _ hx := shape_n rfl (by decide) (by intro z hz; simp at hz; rw [hz]; exact hx)
  plus _ _ _ hx hy := app2_shape (by decide) hx hy
  sub _ _ _ hx hy := app2_shape (by decide) hx hy
  nil _ := rfl
  cons _ _ _ hf hx := shape_n rfl (by decide) (by intro z hz; simp at hz; rcases hz with rfl | rfl; exact hf; exact hx)
  unit _ := rfl
end Go.Proofs.YtmdjiajbnifjpaaDoor.Lift

namespace Go.Proofs.YtmdjiajbnifjpaaDoor.Lift
set_option linter.unusedSimpArgs false
set_option linter.unusedVariables false
set_option linter.unnecessarySimpa false
open Go
variable {gl : Globs}

theorem numeral_ok (n : Nat) : Con1 Tryd.prog gl 76 [dint n] [] (numTm n).dv [] := by
  refine t_in Tryd.func76 ?_
  intro X hP hgl hf hfn hn hR hids hfit
  have hn1 : intOK .i64 n := hfit (dint n) (by simp)
  rw [intOK_i64] at hn1
  refine t_g0 ?_
  refine t_c1 trivial (ref02_n_ok 4 []) ?_
  refine t_a ?_
  refine W_sub [] (by simp [go_sem]) (by simp [go_sem, numTm] <;> omega) (by simp [go_sem]) (W_rounds (fun x : Nat => x ≤ n) (fun x : Nat => [(.slot 0, .one (.v (dint x))), (.loc 3, .row ((numTm (n - x)).cells.map .v)), (.slot 3, .one (.loc 3 0)), (.loc 2, .row ([.v (dint 0), .v (dint 0), .v (dint 0), .own 0 [], .own 0 []])), (.slot 2, .one (.loc 2 0))]) (fun x : Nat => x) n (Nat.le_refl n) ?_)
  intro x hx ih
  cases x with
  | zero =>
    refine t_rg0 ?_
    refine t_no ?_
    refine t_g0 ?_
    refine t_r ?_
    simp [go_sem, hP, hgl, hn] <;> (try omega)
  | succ x =>
    have hs : n - x = (n - (x + 1)) + 1 := by omega
    refine t_rg0 ?_
    refine t_yes ?_
    refine t_rg0 ?_
    refine t_rg0 ?_
    repeat (first | refine W_inBlock ?_ | refine W_skip ?_ | refine W_label ?_ | refine W_exit rfl ?_)
    refine W_sub [] (by simp [go_sem]) (by simp [go_sem, hs, numTm] <;> omega) (by simp [go_sem]) (ih x (by omega) (by omega))

theorem ref05_number_ok (n : Nat) (hn4 : n < 4096) : Con1 Tryd.prog gl 64 [dint n] [] (.tup [(numTm n).dv, dint 0]) [] := by
  refine t_in Tryd.func64 ?_
  intro X hP hgl hf hfn hn hR hids hfit
  have h1 : ¬ (n : Int) < 0 := by omega
  have h2 : ¬ (4096 : Int) ≤ n := by omega
  refine t_g (j2 @h1 @h2) ?_
  refine t_c1 trivial (numeral_ok n) ?_
  refine t_r ?_
  simp [go_sem, hP, hgl, hn] <;> (try omega)

theorem mk_num_ok (n : Nat) (hn4 : n < 4096) : Con1 Tryd.prog gl 38 [dint n] [] (numTm n).dv [] := by
  refine t_in Tryd.func38 ?_
  intro X hP hgl hf hfn hn hR hids hfit
  refine t_g0 ?_
  refine t_c1 trivial (ref05_number_ok n hn4) ?_
  refine t_g0 ?_
  refine t_r ?_
  simp [go_sem, hP, hgl, hn] <;> (try omega)
  all_goals exact t_f

theorem lam5_ok (t : Tm) : Con1 Tryd.prog gl 65 [t.dv] [] (Tm.mk 2 0 (Ty.mk 1 []) [t]).dv [] := by
  refine t_in Tryd.func65 ?_
  intro X hP hgl hf hfn hn hR hids hfit
  refine t_g0 ?_
  refine t_c2 @nat_v ref01_nat_ok (ref02_t_ok 2 (Ty.mk 1 []) [t]) ?_
  refine t_r ?_
  simp [go_sem, hP, hgl, hn] <;> (try omega)
  all_goals exact t_f
theorem rec5_ok (a b c : Tm) : Con1 Tryd.prog gl 66 [a.dv, b.dv, c.dv] [] (Tm.mk 6 0 (Ty.mk 1 []) [a, b, c]).dv [] := by
  refine t_in Tryd.func66 ?_
  intro X hP hgl hf hfn hn hR hids hfit
  refine t_g0 ?_
  refine t_c2 @nat_v ref01_nat_ok (ref02_t_ok 6 (Ty.mk 1 []) [a, b, c]) ?_
  refine t_r ?_
  simp [go_sem, hP, hgl, hn] <;> (try omega)
  all_goals exact t_f
def lamN (t : Tm) : Tm := Tm.mk 2 0 (Ty.mk 1 []) [t]
def recN (a b c : Tm) : Tm := Tm.mk 6 0 (Ty.mk 1 []) [a, b, c]
theorem lam5' (t : Tm) : Con1 Tryd.prog gl 65 [t.dv] [] (lamN t).dv [] := lam5_ok t
theorem rec5' (a b c : Tm) : Con1 Tryd.prog gl 66 [a.dv, b.dv, c.dv] [] (recN a b c).dv [] := rec5_ok a b c
theorem var5 (i : Int) : Con1 Tryd.prog gl 33 [dint i] [] (vT i).dv [] := ref02_var_ok i
theorem n5 (k : Int) (l : List Tm) : Con1 Tryd.prog gl 34 [dint k, .sl (l.map Tm.cells)] [] (nT k l).dv [] := ref02_n_ok k l

theorem pred_eq : lamN (recN (nT 4 []) (lamN (lamN (vT 1))) (vT 0)) = predT := rfl
theorem plus_eq : lamN (lamN (recN (vT 1) (lamN (lamN (nT 5 [vT 0]))) (vT 0))) = plusT := rfl
theorem sub_eq : lamN (lamN (recN (vT 1) (lamN (lamN (nT 3 [predT, vT 0]))) (vT 0))) = subT := rfl
theorem ref05_pred_ok : Con1 Tryd.prog gl 67 [] [] predT.dv [] := by
  refine t_in Tryd.func67 ?_
  intro X hP hgl hf hfn hn hR hids hfit
  refine t_g0 ?_
  refine t_c7 trivial (n5 4 []) (var5 1) (lam5' (vT 1)) (lam5' (lamN (vT 1))) (var5 0) (rec5' (nT 4 []) (lamN (lamN (vT 1))) (vT 0)) (lam5' (recN (nT 4 []) (lamN (lamN (vT 1))) (vT 0))) ?_
  refine t_r ?_
  simp [go_sem, hP, hgl, hn, pred_eq] <;> (try omega)
theorem ref05_plus_ok : Con1 Tryd.prog gl 42 [] [] plusT.dv [] := by
  refine t_in Tryd.func42 ?_
  intro X hP hgl hf hfn hn hR hids hfit
  refine t_g0 ?_
  refine t_c9 trivial (var5 1) (var5 0) (n5 5 [vT 0]) (lam5' (nT 5 [vT 0])) (lam5' (lamN (nT 5 [vT 0]))) (var5 0) (rec5' (vT 1) (lamN (lamN (nT 5 [vT 0]))) (vT 0)) (lam5' (recN (vT 1) (lamN (lamN (nT 5 [vT 0]))) (vT 0))) (lam5' (lamN (recN (vT 1) (lamN (lamN (nT 5 [vT 0]))) (vT 0)))) ?_
  refine t_r ?_
  simp [go_sem, hP, hgl, hn, plus_eq] <;> (try omega)
theorem ref05_sub_ok : Con1 Tryd.prog gl 43 [] [] subT.dv [] := by
  refine t_in Tryd.func43 ?_
  intro X hP hgl hf hfn hn hR hids hfit
  refine t_g0 ?_
  refine t_c10 trivial (var5 1) ref05_pred_ok (var5 0) (n5 3 [predT, vT 0]) (lam5' (nT 3 [predT, vT 0])) (lam5' (lamN (nT 3 [predT, vT 0]))) (var5 0) (rec5' (vT 1) (lamN (lamN (nT 3 [predT, vT 0]))) (vT 0)) (lam5' (recN (vT 1) (lamN (lamN (nT 3 [predT, vT 0]))) (vT 0))) (lam5' (lamN (recN (vT 1) (lamN (lamN (nT 3 [predT, vT 0]))) (vT 0)))) ?_
  refine t_r ?_
  simp [go_sem, hP, hgl, hn, sub_eq] <;> (try omega)
end Go.Proofs.YtmdjiajbnifjpaaDoor.Lift

namespace Go.Proofs.YtmdjiajbnifjpaaDoor.Lift
set_option linter.unusedSimpArgs false
set_option linter.unusedVariables false
set_option linter.unnecessarySimpa false
open Go
variable {gl : Globs}

theorem mk_type_ok (n : Nat) (b : Nat) (l : List Int) (p : Nat) (hl : l.length ≤ 500) (hp : p ≤ l.length) (hn3 : n ≤ 3) :
    Con1 Tryd.prog gl 16 [ptr b, dint n] [(b, deck l p)] (typeD l n p).1.dv [(b, deck l (typeD l n p).2)] := by
  induction n generalizing p with
  | zero =>
    refine t_in Tryd.func16 ?_
    intro X hP hgl hf hfn hn hR hids hfit
    rw [typeD] at hR
    have hkb := nextD_bd (l := l) (p := p) (n := 7) (by decide)
    refine t_g0 ?_
    refine t_c1 trivial (next_ok b l p 7 (by decide) (by omega)) ?_
    generalize hd : nextD l p 7 = d at *
    obtain ⟨k, q⟩ := d
    simp only at hkb hR
    by_cases h3 : k = 3
    · refine t_g @h3 ?_
      refine t_c1 trivial ref01_list_ok ?_
      repeat (first | refine W_seq ?_ | refine W_skip ?_ | refine W_block ?_ | refine W_inBlock ?_ | refine W_label ?_ | refine W_exit rfl ?_)
      first | refine W_retR hP hf hfn _ ([(b, deck l q)]) (by first | (simp [go_sem, hP, hgl, hn, h3]; done) | (simp [go_sem, hP, hgl, hn, h3]; rfl)) (by simp [go_sem, hP, hgl, hn, h3]) (by simp) ?_ hR.2 | refine W_endR hP hf hfn _ ([(b, deck l q)]) (by first | (simp [go_sem, hP, hgl, hn, h3]; done) | (simp [go_sem, hP, hgl, hn, h3]; rfl)) (by simp [go_sem, hP, hgl, hn, h3]) (by simp) ?_ hR.2
      rw [hR.1]
      refine ⟨?_, by simp [h3]⟩
      try simp [h3]
      try all_goals (simp [Ty.dv, Ty.cells_eq, Ty.kind_mk, Ty.args_mk, Tm.dv, Tm.cells_eq, Tm.kind_mk, Tm.index_mk, Tm.type_mk, Tm.args_mk, Val.dv, Val.cells_eq, Val.kind_mk, Val.num_mk, Val.list_mk, Val.args_mk, ints])
    by_cases h4 : k = 4
    · refine t_g @h4 ?_
      refine t_c1 trivial ref01_unit_ok ?_
      repeat (first | refine W_seq ?_ | refine W_skip ?_ | refine W_block ?_ | refine W_inBlock ?_ | refine W_label ?_ | refine W_exit rfl ?_)
      first | refine W_retR hP hf hfn _ ([(b, deck l q)]) (by first | (simp [go_sem, hP, hgl, hn, h4]; done) | (simp [go_sem, hP, hgl, hn, h4]; rfl)) (by simp [go_sem, hP, hgl, hn, h4]) (by simp) ?_ hR.2 | refine W_endR hP hf hfn _ ([(b, deck l q)]) (by first | (simp [go_sem, hP, hgl, hn, h4]; done) | (simp [go_sem, hP, hgl, hn, h4]; rfl)) (by simp [go_sem, hP, hgl, hn, h4]) (by simp) ?_ hR.2
      rw [hR.1]
      refine ⟨?_, by simp [h4]⟩
      try simp [h4]
      try all_goals (simp [Ty.dv, Ty.cells_eq, Ty.kind_mk, Ty.args_mk, Tm.dv, Tm.cells_eq, Tm.kind_mk, Tm.index_mk, Tm.type_mk, Tm.args_mk, Val.dv, Val.cells_eq, Val.kind_mk, Val.num_mk, Val.list_mk, Val.args_mk, ints])
    by_cases h0 : k = 0
    · refine t_g @h0 ?_
      refine t_c1 trivial ref01_nat_ok ?_
      repeat (first | refine W_seq ?_ | refine W_skip ?_ | refine W_block ?_ | refine W_inBlock ?_ | refine W_label ?_ | refine W_exit rfl ?_)
      first | refine W_retR hP hf hfn _ ([(b, deck l q)]) (by first | (simp [go_sem, hP, hgl, hn, h0]; done) | (simp [go_sem, hP, hgl, hn, h0]; rfl)) (by simp [go_sem, hP, hgl, hn, h0]) (by simp) ?_ hR.2 | refine W_endR hP hf hfn _ ([(b, deck l q)]) (by first | (simp [go_sem, hP, hgl, hn, h0]; done) | (simp [go_sem, hP, hgl, hn, h0]; rfl)) (by simp [go_sem, hP, hgl, hn, h0]) (by simp) ?_ hR.2
      rw [hR.1]
      refine ⟨?_, by simp [h0]⟩
      try simp [h0]
      try all_goals (simp [Ty.dv, Ty.cells_eq, Ty.kind_mk, Ty.args_mk, Tm.dv, Tm.cells_eq, Tm.kind_mk, Tm.index_mk, Tm.type_mk, Tm.args_mk, Val.dv, Val.cells_eq, Val.kind_mk, Val.num_mk, Val.list_mk, Val.args_mk, ints])
    by_cases h1 : k = 1
    · refine t_g @h1 ?_
      refine t_c1 trivial ref01_nat_ok ?_
      repeat (first | refine W_seq ?_ | refine W_skip ?_ | refine W_block ?_ | refine W_inBlock ?_ | refine W_label ?_ | refine W_exit rfl ?_)
      first | refine W_retR hP hf hfn _ ([(b, deck l q)]) (by first | (simp [go_sem, hP, hgl, hn, h1]; done) | (simp [go_sem, hP, hgl, hn, h1]; rfl)) (by simp [go_sem, hP, hgl, hn, h1]) (by simp) ?_ hR.2 | refine W_endR hP hf hfn _ ([(b, deck l q)]) (by first | (simp [go_sem, hP, hgl, hn, h1]; done) | (simp [go_sem, hP, hgl, hn, h1]; rfl)) (by simp [go_sem, hP, hgl, hn, h1]) (by simp) ?_ hR.2
      rw [hR.1]
      refine ⟨?_, by simp [h1]⟩
      try simp [h1]
      try all_goals (simp [Ty.dv, Ty.cells_eq, Ty.kind_mk, Ty.args_mk, Tm.dv, Tm.cells_eq, Tm.kind_mk, Tm.index_mk, Tm.type_mk, Tm.args_mk, Val.dv, Val.cells_eq, Val.kind_mk, Val.num_mk, Val.list_mk, Val.args_mk, ints])
    by_cases h2 : k = 2
    · refine t_g @h2 ?_
      refine t_c1 trivial ref01_nat_ok ?_
      repeat (first | refine W_seq ?_ | refine W_skip ?_ | refine W_block ?_ | refine W_inBlock ?_ | refine W_label ?_ | refine W_exit rfl ?_)
      first | refine W_retR hP hf hfn _ ([(b, deck l q)]) (by first | (simp [go_sem, hP, hgl, hn, h2]; done) | (simp [go_sem, hP, hgl, hn, h2]; rfl)) (by simp [go_sem, hP, hgl, hn, h2]) (by simp) ?_ hR.2 | refine W_endR hP hf hfn _ ([(b, deck l q)]) (by first | (simp [go_sem, hP, hgl, hn, h2]; done) | (simp [go_sem, hP, hgl, hn, h2]; rfl)) (by simp [go_sem, hP, hgl, hn, h2]) (by simp) ?_ hR.2
      rw [hR.1]
      refine ⟨?_, by simp [h2]⟩
      try simp [h2]
      try all_goals (simp [Ty.dv, Ty.cells_eq, Ty.kind_mk, Ty.args_mk, Tm.dv, Tm.cells_eq, Tm.kind_mk, Tm.index_mk, Tm.type_mk, Tm.args_mk, Val.dv, Val.cells_eq, Val.kind_mk, Val.num_mk, Val.list_mk, Val.args_mk, ints])
    by_cases h5 : k = 5
    · refine t_g @h5 ?_
      refine t_c1 trivial ref01_nat_ok ?_
      repeat (first | refine W_seq ?_ | refine W_skip ?_ | refine W_block ?_ | refine W_inBlock ?_ | refine W_label ?_ | refine W_exit rfl ?_)
      first | refine W_retR hP hf hfn _ ([(b, deck l q)]) (by first | (simp [go_sem, hP, hgl, hn, h5]; done) | (simp [go_sem, hP, hgl, hn, h5]; rfl)) (by simp [go_sem, hP, hgl, hn, h5]) (by simp) ?_ hR.2 | refine W_endR hP hf hfn _ ([(b, deck l q)]) (by first | (simp [go_sem, hP, hgl, hn, h5]; done) | (simp [go_sem, hP, hgl, hn, h5]; rfl)) (by simp [go_sem, hP, hgl, hn, h5]) (by simp) ?_ hR.2
      rw [hR.1]
      refine ⟨?_, by simp [h5]⟩
      try simp [h5]
      try all_goals (simp [Ty.dv, Ty.cells_eq, Ty.kind_mk, Ty.args_mk, Tm.dv, Tm.cells_eq, Tm.kind_mk, Tm.index_mk, Tm.type_mk, Tm.args_mk, Val.dv, Val.cells_eq, Val.kind_mk, Val.num_mk, Val.list_mk, Val.args_mk, ints])
    have h6 : k = 6 := by omega
    refine t_g @h6 ?_
    refine t_c1 trivial ref01_nat_ok ?_
    repeat (first | refine W_seq ?_ | refine W_skip ?_ | refine W_block ?_ | refine W_inBlock ?_ | refine W_label ?_ | refine W_exit rfl ?_)
    first | refine W_retR hP hf hfn _ ([(b, deck l q)]) (by first | (simp [go_sem, hP, hgl, hn, h6]; done) | (simp [go_sem, hP, hgl, hn, h6]; rfl)) (by simp [go_sem, hP, hgl, hn, h6]) (by simp) ?_ hR.2 | refine W_endR hP hf hfn _ ([(b, deck l q)]) (by first | (simp [go_sem, hP, hgl, hn, h6]; done) | (simp [go_sem, hP, hgl, hn, h6]; rfl)) (by simp [go_sem, hP, hgl, hn, h6]) (by simp) ?_ hR.2
    rw [hR.1]
    refine ⟨?_, by simp [h6]⟩
    try simp [h6]
    try all_goals (simp [Ty.dv, Ty.cells_eq, Ty.kind_mk, Ty.args_mk, Tm.dv, Tm.cells_eq, Tm.kind_mk, Tm.index_mk, Tm.type_mk, Tm.args_mk, Val.dv, Val.cells_eq, Val.kind_mk, Val.num_mk, Val.list_mk, Val.args_mk, ints])
  | succ n ih =>
    refine t_in Tryd.func16 ?_
    intro X hP hgl hf hfn hn hR hids hfit
    rw [typeD] at hR
    have hkb := nextD_bd (l := l) (p := p) (n := 7) (by decide)
    have hq := nextD_le (n := 7) hp
    refine t_g0 ?_
    refine t_c1 trivial (next_ok b l p 7 (by decide) (by omega)) ?_
    generalize hd : nextD l p 7 = d at *
    obtain ⟨k, q⟩ := d
    simp only at hkb hR hq
    have hpos : (0 : Int) < ((n + 1 : Nat) : Int) := by omega
    have hsub : ((n + 1 : Nat) : Int) - 1 = (n : Int) := by omega
    obtain ⟨a1, -⟩ := typeD_facts l n q hq
    by_cases h3 : k = 3
    · refine t_g @h3 ?_
      refine t_c1 trivial ref01_list_ok ?_
      repeat (first | refine W_seq ?_ | refine W_skip ?_ | refine W_block ?_ | refine W_inBlock ?_ | refine W_label ?_ | refine W_exit rfl ?_)
      first | refine W_retR hP hf hfn _ ([(b, deck l q)]) (by first | (simp [go_sem, hP, hgl, hn, h3]; done) | (simp [go_sem, hP, hgl, hn, h3]; rfl)) (by simp [go_sem, hP, hgl, hn, h3]) (by simp) ?_ hR.2 | refine W_endR hP hf hfn _ ([(b, deck l q)]) (by first | (simp [go_sem, hP, hgl, hn, h3]; done) | (simp [go_sem, hP, hgl, hn, h3]; rfl)) (by simp [go_sem, hP, hgl, hn, h3]) (by simp) ?_ hR.2
      rw [hR.1]
      refine ⟨?_, by simp [h3]⟩
      try simp [h3]
      try all_goals (simp [Ty.dv, Ty.cells_eq, Ty.kind_mk, Ty.args_mk, Tm.dv, Tm.cells_eq, Tm.kind_mk, Tm.index_mk, Tm.type_mk, Tm.args_mk, Val.dv, Val.cells_eq, Val.kind_mk, Val.num_mk, Val.list_mk, Val.args_mk, ints])
    by_cases h4 : k = 4
    · refine t_g @h4 ?_
      refine t_c1 trivial ref01_unit_ok ?_
      repeat (first | refine W_seq ?_ | refine W_skip ?_ | refine W_block ?_ | refine W_inBlock ?_ | refine W_label ?_ | refine W_exit rfl ?_)
      first | refine W_retR hP hf hfn _ ([(b, deck l q)]) (by first | (simp [go_sem, hP, hgl, hn, h4]; done) | (simp [go_sem, hP, hgl, hn, h4]; rfl)) (by simp [go_sem, hP, hgl, hn, h4]) (by simp) ?_ hR.2 | refine W_endR hP hf hfn _ ([(b, deck l q)]) (by first | (simp [go_sem, hP, hgl, hn, h4]; done) | (simp [go_sem, hP, hgl, hn, h4]; rfl)) (by simp [go_sem, hP, hgl, hn, h4]) (by simp) ?_ hR.2
      rw [hR.1]
      refine ⟨?_, by simp [h4]⟩
      try simp [h4]
      try all_goals (simp [Ty.dv, Ty.cells_eq, Ty.kind_mk, Ty.args_mk, Tm.dv, Tm.cells_eq, Tm.kind_mk, Tm.index_mk, Tm.type_mk, Tm.args_mk, Val.dv, Val.cells_eq, Val.kind_mk, Val.num_mk, Val.list_mk, Val.args_mk, ints])
    by_cases h0 : k = 0
    · refine t_g @h0 ?_
      refine t_c1 trivial ref01_nat_ok ?_
      repeat (first | refine W_seq ?_ | refine W_skip ?_ | refine W_block ?_ | refine W_inBlock ?_ | refine W_label ?_ | refine W_exit rfl ?_)
      first | refine W_retR hP hf hfn _ ([(b, deck l q)]) (by first | (simp [go_sem, hP, hgl, hn, h0]; done) | (simp [go_sem, hP, hgl, hn, h0]; rfl)) (by simp [go_sem, hP, hgl, hn, h0]) (by simp) ?_ hR.2 | refine W_endR hP hf hfn _ ([(b, deck l q)]) (by first | (simp [go_sem, hP, hgl, hn, h0]; done) | (simp [go_sem, hP, hgl, hn, h0]; rfl)) (by simp [go_sem, hP, hgl, hn, h0]) (by simp) ?_ hR.2
      rw [hR.1]
      refine ⟨?_, by simp [h0]⟩
      try simp [h0]
      try all_goals (simp [Ty.dv, Ty.cells_eq, Ty.kind_mk, Ty.args_mk, Tm.dv, Tm.cells_eq, Tm.kind_mk, Tm.index_mk, Tm.type_mk, Tm.args_mk, Val.dv, Val.cells_eq, Val.kind_mk, Val.num_mk, Val.list_mk, Val.args_mk, ints])
    by_cases h1 : k = 1
    · refine t_g @h1 ?_
      refine t_c1 trivial ref01_nat_ok ?_
      repeat (first | refine W_seq ?_ | refine W_skip ?_ | refine W_block ?_ | refine W_inBlock ?_ | refine W_label ?_ | refine W_exit rfl ?_)
      first | refine W_retR hP hf hfn _ ([(b, deck l q)]) (by first | (simp [go_sem, hP, hgl, hn, h1]; done) | (simp [go_sem, hP, hgl, hn, h1]; rfl)) (by simp [go_sem, hP, hgl, hn, h1]) (by simp) ?_ hR.2 | refine W_endR hP hf hfn _ ([(b, deck l q)]) (by first | (simp [go_sem, hP, hgl, hn, h1]; done) | (simp [go_sem, hP, hgl, hn, h1]; rfl)) (by simp [go_sem, hP, hgl, hn, h1]) (by simp) ?_ hR.2
      rw [hR.1]
      refine ⟨?_, by simp [h1]⟩
      try simp [h1]
      try all_goals (simp [Ty.dv, Ty.cells_eq, Ty.kind_mk, Ty.args_mk, Tm.dv, Tm.cells_eq, Tm.kind_mk, Tm.index_mk, Tm.type_mk, Tm.args_mk, Val.dv, Val.cells_eq, Val.kind_mk, Val.num_mk, Val.list_mk, Val.args_mk, ints])
    by_cases h2 : k = 2
    · refine t_g @h2 ?_
      refine t_c1 trivial ref01_nat_ok ?_
      repeat (first | refine W_seq ?_ | refine W_skip ?_ | refine W_block ?_ | refine W_inBlock ?_ | refine W_label ?_ | refine W_exit rfl ?_)
      first | refine W_retR hP hf hfn _ ([(b, deck l q)]) (by first | (simp [go_sem, hP, hgl, hn, h2]; done) | (simp [go_sem, hP, hgl, hn, h2]; rfl)) (by simp [go_sem, hP, hgl, hn, h2]) (by simp) ?_ hR.2 | refine W_endR hP hf hfn _ ([(b, deck l q)]) (by first | (simp [go_sem, hP, hgl, hn, h2]; done) | (simp [go_sem, hP, hgl, hn, h2]; rfl)) (by simp [go_sem, hP, hgl, hn, h2]) (by simp) ?_ hR.2
      rw [hR.1]
      refine ⟨?_, by simp [h2]⟩
      try simp [h2]
      try all_goals (simp [Ty.dv, Ty.cells_eq, Ty.kind_mk, Ty.args_mk, Tm.dv, Tm.cells_eq, Tm.kind_mk, Tm.index_mk, Tm.type_mk, Tm.args_mk, Val.dv, Val.cells_eq, Val.kind_mk, Val.num_mk, Val.list_mk, Val.args_mk, ints])
    by_cases h5 : k = 5
    · refine t_g (j2 @h5 @hpos) ?_
      refine t_c3 @hsub (ih q hq (by omega)) (ih _ a1 (by omega)) (ref01_two_ok (typeD l n q).1 (typeD l n (typeD l n q).2).1) ?_
      repeat (first | refine W_seq ?_ | refine W_skip ?_ | refine W_block ?_ | refine W_inBlock ?_ | refine W_label ?_ | refine W_exit rfl ?_)
      first | refine W_retR hP hf hfn _ ([(b, deck l (typeD l n (typeD l n q).2).2)]) (by first | (simp [go_sem, hP, hgl, hn, h5]; done) | (simp [go_sem, hP, hgl, hn, h5]; rfl)) (by simp [go_sem, hP, hgl, hn, h5]) (by simp) ?_ hR.2 | refine W_endR hP hf hfn _ ([(b, deck l (typeD l n (typeD l n q).2).2)]) (by first | (simp [go_sem, hP, hgl, hn, h5]; done) | (simp [go_sem, hP, hgl, hn, h5]; rfl)) (by simp [go_sem, hP, hgl, hn, h5]) (by simp) ?_ hR.2
      rw [hR.1]
      refine ⟨?_, by simp [h5]⟩
      try simp [h5]
      try all_goals (simp [Ty.dv, Ty.cells_eq, Ty.kind_mk, Ty.args_mk, Tm.dv, Tm.cells_eq, Tm.kind_mk, Tm.index_mk, Tm.type_mk, Tm.args_mk, Val.dv, Val.cells_eq, Val.kind_mk, Val.num_mk, Val.list_mk, Val.args_mk, ints])
    have h6 : k = 6 := by omega
    refine t_g (j2 @h6 @hpos) ?_
    refine t_c3 @hsub (ih q hq (by omega)) (ih _ a1 (by omega)) (ref01_fun_ok (typeD l n q).1 (typeD l n (typeD l n q).2).1) ?_
    repeat (first | refine W_seq ?_ | refine W_skip ?_ | refine W_block ?_ | refine W_inBlock ?_ | refine W_label ?_ | refine W_exit rfl ?_)
    first | refine W_retR hP hf hfn _ ([(b, deck l (typeD l n (typeD l n q).2).2)]) (by first | (simp [go_sem, hP, hgl, hn, h6]; done) | (simp [go_sem, hP, hgl, hn, h6]; rfl)) (by simp [go_sem, hP, hgl, hn, h6]) (by simp) ?_ hR.2 | refine W_endR hP hf hfn _ ([(b, deck l (typeD l n (typeD l n q).2).2)]) (by first | (simp [go_sem, hP, hgl, hn, h6]; done) | (simp [go_sem, hP, hgl, hn, h6]; rfl)) (by simp [go_sem, hP, hgl, hn, h6]) (by simp) ?_ hR.2
    rw [hR.1]
    refine ⟨?_, by simp [h6]⟩
    try simp [h6]
    try all_goals (simp [Ty.dv, Ty.cells_eq, Ty.kind_mk, Ty.args_mk, Tm.dv, Tm.cells_eq, Tm.kind_mk, Tm.index_mk, Tm.type_mk, Tm.args_mk, Val.dv, Val.cells_eq, Val.kind_mk, Val.num_mk, Val.list_mk, Val.args_mk, ints])

def varsP (g : List Ty) (t : Ty) (n : Nat) : List Nat := (List.range n).filter fun i => (varTy g i).same t
theorem varsP_succ (g : List Ty) (t : Ty) (n : Nat) : varsP g t (n + 1) = if (varTy g n).same t = true then varsP g t n ++ [n] else varsP g t n := by
  unfold varsP
  rw [List.range_succ, List.filter_append]
  split <;> simp_all
theorem varsP_le (g : List Ty) (t : Ty) (n : Nat) : (varsP g t n).length ≤ n := by
  have := List.length_filter_le (fun i => (varTy g i).same t) (List.range n)
  simpa [varsP] using this
def natI (l : List Nat) : List Int := l.map Int.ofNat
theorem natI_len (l : List Nat) : (natI l).length = l.length := by simp [natI]
theorem natI_snoc (l : List Nat) (n : Nat) : natI (l ++ [n]) = natI l ++ [(n : Int)] := by simp [natI]

theorem mk_vars_ok (g : List Ty) (t : Ty) (hlg : g.length ≤ 1000000) :
    Con1 Tryd.prog gl 32 [.sl (g.map Ty.cells), t.dv] [] (.sl (ints (natI (varsN g t)))) [] := by
  refine t_in Tryd.func32 ?_
  intro X hP hgl hf hfn hn hR hids hfit
  refine t_g0 ?_
  refine t_a ?_
  refine W_sub [(1005, 0)] (by simp [go_sem]) (by simp [go_sem, natI, varsP, ints_nil] <;> omega) (by simp [go_sem]) (W_upto (g.length) (fun i => True) (fun i => [(.slot 9, .one (.v (dint i))), (.slot 8, .one (.v (dint g.length))), (.slot 5, .one (.own 1005 (ints (natI (varsP g t i))))), (.tok 1005, .tk 1 (varsP g t i).length), (.slot 0, .one (.v (.sl (g.map Ty.cells)))), (.loc 3, .row ([.v (dint t.kind), .v (.sl (t.args.map Ty.cells))])), (.slot 3, .one (.loc 3 0)), (.slot 4, .one (.own 0 []))]) (trivial) ?_ ?_)
  · intro i hi _ hnext
    have hli := varsP_le g t i
    have hvt := (varTy_mem hi).2
    have hix : (g.length : Int) - 1 - i = ((g.length - 1 - i : Nat) : Int) := by omega
    refine t_rg0 ?_
    refine t_yes ?_
    refine t_g0 ?_
    refine t_c1 (j2 @hix @hvt) (ref01_same_ok (varTy g i) t) ?_
    have hsu := varsP_succ g t i
    by_cases hs : (varTy g i).same t = true
    · rw [if_pos hs] at hsu
      rw [hsu] at hnext
      refine t_gt (wr [(1005, 25)]) (j2 @natI_len (j2 @natI_snoc (j2 @ints_cons @ints_nil))) (j2 @hs @natI_len) (hnext trivial)
    · rw [if_neg hs] at hsu
      rw [hsu] at hnext
      refine t_gt (wr []) trivial @hs (hnext trivial)
  · intro _
    refine t_rg0 ?_
    refine t_no ?_
    refine t_g0 ?_
    refine t_r ?_
    simp [go_sem, hP, hgl, hn, varsN, varsP] <;> (try omega)

theorem mk_longer_ok (g h : List Ty) (hlg : g.length + h.length ≤ 1000000) :
    Con1 Tryd.prog gl 36 [.sl (g.map Ty.cells), .sl (h.map Ty.cells)] [] (.sl ((g ++ h).map Ty.cells)) [] := by
  refine t_in Tryd.func36 ?_
  intro X hP hgl hf hfn hn hR hids hfit
  have hl1 : g.length ≤ 1000000 := by omega
  refine t_g0 ?_
  refine t_r ?_
  simp [go_sem, hP, hgl, hn] <;> (try omega)
end Go.Proofs.YtmdjiajbnifjpaaDoor.Lift

