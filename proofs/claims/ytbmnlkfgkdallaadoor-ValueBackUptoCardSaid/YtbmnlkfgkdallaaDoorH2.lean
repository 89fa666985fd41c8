import Derived.Test.YtbmnlkfgkdallaaDoorH1
namespace Go.Proofs.YtbmnlkfgkdallaaDoor.Lift
set_option linter.unusedSimpArgs false
set_option linter.unusedVariables false
set_option linter.unnecessarySimpa false
open Go
variable {gl : Globs}

/-- the first error of a list of types -/
def errTys : List Ty → Int
  | [] => 0
  | t :: r => if t.checkN = 0 then errTys r else t.checkN
def ctxN (l : List Ty) : Int := if 16 < l.length then 3 else errTys l
theorem errTys_append (l m : List Ty) (h : errTys l = 0) : errTys (l ++ m) = errTys m := by
  induction l with
  | nil => rfl
  | cons a r ih =>
    simp only [errTys] at h
    split at h
    · rename_i ha; simp only [List.cons_append, errTys, ha, if_true]; exact ih h
    · rename_i ha; exact absurd h ha

theorem ref01_context_ok (l : List Ty) (hc : ∀ t ∈ l, t.count ≤ 2147483648) : Con1 Tryd.prog gl 84 [.sl (l.map Ty.cells)] [] (dint (ctxN l)) [] := by
  refine Con_intro Tryd.func84 rfl (by kernel_rfl) (Nat.le_of_ble_eq_true rfl) ?_
  intro X hP hgl hf hfn hn hR hids hfit
  have hlen := sl_len (hfit (.sl (l.map Ty.cells)) (by simp))
  simp only [List.length_map] at hlen
  by_cases h : 16 < l.length
  · repeat (first | refine W_seq ?_ | refine W_skip ?_ | refine W_block ?_ | refine W_inBlock ?_ | refine W_label ?_ | refine W_exit rfl ?_ | ((first | refine W_reg [] fun K hK => ?_ | refine W_regd (by rw [hP]; exact mixed) [] fun K hK => ?_); simp [go_sem, hP, hgl, hn, h]; (repeat (refine ⟨by omega, ?_⟩)); (first | refine hK _ ?_ | refine ⟨by rfl, hK _ ?_⟩); clear hK K) | refine W_cond rfl (fun _ => ?_) (fun hq => False.elim (by first | (simp [h]; done) | (simp [h]; omega) | (simp [h] at hq; done) | (simp [h] at hq; omega))) | refine W_cond rfl (fun hq => False.elim (by first | (simp [h]; done) | (simp [h]; omega) | (simp [h] at hq; done) | (simp [h] at hq; omega))) (fun _ => ?_))
    repeat (first | refine W_seq ?_ | refine W_skip ?_ | refine W_block ?_ | refine W_inBlock ?_ | refine W_label ?_ | refine W_exit rfl ?_)
    first | refine W_ret1 hP hf hfn hR ?_ | refine W_end1 hP hf hfn hR ?_
    simp [go_sem, hP, hgl, hn, ctxN, h] <;> (try omega)
  · repeat (first | refine W_seq ?_ | refine W_skip ?_ | refine W_block ?_ | refine W_inBlock ?_ | refine W_label ?_ | refine W_exit rfl ?_ | ((first | refine W_reg [] fun K hK => ?_ | refine W_regd (by rw [hP]; exact mixed) [] fun K hK => ?_); simp [go_sem, hP, hgl, hn, h]; (repeat (refine ⟨by omega, ?_⟩)); (first | refine hK _ ?_ | refine ⟨by rfl, hK _ ?_⟩); clear hK K) | refine W_cond rfl (fun _ => ?_) (fun hq => False.elim (by first | (simp [h]; done) | (simp [h]; omega) | (simp [h] at hq; done) | (simp [h] at hq; omega))) | refine W_cond rfl (fun hq => False.elim (by first | (simp [h]; done) | (simp [h]; omega) | (simp [h] at hq; done) | (simp [h] at hq; omega))) (fun _ => ?_))
    repeat (first | refine W_seq ?_ | refine W_skip ?_ | refine W_block ?_ | refine W_inBlock ?_ | refine W_label ?_ | refine W_exit rfl ?_)
    refine W_sub [] (by simp [go_sem]) (by simp [go_sem] <;> omega) (by simp [go_sem]) (W_listI (l) (fun done => errTys done = 0) (fun done rest => [(.slot 11, .one (.v (dint done.length))), (.slot 10, .one (.v (dint l.length))), (.slot 9, .one (.v (.sl (l.map Ty.cells))))]) (rfl) ?_ ?_)
    · intro done x rest hL hg hI hnext
      have hlt : done.length < l.length := by rw [hL]; simp
      have hx := errTys_append done (x :: rest) hI
      rw [← hL] at hx
      repeat (first | refine W_seq ?_ | refine W_skip ?_ | refine W_block ?_ | refine W_inBlock ?_ | refine W_label ?_ | refine W_exit rfl ?_)
      first | refine W_reg [] fun K hK => ?_ | refine W_regd (by rw [hP]; exact mixed) [] fun K hK => ?_
      simp [go_sem, hP, hgl, hn]
      repeat (refine ⟨by omega, ?_⟩)
      first | refine hK _ ?_ | refine ⟨by rfl, hK _ ?_⟩
      clear hK K
      repeat (first | refine W_seq ?_ | refine W_skip ?_ | refine W_block ?_ | refine W_inBlock ?_ | refine W_label ?_ | refine W_exit rfl ?_)
      refine W_cond rfl ?_ ?_
      rotate_left
      · intro h; simp at h; try omega
      intro _
      repeat (first | refine W_seq ?_ | refine W_skip ?_ | refine W_block ?_ | refine W_inBlock ?_ | refine W_label ?_ | refine W_exit rfl ?_)
      first | refine W_reg [] fun K hK => ?_ | refine W_regd (by rw [hP]; exact mixed) [] fun K hK => ?_
      simp [go_sem, hP, hgl, hn, hg]
      repeat (refine ⟨by omega, ?_⟩)
      first | refine hK _ ?_ | refine ⟨by rfl, hK _ ?_⟩
      clear hK K
      repeat (first | refine W_seq ?_ | refine W_skip ?_ | refine W_block ?_ | refine W_inBlock ?_ | refine W_label ?_ | refine W_exit rfl ?_)
      first | refine W_reg [] fun K hK => ?_ | refine W_regd (by rw [hP]; exact mixed) [] fun K hK => ?_
      simp [go_sem, hP, hgl, hn, hg]
      repeat (refine ⟨by omega, ?_⟩)
      first | refine vcK_call hP hgl (ref01_check_ok x (hc x (List.mem_of_getElem? hg))) (by simp [go_sem, hP, hgl, hn, hg]) rfl (by simp [go_sem]) (by simp) (by rw [hn]; exact Nat.le_of_ble_eq_true rfl) ?_ | refine vcdC_call (fun _ _ => vcd_sound) hP hgl (ref01_check_ok x (hc x (List.mem_of_getElem? hg))) (by simp [go_sem, hP, hgl, hn, hg]) rfl (by simp [go_sem]) (by simp) (by rw [hn]; exact Nat.le_of_ble_eq_true rfl) ?_ | refine vcK_callG hP hgl (ref01_check_ok x (hc x (List.mem_of_getElem? hg))) (by simp [go_sem, hP, hgl, hn, hg]) rfl (by simp [go_sem]) (by simp) (by rw [hn]; exact Nat.le_of_ble_eq_true rfl) (by simp [go_sem]; rfl) (by rw [hn]; exact Nat.le_of_ble_eq_true rfl) (by simp [go_sem]) ?_ | refine vcdC_callG (fun _ _ => vcd_sound) hP hgl (ref01_check_ok x (hc x (List.mem_of_getElem? hg))) (by simp [go_sem, hP, hgl, hn, hg]) rfl (by simp [go_sem]) (by simp) (by rw [hn]; exact Nat.le_of_ble_eq_true rfl) (by simp [go_sem]; rfl) (by rw [hn]; exact Nat.le_of_ble_eq_true rfl) (by simp [go_sem]) ?_
      simp [go_sem, hP, hgl, hn, hg]
      repeat (refine ⟨by omega, ?_⟩)
      first | refine hK _ ?_ | refine ⟨by rfl, hK _ ?_⟩
      clear hK K
      by_cases hx0 : x.checkN = 0
      · repeat (first | (refine W_sub [] (by simp [go_sem]) (by simp [go_sem] <;> omega) (by simp [go_sem]) (hnext (by rw [errTys_append done [x] hI]; simp [errTys, hx0]))) | refine W_seq ?_ | refine W_skip ?_ | refine W_block ?_ | refine W_inBlock ?_ | refine W_label ?_ | refine W_exit rfl ?_ | ((first | refine W_reg [] fun K hK => ?_ | refine W_regd (by rw [hP]; exact mixed) [] fun K hK => ?_); simp [go_sem, hP, hgl, hn, hx0]; (repeat (refine ⟨by omega, ?_⟩)); (first | refine hK _ ?_ | refine ⟨by rfl, hK _ ?_⟩); clear hK K) | refine W_cond rfl (fun _ => ?_) (fun hq => False.elim (by first | (simp [hx0]; done) | (simp [hx0]; omega) | (simp [hx0] at hq; done) | (simp [hx0] at hq; omega))) | refine W_cond rfl (fun hq => False.elim (by first | (simp [hx0]; done) | (simp [hx0]; omega) | (simp [hx0] at hq; done) | (simp [hx0] at hq; omega))) (fun _ => ?_))
      · repeat (first | refine W_seq ?_ | refine W_skip ?_ | refine W_block ?_ | refine W_inBlock ?_ | refine W_label ?_ | refine W_exit rfl ?_ | ((first | refine W_reg [] fun K hK => ?_ | refine W_regd (by rw [hP]; exact mixed) [] fun K hK => ?_); simp [go_sem, hP, hgl, hn, hx0]; (repeat (refine ⟨by omega, ?_⟩)); (first | refine hK _ ?_ | refine ⟨by rfl, hK _ ?_⟩); clear hK K) | refine W_cond rfl (fun _ => ?_) (fun hq => False.elim (by first | (simp [hx0]; done) | (simp [hx0]; omega) | (simp [hx0] at hq; done) | (simp [hx0] at hq; omega))) | refine W_cond rfl (fun hq => False.elim (by first | (simp [hx0]; done) | (simp [hx0]; omega) | (simp [hx0] at hq; done) | (simp [hx0] at hq; omega))) (fun _ => ?_))
        repeat (first | refine W_seq ?_ | refine W_skip ?_ | refine W_block ?_ | refine W_inBlock ?_ | refine W_label ?_ | refine W_exit rfl ?_)
        first | refine W_ret1 hP hf hfn hR ?_ | refine W_end1 hP hf hfn hR ?_
        simp [go_sem, hP, hgl, hn, ctxN, h, hx, errTys, hx0] <;> (try omega)
    · intro hI
      repeat (first | refine W_seq ?_ | refine W_skip ?_ | refine W_block ?_ | refine W_inBlock ?_ | refine W_label ?_ | refine W_exit rfl ?_)
      first | refine W_reg [] fun K hK => ?_ | refine W_regd (by rw [hP]; exact mixed) [] fun K hK => ?_
      simp [go_sem, hP, hgl, hn]
      repeat (refine ⟨by omega, ?_⟩)
      first | refine hK _ ?_ | refine ⟨by rfl, hK _ ?_⟩
      clear hK K
      repeat (first | refine W_seq ?_ | refine W_skip ?_ | refine W_block ?_ | refine W_inBlock ?_ | refine W_label ?_ | refine W_exit rfl ?_)
      refine W_cond rfl ?_ ?_
      · intro h; simp at h; try omega
      intro _
      repeat (first | refine W_seq ?_ | refine W_skip ?_ | refine W_block ?_ | refine W_inBlock ?_ | refine W_label ?_ | refine W_exit rfl ?_ | ((first | refine W_reg [] fun K hK => ?_ | refine W_regd (by rw [hP]; exact mixed) [] fun K hK => ?_); simp [go_sem, hP, hgl, hn]; (repeat (refine ⟨by omega, ?_⟩)); (first | refine hK _ ?_ | refine ⟨by rfl, hK _ ?_⟩); clear hK K) | refine W_cond rfl (fun _ => ?_) (fun hq => False.elim (by first | (simp; done) | (simp; omega) | (simp at hq; done) | (simp at hq; omega))) | refine W_cond rfl (fun hq => False.elim (by first | (simp; done) | (simp; omega) | (simp at hq; done) | (simp at hq; omega))) (fun _ => ?_))
      repeat (first | refine W_seq ?_ | refine W_skip ?_ | refine W_block ?_ | refine W_inBlock ?_ | refine W_label ?_ | refine W_exit rfl ?_)
      first | refine W_ret1 hP hf hfn hR ?_ | refine W_end1 hP hf hfn hR ?_
      simp [go_sem, hP, hgl, hn, ctxN, h, hI] <;> (try omega)

theorem ref02_args_ok (k : Int) : Con1 Tryd.prog gl 125 [dint k] [] (dint (arityI k)) [] := by
  refine Con_intro Tryd.func125 rfl (by kernel_rfl) (Nat.le_of_ble_eq_true rfl) ?_
  intro X hP hgl hf hfn hn hR hids hfit
  by_cases hs0 : k = 1
  · repeat (first | refine W_seq ?_ | refine W_skip ?_ | refine W_block ?_ | refine W_inBlock ?_ | refine W_label ?_ | refine W_exit rfl ?_ | ((first | refine W_reg [] fun K hK => ?_ | refine W_regd (by rw [hP]; exact mixed) [] fun K hK => ?_); simp [go_sem, hP, hgl, hn, hs0]; (repeat (refine ⟨by omega, ?_⟩)); (first | refine hK _ ?_ | refine ⟨by rfl, hK _ ?_⟩); clear hK K) | refine W_cond rfl (fun _ => ?_) (fun hq => False.elim (by first | (simp [hs0]; done) | (simp [hs0]; omega) | (simp [hs0] at hq; done) | (simp [hs0] at hq; omega))) | refine W_cond rfl (fun hq => False.elim (by first | (simp [hs0]; done) | (simp [hs0]; omega) | (simp [hs0] at hq; done) | (simp [hs0] at hq; omega))) (fun _ => ?_))
    repeat (first | refine W_seq ?_ | refine W_skip ?_ | refine W_block ?_ | refine W_inBlock ?_ | refine W_label ?_ | refine W_exit rfl ?_)
    first | refine W_ret1 hP hf hfn hR ?_ | refine W_end1 hP hf hfn hR ?_
    simp [go_sem, hP, hgl, hn, arityI, hs0] <;> (try omega)
  by_cases hs1 : k = 4
  · repeat (first | refine W_seq ?_ | refine W_skip ?_ | refine W_block ?_ | refine W_inBlock ?_ | refine W_label ?_ | refine W_exit rfl ?_ | ((first | refine W_reg [] fun K hK => ?_ | refine W_regd (by rw [hP]; exact mixed) [] fun K hK => ?_); simp [go_sem, hP, hgl, hn, hs1]; (repeat (refine ⟨by omega, ?_⟩)); (first | refine hK _ ?_ | refine ⟨by rfl, hK _ ?_⟩); clear hK K) | refine W_cond rfl (fun _ => ?_) (fun hq => False.elim (by first | (simp [hs1]; done) | (simp [hs1]; omega) | (simp [hs1] at hq; done) | (simp [hs1] at hq; omega))) | refine W_cond rfl (fun hq => False.elim (by first | (simp [hs1]; done) | (simp [hs1]; omega) | (simp [hs1] at hq; done) | (simp [hs1] at hq; omega))) (fun _ => ?_))
    repeat (first | refine W_seq ?_ | refine W_skip ?_ | refine W_block ?_ | refine W_inBlock ?_ | refine W_label ?_ | refine W_exit rfl ?_)
    first | refine W_ret1 hP hf hfn hR ?_ | refine W_end1 hP hf hfn hR ?_
    simp [go_sem, hP, hgl, hn, arityI, hs1] <;> (try omega)
  by_cases hs2 : k = 7
  · repeat (first | refine W_seq ?_ | refine W_skip ?_ | refine W_block ?_ | refine W_inBlock ?_ | refine W_label ?_ | refine W_exit rfl ?_ | ((first | refine W_reg [] fun K hK => ?_ | refine W_regd (by rw [hP]; exact mixed) [] fun K hK => ?_); simp [go_sem, hP, hgl, hn, hs2]; (repeat (refine ⟨by omega, ?_⟩)); (first | refine hK _ ?_ | refine ⟨by rfl, hK _ ?_⟩); clear hK K) | refine W_cond rfl (fun _ => ?_) (fun hq => False.elim (by first | (simp [hs2]; done) | (simp [hs2]; omega) | (simp [hs2] at hq; done) | (simp [hs2] at hq; omega))) | refine W_cond rfl (fun hq => False.elim (by first | (simp [hs2]; done) | (simp [hs2]; omega) | (simp [hs2] at hq; done) | (simp [hs2] at hq; omega))) (fun _ => ?_))
    repeat (first | refine W_seq ?_ | refine W_skip ?_ | refine W_block ?_ | refine W_inBlock ?_ | refine W_label ?_ | refine W_exit rfl ?_)
    first | refine W_ret1 hP hf hfn hR ?_ | refine W_end1 hP hf hfn hR ?_
    simp [go_sem, hP, hgl, hn, arityI, hs2] <;> (try omega)
  by_cases hs3 : k = 13
  · repeat (first | refine W_seq ?_ | refine W_skip ?_ | refine W_block ?_ | refine W_inBlock ?_ | refine W_label ?_ | refine W_exit rfl ?_ | ((first | refine W_reg [] fun K hK => ?_ | refine W_regd (by rw [hP]; exact mixed) [] fun K hK => ?_); simp [go_sem, hP, hgl, hn, hs3]; (repeat (refine ⟨by omega, ?_⟩)); (first | refine hK _ ?_ | refine ⟨by rfl, hK _ ?_⟩); clear hK K) | refine W_cond rfl (fun _ => ?_) (fun hq => False.elim (by first | (simp [hs3]; done) | (simp [hs3]; omega) | (simp [hs3] at hq; done) | (simp [hs3] at hq; omega))) | refine W_cond rfl (fun hq => False.elim (by first | (simp [hs3]; done) | (simp [hs3]; omega) | (simp [hs3] at hq; done) | (simp [hs3] at hq; omega))) (fun _ => ?_))
    repeat (first | refine W_seq ?_ | refine W_skip ?_ | refine W_block ?_ | refine W_inBlock ?_ | refine W_label ?_ | refine W_exit rfl ?_)
    first | refine W_ret1 hP hf hfn hR ?_ | refine W_end1 hP hf hfn hR ?_
    simp [go_sem, hP, hgl, hn, arityI, hs3] <;> (try omega)
  by_cases hs4 : k = 2
  · repeat (first | refine W_seq ?_ | refine W_skip ?_ | refine W_block ?_ | refine W_inBlock ?_ | refine W_label ?_ | refine W_exit rfl ?_ | ((first | refine W_reg [] fun K hK => ?_ | refine W_regd (by rw [hP]; exact mixed) [] fun K hK => ?_); simp [go_sem, hP, hgl, hn, hs4]; (repeat (refine ⟨by omega, ?_⟩)); (first | refine hK _ ?_ | refine ⟨by rfl, hK _ ?_⟩); clear hK K) | refine W_cond rfl (fun _ => ?_) (fun hq => False.elim (by first | (simp [hs4]; done) | (simp [hs4]; omega) | (simp [hs4] at hq; done) | (simp [hs4] at hq; omega))) | refine W_cond rfl (fun hq => False.elim (by first | (simp [hs4]; done) | (simp [hs4]; omega) | (simp [hs4] at hq; done) | (simp [hs4] at hq; omega))) (fun _ => ?_))
    repeat (first | refine W_seq ?_ | refine W_skip ?_ | refine W_block ?_ | refine W_inBlock ?_ | refine W_label ?_ | refine W_exit rfl ?_)
    first | refine W_ret1 hP hf hfn hR ?_ | refine W_end1 hP hf hfn hR ?_
    simp [go_sem, hP, hgl, hn, arityI, hs4] <;> (try omega)
  by_cases hs5 : k = 5
  · repeat (first | refine W_seq ?_ | refine W_skip ?_ | refine W_block ?_ | refine W_inBlock ?_ | refine W_label ?_ | refine W_exit rfl ?_ | ((first | refine W_reg [] fun K hK => ?_ | refine W_regd (by rw [hP]; exact mixed) [] fun K hK => ?_); simp [go_sem, hP, hgl, hn, hs5]; (repeat (refine ⟨by omega, ?_⟩)); (first | refine hK _ ?_ | refine ⟨by rfl, hK _ ?_⟩); clear hK K) | refine W_cond rfl (fun _ => ?_) (fun hq => False.elim (by first | (simp [hs5]; done) | (simp [hs5]; omega) | (simp [hs5] at hq; done) | (simp [hs5] at hq; omega))) | refine W_cond rfl (fun hq => False.elim (by first | (simp [hs5]; done) | (simp [hs5]; omega) | (simp [hs5] at hq; done) | (simp [hs5] at hq; omega))) (fun _ => ?_))
    repeat (first | refine W_seq ?_ | refine W_skip ?_ | refine W_block ?_ | refine W_inBlock ?_ | refine W_label ?_ | refine W_exit rfl ?_)
    first | refine W_ret1 hP hf hfn hR ?_ | refine W_end1 hP hf hfn hR ?_
    simp [go_sem, hP, hgl, hn, arityI, hs5] <;> (try omega)
  by_cases hs6 : k = 11
  · repeat (first | refine W_seq ?_ | refine W_skip ?_ | refine W_block ?_ | refine W_inBlock ?_ | refine W_label ?_ | refine W_exit rfl ?_ | ((first | refine W_reg [] fun K hK => ?_ | refine W_regd (by rw [hP]; exact mixed) [] fun K hK => ?_); simp [go_sem, hP, hgl, hn, hs6]; (repeat (refine ⟨by omega, ?_⟩)); (first | refine hK _ ?_ | refine ⟨by rfl, hK _ ?_⟩); clear hK K) | refine W_cond rfl (fun _ => ?_) (fun hq => False.elim (by first | (simp [hs6]; done) | (simp [hs6]; omega) | (simp [hs6] at hq; done) | (simp [hs6] at hq; omega))) | refine W_cond rfl (fun hq => False.elim (by first | (simp [hs6]; done) | (simp [hs6]; omega) | (simp [hs6] at hq; done) | (simp [hs6] at hq; omega))) (fun _ => ?_))
    repeat (first | refine W_seq ?_ | refine W_skip ?_ | refine W_block ?_ | refine W_inBlock ?_ | refine W_label ?_ | refine W_exit rfl ?_)
    first | refine W_ret1 hP hf hfn hR ?_ | refine W_end1 hP hf hfn hR ?_
    simp [go_sem, hP, hgl, hn, arityI, hs6] <;> (try omega)
  by_cases hs7 : k = 12
  · repeat (first | refine W_seq ?_ | refine W_skip ?_ | refine W_block ?_ | refine W_inBlock ?_ | refine W_label ?_ | refine W_exit rfl ?_ | ((first | refine W_reg [] fun K hK => ?_ | refine W_regd (by rw [hP]; exact mixed) [] fun K hK => ?_); simp [go_sem, hP, hgl, hn, hs7]; (repeat (refine ⟨by omega, ?_⟩)); (first | refine hK _ ?_ | refine ⟨by rfl, hK _ ?_⟩); clear hK K) | refine W_cond rfl (fun _ => ?_) (fun hq => False.elim (by first | (simp [hs7]; done) | (simp [hs7]; omega) | (simp [hs7] at hq; done) | (simp [hs7] at hq; omega))) | refine W_cond rfl (fun hq => False.elim (by first | (simp [hs7]; done) | (simp [hs7]; omega) | (simp [hs7] at hq; done) | (simp [hs7] at hq; omega))) (fun _ => ?_))
    repeat (first | refine W_seq ?_ | refine W_skip ?_ | refine W_block ?_ | refine W_inBlock ?_ | refine W_label ?_ | refine W_exit rfl ?_)
    first | refine W_ret1 hP hf hfn hR ?_ | refine W_end1 hP hf hfn hR ?_
    simp [go_sem, hP, hgl, hn, arityI, hs7] <;> (try omega)
  by_cases hs8 : k = 3
  · repeat (first | refine W_seq ?_ | refine W_skip ?_ | refine W_block ?_ | refine W_inBlock ?_ | refine W_label ?_ | refine W_exit rfl ?_ | ((first | refine W_reg [] fun K hK => ?_ | refine W_regd (by rw [hP]; exact mixed) [] fun K hK => ?_); simp [go_sem, hP, hgl, hn, hs8]; (repeat (refine ⟨by omega, ?_⟩)); (first | refine hK _ ?_ | refine ⟨by rfl, hK _ ?_⟩); clear hK K) | refine W_cond rfl (fun _ => ?_) (fun hq => False.elim (by first | (simp [hs8]; done) | (simp [hs8]; omega) | (simp [hs8] at hq; done) | (simp [hs8] at hq; omega))) | refine W_cond rfl (fun hq => False.elim (by first | (simp [hs8]; done) | (simp [hs8]; omega) | (simp [hs8] at hq; done) | (simp [hs8] at hq; omega))) (fun _ => ?_))
    repeat (first | refine W_seq ?_ | refine W_skip ?_ | refine W_block ?_ | refine W_inBlock ?_ | refine W_label ?_ | refine W_exit rfl ?_)
    first | refine W_ret1 hP hf hfn hR ?_ | refine W_end1 hP hf hfn hR ?_
    simp [go_sem, hP, hgl, hn, arityI, hs8] <;> (try omega)
  by_cases hs9 : k = 8
  · repeat (first | refine W_seq ?_ | refine W_skip ?_ | refine W_block ?_ | refine W_inBlock ?_ | refine W_label ?_ | refine W_exit rfl ?_ | ((first | refine W_reg [] fun K hK => ?_ | refine W_regd (by rw [hP]; exact mixed) [] fun K hK => ?_); simp [go_sem, hP, hgl, hn, hs9]; (repeat (refine ⟨by omega, ?_⟩)); (first | refine hK _ ?_ | refine ⟨by rfl, hK _ ?_⟩); clear hK K) | refine W_cond rfl (fun _ => ?_) (fun hq => False.elim (by first | (simp [hs9]; done) | (simp [hs9]; omega) | (simp [hs9] at hq; done) | (simp [hs9] at hq; omega))) | refine W_cond rfl (fun hq => False.elim (by first | (simp [hs9]; done) | (simp [hs9]; omega) | (simp [hs9] at hq; done) | (simp [hs9] at hq; omega))) (fun _ => ?_))
    repeat (first | refine W_seq ?_ | refine W_skip ?_ | refine W_block ?_ | refine W_inBlock ?_ | refine W_label ?_ | refine W_exit rfl ?_)
    first | refine W_ret1 hP hf hfn hR ?_ | refine W_end1 hP hf hfn hR ?_
    simp [go_sem, hP, hgl, hn, arityI, hs9] <;> (try omega)
  by_cases hs10 : k = 10
  · repeat (first | refine W_seq ?_ | refine W_skip ?_ | refine W_block ?_ | refine W_inBlock ?_ | refine W_label ?_ | refine W_exit rfl ?_ | ((first | refine W_reg [] fun K hK => ?_ | refine W_regd (by rw [hP]; exact mixed) [] fun K hK => ?_); simp [go_sem, hP, hgl, hn, hs10]; (repeat (refine ⟨by omega, ?_⟩)); (first | refine hK _ ?_ | refine ⟨by rfl, hK _ ?_⟩); clear hK K) | refine W_cond rfl (fun _ => ?_) (fun hq => False.elim (by first | (simp [hs10]; done) | (simp [hs10]; omega) | (simp [hs10] at hq; done) | (simp [hs10] at hq; omega))) | refine W_cond rfl (fun hq => False.elim (by first | (simp [hs10]; done) | (simp [hs10]; omega) | (simp [hs10] at hq; done) | (simp [hs10] at hq; omega))) (fun _ => ?_))
    repeat (first | refine W_seq ?_ | refine W_skip ?_ | refine W_block ?_ | refine W_inBlock ?_ | refine W_label ?_ | refine W_exit rfl ?_)
    first | refine W_ret1 hP hf hfn hR ?_ | refine W_end1 hP hf hfn hR ?_
    simp [go_sem, hP, hgl, hn, arityI, hs10] <;> (try omega)
  by_cases hs11 : k = 6
  · repeat (first | refine W_seq ?_ | refine W_skip ?_ | refine W_block ?_ | refine W_inBlock ?_ | refine W_label ?_ | refine W_exit rfl ?_ | ((first | refine W_reg [] fun K hK => ?_ | refine W_regd (by rw [hP]; exact mixed) [] fun K hK => ?_); simp [go_sem, hP, hgl, hn, hs11]; (repeat (refine ⟨by omega, ?_⟩)); (first | refine hK _ ?_ | refine ⟨by rfl, hK _ ?_⟩); clear hK K) | refine W_cond rfl (fun _ => ?_) (fun hq => False.elim (by first | (simp [hs11]; done) | (simp [hs11]; omega) | (simp [hs11] at hq; done) | (simp [hs11] at hq; omega))) | refine W_cond rfl (fun hq => False.elim (by first | (simp [hs11]; done) | (simp [hs11]; omega) | (simp [hs11] at hq; done) | (simp [hs11] at hq; omega))) (fun _ => ?_))
    repeat (first | refine W_seq ?_ | refine W_skip ?_ | refine W_block ?_ | refine W_inBlock ?_ | refine W_label ?_ | refine W_exit rfl ?_)
    first | refine W_ret1 hP hf hfn hR ?_ | refine W_end1 hP hf hfn hR ?_
    simp [go_sem, hP, hgl, hn, arityI, hs11] <;> (try omega)
  by_cases hs12 : k = 9
  · repeat (first | refine W_seq ?_ | refine W_skip ?_ | refine W_block ?_ | refine W_inBlock ?_ | refine W_label ?_ | refine W_exit rfl ?_ | ((first | refine W_reg [] fun K hK => ?_ | refine W_regd (by rw [hP]; exact mixed) [] fun K hK => ?_); simp [go_sem, hP, hgl, hn, hs12]; (repeat (refine ⟨by omega, ?_⟩)); (first | refine hK _ ?_ | refine ⟨by rfl, hK _ ?_⟩); clear hK K) | refine W_cond rfl (fun _ => ?_) (fun hq => False.elim (by first | (simp [hs12]; done) | (simp [hs12]; omega) | (simp [hs12] at hq; done) | (simp [hs12] at hq; omega))) | refine W_cond rfl (fun hq => False.elim (by first | (simp [hs12]; done) | (simp [hs12]; omega) | (simp [hs12] at hq; done) | (simp [hs12] at hq; omega))) (fun _ => ?_))
    repeat (first | refine W_seq ?_ | refine W_skip ?_ | refine W_block ?_ | refine W_inBlock ?_ | refine W_label ?_ | refine W_exit rfl ?_)
    first | refine W_ret1 hP hf hfn hR ?_ | refine W_end1 hP hf hfn hR ?_
    simp [go_sem, hP, hgl, hn, arityI, hs12] <;> (try omega)
  repeat (first | refine W_seq ?_ | refine W_skip ?_ | refine W_block ?_ | refine W_inBlock ?_ | refine W_label ?_ | refine W_exit rfl ?_ | ((first | refine W_reg [] fun K hK => ?_ | refine W_regd (by rw [hP]; exact mixed) [] fun K hK => ?_); simp [go_sem, hP, hgl, hn, hs0, hs1, hs2, hs3, hs4, hs5, hs6, hs7, hs8, hs9, hs10, hs11, hs12]; (repeat (refine ⟨by omega, ?_⟩)); (first | refine hK _ ?_ | refine ⟨by rfl, hK _ ?_⟩); clear hK K) | refine W_cond rfl (fun _ => ?_) (fun hq => False.elim (by first | (simp [hs0, hs1, hs2, hs3, hs4, hs5, hs6, hs7, hs8, hs9, hs10, hs11, hs12]; done) | (simp [hs0, hs1, hs2, hs3, hs4, hs5, hs6, hs7, hs8, hs9, hs10, hs11, hs12]; omega) | (simp [hs0, hs1, hs2, hs3, hs4, hs5, hs6, hs7, hs8, hs9, hs10, hs11, hs12] at hq; done) | (simp [hs0, hs1, hs2, hs3, hs4, hs5, hs6, hs7, hs8, hs9, hs10, hs11, hs12] at hq; omega))) | refine W_cond rfl (fun hq => False.elim (by first | (simp [hs0, hs1, hs2, hs3, hs4, hs5, hs6, hs7, hs8, hs9, hs10, hs11, hs12]; done) | (simp [hs0, hs1, hs2, hs3, hs4, hs5, hs6, hs7, hs8, hs9, hs10, hs11, hs12]; omega) | (simp [hs0, hs1, hs2, hs3, hs4, hs5, hs6, hs7, hs8, hs9, hs10, hs11, hs12] at hq; done) | (simp [hs0, hs1, hs2, hs3, hs4, hs5, hs6, hs7, hs8, hs9, hs10, hs11, hs12] at hq; omega))) (fun _ => ?_))
  repeat (first | refine W_seq ?_ | refine W_skip ?_ | refine W_block ?_ | refine W_inBlock ?_ | refine W_label ?_ | refine W_exit rfl ?_)
  first | refine W_ret1 hP hf hfn hR ?_ | refine W_end1 hP hf hfn hR ?_
  simp [go_sem, hP, hgl, hn, arityI, hs0, hs1, hs2, hs3, hs4, hs5, hs6, hs7, hs8, hs9, hs10, hs11, hs12] <;> (try omega)

def okNode (t : Tm) : Bool := decide ((t.args.length : Int) = arityI t.kind) && decide (0 ≤ t.index) && (decide (t.kind = 1) || decide (t.index = 0))

theorem ref02_shape_ok (t : Tm) (ht : t.tys) : Con1 Tryd.prog gl 105 [t.dv] [] (dbool t.shape) [] := by
  induction t using Tm.ind with
  | h t ih =>
  obtain ⟨ht1, ht2⟩ := (Tm.tys_eq t).1 ht
  refine Con_intro Tryd.func105 rfl (by kernel_rfl) (Nat.le_of_ble_eq_true rfl) ?_
  intro X hP hgl hf hfn hn hR hids hfit
  have hlen := Tm.fit_len (hfit t.dv (by simp))
  have hs := Tm.shape_eq t
  repeat (first | refine W_seq ?_ | refine W_skip ?_ | refine W_block ?_ | refine W_inBlock ?_ | refine W_label ?_ | refine W_exit rfl ?_)
  first | refine W_reg [] fun K hK => ?_ | refine W_regd (by rw [hP]; exact mixed) [] fun K hK => ?_
  simp [go_sem, hP, hgl, hn]
  repeat (refine ⟨by omega, ?_⟩)
  first | refine hK _ ?_ | refine ⟨by rfl, hK _ ?_⟩
  clear hK K
  repeat (first | refine W_seq ?_ | refine W_skip ?_ | refine W_inBlock ?_ | refine W_label ?_)
  refine W_cut [(.slot 26, .one (.v (dbool (!okNode t)))), (.loc 1, .row ([.v (dint t.kind), .v (dint t.index), .v (dint t.type.kind), .v (.sl (t.type.args.map Ty.cells)), .v (.sl (t.args.map Tm.cells))])), (.slot 1, .one (.loc 1 0))] ?_ ?_
  · intro hrest
    by_cases hA : (t.args.length : Int) = arityI t.kind
    · by_cases hB : t.index < 0
      · repeat (first | refine W_seq ?_ | refine W_skip ?_ | refine W_block ?_ | refine W_inBlock ?_ | refine W_label ?_ | refine W_exit rfl ?_)
        first | refine W_reg [] fun K hK => ?_ | refine W_regd (by rw [hP]; exact mixed) [] fun K hK => ?_
        simp [go_sem, hP, hgl, hn, hA, hB]
        repeat (refine ⟨by omega, ?_⟩)
        first | refine vcK_call hP hgl (ref02_args_ok t.kind) (by simp [go_sem, hP, hgl, hn, hA, hB]) rfl (by simp [go_sem]) (by simp) (by rw [hn]; exact Nat.le_of_ble_eq_true rfl) ?_ | refine vcdC_call (fun _ _ => vcd_sound) hP hgl (ref02_args_ok t.kind) (by simp [go_sem, hP, hgl, hn, hA, hB]) rfl (by simp [go_sem]) (by simp) (by rw [hn]; exact Nat.le_of_ble_eq_true rfl) ?_ | refine vcK_callG hP hgl (ref02_args_ok t.kind) (by simp [go_sem, hP, hgl, hn, hA, hB]) rfl (by simp [go_sem]) (by simp) (by rw [hn]; exact Nat.le_of_ble_eq_true rfl) (by simp [go_sem]; rfl) (by rw [hn]; exact Nat.le_of_ble_eq_true rfl) (by simp [go_sem]) ?_ | refine vcdC_callG (fun _ _ => vcd_sound) hP hgl (ref02_args_ok t.kind) (by simp [go_sem, hP, hgl, hn, hA, hB]) rfl (by simp [go_sem]) (by simp) (by rw [hn]; exact Nat.le_of_ble_eq_true rfl) (by simp [go_sem]; rfl) (by rw [hn]; exact Nat.le_of_ble_eq_true rfl) (by simp [go_sem]) ?_
        simp [go_sem, hP, hgl, hn, hA, hB]
        repeat (refine ⟨by omega, ?_⟩)
        first | refine hK _ ?_ | refine ⟨by rfl, hK _ ?_⟩
        clear hK K
        repeat (first | refine W_inBlock ?_ | refine W_skip ?_ | refine W_label ?_ | refine W_exit rfl ?_)
        refine W_sub [] (by simp [go_sem]) (by simp [go_sem, okNode, hA, hB] <;> omega) (by simp [go_sem]) hrest
      · by_cases hC : t.kind = 1
        · repeat (first | refine W_seq ?_ | refine W_skip ?_ | refine W_block ?_ | refine W_inBlock ?_ | refine W_label ?_ | refine W_exit rfl ?_)
          first | refine W_reg [] fun K hK => ?_ | refine W_regd (by rw [hP]; exact mixed) [] fun K hK => ?_
          simp [go_sem, hP, hgl, hn, hA, hB, hC]
          repeat (refine ⟨by omega, ?_⟩)
          first | refine vcK_call hP hgl (ref02_args_ok t.kind) (by simp [go_sem, hP, hgl, hn, hA, hB, hC]) rfl (by simp [go_sem]) (by simp) (by rw [hn]; exact Nat.le_of_ble_eq_true rfl) ?_ | refine vcdC_call (fun _ _ => vcd_sound) hP hgl (ref02_args_ok t.kind) (by simp [go_sem, hP, hgl, hn, hA, hB, hC]) rfl (by simp [go_sem]) (by simp) (by rw [hn]; exact Nat.le_of_ble_eq_true rfl) ?_ | refine vcK_callG hP hgl (ref02_args_ok t.kind) (by simp [go_sem, hP, hgl, hn, hA, hB, hC]) rfl (by simp [go_sem]) (by simp) (by rw [hn]; exact Nat.le_of_ble_eq_true rfl) (by simp [go_sem]; rfl) (by rw [hn]; exact Nat.le_of_ble_eq_true rfl) (by simp [go_sem]) ?_ | refine vcdC_callG (fun _ _ => vcd_sound) hP hgl (ref02_args_ok t.kind) (by simp [go_sem, hP, hgl, hn, hA, hB, hC]) rfl (by simp [go_sem]) (by simp) (by rw [hn]; exact Nat.le_of_ble_eq_true rfl) (by simp [go_sem]; rfl) (by rw [hn]; exact Nat.le_of_ble_eq_true rfl) (by simp [go_sem]) ?_
          simp [go_sem, hP, hgl, hn, hA, hB, hC]
          repeat (refine ⟨by omega, ?_⟩)
          first | refine hK _ ?_ | refine ⟨by rfl, hK _ ?_⟩
          clear hK K
          repeat (first | refine W_inBlock ?_ | refine W_skip ?_ | refine W_label ?_ | refine W_exit rfl ?_)
          refine W_sub [] (by simp [go_sem]) (by simp [go_sem, okNode, hA, hB, hC] <;> omega) (by simp [go_sem]) hrest
        · by_cases hD : t.index = 0
          · repeat (first | refine W_seq ?_ | refine W_skip ?_ | refine W_block ?_ | refine W_inBlock ?_ | refine W_label ?_ | refine W_exit rfl ?_)
            first | refine W_reg [] fun K hK => ?_ | refine W_regd (by rw [hP]; exact mixed) [] fun K hK => ?_
            simp [go_sem, hP, hgl, hn, hA, hB, hC, hD]
            repeat (refine ⟨by omega, ?_⟩)
            first | refine vcK_call hP hgl (ref02_args_ok t.kind) (by simp [go_sem, hP, hgl, hn, hA, hB, hC, hD]) rfl (by simp [go_sem]) (by simp) (by rw [hn]; exact Nat.le_of_ble_eq_true rfl) ?_ | refine vcdC_call (fun _ _ => vcd_sound) hP hgl (ref02_args_ok t.kind) (by simp [go_sem, hP, hgl, hn, hA, hB, hC, hD]) rfl (by simp [go_sem]) (by simp) (by rw [hn]; exact Nat.le_of_ble_eq_true rfl) ?_ | refine vcK_callG hP hgl (ref02_args_ok t.kind) (by simp [go_sem, hP, hgl, hn, hA, hB, hC, hD]) rfl (by simp [go_sem]) (by simp) (by rw [hn]; exact Nat.le_of_ble_eq_true rfl) (by simp [go_sem]; rfl) (by rw [hn]; exact Nat.le_of_ble_eq_true rfl) (by simp [go_sem]) ?_ | refine vcdC_callG (fun _ _ => vcd_sound) hP hgl (ref02_args_ok t.kind) (by simp [go_sem, hP, hgl, hn, hA, hB, hC, hD]) rfl (by simp [go_sem]) (by simp) (by rw [hn]; exact Nat.le_of_ble_eq_true rfl) (by simp [go_sem]; rfl) (by rw [hn]; exact Nat.le_of_ble_eq_true rfl) (by simp [go_sem]) ?_
            simp [go_sem, hP, hgl, hn, hA, hB, hC, hD]
            repeat (refine ⟨by omega, ?_⟩)
            first | refine hK _ ?_ | refine ⟨by rfl, hK _ ?_⟩
            clear hK K
            repeat (first | refine W_inBlock ?_ | refine W_skip ?_ | refine W_label ?_ | refine W_exit rfl ?_)
            refine W_sub [] (by simp [go_sem]) (by simp [go_sem, okNode, hA, hB, hC, hD] <;> omega) (by simp [go_sem]) hrest
          · repeat (first | refine W_seq ?_ | refine W_skip ?_ | refine W_block ?_ | refine W_inBlock ?_ | refine W_label ?_ | refine W_exit rfl ?_)
            first | refine W_reg [] fun K hK => ?_ | refine W_regd (by rw [hP]; exact mixed) [] fun K hK => ?_
            simp [go_sem, hP, hgl, hn, hA, hB, hC, hD]
            repeat (refine ⟨by omega, ?_⟩)
            first | refine vcK_call hP hgl (ref02_args_ok t.kind) (by simp [go_sem, hP, hgl, hn, hA, hB, hC, hD]) rfl (by simp [go_sem]) (by simp) (by rw [hn]; exact Nat.le_of_ble_eq_true rfl) ?_ | refine vcdC_call (fun _ _ => vcd_sound) hP hgl (ref02_args_ok t.kind) (by simp [go_sem, hP, hgl, hn, hA, hB, hC, hD]) rfl (by simp [go_sem]) (by simp) (by rw [hn]; exact Nat.le_of_ble_eq_true rfl) ?_ | refine vcK_callG hP hgl (ref02_args_ok t.kind) (by simp [go_sem, hP, hgl, hn, hA, hB, hC, hD]) rfl (by simp [go_sem]) (by simp) (by rw [hn]; exact Nat.le_of_ble_eq_true rfl) (by simp [go_sem]; rfl) (by rw [hn]; exact Nat.le_of_ble_eq_true rfl) (by simp [go_sem]) ?_ | refine vcdC_callG (fun _ _ => vcd_sound) hP hgl (ref02_args_ok t.kind) (by simp [go_sem, hP, hgl, hn, hA, hB, hC, hD]) rfl (by simp [go_sem]) (by simp) (by rw [hn]; exact Nat.le_of_ble_eq_true rfl) (by simp [go_sem]; rfl) (by rw [hn]; exact Nat.le_of_ble_eq_true rfl) (by simp [go_sem]) ?_
            simp [go_sem, hP, hgl, hn, hA, hB, hC, hD]
            repeat (refine ⟨by omega, ?_⟩)
            first | refine hK _ ?_ | refine ⟨by rfl, hK _ ?_⟩
            clear hK K
            repeat (first | refine W_inBlock ?_ | refine W_skip ?_ | refine W_label ?_ | refine W_exit rfl ?_)
            refine W_sub [] (by simp [go_sem]) (by simp [go_sem, okNode, hA, hB, hC, hD] <;> omega) (by simp [go_sem]) hrest
    · repeat (first | refine W_seq ?_ | refine W_skip ?_ | refine W_block ?_ | refine W_inBlock ?_ | refine W_label ?_ | refine W_exit rfl ?_)
      first | refine W_reg [] fun K hK => ?_ | refine W_regd (by rw [hP]; exact mixed) [] fun K hK => ?_
      simp [go_sem, hP, hgl, hn, hA]
      repeat (refine ⟨by omega, ?_⟩)
      first | refine vcK_call hP hgl (ref02_args_ok t.kind) (by simp [go_sem, hP, hgl, hn, hA]) rfl (by simp [go_sem]) (by simp) (by rw [hn]; exact Nat.le_of_ble_eq_true rfl) ?_ | refine vcdC_call (fun _ _ => vcd_sound) hP hgl (ref02_args_ok t.kind) (by simp [go_sem, hP, hgl, hn, hA]) rfl (by simp [go_sem]) (by simp) (by rw [hn]; exact Nat.le_of_ble_eq_true rfl) ?_ | refine vcK_callG hP hgl (ref02_args_ok t.kind) (by simp [go_sem, hP, hgl, hn, hA]) rfl (by simp [go_sem]) (by simp) (by rw [hn]; exact Nat.le_of_ble_eq_true rfl) (by simp [go_sem]; rfl) (by rw [hn]; exact Nat.le_of_ble_eq_true rfl) (by simp [go_sem]) ?_ | refine vcdC_callG (fun _ _ => vcd_sound) hP hgl (ref02_args_ok t.kind) (by simp [go_sem, hP, hgl, hn, hA]) rfl (by simp [go_sem]) (by simp) (by rw [hn]; exact Nat.le_of_ble_eq_true rfl) (by simp [go_sem]; rfl) (by rw [hn]; exact Nat.le_of_ble_eq_true rfl) (by simp [go_sem]) ?_
      simp [go_sem, hP, hgl, hn, hA]
      repeat (refine ⟨by omega, ?_⟩)
      first | refine hK _ ?_ | refine ⟨by rfl, hK _ ?_⟩
      clear hK K
      repeat (first | refine W_inBlock ?_ | refine W_skip ?_ | refine W_label ?_ | refine W_exit rfl ?_)
      refine W_sub [] (by simp [go_sem]) (by simp [go_sem, okNode, hA] <;> omega) (by simp [go_sem]) hrest
  · by_cases hok : okNode t = true
    · have hk : tmKind t.kind t.index t.type t.args.length = tyOfKind t.kind t.type := by
        simp only [okNode, Bool.and_eq_true, decide_eq_true_eq] at hok
        simp [tmKind, hok]
      repeat (first | refine W_seq ?_ | refine W_skip ?_ | refine W_block ?_ | refine W_inBlock ?_ | refine W_label ?_ | refine W_exit rfl ?_)
      refine W_cond rfl ?_ ?_
      · intro hq; first | (simp [hok] at hq; done) | (simp [hok] at hq; omega) | (simp_all; done) | (simp_all; omega)
      intro _
      repeat (first | refine W_seq ?_ | refine W_skip ?_ | refine W_block ?_ | refine W_inBlock ?_ | refine W_label ?_ | refine W_exit rfl ?_)
      first | refine W_reg [] fun K hK => ?_ | refine W_regd (by rw [hP]; exact mixed) [] fun K hK => ?_
      simp [go_sem, hP, hgl, hn]
      repeat (refine ⟨by omega, ?_⟩)
      first | refine hK _ ?_ | refine ⟨by rfl, hK _ ?_⟩
      clear hK K
      repeat (first | refine W_seq ?_ | refine W_skip ?_ | refine W_inBlock ?_ | refine W_label ?_)
      refine W_cutP (tyOfKind t.kind t.type = true) [(.loc 1, .row ([.v (dint t.kind), .v (dint t.index), .v (dint t.type.kind), .v (.sl (t.type.args.map Ty.cells)), .v (.sl (t.args.map Tm.cells))])), (.slot 1, .one (.loc 1 0))] ?_ ?_
      · intro hrest
        by_cases k2 : t.kind = 2
        · repeat (first | refine W_seq ?_ | refine W_skip ?_ | refine W_block ?_ | refine W_inBlock ?_ | refine W_label ?_ | refine W_exit rfl ?_ | ((first | refine W_reg [] fun K hK => ?_ | refine W_regd (by rw [hP]; exact mixed) [] fun K hK => ?_); simp [go_sem, hP, hgl, hn, k2]; (repeat (refine ⟨by omega, ?_⟩)); (first | refine hK _ ?_ | refine ⟨by rfl, hK _ ?_⟩); clear hK K) | refine W_cond rfl (fun _ => ?_) (fun hq => False.elim (by first | (simp [k2]; done) | (simp [k2]; omega) | (simp [k2] at hq; done) | (simp [k2] at hq; omega))) | refine W_cond rfl (fun hq => False.elim (by first | (simp [k2]; done) | (simp [k2]; omega) | (simp [k2] at hq; done) | (simp [k2] at hq; omega))) (fun _ => ?_))
          repeat (first | refine W_seq ?_ | refine W_skip ?_ | refine W_block ?_ | refine W_inBlock ?_ | refine W_label ?_ | refine W_exit rfl ?_)
          first | refine W_reg [] fun K hK => ?_ | refine W_regd (by rw [hP]; exact mixed) [] fun K hK => ?_
          simp [go_sem, hP, hgl, hn]
          repeat (refine ⟨by omega, ?_⟩)
          first | refine vcK_call hP hgl (ref01_check_ok t.type (by omega)) (by simp [go_sem, hP, hgl, hn]) rfl (by simp [go_sem]) (by simp) (by rw [hn]; exact Nat.le_of_ble_eq_true rfl) ?_ | refine vcdC_call (fun _ _ => vcd_sound) hP hgl (ref01_check_ok t.type (by omega)) (by simp [go_sem, hP, hgl, hn]) rfl (by simp [go_sem]) (by simp) (by rw [hn]; exact Nat.le_of_ble_eq_true rfl) ?_ | refine vcK_callG hP hgl (ref01_check_ok t.type (by omega)) (by simp [go_sem, hP, hgl, hn]) rfl (by simp [go_sem]) (by simp) (by rw [hn]; exact Nat.le_of_ble_eq_true rfl) (by simp [go_sem]; rfl) (by rw [hn]; exact Nat.le_of_ble_eq_true rfl) (by simp [go_sem]) ?_ | refine vcdC_callG (fun _ _ => vcd_sound) hP hgl (ref01_check_ok t.type (by omega)) (by simp [go_sem, hP, hgl, hn]) rfl (by simp [go_sem]) (by simp) (by rw [hn]; exact Nat.le_of_ble_eq_true rfl) (by simp [go_sem]; rfl) (by rw [hn]; exact Nat.le_of_ble_eq_true rfl) (by simp [go_sem]) ?_
          simp [go_sem, hP, hgl, hn]
          repeat (refine ⟨by omega, ?_⟩)
          first | refine hK _ ?_ | refine ⟨by rfl, hK _ ?_⟩
          clear hK K
          by_cases hc : t.type.checkN = 0
          · repeat (first | (refine W_sub [] (by simp [go_sem]) (by simp [go_sem, k2] <;> omega) (by simp [go_sem]) (hrest (by simp [tyOfKind, k2, hc]))) | refine W_seq ?_ | refine W_skip ?_ | refine W_block ?_ | refine W_inBlock ?_ | refine W_label ?_ | refine W_exit rfl ?_ | ((first | refine W_reg [] fun K hK => ?_ | refine W_regd (by rw [hP]; exact mixed) [] fun K hK => ?_); simp [go_sem, hP, hgl, hn, k2, hc]; (repeat (refine ⟨by omega, ?_⟩)); (first | refine hK _ ?_ | refine ⟨by rfl, hK _ ?_⟩); clear hK K) | refine W_cond rfl (fun _ => ?_) (fun hq => False.elim (by first | (simp [k2, hc]; done) | (simp [k2, hc]; omega) | (simp [k2, hc] at hq; done) | (simp [k2, hc] at hq; omega))) | refine W_cond rfl (fun hq => False.elim (by first | (simp [k2, hc]; done) | (simp [k2, hc]; omega) | (simp [k2, hc] at hq; done) | (simp [k2, hc] at hq; omega))) (fun _ => ?_))
          · have hz : tyOfKind t.kind t.type = false := by simp [tyOfKind, k2, hc]
            repeat (first | refine W_seq ?_ | refine W_skip ?_ | refine W_block ?_ | refine W_inBlock ?_ | refine W_label ?_ | refine W_exit rfl ?_ | ((first | refine W_reg [] fun K hK => ?_ | refine W_regd (by rw [hP]; exact mixed) [] fun K hK => ?_); simp [go_sem, hP, hgl, hn, hc]; (repeat (refine ⟨by omega, ?_⟩)); (first | refine hK _ ?_ | refine ⟨by rfl, hK _ ?_⟩); clear hK K) | refine W_cond rfl (fun _ => ?_) (fun hq => False.elim (by first | (simp [hc]; done) | (simp [hc]; omega) | (simp [hc] at hq; done) | (simp [hc] at hq; omega))) | refine W_cond rfl (fun hq => False.elim (by first | (simp [hc]; done) | (simp [hc]; omega) | (simp [hc] at hq; done) | (simp [hc] at hq; omega))) (fun _ => ?_))
            repeat (first | refine W_seq ?_ | refine W_skip ?_ | refine W_block ?_ | refine W_inBlock ?_ | refine W_label ?_ | refine W_exit rfl ?_)
            first | refine W_ret1 hP hf hfn hR ?_ | refine W_end1 hP hf hfn hR ?_
            simp [go_sem, hP, hgl, hn, hs, hk, hz] <;> (try omega)
        by_cases k6 : t.kind = 6
        · repeat (first | refine W_seq ?_ | refine W_skip ?_ | refine W_block ?_ | refine W_inBlock ?_ | refine W_label ?_ | refine W_exit rfl ?_ | ((first | refine W_reg [] fun K hK => ?_ | refine W_regd (by rw [hP]; exact mixed) [] fun K hK => ?_); simp [go_sem, hP, hgl, hn, k6]; (repeat (refine ⟨by omega, ?_⟩)); (first | refine hK _ ?_ | refine ⟨by rfl, hK _ ?_⟩); clear hK K) | refine W_cond rfl (fun _ => ?_) (fun hq => False.elim (by first | (simp [k6]; done) | (simp [k6]; omega) | (simp [k6] at hq; done) | (simp [k6] at hq; omega))) | refine W_cond rfl (fun hq => False.elim (by first | (simp [k6]; done) | (simp [k6]; omega) | (simp [k6] at hq; done) | (simp [k6] at hq; omega))) (fun _ => ?_))
          repeat (first | refine W_seq ?_ | refine W_skip ?_ | refine W_block ?_ | refine W_inBlock ?_ | refine W_label ?_ | refine W_exit rfl ?_)
          first | refine W_reg [] fun K hK => ?_ | refine W_regd (by rw [hP]; exact mixed) [] fun K hK => ?_
          simp [go_sem, hP, hgl, hn]
          repeat (refine ⟨by omega, ?_⟩)
          first | refine vcK_call hP hgl (ref01_check_ok t.type (by omega)) (by simp [go_sem, hP, hgl, hn]) rfl (by simp [go_sem]) (by simp) (by rw [hn]; exact Nat.le_of_ble_eq_true rfl) ?_ | refine vcdC_call (fun _ _ => vcd_sound) hP hgl (ref01_check_ok t.type (by omega)) (by simp [go_sem, hP, hgl, hn]) rfl (by simp [go_sem]) (by simp) (by rw [hn]; exact Nat.le_of_ble_eq_true rfl) ?_ | refine vcK_callG hP hgl (ref01_check_ok t.type (by omega)) (by simp [go_sem, hP, hgl, hn]) rfl (by simp [go_sem]) (by simp) (by rw [hn]; exact Nat.le_of_ble_eq_true rfl) (by simp [go_sem]; rfl) (by rw [hn]; exact Nat.le_of_ble_eq_true rfl) (by simp [go_sem]) ?_ | refine vcdC_callG (fun _ _ => vcd_sound) hP hgl (ref01_check_ok t.type (by omega)) (by simp [go_sem, hP, hgl, hn]) rfl (by simp [go_sem]) (by simp) (by rw [hn]; exact Nat.le_of_ble_eq_true rfl) (by simp [go_sem]; rfl) (by rw [hn]; exact Nat.le_of_ble_eq_true rfl) (by simp [go_sem]) ?_
          simp [go_sem, hP, hgl, hn]
          repeat (refine ⟨by omega, ?_⟩)
          first | refine hK _ ?_ | refine ⟨by rfl, hK _ ?_⟩
          clear hK K
          by_cases hc : t.type.checkN = 0
          · repeat (first | (refine W_sub [] (by simp [go_sem]) (by simp [go_sem, k6] <;> omega) (by simp [go_sem]) (hrest (by simp [tyOfKind, k6, hc]))) | refine W_seq ?_ | refine W_skip ?_ | refine W_block ?_ | refine W_inBlock ?_ | refine W_label ?_ | refine W_exit rfl ?_ | ((first | refine W_reg [] fun K hK => ?_ | refine W_regd (by rw [hP]; exact mixed) [] fun K hK => ?_); simp [go_sem, hP, hgl, hn, k6, hc]; (repeat (refine ⟨by omega, ?_⟩)); (first | refine hK _ ?_ | refine ⟨by rfl, hK _ ?_⟩); clear hK K) | refine W_cond rfl (fun _ => ?_) (fun hq => False.elim (by first | (simp [k6, hc]; done) | (simp [k6, hc]; omega) | (simp [k6, hc] at hq; done) | (simp [k6, hc] at hq; omega))) | refine W_cond rfl (fun hq => False.elim (by first | (simp [k6, hc]; done) | (simp [k6, hc]; omega) | (simp [k6, hc] at hq; done) | (simp [k6, hc] at hq; omega))) (fun _ => ?_))
          · have hz : tyOfKind t.kind t.type = false := by simp [tyOfKind, k6, hc]
            repeat (first | refine W_seq ?_ | refine W_skip ?_ | refine W_block ?_ | refine W_inBlock ?_ | refine W_label ?_ | refine W_exit rfl ?_ | ((first | refine W_reg [] fun K hK => ?_ | refine W_regd (by rw [hP]; exact mixed) [] fun K hK => ?_); simp [go_sem, hP, hgl, hn, hc]; (repeat (refine ⟨by omega, ?_⟩)); (first | refine hK _ ?_ | refine ⟨by rfl, hK _ ?_⟩); clear hK K) | refine W_cond rfl (fun _ => ?_) (fun hq => False.elim (by first | (simp [hc]; done) | (simp [hc]; omega) | (simp [hc] at hq; done) | (simp [hc] at hq; omega))) | refine W_cond rfl (fun hq => False.elim (by first | (simp [hc]; done) | (simp [hc]; omega) | (simp [hc] at hq; done) | (simp [hc] at hq; omega))) (fun _ => ?_))
            repeat (first | refine W_seq ?_ | refine W_skip ?_ | refine W_block ?_ | refine W_inBlock ?_ | refine W_label ?_ | refine W_exit rfl ?_)
            first | refine W_ret1 hP hf hfn hR ?_ | refine W_end1 hP hf hfn hR ?_
            simp [go_sem, hP, hgl, hn, hs, hk, hz] <;> (try omega)
        by_cases k9 : t.kind = 9
        · repeat (first | refine W_seq ?_ | refine W_skip ?_ | refine W_block ?_ | refine W_inBlock ?_ | refine W_label ?_ | refine W_exit rfl ?_ | ((first | refine W_reg [] fun K hK => ?_ | refine W_regd (by rw [hP]; exact mixed) [] fun K hK => ?_); simp [go_sem, hP, hgl, hn, k9]; (repeat (refine ⟨by omega, ?_⟩)); (first | refine hK _ ?_ | refine ⟨by rfl, hK _ ?_⟩); clear hK K) | refine W_cond rfl (fun _ => ?_) (fun hq => False.elim (by first | (simp [k9]; done) | (simp [k9]; omega) | (simp [k9] at hq; done) | (simp [k9] at hq; omega))) | refine W_cond rfl (fun hq => False.elim (by first | (simp [k9]; done) | (simp [k9]; omega) | (simp [k9] at hq; done) | (simp [k9] at hq; omega))) (fun _ => ?_))
          repeat (first | refine W_seq ?_ | refine W_skip ?_ | refine W_block ?_ | refine W_inBlock ?_ | refine W_label ?_ | refine W_exit rfl ?_)
          first | refine W_reg [] fun K hK => ?_ | refine W_regd (by rw [hP]; exact mixed) [] fun K hK => ?_
          simp [go_sem, hP, hgl, hn]
          repeat (refine ⟨by omega, ?_⟩)
          first | refine vcK_call hP hgl (ref01_check_ok t.type (by omega)) (by simp [go_sem, hP, hgl, hn]) rfl (by simp [go_sem]) (by simp) (by rw [hn]; exact Nat.le_of_ble_eq_true rfl) ?_ | refine vcdC_call (fun _ _ => vcd_sound) hP hgl (ref01_check_ok t.type (by omega)) (by simp [go_sem, hP, hgl, hn]) rfl (by simp [go_sem]) (by simp) (by rw [hn]; exact Nat.le_of_ble_eq_true rfl) ?_ | refine vcK_callG hP hgl (ref01_check_ok t.type (by omega)) (by simp [go_sem, hP, hgl, hn]) rfl (by simp [go_sem]) (by simp) (by rw [hn]; exact Nat.le_of_ble_eq_true rfl) (by simp [go_sem]; rfl) (by rw [hn]; exact Nat.le_of_ble_eq_true rfl) (by simp [go_sem]) ?_ | refine vcdC_callG (fun _ _ => vcd_sound) hP hgl (ref01_check_ok t.type (by omega)) (by simp [go_sem, hP, hgl, hn]) rfl (by simp [go_sem]) (by simp) (by rw [hn]; exact Nat.le_of_ble_eq_true rfl) (by simp [go_sem]; rfl) (by rw [hn]; exact Nat.le_of_ble_eq_true rfl) (by simp [go_sem]) ?_
          simp [go_sem, hP, hgl, hn]
          repeat (refine ⟨by omega, ?_⟩)
          first | refine hK _ ?_ | refine ⟨by rfl, hK _ ?_⟩
          clear hK K
          by_cases hc : t.type.checkN = 0
          · repeat (first | (refine W_sub [] (by simp [go_sem]) (by simp [go_sem, k9] <;> omega) (by simp [go_sem]) (hrest (by simp [tyOfKind, k9, hc]))) | refine W_seq ?_ | refine W_skip ?_ | refine W_block ?_ | refine W_inBlock ?_ | refine W_label ?_ | refine W_exit rfl ?_ | ((first | refine W_reg [] fun K hK => ?_ | refine W_regd (by rw [hP]; exact mixed) [] fun K hK => ?_); simp [go_sem, hP, hgl, hn, k9, hc]; (repeat (refine ⟨by omega, ?_⟩)); (first | refine hK _ ?_ | refine ⟨by rfl, hK _ ?_⟩); clear hK K) | refine W_cond rfl (fun _ => ?_) (fun hq => False.elim (by first | (simp [k9, hc]; done) | (simp [k9, hc]; omega) | (simp [k9, hc] at hq; done) | (simp [k9, hc] at hq; omega))) | refine W_cond rfl (fun hq => False.elim (by first | (simp [k9, hc]; done) | (simp [k9, hc]; omega) | (simp [k9, hc] at hq; done) | (simp [k9, hc] at hq; omega))) (fun _ => ?_))
          · have hz : tyOfKind t.kind t.type = false := by simp [tyOfKind, k9, hc]
            repeat (first | refine W_seq ?_ | refine W_skip ?_ | refine W_block ?_ | refine W_inBlock ?_ | refine W_label ?_ | refine W_exit rfl ?_ | ((first | refine W_reg [] fun K hK => ?_ | refine W_regd (by rw [hP]; exact mixed) [] fun K hK => ?_); simp [go_sem, hP, hgl, hn, hc]; (repeat (refine ⟨by omega, ?_⟩)); (first | refine hK _ ?_ | refine ⟨by rfl, hK _ ?_⟩); clear hK K) | refine W_cond rfl (fun _ => ?_) (fun hq => False.elim (by first | (simp [hc]; done) | (simp [hc]; omega) | (simp [hc] at hq; done) | (simp [hc] at hq; omega))) | refine W_cond rfl (fun hq => False.elim (by first | (simp [hc]; done) | (simp [hc]; omega) | (simp [hc] at hq; done) | (simp [hc] at hq; omega))) (fun _ => ?_))
            repeat (first | refine W_seq ?_ | refine W_skip ?_ | refine W_block ?_ | refine W_inBlock ?_ | refine W_label ?_ | refine W_exit rfl ?_)
            first | refine W_ret1 hP hf hfn hR ?_ | refine W_end1 hP hf hfn hR ?_
            simp [go_sem, hP, hgl, hn, hs, hk, hz] <;> (try omega)
        repeat (first | refine W_seq ?_ | refine W_skip ?_ | refine W_block ?_ | refine W_inBlock ?_ | refine W_label ?_ | refine W_exit rfl ?_ | ((first | refine W_reg [] fun K hK => ?_ | refine W_regd (by rw [hP]; exact mixed) [] fun K hK => ?_); simp [go_sem, hP, hgl, hn, k2, k6, k9]; (repeat (refine ⟨by omega, ?_⟩)); (first | refine hK _ ?_ | refine ⟨by rfl, hK _ ?_⟩); clear hK K) | refine W_cond rfl (fun _ => ?_) (fun hq => False.elim (by first | (simp [k2, k6, k9]; done) | (simp [k2, k6, k9]; omega) | (simp [k2, k6, k9] at hq; done) | (simp [k2, k6, k9] at hq; omega))) | refine W_cond rfl (fun hq => False.elim (by first | (simp [k2, k6, k9]; done) | (simp [k2, k6, k9]; omega) | (simp [k2, k6, k9] at hq; done) | (simp [k2, k6, k9] at hq; omega))) (fun _ => ?_))
        repeat (first | refine W_seq ?_ | refine W_skip ?_ | refine W_block ?_ | refine W_inBlock ?_ | refine W_label ?_ | refine W_exit rfl ?_)
        first | refine W_reg [] fun K hK => ?_ | refine W_regd (by rw [hP]; exact mixed) [] fun K hK => ?_
        simp [go_sem, hP, hgl, hn]
        repeat (refine ⟨by omega, ?_⟩)
        first | refine vcK_call hP hgl (ref01_zero_ok t.type) (by simp [go_sem, hP, hgl, hn]) rfl (by simp [go_sem]) (by simp) (by rw [hn]; exact Nat.le_of_ble_eq_true rfl) ?_ | refine vcdC_call (fun _ _ => vcd_sound) hP hgl (ref01_zero_ok t.type) (by simp [go_sem, hP, hgl, hn]) rfl (by simp [go_sem]) (by simp) (by rw [hn]; exact Nat.le_of_ble_eq_true rfl) ?_ | refine vcK_callG hP hgl (ref01_zero_ok t.type) (by simp [go_sem, hP, hgl, hn]) rfl (by simp [go_sem]) (by simp) (by rw [hn]; exact Nat.le_of_ble_eq_true rfl) (by simp [go_sem]; rfl) (by rw [hn]; exact Nat.le_of_ble_eq_true rfl) (by simp [go_sem]) ?_ | refine vcdC_callG (fun _ _ => vcd_sound) hP hgl (ref01_zero_ok t.type) (by simp [go_sem, hP, hgl, hn]) rfl (by simp [go_sem]) (by simp) (by rw [hn]; exact Nat.le_of_ble_eq_true rfl) (by simp [go_sem]; rfl) (by rw [hn]; exact Nat.le_of_ble_eq_true rfl) (by simp [go_sem]) ?_
        simp [go_sem, hP, hgl, hn]
        repeat (refine ⟨by omega, ?_⟩)
        first | refine hK _ ?_ | refine ⟨by rfl, hK _ ?_⟩
        clear hK K
        by_cases hc : t.type.zero = true
        · repeat (first | (refine W_sub [] (by simp [go_sem]) (by simp [go_sem] <;> omega) (by simp [go_sem]) (hrest (by simp [tyOfKind, k2, k6, k9, hc]))) | refine W_seq ?_ | refine W_skip ?_ | refine W_block ?_ | refine W_inBlock ?_ | refine W_label ?_ | refine W_exit rfl ?_ | ((first | refine W_reg [] fun K hK => ?_ | refine W_regd (by rw [hP]; exact mixed) [] fun K hK => ?_); simp [go_sem, hP, hgl, hn, hc]; (repeat (refine ⟨by omega, ?_⟩)); (first | refine hK _ ?_ | refine ⟨by rfl, hK _ ?_⟩); clear hK K) | refine W_cond rfl (fun _ => ?_) (fun hq => False.elim (by first | (simp [hc]; done) | (simp [hc]; omega) | (simp [hc] at hq; done) | (simp [hc] at hq; omega))) | refine W_cond rfl (fun hq => False.elim (by first | (simp [hc]; done) | (simp [hc]; omega) | (simp [hc] at hq; done) | (simp [hc] at hq; omega))) (fun _ => ?_))
        · have hz : tyOfKind t.kind t.type = false := by simp [tyOfKind, k2, k6, k9, hc]
          repeat (first | refine W_seq ?_ | refine W_skip ?_ | refine W_block ?_ | refine W_inBlock ?_ | refine W_label ?_ | refine W_exit rfl ?_ | ((first | refine W_reg [] fun K hK => ?_ | refine W_regd (by rw [hP]; exact mixed) [] fun K hK => ?_); simp [go_sem, hP, hgl, hn, hc]; (repeat (refine ⟨by omega, ?_⟩)); (first | refine hK _ ?_ | refine ⟨by rfl, hK _ ?_⟩); clear hK K) | refine W_cond rfl (fun _ => ?_) (fun hq => False.elim (by first | (simp [hc]; done) | (simp [hc]; omega) | (simp [hc] at hq; done) | (simp [hc] at hq; omega))) | refine W_cond rfl (fun hq => False.elim (by first | (simp [hc]; done) | (simp [hc]; omega) | (simp [hc] at hq; done) | (simp [hc] at hq; omega))) (fun _ => ?_))
          repeat (first | refine W_seq ?_ | refine W_skip ?_ | refine W_block ?_ | refine W_inBlock ?_ | refine W_label ?_ | refine W_exit rfl ?_)
          first | refine W_ret1 hP hf hfn hR ?_ | refine W_end1 hP hf hfn hR ?_
          simp [go_sem, hP, hgl, hn, hs, hk, hz] <;> (try omega)
      · intro hty
        repeat (first | refine W_seq ?_ | refine W_skip ?_ | refine W_block ?_ | refine W_inBlock ?_ | refine W_label ?_ | refine W_exit rfl ?_ | ((first | refine W_reg [] fun K hK => ?_ | refine W_regd (by rw [hP]; exact mixed) [] fun K hK => ?_); simp [go_sem, hP, hgl, hn]; (repeat (refine ⟨by omega, ?_⟩)); (first | refine hK _ ?_ | refine ⟨by rfl, hK _ ?_⟩); clear hK K) | refine W_cond rfl (fun _ => ?_) (fun hq => False.elim (by first | (simp; done) | (simp; omega) | (simp at hq; done) | (simp at hq; omega))) | refine W_cond rfl (fun hq => False.elim (by first | (simp; done) | (simp; omega) | (simp at hq; done) | (simp at hq; omega))) (fun _ => ?_))
        repeat (first | refine W_seq ?_ | refine W_skip ?_ | refine W_block ?_ | refine W_inBlock ?_ | refine W_label ?_ | refine W_exit rfl ?_)
        refine W_sub [] (by simp [go_sem]) (by simp [go_sem, Tm.shape.shapes] <;> omega) (by simp [go_sem]) (W_listI (t.args) (fun done => Tm.shape.shapes done = true) (fun done rest => [(.slot 44, .one (.v (dint done.length))), (.slot 43, .one (.v (dint t.args.length))), (.slot 42, .one (.v (.sl (t.args.map Tm.cells))))]) (rfl) ?_ ?_)
        · intro done x rest hL hg hI hnext
          have hlt : done.length < t.args.length := by rw [hL]; simp
          repeat (first | refine W_seq ?_ | refine W_skip ?_ | refine W_block ?_ | refine W_inBlock ?_ | refine W_label ?_ | refine W_exit rfl ?_)
          first | refine W_reg [] fun K hK => ?_ | refine W_regd (by rw [hP]; exact mixed) [] fun K hK => ?_
          simp [go_sem, hP, hgl, hn]
          repeat (refine ⟨by omega, ?_⟩)
          first | refine hK _ ?_ | refine ⟨by rfl, hK _ ?_⟩
          clear hK K
          repeat (first | refine W_seq ?_ | refine W_skip ?_ | refine W_block ?_ | refine W_inBlock ?_ | refine W_label ?_ | refine W_exit rfl ?_)
          refine W_cond rfl ?_ ?_
          rotate_left
          · intro h; simp at h; try omega
          intro _
          repeat (first | refine W_seq ?_ | refine W_skip ?_ | refine W_block ?_ | refine W_inBlock ?_ | refine W_label ?_ | refine W_exit rfl ?_)
          first | refine W_reg [] fun K hK => ?_ | refine W_regd (by rw [hP]; exact mixed) [] fun K hK => ?_
          simp [go_sem, hP, hgl, hn, hg]
          repeat (refine ⟨by omega, ?_⟩)
          first | refine hK _ ?_ | refine ⟨by rfl, hK _ ?_⟩
          clear hK K
          repeat (first | refine W_seq ?_ | refine W_skip ?_ | refine W_block ?_ | refine W_inBlock ?_ | refine W_label ?_ | refine W_exit rfl ?_)
          first | refine W_reg [] fun K hK => ?_ | refine W_regd (by rw [hP]; exact mixed) [] fun K hK => ?_
          simp [go_sem, hP, hgl, hn, hg]
          repeat (refine ⟨by omega, ?_⟩)
          first | refine vcK_call hP hgl (ih x (List.mem_of_getElem? hg) (ht2 x (List.mem_of_getElem? hg))) (by simp [go_sem, hP, hgl, hn, hg]) rfl (by simp [go_sem]) (by simp) (by rw [hn]; exact Nat.le_of_ble_eq_true rfl) ?_ | refine vcdC_call (fun _ _ => vcd_sound) hP hgl (ih x (List.mem_of_getElem? hg) (ht2 x (List.mem_of_getElem? hg))) (by simp [go_sem, hP, hgl, hn, hg]) rfl (by simp [go_sem]) (by simp) (by rw [hn]; exact Nat.le_of_ble_eq_true rfl) ?_ | refine vcK_callG hP hgl (ih x (List.mem_of_getElem? hg) (ht2 x (List.mem_of_getElem? hg))) (by simp [go_sem, hP, hgl, hn, hg]) rfl (by simp [go_sem]) (by simp) (by rw [hn]; exact Nat.le_of_ble_eq_true rfl) (by simp [go_sem]; rfl) (by rw [hn]; exact Nat.le_of_ble_eq_true rfl) (by simp [go_sem]) ?_ | refine vcdC_callG (fun _ _ => vcd_sound) hP hgl (ih x (List.mem_of_getElem? hg) (ht2 x (List.mem_of_getElem? hg))) (by simp [go_sem, hP, hgl, hn, hg]) rfl (by simp [go_sem]) (by simp) (by rw [hn]; exact Nat.le_of_ble_eq_true rfl) (by simp [go_sem]; rfl) (by rw [hn]; exact Nat.le_of_ble_eq_true rfl) (by simp [go_sem]) ?_
          simp [go_sem, hP, hgl, hn, hg]
          repeat (refine ⟨by omega, ?_⟩)
          first | refine hK _ ?_ | refine ⟨by rfl, hK _ ?_⟩
          clear hK K
          by_cases hx : x.shape = true
          · repeat (first | (refine W_sub [] (by simp [go_sem]) (by simp [go_sem] <;> omega) (by simp [go_sem]) (hnext (by rw [Tm.shapes_append]; simp [hI, Tm.shape.shapes, hx]))) | refine W_seq ?_ | refine W_skip ?_ | refine W_block ?_ | refine W_inBlock ?_ | refine W_label ?_ | refine W_exit rfl ?_ | ((first | refine W_reg [] fun K hK => ?_ | refine W_regd (by rw [hP]; exact mixed) [] fun K hK => ?_); simp [go_sem, hP, hgl, hn, hx]; (repeat (refine ⟨by omega, ?_⟩)); (first | refine hK _ ?_ | refine ⟨by rfl, hK _ ?_⟩); clear hK K) | refine W_cond rfl (fun _ => ?_) (fun hq => False.elim (by first | (simp [hx]; done) | (simp [hx]; omega) | (simp [hx] at hq; done) | (simp [hx] at hq; omega))) | refine W_cond rfl (fun hq => False.elim (by first | (simp [hx]; done) | (simp [hx]; omega) | (simp [hx] at hq; done) | (simp [hx] at hq; omega))) (fun _ => ?_))
          · repeat (first | refine W_seq ?_ | refine W_skip ?_ | refine W_block ?_ | refine W_inBlock ?_ | refine W_label ?_ | refine W_exit rfl ?_ | ((first | refine W_reg [] fun K hK => ?_ | refine W_regd (by rw [hP]; exact mixed) [] fun K hK => ?_); simp [go_sem, hP, hgl, hn, hx]; (repeat (refine ⟨by omega, ?_⟩)); (first | refine hK _ ?_ | refine ⟨by rfl, hK _ ?_⟩); clear hK K) | refine W_cond rfl (fun _ => ?_) (fun hq => False.elim (by first | (simp [hx]; done) | (simp [hx]; omega) | (simp [hx] at hq; done) | (simp [hx] at hq; omega))) | refine W_cond rfl (fun hq => False.elim (by first | (simp [hx]; done) | (simp [hx]; omega) | (simp [hx] at hq; done) | (simp [hx] at hq; omega))) (fun _ => ?_))
            have : t.shape = false := by rw [hs, hL, Tm.shapes_append]; simp [Tm.shape.shapes, hx]
            repeat (first | refine W_seq ?_ | refine W_skip ?_ | refine W_block ?_ | refine W_inBlock ?_ | refine W_label ?_ | refine W_exit rfl ?_)
            first | refine W_ret1 hP hf hfn hR ?_ | refine W_end1 hP hf hfn hR ?_
            simp [go_sem, hP, hgl, hn, this] <;> (try omega)
        · intro hI
          repeat (first | refine W_seq ?_ | refine W_skip ?_ | refine W_block ?_ | refine W_inBlock ?_ | refine W_label ?_ | refine W_exit rfl ?_)
          first | refine W_reg [] fun K hK => ?_ | refine W_regd (by rw [hP]; exact mixed) [] fun K hK => ?_
          simp [go_sem, hP, hgl, hn]
          repeat (refine ⟨by omega, ?_⟩)
          first | refine hK _ ?_ | refine ⟨by rfl, hK _ ?_⟩
          clear hK K
          repeat (first | refine W_seq ?_ | refine W_skip ?_ | refine W_block ?_ | refine W_inBlock ?_ | refine W_label ?_ | refine W_exit rfl ?_)
          refine W_cond rfl ?_ ?_
          · intro h; simp at h; try omega
          intro _
          repeat (first | refine W_seq ?_ | refine W_skip ?_ | refine W_block ?_ | refine W_inBlock ?_ | refine W_label ?_ | refine W_exit rfl ?_ | ((first | refine W_reg [] fun K hK => ?_ | refine W_regd (by rw [hP]; exact mixed) [] fun K hK => ?_); simp [go_sem, hP, hgl, hn]; (repeat (refine ⟨by omega, ?_⟩)); (first | refine hK _ ?_ | refine ⟨by rfl, hK _ ?_⟩); clear hK K) | refine W_cond rfl (fun _ => ?_) (fun hq => False.elim (by first | (simp; done) | (simp; omega) | (simp at hq; done) | (simp at hq; omega))) | refine W_cond rfl (fun hq => False.elim (by first | (simp; done) | (simp; omega) | (simp at hq; done) | (simp at hq; omega))) (fun _ => ?_))
          repeat (first | refine W_seq ?_ | refine W_skip ?_ | refine W_block ?_ | refine W_inBlock ?_ | refine W_label ?_ | refine W_exit rfl ?_)
          first | refine W_ret1 hP hf hfn hR ?_ | refine W_end1 hP hf hfn hR ?_
          simp [go_sem, hP, hgl, hn, hs, hk, hty, hI] <;> (try omega)
    · have hk : tmKind t.kind t.index t.type t.args.length = false := by
        simp only [okNode, Bool.and_eq_true, decide_eq_true_eq] at hok
        simp only [tmKind]
        cases hh : (decide ((t.args.length : Int) = arityI t.kind) && decide (0 ≤ t.index) && (decide (t.kind = 1) || decide (t.index = 0))) with
        | true => exact absurd (by simpa using hh) hok
        | false => rfl
      repeat (first | refine W_seq ?_ | refine W_skip ?_ | refine W_block ?_ | refine W_inBlock ?_ | refine W_label ?_ | refine W_exit rfl ?_ | ((first | refine W_reg [] fun K hK => ?_ | refine W_regd (by rw [hP]; exact mixed) [] fun K hK => ?_); simp [go_sem, hP, hgl, hn, hok]; (repeat (refine ⟨by omega, ?_⟩)); (first | refine hK _ ?_ | refine ⟨by rfl, hK _ ?_⟩); clear hK K) | refine W_cond rfl (fun _ => ?_) (fun hq => False.elim (by first | (simp [hok]; done) | (simp [hok]; omega) | (simp [hok] at hq; done) | (simp [hok] at hq; omega))) | refine W_cond rfl (fun hq => False.elim (by first | (simp [hok]; done) | (simp [hok]; omega) | (simp [hok] at hq; done) | (simp [hok] at hq; omega))) (fun _ => ?_))
      repeat (first | refine W_seq ?_ | refine W_skip ?_ | refine W_block ?_ | refine W_inBlock ?_ | refine W_label ?_ | refine W_exit rfl ?_)
      first | refine W_ret1 hP hf hfn hR ?_ | refine W_end1 hP hf hfn hR ?_
      simp [go_sem, hP, hgl, hn, hs, hk] <;> (try omega)

theorem ref02_check_ok (t : Tm) (ht : t.tys) (hc : t.count ≤ 2147483648) : Con1 Tryd.prog gl 67 [t.dv] [] (dint t.checkN) [] := by
  refine Con_intro Tryd.func67 rfl (by kernel_rfl) (Nat.le_of_ble_eq_true rfl) ?_
  intro X hP hgl hf hfn hn hR hids hfit
  repeat (first | refine W_seq ?_ | refine W_skip ?_ | refine W_block ?_ | refine W_inBlock ?_ | refine W_label ?_ | refine W_exit rfl ?_ | ((first | refine W_reg [] fun K hK => ?_ | refine W_regd (by rw [hP]; exact mixed) [] fun K hK => ?_); simp [go_sem, hP, hgl, hn]; (repeat (refine ⟨by omega, ?_⟩)); (first | refine hK _ ?_ | refine ⟨by rfl, hK _ ?_⟩); clear hK K) | refine W_cond rfl (fun _ => ?_) (fun hq => False.elim (by first | (simp; done) | (simp; omega) | (simp at hq; done) | (simp at hq; omega))) | refine W_cond rfl (fun hq => False.elim (by first | (simp; done) | (simp; omega) | (simp at hq; done) | (simp at hq; omega))) (fun _ => ?_))
  repeat (first | refine W_seq ?_ | refine W_skip ?_ | refine W_block ?_ | refine W_inBlock ?_ | refine W_label ?_ | refine W_exit rfl ?_)
  first | refine W_reg [] fun K hK => ?_ | refine W_regd (by rw [hP]; exact mixed) [] fun K hK => ?_
  simp [go_sem, hP, hgl, hn]
  repeat (refine ⟨by omega, ?_⟩)
  first | refine vcK_call hP hgl (ref02_shape_ok t ht) (by simp [go_sem, hP, hgl, hn]) rfl (by simp [go_sem]) (by simp) (by rw [hn]; exact Nat.le_of_ble_eq_true rfl) ?_ | refine vcdC_call (fun _ _ => vcd_sound) hP hgl (ref02_shape_ok t ht) (by simp [go_sem, hP, hgl, hn]) rfl (by simp [go_sem]) (by simp) (by rw [hn]; exact Nat.le_of_ble_eq_true rfl) ?_ | refine vcK_callG hP hgl (ref02_shape_ok t ht) (by simp [go_sem, hP, hgl, hn]) rfl (by simp [go_sem]) (by simp) (by rw [hn]; exact Nat.le_of_ble_eq_true rfl) (by simp [go_sem]; rfl) (by rw [hn]; exact Nat.le_of_ble_eq_true rfl) (by simp [go_sem]) ?_ | refine vcdC_callG (fun _ _ => vcd_sound) hP hgl (ref02_shape_ok t ht) (by simp [go_sem, hP, hgl, hn]) rfl (by simp [go_sem]) (by simp) (by rw [hn]; exact Nat.le_of_ble_eq_true rfl) (by simp [go_sem]; rfl) (by rw [hn]; exact Nat.le_of_ble_eq_true rfl) (by simp [go_sem]) ?_
  simp [go_sem, hP, hgl, hn]
  repeat (refine ⟨by omega, ?_⟩)
  first | refine hK _ ?_ | refine ⟨by rfl, hK _ ?_⟩
  clear hK K
  by_cases h : t.shape = true
  · repeat (first | refine W_seq ?_ | refine W_skip ?_ | refine W_block ?_ | refine W_inBlock ?_ | refine W_label ?_ | refine W_exit rfl ?_ | ((first | refine W_reg [] fun K hK => ?_ | refine W_regd (by rw [hP]; exact mixed) [] fun K hK => ?_); simp [go_sem, hP, hgl, hn, h]; (repeat (refine ⟨by omega, ?_⟩)); (first | refine hK _ ?_ | refine ⟨by rfl, hK _ ?_⟩); clear hK K) | refine W_cond rfl (fun _ => ?_) (fun hq => False.elim (by first | (simp [h]; done) | (simp [h]; omega) | (simp [h] at hq; done) | (simp [h] at hq; omega))) | refine W_cond rfl (fun hq => False.elim (by first | (simp [h]; done) | (simp [h]; omega) | (simp [h] at hq; done) | (simp [h] at hq; omega))) (fun _ => ?_))
    repeat (first | refine W_seq ?_ | refine W_skip ?_ | refine W_block ?_ | refine W_inBlock ?_ | refine W_label ?_ | refine W_exit rfl ?_)
    first | refine W_reg [] fun K hK => ?_ | refine W_regd (by rw [hP]; exact mixed) [] fun K hK => ?_
    simp [go_sem, hP, hgl, hn]
    repeat (refine ⟨by omega, ?_⟩)
    first | refine vcK_call hP hgl (ref02_count_ok t hc) (by simp [go_sem, hP, hgl, hn]) rfl (by simp [go_sem]) (by simp) (by rw [hn]; exact Nat.le_of_ble_eq_true rfl) ?_ | refine vcdC_call (fun _ _ => vcd_sound) hP hgl (ref02_count_ok t hc) (by simp [go_sem, hP, hgl, hn]) rfl (by simp [go_sem]) (by simp) (by rw [hn]; exact Nat.le_of_ble_eq_true rfl) ?_ | refine vcK_callG hP hgl (ref02_count_ok t hc) (by simp [go_sem, hP, hgl, hn]) rfl (by simp [go_sem]) (by simp) (by rw [hn]; exact Nat.le_of_ble_eq_true rfl) (by simp [go_sem]; rfl) (by rw [hn]; exact Nat.le_of_ble_eq_true rfl) (by simp [go_sem]) ?_ | refine vcdC_callG (fun _ _ => vcd_sound) hP hgl (ref02_count_ok t hc) (by simp [go_sem, hP, hgl, hn]) rfl (by simp [go_sem]) (by simp) (by rw [hn]; exact Nat.le_of_ble_eq_true rfl) (by simp [go_sem]; rfl) (by rw [hn]; exact Nat.le_of_ble_eq_true rfl) (by simp [go_sem]) ?_
    simp [go_sem, hP, hgl, hn]
    repeat (refine ⟨by omega, ?_⟩)
    first | refine hK _ ?_ | refine ⟨by rfl, hK _ ?_⟩
    clear hK K
    by_cases h2 : 4096 < t.count
    · repeat (first | refine W_seq ?_ | refine W_skip ?_ | refine W_block ?_ | refine W_inBlock ?_ | refine W_label ?_ | refine W_exit rfl ?_ | ((first | refine W_reg [] fun K hK => ?_ | refine W_regd (by rw [hP]; exact mixed) [] fun K hK => ?_); simp [go_sem, hP, hgl, hn, h2]; (repeat (refine ⟨by omega, ?_⟩)); (first | refine hK _ ?_ | refine ⟨by rfl, hK _ ?_⟩); clear hK K) | refine W_cond rfl (fun _ => ?_) (fun hq => False.elim (by first | (simp [h2]; done) | (simp [h2]; omega) | (simp [h2] at hq; done) | (simp [h2] at hq; omega))) | refine W_cond rfl (fun hq => False.elim (by first | (simp [h2]; done) | (simp [h2]; omega) | (simp [h2] at hq; done) | (simp [h2] at hq; omega))) (fun _ => ?_))
      repeat (first | refine W_seq ?_ | refine W_skip ?_ | refine W_block ?_ | refine W_inBlock ?_ | refine W_label ?_ | refine W_exit rfl ?_)
      first | refine W_ret1 hP hf hfn hR ?_ | refine W_end1 hP hf hfn hR ?_
      simp [go_sem, hP, hgl, hn, Tm.checkN, h, h2] <;> (try omega)
    · repeat (first | refine W_seq ?_ | refine W_skip ?_ | refine W_block ?_ | refine W_inBlock ?_ | refine W_label ?_ | refine W_exit rfl ?_ | ((first | refine W_reg [] fun K hK => ?_ | refine W_regd (by rw [hP]; exact mixed) [] fun K hK => ?_); simp [go_sem, hP, hgl, hn, h2]; (repeat (refine ⟨by omega, ?_⟩)); (first | refine hK _ ?_ | refine ⟨by rfl, hK _ ?_⟩); clear hK K) | refine W_cond rfl (fun _ => ?_) (fun hq => False.elim (by first | (simp [h2]; done) | (simp [h2]; omega) | (simp [h2] at hq; done) | (simp [h2] at hq; omega))) | refine W_cond rfl (fun hq => False.elim (by first | (simp [h2]; done) | (simp [h2]; omega) | (simp [h2] at hq; done) | (simp [h2] at hq; omega))) (fun _ => ?_))
      repeat (first | refine W_seq ?_ | refine W_skip ?_ | refine W_block ?_ | refine W_inBlock ?_ | refine W_label ?_ | refine W_exit rfl ?_)
      first | refine W_ret1 hP hf hfn hR ?_ | refine W_end1 hP hf hfn hR ?_
      simp [go_sem, hP, hgl, hn, Tm.checkN, h, h2] <;> (try omega)
  · repeat (first | refine W_seq ?_ | refine W_skip ?_ | refine W_block ?_ | refine W_inBlock ?_ | refine W_label ?_ | refine W_exit rfl ?_ | ((first | refine W_reg [] fun K hK => ?_ | refine W_regd (by rw [hP]; exact mixed) [] fun K hK => ?_); simp [go_sem, hP, hgl, hn, h]; (repeat (refine ⟨by omega, ?_⟩)); (first | refine hK _ ?_ | refine ⟨by rfl, hK _ ?_⟩); clear hK K) | refine W_cond rfl (fun _ => ?_) (fun hq => False.elim (by first | (simp [h]; done) | (simp [h]; omega) | (simp [h] at hq; done) | (simp [h] at hq; omega))) | refine W_cond rfl (fun hq => False.elim (by first | (simp [h]; done) | (simp [h]; omega) | (simp [h] at hq; done) | (simp [h] at hq; omega))) (fun _ => ?_))
    repeat (first | refine W_seq ?_ | refine W_skip ?_ | refine W_block ?_ | refine W_inBlock ?_ | refine W_label ?_ | refine W_exit rfl ?_)
    first | refine W_ret1 hP hf hfn hR ?_ | refine W_end1 hP hf hfn hR ?_
    simp [go_sem, hP, hgl, hn, Tm.checkN, h] <;> (try omega)
end Go.Proofs.YtbmnlkfgkdallaaDoor.Lift
