import Derived.Test.YtbmnlkfgkdallaaDoorH7
namespace Go.Proofs.YtbmnlkfgkdallaaDoor.Lift
set_option linter.unusedSimpArgs false
set_option linter.unusedVariables false
set_option linter.unnecessarySimpa false
open Go
variable {gl : Globs}

def Tm.typedE (t : Tm) (g : List Ty) : Ty × Int := if t.checkN = 0 then t.inferN g else (zeroTy, t.checkN)
def Tm.typeE (t : Tm) (g : List Ty) : Ty × Int := if ctxN g = 0 then t.typedE g else (zeroTy, ctxN g)

theorem Tm.checkN_iff (t : Tm) : t.checkN = 0 ↔ t.shape = true ∧ t.count ≤ 4096 := by
  unfold Tm.checkN
  split
  · split
    · rename_i h; simp; omega
    · rename_i h; simp; constructor <;> first | assumption | omega
  · rename_i h; simp [h]

theorem errTys_all {l : List Ty} (h : errTys l = 0) : ∀ x ∈ l, x.ok := by
  induction l with
  | nil => simp
  | cons a r ih =>
    simp only [errTys] at h
    split at h
    · rename_i ha
      intro x hx
      rcases List.mem_cons.1 hx with rfl | hx
      · exact (Ty.checkN_iff _).1 ha
      · exact ih h x hx
    · rename_i ha; exact absurd h ha

theorem ctxN_all {l : List Ty} (h : ctxN l = 0) : l.length ≤ 16 ∧ ∀ x ∈ l, x.ok := by
  unfold ctxN at h
  split at h
  · cases h
  · exact ⟨by omega, errTys_all h⟩

theorem ref02_typed_ok (t : Tm) (g : List Ty) (hgl : g.length ≤ 1048576) (ht : t.tys) (hc : t.count ≤ 1073741824) (hg : ∀ x ∈ g, x.ok) : Con1 Tryd.prog gl 85 [.sl (g.map Ty.cells), t.dv] [] (.tup [(t.typedE g).1.dv, dint (t.typedE g).2]) [] := by
  refine Con_intro Tryd.func85 rfl (by kernel_rfl) (Nat.le_of_ble_eq_true rfl) ?_
  intro X hP hgl hf hfn hn hR hids hfit
  repeat (first | refine W_seq ?_ | refine W_skip ?_ | refine W_block ?_ | refine W_inBlock ?_ | refine W_label ?_ | refine W_exit rfl ?_ | ((first | refine W_reg [] fun K hK => ?_ | refine W_regd (by rw [hP]; exact mixed) [] fun K hK => ?_); simp [go_sem, hP, hgl, hn]; (repeat (refine ⟨by omega, ?_⟩)); (first | refine hK _ ?_ | refine ⟨by rfl, hK _ ?_⟩); clear hK K) | refine W_cond rfl (fun _ => ?_) (fun hq => False.elim (by first | (simp; done) | (simp; omega) | (simp at hq; done) | (simp at hq; omega))) | refine W_cond rfl (fun hq => False.elim (by first | (simp; done) | (simp; omega) | (simp at hq; done) | (simp at hq; omega))) (fun _ => ?_))
  repeat (first | refine W_seq ?_ | refine W_skip ?_ | refine W_block ?_ | refine W_inBlock ?_ | refine W_label ?_ | refine W_exit rfl ?_)
  first | refine W_reg [] fun K hK => ?_ | refine W_regd (by rw [hP]; exact mixed) [] fun K hK => ?_
  simp [go_sem, hP, hgl, hn]
  repeat (refine ⟨by omega, ?_⟩)
  first | refine vcK_call hP hgl (ref02_check_ok t ht (by omega)) (by simp [go_sem, hP, hgl, hn]) rfl (by simp [go_sem]) (by simp) (by rw [hn]; exact Nat.le_of_ble_eq_true rfl) ?_ | refine vcdC_call (fun _ _ => vcd_sound) hP hgl (ref02_check_ok t ht (by omega)) (by simp [go_sem, hP, hgl, hn]) rfl (by simp [go_sem]) (by simp) (by rw [hn]; exact Nat.le_of_ble_eq_true rfl) ?_ | refine vcK_callG hP hgl (ref02_check_ok t ht (by omega)) (by simp [go_sem, hP, hgl, hn]) rfl (by simp [go_sem]) (by simp) (by rw [hn]; exact Nat.le_of_ble_eq_true rfl) (by simp [go_sem]; rfl) (by rw [hn]; exact Nat.le_of_ble_eq_true rfl) (by simp [go_sem]) ?_ | refine vcdC_callG (fun _ _ => vcd_sound) hP hgl (ref02_check_ok t ht (by omega)) (by simp [go_sem, hP, hgl, hn]) rfl (by simp [go_sem]) (by simp) (by rw [hn]; exact Nat.le_of_ble_eq_true rfl) (by simp [go_sem]; rfl) (by rw [hn]; exact Nat.le_of_ble_eq_true rfl) (by simp [go_sem]) ?_
  simp [go_sem, hP, hgl, hn]
  repeat (refine ⟨by omega, ?_⟩)
  first | refine hK _ ?_ | refine ⟨by rfl, hK _ ?_⟩
  clear hK K
  by_cases h : t.checkN = 0
  · repeat (first | refine W_seq ?_ | refine W_skip ?_ | refine W_block ?_ | refine W_inBlock ?_ | refine W_label ?_ | refine W_exit rfl ?_ | ((first | refine W_reg [] fun K hK => ?_ | refine W_regd (by rw [hP]; exact mixed) [] fun K hK => ?_); simp [go_sem, hP, hgl, hn, h]; (repeat (refine ⟨by omega, ?_⟩)); (first | refine hK _ ?_ | refine ⟨by rfl, hK _ ?_⟩); clear hK K) | refine W_cond rfl (fun _ => ?_) (fun hq => False.elim (by first | (simp [h]; done) | (simp [h]; omega) | (simp [h] at hq; done) | (simp [h] at hq; omega))) | refine W_cond rfl (fun hq => False.elim (by first | (simp [h]; done) | (simp [h]; omega) | (simp [h] at hq; done) | (simp [h] at hq; omega))) (fun _ => ?_))
    repeat (first | refine W_seq ?_ | refine W_skip ?_ | refine W_block ?_ | refine W_inBlock ?_ | refine W_label ?_ | refine W_exit rfl ?_)
    first | refine W_reg [] fun K hK => ?_ | refine W_regd (by rw [hP]; exact mixed) [] fun K hK => ?_
    simp [go_sem, hP, hgl, hn]
    repeat (refine ⟨by omega, ?_⟩)
    first | refine vcK_call hP hgl (infer_ok t g (by omega) ((Tm.checkN_iff t).1 h).1 hg) (by simp [go_sem, hP, hgl, hn]) rfl (by simp [go_sem]) (by simp) (by rw [hn]; exact Nat.le_of_ble_eq_true rfl) ?_ | refine vcdC_call (fun _ _ => vcd_sound) hP hgl (infer_ok t g (by omega) ((Tm.checkN_iff t).1 h).1 hg) (by simp [go_sem, hP, hgl, hn]) rfl (by simp [go_sem]) (by simp) (by rw [hn]; exact Nat.le_of_ble_eq_true rfl) ?_ | refine vcK_callG hP hgl (infer_ok t g (by omega) ((Tm.checkN_iff t).1 h).1 hg) (by simp [go_sem, hP, hgl, hn]) rfl (by simp [go_sem]) (by simp) (by rw [hn]; exact Nat.le_of_ble_eq_true rfl) (by simp [go_sem]; rfl) (by rw [hn]; exact Nat.le_of_ble_eq_true rfl) (by simp [go_sem]) ?_ | refine vcdC_callG (fun _ _ => vcd_sound) hP hgl (infer_ok t g (by omega) ((Tm.checkN_iff t).1 h).1 hg) (by simp [go_sem, hP, hgl, hn]) rfl (by simp [go_sem]) (by simp) (by rw [hn]; exact Nat.le_of_ble_eq_true rfl) (by simp [go_sem]; rfl) (by rw [hn]; exact Nat.le_of_ble_eq_true rfl) (by simp [go_sem]) ?_
    simp [go_sem, hP, hgl, hn]
    repeat (refine ⟨by omega, ?_⟩)
    first | refine hK _ ?_ | refine ⟨by rfl, hK _ ?_⟩
    clear hK K
    repeat (first | refine W_seq ?_ | refine W_skip ?_ | refine W_block ?_ | refine W_inBlock ?_ | refine W_label ?_ | refine W_exit rfl ?_)
    first | refine W_ret1 hP hf hfn hR ?_ | refine W_end1 hP hf hfn hR ?_
    simp [go_sem, hP, hgl, hn, Tm.typedE, h] <;> (try omega)
    all_goals (simp [Ty.dv, Ty.cells_eq, Ty.kind_mk, Ty.args_mk, Tm.dv, Tm.cells_eq, Tm.kind_mk, Tm.index_mk, Tm.type_mk, Tm.args_mk, Val.dv, Val.cells_eq, Val.kind_mk, Val.num_mk, Val.list_mk, Val.args_mk, ints])
  · repeat (first | refine W_seq ?_ | refine W_skip ?_ | refine W_block ?_ | refine W_inBlock ?_ | refine W_label ?_ | refine W_exit rfl ?_ | ((first | refine W_reg [] fun K hK => ?_ | refine W_regd (by rw [hP]; exact mixed) [] fun K hK => ?_); simp [go_sem, hP, hgl, hn, h]; (repeat (refine ⟨by omega, ?_⟩)); (first | refine hK _ ?_ | refine ⟨by rfl, hK _ ?_⟩); clear hK K) | refine W_cond rfl (fun _ => ?_) (fun hq => False.elim (by first | (simp [h]; done) | (simp [h]; omega) | (simp [h] at hq; done) | (simp [h] at hq; omega))) | refine W_cond rfl (fun hq => False.elim (by first | (simp [h]; done) | (simp [h]; omega) | (simp [h] at hq; done) | (simp [h] at hq; omega))) (fun _ => ?_))
    repeat (first | refine W_seq ?_ | refine W_skip ?_ | refine W_block ?_ | refine W_inBlock ?_ | refine W_label ?_ | refine W_exit rfl ?_)
    first | refine W_ret1 hP hf hfn hR ?_ | refine W_end1 hP hf hfn hR ?_
    simp [go_sem, hP, hgl, hn, Tm.typedE, h, zeroTy] <;> (try omega)
    all_goals (simp [Ty.dv, Ty.cells_eq, Ty.kind_mk, Ty.args_mk, Tm.dv, Tm.cells_eq, Tm.kind_mk, Tm.index_mk, Tm.type_mk, Tm.args_mk, Val.dv, Val.cells_eq, Val.kind_mk, Val.num_mk, Val.list_mk, Val.args_mk, ints])

theorem ref02_typeof_ok (t : Tm) (g : List Ty) (hg : ∀ x ∈ g, x.count ≤ 2147483648) (ht : t.tys) (hc : t.count ≤ 1073741824) : Con1 Tryd.prog gl 39 [.sl (g.map Ty.cells), t.dv] [] (.tup [(t.typeE g).1.dv, dint (t.typeE g).2]) [] := by
  refine Con_intro Tryd.func39 rfl (by kernel_rfl) (Nat.le_of_ble_eq_true rfl) ?_
  intro X hP hgl hf hfn hn hR hids hfit
  repeat (first | refine W_seq ?_ | refine W_skip ?_ | refine W_block ?_ | refine W_inBlock ?_ | refine W_label ?_ | refine W_exit rfl ?_ | ((first | refine W_reg [] fun K hK => ?_ | refine W_regd (by rw [hP]; exact mixed) [] fun K hK => ?_); simp [go_sem, hP, hgl, hn]; (repeat (refine ⟨by omega, ?_⟩)); (first | refine hK _ ?_ | refine ⟨by rfl, hK _ ?_⟩); clear hK K) | refine W_cond rfl (fun _ => ?_) (fun hq => False.elim (by first | (simp; done) | (simp; omega) | (simp at hq; done) | (simp at hq; omega))) | refine W_cond rfl (fun hq => False.elim (by first | (simp; done) | (simp; omega) | (simp at hq; done) | (simp at hq; omega))) (fun _ => ?_))
  repeat (first | refine W_seq ?_ | refine W_skip ?_ | refine W_block ?_ | refine W_inBlock ?_ | refine W_label ?_ | refine W_exit rfl ?_)
  first | refine W_reg [] fun K hK => ?_ | refine W_regd (by rw [hP]; exact mixed) [] fun K hK => ?_
  simp [go_sem, hP, hgl, hn]
  repeat (refine ⟨by omega, ?_⟩)
  first | refine vcK_call hP hgl (ref01_context_ok g hg) (by simp [go_sem, hP, hgl, hn]) rfl (by simp [go_sem]) (by simp) (by rw [hn]; exact Nat.le_of_ble_eq_true rfl) ?_ | refine vcdC_call (fun _ _ => vcd_sound) hP hgl (ref01_context_ok g hg) (by simp [go_sem, hP, hgl, hn]) rfl (by simp [go_sem]) (by simp) (by rw [hn]; exact Nat.le_of_ble_eq_true rfl) ?_ | refine vcK_callG hP hgl (ref01_context_ok g hg) (by simp [go_sem, hP, hgl, hn]) rfl (by simp [go_sem]) (by simp) (by rw [hn]; exact Nat.le_of_ble_eq_true rfl) (by simp [go_sem]; rfl) (by rw [hn]; exact Nat.le_of_ble_eq_true rfl) (by simp [go_sem]) ?_ | refine vcdC_callG (fun _ _ => vcd_sound) hP hgl (ref01_context_ok g hg) (by simp [go_sem, hP, hgl, hn]) rfl (by simp [go_sem]) (by simp) (by rw [hn]; exact Nat.le_of_ble_eq_true rfl) (by simp [go_sem]; rfl) (by rw [hn]; exact Nat.le_of_ble_eq_true rfl) (by simp [go_sem]) ?_
  simp [go_sem, hP, hgl, hn]
  repeat (refine ⟨by omega, ?_⟩)
  first | refine hK _ ?_ | refine ⟨by rfl, hK _ ?_⟩
  clear hK K
  by_cases h : ctxN g = 0
  · have ha := ctxN_all h
    repeat (first | refine W_seq ?_ | refine W_skip ?_ | refine W_block ?_ | refine W_inBlock ?_ | refine W_label ?_ | refine W_exit rfl ?_ | ((first | refine W_reg [] fun K hK => ?_ | refine W_regd (by rw [hP]; exact mixed) [] fun K hK => ?_); simp [go_sem, hP, hgl, hn, h]; (repeat (refine ⟨by omega, ?_⟩)); (first | refine hK _ ?_ | refine ⟨by rfl, hK _ ?_⟩); clear hK K) | refine W_cond rfl (fun _ => ?_) (fun hq => False.elim (by first | (simp [h]; done) | (simp [h]; omega) | (simp [h] at hq; done) | (simp [h] at hq; omega))) | refine W_cond rfl (fun hq => False.elim (by first | (simp [h]; done) | (simp [h]; omega) | (simp [h] at hq; done) | (simp [h] at hq; omega))) (fun _ => ?_))
    repeat (first | refine W_seq ?_ | refine W_skip ?_ | refine W_block ?_ | refine W_inBlock ?_ | refine W_label ?_ | refine W_exit rfl ?_)
    first | refine W_reg [] fun K hK => ?_ | refine W_regd (by rw [hP]; exact mixed) [] fun K hK => ?_
    simp [go_sem, hP, hgl, hn]
    repeat (refine ⟨by omega, ?_⟩)
    first | refine vcK_call hP hgl (ref02_typed_ok t g (by omega) ht hc ha.2) (by simp [go_sem, hP, hgl, hn]) rfl (by simp [go_sem]) (by simp) (by rw [hn]; exact Nat.le_of_ble_eq_true rfl) ?_ | refine vcdC_call (fun _ _ => vcd_sound) hP hgl (ref02_typed_ok t g (by omega) ht hc ha.2) (by simp [go_sem, hP, hgl, hn]) rfl (by simp [go_sem]) (by simp) (by rw [hn]; exact Nat.le_of_ble_eq_true rfl) ?_ | refine vcK_callG hP hgl (ref02_typed_ok t g (by omega) ht hc ha.2) (by simp [go_sem, hP, hgl, hn]) rfl (by simp [go_sem]) (by simp) (by rw [hn]; exact Nat.le_of_ble_eq_true rfl) (by simp [go_sem]; rfl) (by rw [hn]; exact Nat.le_of_ble_eq_true rfl) (by simp [go_sem]) ?_ | refine vcdC_callG (fun _ _ => vcd_sound) hP hgl (ref02_typed_ok t g (by omega) ht hc ha.2) (by simp [go_sem, hP, hgl, hn]) rfl (by simp [go_sem]) (by simp) (by rw [hn]; exact Nat.le_of_ble_eq_true rfl) (by simp [go_sem]; rfl) (by rw [hn]; exact Nat.le_of_ble_eq_true rfl) (by simp [go_sem]) ?_
    simp [go_sem, hP, hgl, hn]
    repeat (refine ⟨by omega, ?_⟩)
    first | refine hK _ ?_ | refine ⟨by rfl, hK _ ?_⟩
    clear hK K
    repeat (first | refine W_seq ?_ | refine W_skip ?_ | refine W_block ?_ | refine W_inBlock ?_ | refine W_label ?_ | refine W_exit rfl ?_)
    first | refine W_ret1 hP hf hfn hR ?_ | refine W_end1 hP hf hfn hR ?_
    simp [go_sem, hP, hgl, hn, Tm.typeE, h] <;> (try omega)
    all_goals (simp [Ty.dv, Ty.cells_eq, Ty.kind_mk, Ty.args_mk, Tm.dv, Tm.cells_eq, Tm.kind_mk, Tm.index_mk, Tm.type_mk, Tm.args_mk, Val.dv, Val.cells_eq, Val.kind_mk, Val.num_mk, Val.list_mk, Val.args_mk, ints])
  · repeat (first | refine W_seq ?_ | refine W_skip ?_ | refine W_block ?_ | refine W_inBlock ?_ | refine W_label ?_ | refine W_exit rfl ?_ | ((first | refine W_reg [] fun K hK => ?_ | refine W_regd (by rw [hP]; exact mixed) [] fun K hK => ?_); simp [go_sem, hP, hgl, hn, h]; (repeat (refine ⟨by omega, ?_⟩)); (first | refine hK _ ?_ | refine ⟨by rfl, hK _ ?_⟩); clear hK K) | refine W_cond rfl (fun _ => ?_) (fun hq => False.elim (by first | (simp [h]; done) | (simp [h]; omega) | (simp [h] at hq; done) | (simp [h] at hq; omega))) | refine W_cond rfl (fun hq => False.elim (by first | (simp [h]; done) | (simp [h]; omega) | (simp [h] at hq; done) | (simp [h] at hq; omega))) (fun _ => ?_))
    repeat (first | refine W_seq ?_ | refine W_skip ?_ | refine W_block ?_ | refine W_inBlock ?_ | refine W_label ?_ | refine W_exit rfl ?_)
    first | refine W_ret1 hP hf hfn hR ?_ | refine W_end1 hP hf hfn hR ?_
    simp [go_sem, hP, hgl, hn, Tm.typeE, h, zeroTy] <;> (try omega)
    all_goals (simp [Ty.dv, Ty.cells_eq, Ty.kind_mk, Ty.args_mk, Tm.dv, Tm.cells_eq, Tm.kind_mk, Tm.index_mk, Tm.type_mk, Tm.args_mk, Val.dv, Val.cells_eq, Val.kind_mk, Val.num_mk, Val.list_mk, Val.args_mk, ints])

def Tm.leastN : Tm → Int → Bool
  | .mk _ i _ a, m => !decide (m < i) && leasts a m
where
  leasts : List Tm → Int → Bool
    | [], _ => true
    | a :: r, m => a.leastN m && leasts r m
theorem Tm.leastN_eq (t : Tm) (m : Int) : t.leastN m = (!decide (m < t.index) && leastN.leasts t.args m) := by cases t; rfl
theorem Tm.leasts_append (l r : List Tm) (m : Int) : leastN.leasts (l ++ r) m = (leastN.leasts l m && leastN.leasts r m) := by
  induction l with
  | nil => simp [leastN.leasts]
  | cons a r ih => simp [leastN.leasts, ih, Bool.and_assoc]

theorem least_ok (t : Tm) (m : Int) : Con1 Tryd.prog gl 86 [t.dv, dint m] [] (dbool (t.leastN m)) [] := by
  induction t using Tm.ind with
  | h t ih =>
  refine Con_intro Tryd.func86 rfl (by kernel_rfl) (Nat.le_of_ble_eq_true rfl) ?_
  intro X hP hgl hf hfn hn hR hids hfit
  have hlen := Tm.fit_len (hfit t.dv (by simp))
  by_cases h : m < t.index
  · repeat (first | refine W_seq ?_ | refine W_skip ?_ | refine W_block ?_ | refine W_inBlock ?_ | refine W_label ?_ | refine W_exit rfl ?_ | ((first | refine W_reg [] fun K hK => ?_ | refine W_regd (by rw [hP]; exact mixed) [] fun K hK => ?_); simp [go_sem, hP, hgl, hn, h]; (repeat (refine ⟨by omega, ?_⟩)); (first | refine hK _ ?_ | refine ⟨by rfl, hK _ ?_⟩); clear hK K) | refine W_cond rfl (fun _ => ?_) (fun hq => False.elim (by first | (simp [h]; done) | (simp [h]; omega) | (simp [h] at hq; done) | (simp [h] at hq; omega))) | refine W_cond rfl (fun hq => False.elim (by first | (simp [h]; done) | (simp [h]; omega) | (simp [h] at hq; done) | (simp [h] at hq; omega))) (fun _ => ?_))
    repeat (first | refine W_seq ?_ | refine W_skip ?_ | refine W_block ?_ | refine W_inBlock ?_ | refine W_label ?_ | refine W_exit rfl ?_)
    first | refine W_ret1 hP hf hfn hR ?_ | refine W_end1 hP hf hfn hR ?_
    simp [go_sem, hP, hgl, hn, Tm.leastN_eq t, h] <;> (try omega)
  · repeat (first | refine W_seq ?_ | refine W_skip ?_ | refine W_block ?_ | refine W_inBlock ?_ | refine W_label ?_ | refine W_exit rfl ?_ | ((first | refine W_reg [] fun K hK => ?_ | refine W_regd (by rw [hP]; exact mixed) [] fun K hK => ?_); simp [go_sem, hP, hgl, hn, h]; (repeat (refine ⟨by omega, ?_⟩)); (first | refine hK _ ?_ | refine ⟨by rfl, hK _ ?_⟩); clear hK K) | refine W_cond rfl (fun _ => ?_) (fun hq => False.elim (by first | (simp [h]; done) | (simp [h]; omega) | (simp [h] at hq; done) | (simp [h] at hq; omega))) | refine W_cond rfl (fun hq => False.elim (by first | (simp [h]; done) | (simp [h]; omega) | (simp [h] at hq; done) | (simp [h] at hq; omega))) (fun _ => ?_))
    repeat (first | refine W_seq ?_ | refine W_skip ?_ | refine W_block ?_ | refine W_inBlock ?_ | refine W_label ?_ | refine W_exit rfl ?_)
    refine W_sub [] (by simp [go_sem]) (by simp [go_sem] <;> omega) (by simp [go_sem]) (W_listI (t.args) (fun done => Tm.leastN.leasts done m = true) (fun done rest => [(.slot 1, .one (.v (dint m))), (.slot 14, .one (.v (dint done.length))), (.slot 13, .one (.v (dint t.args.length))), (.slot 12, .one (.v (.sl (t.args.map Tm.cells))))]) (rfl) ?_ ?_)
    · intro done x rest hL hg0 hI hnext
      have hlt : done.length < t.args.length := by rw [hL]; simp
      have hxm := List.mem_of_getElem? hg0
      repeat (first | refine W_seq ?_ | refine W_skip ?_ | refine W_block ?_ | refine W_inBlock ?_ | refine W_label ?_ | refine W_exit rfl ?_)
      first | refine W_reg [] fun K hK => ?_ | refine W_regd (by rw [hP]; exact mixed) [] fun K hK => ?_
      simp [go_sem, hP, hgl, hn]
      repeat (refine ⟨by omega, ?_⟩)
      first | refine hK _ ?_ | refine ⟨by rfl, hK _ ?_⟩
      clear hK K
      repeat (first | refine W_seq ?_ | refine W_skip ?_ | refine W_block ?_ | refine W_inBlock ?_ | refine W_label ?_ | refine W_exit rfl ?_)
      refine W_cond rfl ?_ ?_
      rotate_left
      · intro h; simp at h; try omega
      intro _
      repeat (first | refine W_seq ?_ | refine W_skip ?_ | refine W_block ?_ | refine W_inBlock ?_ | refine W_label ?_ | refine W_exit rfl ?_ | ((first | refine W_reg [] fun K hK => ?_ | refine W_regd (by rw [hP]; exact mixed) [] fun K hK => ?_); simp [go_sem, hP, hgl, hn, hg0]; (repeat (refine ⟨by omega, ?_⟩)); (first | refine hK _ ?_ | refine ⟨by rfl, hK _ ?_⟩); clear hK K) | refine W_cond rfl (fun _ => ?_) (fun hq => False.elim (by first | (simp [hg0]; done) | (simp [hg0]; omega) | (simp [hg0] at hq; done) | (simp [hg0] at hq; omega))) | refine W_cond rfl (fun hq => False.elim (by first | (simp [hg0]; done) | (simp [hg0]; omega) | (simp [hg0] at hq; done) | (simp [hg0] at hq; omega))) (fun _ => ?_))
      repeat (first | refine W_seq ?_ | refine W_skip ?_ | refine W_block ?_ | refine W_inBlock ?_ | refine W_label ?_ | refine W_exit rfl ?_)
      first | refine W_reg [] fun K hK => ?_ | refine W_regd (by rw [hP]; exact mixed) [] fun K hK => ?_
      simp [go_sem, hP, hgl, hn, hg0]
      repeat (refine ⟨by omega, ?_⟩)
      first | refine vcK_call hP hgl (ih x hxm) (by simp [go_sem, hP, hgl, hn, hg0]) rfl (by simp [go_sem]) (by simp) (by rw [hn]; exact Nat.le_of_ble_eq_true rfl) ?_ | refine vcdC_call (fun _ _ => vcd_sound) hP hgl (ih x hxm) (by simp [go_sem, hP, hgl, hn, hg0]) rfl (by simp [go_sem]) (by simp) (by rw [hn]; exact Nat.le_of_ble_eq_true rfl) ?_ | refine vcK_callG hP hgl (ih x hxm) (by simp [go_sem, hP, hgl, hn, hg0]) rfl (by simp [go_sem]) (by simp) (by rw [hn]; exact Nat.le_of_ble_eq_true rfl) (by simp [go_sem]; rfl) (by rw [hn]; exact Nat.le_of_ble_eq_true rfl) (by simp [go_sem]) ?_ | refine vcdC_callG (fun _ _ => vcd_sound) hP hgl (ih x hxm) (by simp [go_sem, hP, hgl, hn, hg0]) rfl (by simp [go_sem]) (by simp) (by rw [hn]; exact Nat.le_of_ble_eq_true rfl) (by simp [go_sem]; rfl) (by rw [hn]; exact Nat.le_of_ble_eq_true rfl) (by simp [go_sem]) ?_
      simp [go_sem, hP, hgl, hn, hg0]
      repeat (refine ⟨by omega, ?_⟩)
      first | refine hK _ ?_ | refine ⟨by rfl, hK _ ?_⟩
      clear hK K
      by_cases hx : x.leastN m = true
      · repeat (first | (refine W_sub [] (by simp [go_sem]) (by simp [go_sem] <;> omega) (by simp [go_sem]) (hnext (by rw [Tm.leasts_append, hI]; simp [Tm.leastN.leasts, hx]))) | refine W_seq ?_ | refine W_skip ?_ | refine W_block ?_ | refine W_inBlock ?_ | refine W_label ?_ | refine W_exit rfl ?_ | ((first | refine W_reg [] fun K hK => ?_ | refine W_regd (by rw [hP]; exact mixed) [] fun K hK => ?_); simp [go_sem, hP, hgl, hn, hx]; (repeat (refine ⟨by omega, ?_⟩)); (first | refine hK _ ?_ | refine ⟨by rfl, hK _ ?_⟩); clear hK K) | refine W_cond rfl (fun _ => ?_) (fun hq => False.elim (by first | (simp [hx]; done) | (simp [hx]; omega) | (simp [hx] at hq; done) | (simp [hx] at hq; omega))) | refine W_cond rfl (fun hq => False.elim (by first | (simp [hx]; done) | (simp [hx]; omega) | (simp [hx] at hq; done) | (simp [hx] at hq; omega))) (fun _ => ?_))
      · repeat (first | refine W_seq ?_ | refine W_skip ?_ | refine W_block ?_ | refine W_inBlock ?_ | refine W_label ?_ | refine W_exit rfl ?_ | ((first | refine W_reg [] fun K hK => ?_ | refine W_regd (by rw [hP]; exact mixed) [] fun K hK => ?_); simp [go_sem, hP, hgl, hn, hx]; (repeat (refine ⟨by omega, ?_⟩)); (first | refine hK _ ?_ | refine ⟨by rfl, hK _ ?_⟩); clear hK K) | refine W_cond rfl (fun _ => ?_) (fun hq => False.elim (by first | (simp [hx]; done) | (simp [hx]; omega) | (simp [hx] at hq; done) | (simp [hx] at hq; omega))) | refine W_cond rfl (fun hq => False.elim (by first | (simp [hx]; done) | (simp [hx]; omega) | (simp [hx] at hq; done) | (simp [hx] at hq; omega))) (fun _ => ?_))
        repeat (first | refine W_seq ?_ | refine W_skip ?_ | refine W_block ?_ | refine W_inBlock ?_ | refine W_label ?_ | refine W_exit rfl ?_)
        first | refine W_ret1 hP hf hfn hR ?_ | refine W_end1 hP hf hfn hR ?_
        simp [go_sem, hP, hgl, hn, Tm.leastN_eq t, h] <;> (try omega)
        rw [hL, Tm.leasts_append]
        simp [Tm.leastN.leasts, hx]
    · intro hI
      repeat (first | refine W_seq ?_ | refine W_skip ?_ | refine W_block ?_ | refine W_inBlock ?_ | refine W_label ?_ | refine W_exit rfl ?_)
      first | refine W_reg [] fun K hK => ?_ | refine W_regd (by rw [hP]; exact mixed) [] fun K hK => ?_
      simp [go_sem, hP, hgl, hn]
      repeat (refine ⟨by omega, ?_⟩)
      first | refine hK _ ?_ | refine ⟨by rfl, hK _ ?_⟩
      clear hK K
      repeat (first | refine W_seq ?_ | refine W_skip ?_ | refine W_block ?_ | refine W_inBlock ?_ | refine W_label ?_ | refine W_exit rfl ?_)
      refine W_cond rfl ?_ ?_
      · intro h; simp at h; try omega
      intro _
      repeat (first | refine W_seq ?_ | refine W_skip ?_ | refine W_block ?_ | refine W_inBlock ?_ | refine W_label ?_ | refine W_exit rfl ?_ | ((first | refine W_reg [] fun K hK => ?_ | refine W_regd (by rw [hP]; exact mixed) [] fun K hK => ?_); simp [go_sem, hP, hgl, hn]; (repeat (refine ⟨by omega, ?_⟩)); (first | refine hK _ ?_ | refine ⟨by rfl, hK _ ?_⟩); clear hK K) | refine W_cond rfl (fun _ => ?_) (fun hq => False.elim (by first | (simp; done) | (simp; omega) | (simp at hq; done) | (simp at hq; omega))) | refine W_cond rfl (fun hq => False.elim (by first | (simp; done) | (simp; omega) | (simp at hq; done) | (simp at hq; omega))) (fun _ => ?_))
      repeat (first | refine W_seq ?_ | refine W_skip ?_ | refine W_block ?_ | refine W_inBlock ?_ | refine W_label ?_ | refine W_exit rfl ?_)
      first | refine W_ret1 hP hf hfn hR ?_ | refine W_end1 hP hf hfn hR ?_
      simp [go_sem, hP, hgl, hn, Tm.leastN_eq t, h, hI] <;> (try omega)

theorem ref05_same_ok (a b : Val) : Con1 Tryd.prog gl 41 [a.dv, b.dv] [] (dbool (a.same b)) [] := by
  induction a using Val.ind generalizing b with
  | h a ih =>
  refine Con_intro Tryd.func41 rfl (by kernel_rfl) (Nat.le_of_ble_eq_true rfl) ?_
  intro X hP hgl hf hfn hn hR hids hfit
  have hfa := (Val.fit_eq a).1 ((Val.dv_fit a).1 (hfit a.dv (by simp)))
  have hfb := (Val.fit_eq b).1 ((Val.dv_fit b).1 (hfit b.dv (by simp)))
  have hla := hfa.2.2.2.1
  have hlb := hfb.2.2.2.1
  have hia := hfa.2.2.1.1
  have hib := hfb.2.2.1.1
  simp only [BIG] at hla hlb hia hib
  by_cases hk : a.kind = b.kind
  · by_cases hi : a.num = b.num
    · by_cases ht : a.list = b.list
      · by_cases hl : a.args.length = b.args.length
        · repeat (first | refine W_seq ?_ | refine W_skip ?_ | refine W_block ?_ | refine W_inBlock ?_ | refine W_label ?_ | refine W_exit rfl ?_ | ((first | refine W_reg [] fun K hK => ?_ | refine W_regd (by rw [hP]; exact mixed) [] fun K hK => ?_); simp [go_sem, hP, hgl, hn, hk, hi]; (repeat (refine ⟨by omega, ?_⟩)); (first | refine hK _ ?_ | refine ⟨by rfl, hK _ ?_⟩); clear hK K) | refine W_cond rfl (fun _ => ?_) (fun hq => False.elim (by first | (simp [hk, hi]; done) | (simp [hk, hi]; omega) | (simp [hk, hi] at hq; done) | (simp [hk, hi] at hq; omega))) | refine W_cond rfl (fun hq => False.elim (by first | (simp [hk, hi]; done) | (simp [hk, hi]; omega) | (simp [hk, hi] at hq; done) | (simp [hk, hi] at hq; omega))) (fun _ => ?_))
          repeat (first | refine W_seq ?_ | refine W_skip ?_ | refine W_block ?_ | refine W_inBlock ?_ | refine W_label ?_ | refine W_exit rfl ?_)
          first | refine W_reg [] fun K hK => ?_ | refine W_regd (by rw [hP]; exact mixed) [] fun K hK => ?_
          simp [go_sem, hP, hgl, hn, hk, hi, ht, hl]
          repeat (refine ⟨by omega, ?_⟩)
          first | refine vcK_call hP hgl (ref05_ints_ok a.list b.list hia hib) (by simp [go_sem, hP, hgl, hn, hk, hi, ht, hl]) rfl (by simp [go_sem]) (by simp) (by rw [hn]; exact Nat.le_of_ble_eq_true rfl) ?_ | refine vcdC_call (fun _ _ => vcd_sound) hP hgl (ref05_ints_ok a.list b.list hia hib) (by simp [go_sem, hP, hgl, hn, hk, hi, ht, hl]) rfl (by simp [go_sem]) (by simp) (by rw [hn]; exact Nat.le_of_ble_eq_true rfl) ?_ | refine vcK_callG hP hgl (ref05_ints_ok a.list b.list hia hib) (by simp [go_sem, hP, hgl, hn, hk, hi, ht, hl]) rfl (by simp [go_sem]) (by simp) (by rw [hn]; exact Nat.le_of_ble_eq_true rfl) (by simp [go_sem]; rfl) (by rw [hn]; exact Nat.le_of_ble_eq_true rfl) (by simp [go_sem]) ?_ | refine vcdC_callG (fun _ _ => vcd_sound) hP hgl (ref05_ints_ok a.list b.list hia hib) (by simp [go_sem, hP, hgl, hn, hk, hi, ht, hl]) rfl (by simp [go_sem]) (by simp) (by rw [hn]; exact Nat.le_of_ble_eq_true rfl) (by simp [go_sem]; rfl) (by rw [hn]; exact Nat.le_of_ble_eq_true rfl) (by simp [go_sem]) ?_
          simp [go_sem, hP, hgl, hn, hk, hi, ht, hl]
          repeat (refine ⟨by omega, ?_⟩)
          first | refine hK _ ?_ | refine ⟨by rfl, hK _ ?_⟩
          clear hK K
          repeat (first | refine W_seq ?_ | refine W_skip ?_ | refine W_block ?_ | refine W_inBlock ?_ | refine W_label ?_ | refine W_exit rfl ?_ | ((first | refine W_reg [] fun K hK => ?_ | refine W_regd (by rw [hP]; exact mixed) [] fun K hK => ?_); simp [go_sem, hP, hgl, hn, ht, hl]; (repeat (refine ⟨by omega, ?_⟩)); (first | refine hK _ ?_ | refine ⟨by rfl, hK _ ?_⟩); clear hK K) | refine W_cond rfl (fun _ => ?_) (fun hq => False.elim (by first | (simp [ht, hl]; done) | (simp [ht, hl]; omega) | (simp [ht, hl] at hq; done) | (simp [ht, hl] at hq; omega))) | refine W_cond rfl (fun hq => False.elim (by first | (simp [ht, hl]; done) | (simp [ht, hl]; omega) | (simp [ht, hl] at hq; done) | (simp [ht, hl] at hq; omega))) (fun _ => ?_))
          repeat (first | refine W_seq ?_ | refine W_skip ?_ | refine W_block ?_ | refine W_inBlock ?_ | refine W_label ?_ | refine W_exit rfl ?_)
          refine W_sub [] (by simp [go_sem]) (by simp [go_sem, hk, hi, hl, ht] <;> omega) (by simp [go_sem]) (W_upto (a.args.length) (fun i => ∀ (j : Nat) (x y : Val), j < i → a.args[j]? = some x → b.args[j]? = some y → x.same y = true) (fun i => [(.slot 38, .one (.v (dint i))), (.slot 37, .one (.v (dint a.args.length))), (.slot 3, .one (.loc 3 0)), (.loc 3, .row ([.v (dint b.kind), .v (dint b.num), .v (.sl (ints b.list)), .v (.sl (b.args.map Val.cells))])), (.slot 2, .one (.loc 2 0)), (.loc 2, .row ([.v (dint a.kind), .v (dint a.num), .v (.sl (ints a.list)), .v (.sl (a.args.map Val.cells))]))]) (by intro j x y h; omega) ?_ ?_)
          · intro i hlt hI hnext
            obtain ⟨x, hx⟩ : ∃ x, a.args[i]? = some x := ⟨_, List.getElem?_eq_getElem hlt⟩
            obtain ⟨y, hy⟩ : ∃ y, b.args[i]? = some y := ⟨_, List.getElem?_eq_getElem (by omega)⟩
            repeat (first | refine W_seq ?_ | refine W_skip ?_ | refine W_block ?_ | refine W_inBlock ?_ | refine W_label ?_ | refine W_exit rfl ?_)
            first | refine W_reg [] fun K hK => ?_ | refine W_regd (by rw [hP]; exact mixed) [] fun K hK => ?_
            simp [go_sem, hP, hgl, hn]
            repeat (refine ⟨by omega, ?_⟩)
            first | refine hK _ ?_ | refine ⟨by rfl, hK _ ?_⟩
            clear hK K
            repeat (first | refine W_seq ?_ | refine W_skip ?_ | refine W_block ?_ | refine W_inBlock ?_ | refine W_label ?_ | refine W_exit rfl ?_)
            refine W_cond rfl ?_ ?_
            rotate_left
            · intro h; simp at h; try omega
            intro _
            repeat (first | refine W_seq ?_ | refine W_skip ?_ | refine W_block ?_ | refine W_inBlock ?_ | refine W_label ?_ | refine W_exit rfl ?_ | ((first | refine W_reg [] fun K hK => ?_ | refine W_regd (by rw [hP]; exact mixed) [] fun K hK => ?_); simp [go_sem, hP, hgl, hn, hx, hy]; (repeat (refine ⟨by omega, ?_⟩)); (first | refine hK _ ?_ | refine ⟨by rfl, hK _ ?_⟩); clear hK K) | refine W_cond rfl (fun _ => ?_) (fun hq => False.elim (by first | (simp [hx, hy]; done) | (simp [hx, hy]; omega) | (simp [hx, hy] at hq; done) | (simp [hx, hy] at hq; omega))) | refine W_cond rfl (fun hq => False.elim (by first | (simp [hx, hy]; done) | (simp [hx, hy]; omega) | (simp [hx, hy] at hq; done) | (simp [hx, hy] at hq; omega))) (fun _ => ?_))
            repeat (first | refine W_seq ?_ | refine W_skip ?_ | refine W_block ?_ | refine W_inBlock ?_ | refine W_label ?_ | refine W_exit rfl ?_)
            first | refine W_reg [] fun K hK => ?_ | refine W_regd (by rw [hP]; exact mixed) [] fun K hK => ?_
            simp [go_sem, hP, hgl, hn, hx, hy]
            repeat (refine ⟨by omega, ?_⟩)
            first | refine vcK_call hP hgl (ih x (List.mem_of_getElem? hx) y) (by simp [go_sem, hP, hgl, hn, hx, hy]) rfl (by simp [go_sem]) (by simp) (by rw [hn]; exact Nat.le_of_ble_eq_true rfl) ?_ | refine vcdC_call (fun _ _ => vcd_sound) hP hgl (ih x (List.mem_of_getElem? hx) y) (by simp [go_sem, hP, hgl, hn, hx, hy]) rfl (by simp [go_sem]) (by simp) (by rw [hn]; exact Nat.le_of_ble_eq_true rfl) ?_ | refine vcK_callG hP hgl (ih x (List.mem_of_getElem? hx) y) (by simp [go_sem, hP, hgl, hn, hx, hy]) rfl (by simp [go_sem]) (by simp) (by rw [hn]; exact Nat.le_of_ble_eq_true rfl) (by simp [go_sem]; rfl) (by rw [hn]; exact Nat.le_of_ble_eq_true rfl) (by simp [go_sem]) ?_ | refine vcdC_callG (fun _ _ => vcd_sound) hP hgl (ih x (List.mem_of_getElem? hx) y) (by simp [go_sem, hP, hgl, hn, hx, hy]) rfl (by simp [go_sem]) (by simp) (by rw [hn]; exact Nat.le_of_ble_eq_true rfl) (by simp [go_sem]; rfl) (by rw [hn]; exact Nat.le_of_ble_eq_true rfl) (by simp [go_sem]) ?_
            simp [go_sem, hP, hgl, hn, hx, hy]
            repeat (refine ⟨by omega, ?_⟩)
            first | refine hK _ ?_ | refine ⟨by rfl, hK _ ?_⟩
            clear hK K
            by_cases hs : x.same y = true
            · repeat (first | (refine W_sub [] (by simp [go_sem]) (by simp [go_sem] <;> omega) (by simp [go_sem]) (hnext ?_)) | refine W_seq ?_ | refine W_skip ?_ | refine W_block ?_ | refine W_inBlock ?_ | refine W_label ?_ | refine W_exit rfl ?_ | ((first | refine W_reg [] fun K hK => ?_ | refine W_regd (by rw [hP]; exact mixed) [] fun K hK => ?_); simp [go_sem, hP, hgl, hn, hs]; (repeat (refine ⟨by omega, ?_⟩)); (first | refine hK _ ?_ | refine ⟨by rfl, hK _ ?_⟩); clear hK K) | refine W_cond rfl (fun _ => ?_) (fun hq => False.elim (by first | (simp [hs]; done) | (simp [hs]; omega) | (simp [hs] at hq; done) | (simp [hs] at hq; omega))) | refine W_cond rfl (fun hq => False.elim (by first | (simp [hs]; done) | (simp [hs]; omega) | (simp [hs] at hq; done) | (simp [hs] at hq; omega))) (fun _ => ?_))
              intro j x' y' hj hx' hy'
              by_cases hji : j = i
              · subst hji; rw [hx] at hx'; rw [hy] at hy'; cases hx'; cases hy'; exact hs
              · exact hI j x' y' (by omega) hx' hy'
            · repeat (first | refine W_seq ?_ | refine W_skip ?_ | refine W_block ?_ | refine W_inBlock ?_ | refine W_label ?_ | refine W_exit rfl ?_ | ((first | refine W_reg [] fun K hK => ?_ | refine W_regd (by rw [hP]; exact mixed) [] fun K hK => ?_); simp [go_sem, hP, hgl, hn, hs]; (repeat (refine ⟨by omega, ?_⟩)); (first | refine hK _ ?_ | refine ⟨by rfl, hK _ ?_⟩); clear hK K) | refine W_cond rfl (fun _ => ?_) (fun hq => False.elim (by first | (simp [hs]; done) | (simp [hs]; omega) | (simp [hs] at hq; done) | (simp [hs] at hq; omega))) | refine W_cond rfl (fun hq => False.elim (by first | (simp [hs]; done) | (simp [hs]; omega) | (simp [hs] at hq; done) | (simp [hs] at hq; omega))) (fun _ => ?_))
              repeat (first | refine W_seq ?_ | refine W_skip ?_ | refine W_block ?_ | refine W_inBlock ?_ | refine W_label ?_ | refine W_exit rfl ?_)
              first | refine W_ret1 hP hf hfn hR ?_ | refine W_end1 hP hf hfn hR ?_
              simp [go_sem, hP, hgl, hn] <;> (try omega)
              refine Bool.eq_false_iff.2 ?_
              intro h
              rw [Val.same_eq] at h
              simp only [Bool.and_eq_true, Val.sames_iff] at h
              exact hs (h.2.2 i x y hx hy)
          · intro hI
            repeat (first | refine W_seq ?_ | refine W_skip ?_ | refine W_block ?_ | refine W_inBlock ?_ | refine W_label ?_ | refine W_exit rfl ?_)
            first | refine W_reg [] fun K hK => ?_ | refine W_regd (by rw [hP]; exact mixed) [] fun K hK => ?_
            simp [go_sem, hP, hgl, hn]
            repeat (refine ⟨by omega, ?_⟩)
            first | refine hK _ ?_ | refine ⟨by rfl, hK _ ?_⟩
            clear hK K
            repeat (first | refine W_seq ?_ | refine W_skip ?_ | refine W_block ?_ | refine W_inBlock ?_ | refine W_label ?_ | refine W_exit rfl ?_)
            refine W_cond rfl ?_ ?_
            · intro h; simp at h; try omega
            intro _
            repeat (first | refine W_seq ?_ | refine W_skip ?_ | refine W_block ?_ | refine W_inBlock ?_ | refine W_label ?_ | refine W_exit rfl ?_)
            first | refine W_reg [] fun K hK => ?_ | refine W_regd (by rw [hP]; exact mixed) [] fun K hK => ?_
            simp [go_sem, hP, hgl, hn]
            repeat (refine ⟨by omega, ?_⟩)
            first | refine hK _ ?_ | refine ⟨by rfl, hK _ ?_⟩
            clear hK K
            repeat (first | refine W_seq ?_ | refine W_skip ?_ | refine W_block ?_ | refine W_inBlock ?_ | refine W_label ?_ | refine W_exit rfl ?_)
            first | refine W_ret1 hP hf hfn hR ?_ | refine W_end1 hP hf hfn hR ?_
            simp [go_sem, hP, hgl, hn] <;> (try omega)
            rw [Val.same_eq]
            simp only [Bool.and_eq_true, Val.sames_iff]
            exact ⟨⟨⟨by simp [hk], by simp [hi]⟩, by simp [ht]⟩, hl, fun i x y hx hy => hI i x y (List.getElem?_eq_some_iff.1 hx).1 hx hy⟩
        · repeat (first | refine W_seq ?_ | refine W_skip ?_ | refine W_block ?_ | refine W_inBlock ?_ | refine W_label ?_ | refine W_exit rfl ?_ | ((first | refine W_reg [] fun K hK => ?_ | refine W_regd (by rw [hP]; exact mixed) [] fun K hK => ?_); simp [go_sem, hP, hgl, hn, hk, hi]; (repeat (refine ⟨by omega, ?_⟩)); (first | refine hK _ ?_ | refine ⟨by rfl, hK _ ?_⟩); clear hK K) | refine W_cond rfl (fun _ => ?_) (fun hq => False.elim (by first | (simp [hk, hi]; done) | (simp [hk, hi]; omega) | (simp [hk, hi] at hq; done) | (simp [hk, hi] at hq; omega))) | refine W_cond rfl (fun hq => False.elim (by first | (simp [hk, hi]; done) | (simp [hk, hi]; omega) | (simp [hk, hi] at hq; done) | (simp [hk, hi] at hq; omega))) (fun _ => ?_))
          repeat (first | refine W_seq ?_ | refine W_skip ?_ | refine W_block ?_ | refine W_inBlock ?_ | refine W_label ?_ | refine W_exit rfl ?_)
          first | refine W_reg [] fun K hK => ?_ | refine W_regd (by rw [hP]; exact mixed) [] fun K hK => ?_
          simp [go_sem, hP, hgl, hn, hk, hi, ht, hl]
          repeat (refine ⟨by omega, ?_⟩)
          first | refine vcK_call hP hgl (ref05_ints_ok a.list b.list hia hib) (by simp [go_sem, hP, hgl, hn, hk, hi, ht, hl]) rfl (by simp [go_sem]) (by simp) (by rw [hn]; exact Nat.le_of_ble_eq_true rfl) ?_ | refine vcdC_call (fun _ _ => vcd_sound) hP hgl (ref05_ints_ok a.list b.list hia hib) (by simp [go_sem, hP, hgl, hn, hk, hi, ht, hl]) rfl (by simp [go_sem]) (by simp) (by rw [hn]; exact Nat.le_of_ble_eq_true rfl) ?_ | refine vcK_callG hP hgl (ref05_ints_ok a.list b.list hia hib) (by simp [go_sem, hP, hgl, hn, hk, hi, ht, hl]) rfl (by simp [go_sem]) (by simp) (by rw [hn]; exact Nat.le_of_ble_eq_true rfl) (by simp [go_sem]; rfl) (by rw [hn]; exact Nat.le_of_ble_eq_true rfl) (by simp [go_sem]) ?_ | refine vcdC_callG (fun _ _ => vcd_sound) hP hgl (ref05_ints_ok a.list b.list hia hib) (by simp [go_sem, hP, hgl, hn, hk, hi, ht, hl]) rfl (by simp [go_sem]) (by simp) (by rw [hn]; exact Nat.le_of_ble_eq_true rfl) (by simp [go_sem]; rfl) (by rw [hn]; exact Nat.le_of_ble_eq_true rfl) (by simp [go_sem]) ?_
          simp [go_sem, hP, hgl, hn, hk, hi, ht, hl]
          repeat (refine ⟨by omega, ?_⟩)
          first | refine hK _ ?_ | refine ⟨by rfl, hK _ ?_⟩
          clear hK K
          repeat (first | refine W_seq ?_ | refine W_skip ?_ | refine W_block ?_ | refine W_inBlock ?_ | refine W_label ?_ | refine W_exit rfl ?_ | ((first | refine W_reg [] fun K hK => ?_ | refine W_regd (by rw [hP]; exact mixed) [] fun K hK => ?_); simp [go_sem, hP, hgl, hn, ht, hl]; (repeat (refine ⟨by omega, ?_⟩)); (first | refine hK _ ?_ | refine ⟨by rfl, hK _ ?_⟩); clear hK K) | refine W_cond rfl (fun _ => ?_) (fun hq => False.elim (by first | (simp [ht, hl]; done) | (simp [ht, hl]; omega) | (simp [ht, hl] at hq; done) | (simp [ht, hl] at hq; omega))) | refine W_cond rfl (fun hq => False.elim (by first | (simp [ht, hl]; done) | (simp [ht, hl]; omega) | (simp [ht, hl] at hq; done) | (simp [ht, hl] at hq; omega))) (fun _ => ?_))
          repeat (first | refine W_seq ?_ | refine W_skip ?_ | refine W_block ?_ | refine W_inBlock ?_ | refine W_label ?_ | refine W_exit rfl ?_)
          first | refine W_ret1 hP hf hfn hR ?_ | refine W_end1 hP hf hfn hR ?_
          simp [go_sem, hP, hgl, hn] <;> (try omega)
          refine Bool.eq_false_iff.2 ?_
          intro h
          rw [Val.same_eq] at h
          simp only [Bool.and_eq_true, Val.sames_iff] at h
          exact hl h.2.1
      · repeat (first | refine W_seq ?_ | refine W_skip ?_ | refine W_block ?_ | refine W_inBlock ?_ | refine W_label ?_ | refine W_exit rfl ?_ | ((first | refine W_reg [] fun K hK => ?_ | refine W_regd (by rw [hP]; exact mixed) [] fun K hK => ?_); simp [go_sem, hP, hgl, hn, hk, hi]; (repeat (refine ⟨by omega, ?_⟩)); (first | refine hK _ ?_ | refine ⟨by rfl, hK _ ?_⟩); clear hK K) | refine W_cond rfl (fun _ => ?_) (fun hq => False.elim (by first | (simp [hk, hi]; done) | (simp [hk, hi]; omega) | (simp [hk, hi] at hq; done) | (simp [hk, hi] at hq; omega))) | refine W_cond rfl (fun hq => False.elim (by first | (simp [hk, hi]; done) | (simp [hk, hi]; omega) | (simp [hk, hi] at hq; done) | (simp [hk, hi] at hq; omega))) (fun _ => ?_))
        repeat (first | refine W_seq ?_ | refine W_skip ?_ | refine W_block ?_ | refine W_inBlock ?_ | refine W_label ?_ | refine W_exit rfl ?_)
        first | refine W_reg [] fun K hK => ?_ | refine W_regd (by rw [hP]; exact mixed) [] fun K hK => ?_
        simp [go_sem, hP, hgl, hn, hk, hi, ht]
        repeat (refine ⟨by omega, ?_⟩)
        first | refine vcK_call hP hgl (ref05_ints_ok a.list b.list hia hib) (by simp [go_sem, hP, hgl, hn, hk, hi, ht]) rfl (by simp [go_sem]) (by simp) (by rw [hn]; exact Nat.le_of_ble_eq_true rfl) ?_ | refine vcdC_call (fun _ _ => vcd_sound) hP hgl (ref05_ints_ok a.list b.list hia hib) (by simp [go_sem, hP, hgl, hn, hk, hi, ht]) rfl (by simp [go_sem]) (by simp) (by rw [hn]; exact Nat.le_of_ble_eq_true rfl) ?_ | refine vcK_callG hP hgl (ref05_ints_ok a.list b.list hia hib) (by simp [go_sem, hP, hgl, hn, hk, hi, ht]) rfl (by simp [go_sem]) (by simp) (by rw [hn]; exact Nat.le_of_ble_eq_true rfl) (by simp [go_sem]; rfl) (by rw [hn]; exact Nat.le_of_ble_eq_true rfl) (by simp [go_sem]) ?_ | refine vcdC_callG (fun _ _ => vcd_sound) hP hgl (ref05_ints_ok a.list b.list hia hib) (by simp [go_sem, hP, hgl, hn, hk, hi, ht]) rfl (by simp [go_sem]) (by simp) (by rw [hn]; exact Nat.le_of_ble_eq_true rfl) (by simp [go_sem]; rfl) (by rw [hn]; exact Nat.le_of_ble_eq_true rfl) (by simp [go_sem]) ?_
        simp [go_sem, hP, hgl, hn, hk, hi, ht]
        repeat (refine ⟨by omega, ?_⟩)
        first | refine hK _ ?_ | refine ⟨by rfl, hK _ ?_⟩
        clear hK K
        repeat (first | refine W_seq ?_ | refine W_skip ?_ | refine W_block ?_ | refine W_inBlock ?_ | refine W_label ?_ | refine W_exit rfl ?_ | ((first | refine W_reg [] fun K hK => ?_ | refine W_regd (by rw [hP]; exact mixed) [] fun K hK => ?_); simp [go_sem, hP, hgl, hn, ht]; (repeat (refine ⟨by omega, ?_⟩)); (first | refine hK _ ?_ | refine ⟨by rfl, hK _ ?_⟩); clear hK K) | refine W_cond rfl (fun _ => ?_) (fun hq => False.elim (by first | (simp [ht]; done) | (simp [ht]; omega) | (simp [ht] at hq; done) | (simp [ht] at hq; omega))) | refine W_cond rfl (fun hq => False.elim (by first | (simp [ht]; done) | (simp [ht]; omega) | (simp [ht] at hq; done) | (simp [ht] at hq; omega))) (fun _ => ?_))
        repeat (first | refine W_seq ?_ | refine W_skip ?_ | refine W_block ?_ | refine W_inBlock ?_ | refine W_label ?_ | refine W_exit rfl ?_)
        first | refine W_ret1 hP hf hfn hR ?_ | refine W_end1 hP hf hfn hR ?_
        simp [go_sem, hP, hgl, hn] <;> (try omega)
        simp [Val.same_eq, ht]
    · repeat (first | refine W_seq ?_ | refine W_skip ?_ | refine W_block ?_ | refine W_inBlock ?_ | refine W_label ?_ | refine W_exit rfl ?_ | ((first | refine W_reg [] fun K hK => ?_ | refine W_regd (by rw [hP]; exact mixed) [] fun K hK => ?_); simp [go_sem, hP, hgl, hn, hk, hi]; (repeat (refine ⟨by omega, ?_⟩)); (first | refine hK _ ?_ | refine ⟨by rfl, hK _ ?_⟩); clear hK K) | refine W_cond rfl (fun _ => ?_) (fun hq => False.elim (by first | (simp [hk, hi]; done) | (simp [hk, hi]; omega) | (simp [hk, hi] at hq; done) | (simp [hk, hi] at hq; omega))) | refine W_cond rfl (fun hq => False.elim (by first | (simp [hk, hi]; done) | (simp [hk, hi]; omega) | (simp [hk, hi] at hq; done) | (simp [hk, hi] at hq; omega))) (fun _ => ?_))
      repeat (first | refine W_seq ?_ | refine W_skip ?_ | refine W_block ?_ | refine W_inBlock ?_ | refine W_label ?_ | refine W_exit rfl ?_)
      first | refine W_ret1 hP hf hfn hR ?_ | refine W_end1 hP hf hfn hR ?_
      simp [go_sem, hP, hgl, hn] <;> (try omega)
      simp [Val.same_eq, hi]
  · repeat (first | refine W_seq ?_ | refine W_skip ?_ | refine W_block ?_ | refine W_inBlock ?_ | refine W_label ?_ | refine W_exit rfl ?_ | ((first | refine W_reg [] fun K hK => ?_ | refine W_regd (by rw [hP]; exact mixed) [] fun K hK => ?_); simp [go_sem, hP, hgl, hn, hk]; (repeat (refine ⟨by omega, ?_⟩)); (first | refine hK _ ?_ | refine ⟨by rfl, hK _ ?_⟩); clear hK K) | refine W_cond rfl (fun _ => ?_) (fun hq => False.elim (by first | (simp [hk]; done) | (simp [hk]; omega) | (simp [hk] at hq; done) | (simp [hk] at hq; omega))) | refine W_cond rfl (fun hq => False.elim (by first | (simp [hk]; done) | (simp [hk]; omega) | (simp [hk] at hq; done) | (simp [hk] at hq; omega))) (fun _ => ?_))
    repeat (first | refine W_seq ?_ | refine W_skip ?_ | refine W_block ?_ | refine W_inBlock ?_ | refine W_label ?_ | refine W_exit rfl ?_)
    first | refine W_ret1 hP hf hfn hR ?_ | refine W_end1 hP hf hfn hR ?_
    simp [go_sem, hP, hgl, hn] <;> (try omega)
    simp [Val.same_eq, hk]
end Go.Proofs.YtbmnlkfgkdallaaDoor.Lift
