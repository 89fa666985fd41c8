import Derived.Test.YtcldnfbcbkaanaaGreatDoorQ3
namespace Go.Proofs.YtcldnfbcbkaanaaGreatDoor.Lift
set_option linter.unusedSimpArgs false
set_option linter.unusedVariables false
set_option linter.unnecessarySimpa false
open Go
variable {gl : Globs}

def lamsT (b : Tm) (l : List Ty) : Tm := l.foldr (fun s b => Tm.mk 2 0 s [b]) b
def appsT (f : Tm) (l : List Tm) : Tm := l.foldl appT f
theorem appsT_snoc (f : Tm) (l : List Tm) (x : Tm) : appsT f (l ++ [x]) = appT (appsT f l) x := by simp [appsT]
theorem appsT_nil (f : Tm) : appsT f [] = f := rfl
theorem lamsT_drop (b : Tm) (l : List Ty) (j : Nat) (s : Ty) (h : l[j]? = some s) : lamsT b (l.drop j) = Tm.mk 2 0 s [lamsT b (l.drop (j + 1))] := by
  obtain ⟨hj, hs⟩ := List.getElem?_eq_some_iff.1 h
  rw [List.drop_eq_getElem_cons hj, hs]
  rfl

theorem tree_var_ok (i : Int) : Con1 Tryz.prog gl 277 [dint i] [] (Tm.mk 1 i (Ty.mk 0 []) []).dv [] := by
  refine t_in Tryz.func277 ?_
  intro X hP hgl hf hfn hn hR hids hfit
  refine t_g0 ?_
  refine t_r ?_
  simp [go_sem, hP, hgl, hn] <;> (try omega)
  all_goals exact t_f

theorem tree_rec_ok (k : Int) (s : Ty) (a b c : Tm) : Con1 Tryz.prog gl 286 [dint k, s.dv, a.dv, b.dv, c.dv] [] (Tm.mk k 0 s [a, b, c]).dv [] := by
  refine t_in Tryz.func286 ?_
  intro X hP hgl hf hfn hn hR hids hfit
  refine t_g0 ?_
  refine t_r ?_
  simp [go_sem, hP, hgl, hn] <;> (try omega)
  all_goals exact t_f

theorem tree_lam_ok (b : Tm) (l : List Ty) : Con1 Tryz.prog gl 285 [b.dv, .sl (l.map Ty.cells)] [] (lamsT b l).dv [] := by
  refine t_in Tryz.func285 ?_
  intro X hP hgl hf hfn hn hR hids hfit
  have hlen := sl_len (hfit (.sl (l.map Ty.cells)) (by simp))
  simp only [List.length_map] at hlen
  have h0 : lamsT b [] = b := rfl
  refine t_g0 ?_
  refine t_a ?_
  refine t_sub [] @h0 (W_rounds (fun k : Nat => k ≤ l.length) (fun k : Nat => [(.slot 1, .one (.v (.sl (l.map Ty.cells)))), (.slot 5, .one (.v (dint ((k : Int) - 1)))), (.loc 2, .row ([.v (dint (lamsT b (l.drop k)).kind), .v (dint (lamsT b (l.drop k)).index), .v (dint (lamsT b (l.drop k)).type.kind), .v (.sl ((lamsT b (l.drop k)).type.args.map Ty.cells)), .v (.sl ((lamsT b (l.drop k)).args.map Tm.cells))])), (.slot 2, .one (.loc 2 0)), (.loc 4, .row ([.v (dint 0), .v (dint 0), .v (dint 0), .own 0 [], .own 0 []])), (.slot 4, .one (.loc 4 0))]) (fun k : Nat => k) l.length (Nat.le_refl _) ?_)
  intro k hk ih2
  cases k with
  | zero =>
    refine t_g0 ?_
    refine t_r ?_
    simp [go_sem, hP, hgl, hn] <;> (try omega)
    all_goals exact t_f
  | succ j =>
    have hj : l[j]? = some l[j] := List.getElem?_eq_getElem hk
    generalize l[j] = s at hj
    have hd := lamsT_drop b l j s hj
    have hj' : ((j + 1 : Nat) : Int) - 1 = j := by omega
    rw [hj']
    refine t_gt (wr []) (j2 @hd (j2 @Tm.kind_mk (j2 @Tm.index_mk (j2 @Tm.type_mk (j2 @Tm.args_mk (Tm.cells_eq (lamsT b (l.drop (j + 1))))))))) @hj (ih2 j (by omega) (by omega))

theorem tree_app_ok (f : Tm) (l : List Tm) : Con1 Tryz.prog gl 279 [f.dv, .sl (l.map Tm.cells)] [] (appsT f l).dv [] := by
  refine t_in Tryz.func279 ?_
  intro X hP hgl hf hfn hn hR hids hfit
  have hlen := sl_len (hfit (.sl (l.map Tm.cells)) (by simp))
  simp only [List.length_map] at hlen
  refine t_g0 ?_
  refine t_a ?_
  refine t_sub [] @appsT_nil (W_list (l) (fun done rest => [(.slot 9, .one (.v (dint done.length))), (.slot 8, .one (.v (dint l.length))), (.slot 7, .one (.v (.sl (l.map Tm.cells)))), (.loc 2, .row ([.v (dint (appsT f done).kind), .v (dint (appsT f done).index), .v (dint (appsT f done).type.kind), .v (.sl ((appsT f done).type.args.map Ty.cells)), .v (.sl ((appsT f done).args.map Tm.cells))])), (.slot 2, .one (.loc 2 0)), (.loc 4, .row ([.v (dint 0), .v (dint 0), .v (dint 0), .own 0 [], .own 0 []])), (.slot 4, .one (.loc 4 0))]) ?_ ?_)
  · intro done x rest hL hg0 hnext
    have hlt : done.length < l.length := by rw [hL]; simp
    refine t_rg0 ?_
    refine t_yes ?_
    refine t_g @hg0 ?_
    refine t_c1 @hg0 (of_ok 3 [appsT f done, x]) ?_
    repeat (first | (refine W_sub [] (by simp [go_sem]) (by simp [go_sem, appsT_snoc, appT, Tm.kind_mk, Tm.index_mk, Tm.type_mk, Tm.args_mk] <;> omega) (by simp [go_sem]) hnext) | refine W_seq ?_ | refine W_skip ?_ | refine W_block ?_ | refine W_inBlock ?_ | refine W_label ?_ | refine W_exit rfl ?_ | ((first | refine W_reg [] fun K hK => ?_ | refine W_regd (by rw [hP]; exact mixed) [] fun K hK => ?_); simp [go_sem, hP, hgl, hn]; (repeat (refine ⟨by omega, ?_⟩)); (first | refine hK _ ?_ | refine ⟨by rfl, hK _ ?_⟩); clear hK K) | refine W_cond rfl (fun _ => ?_) (fun hq => False.elim (by first | (simp; done) | (simp; omega) | (simp at hq; done) | (simp at hq; omega))) | refine W_cond rfl (fun hq => False.elim (by first | (simp; done) | (simp; omega) | (simp at hq; done) | (simp at hq; omega))) (fun _ => ?_))
  · refine t_rg0 ?_
    refine t_no ?_
    refine t_g0 ?_
    refine t_r ?_
    simp [go_sem, hP, hgl, hn] <;> (try omega)
    all_goals exact t_f

theorem mk_app_ok (f : Tm) (l : List Tm) : Con1 Tryz.prog gl 68 [f.dv, .sl (l.map Tm.cells)] [] (appsT f l).dv [] := by
  refine t_in Tryz.func68 ?_
  intro X hP hgl hf hfn hn hR hids hfit
  have hlen := sl_len (hfit (.sl (l.map Tm.cells)) (by simp))
  simp only [List.length_map] at hlen
  refine t_g0 ?_
  refine t_a ?_
  refine t_sub [] @appsT_nil (W_list (l) (fun done rest => [(.slot 9, .one (.v (dint done.length))), (.slot 8, .one (.v (dint l.length))), (.slot 7, .one (.v (.sl (l.map Tm.cells)))), (.loc 2, .row ([.v (dint (appsT f done).kind), .v (dint (appsT f done).index), .v (dint (appsT f done).type.kind), .v (.sl ((appsT f done).type.args.map Ty.cells)), .v (.sl ((appsT f done).args.map Tm.cells))])), (.slot 2, .one (.loc 2 0)), (.loc 4, .row ([.v (dint 0), .v (dint 0), .v (dint 0), .own 0 [], .own 0 []])), (.slot 4, .one (.loc 4 0))]) ?_ ?_)
  · intro done x rest hL hg0 hnext
    have hlt : done.length < l.length := by rw [hL]; simp
    refine t_rg0 ?_
    refine t_yes ?_
    refine t_g @hg0 ?_
    refine t_c1 @hg0 (ref02_n_ok 3 [appsT f done, x]) ?_
    repeat (first | (refine W_sub [] (by simp [go_sem]) (by simp [go_sem, appsT_snoc, appT, Tm.kind_mk, Tm.index_mk, Tm.type_mk, Tm.args_mk] <;> omega) (by simp [go_sem]) hnext) | refine W_seq ?_ | refine W_skip ?_ | refine W_block ?_ | refine W_inBlock ?_ | refine W_label ?_ | refine W_exit rfl ?_ | ((first | refine W_reg [] fun K hK => ?_ | refine W_regd (by rw [hP]; exact mixed) [] fun K hK => ?_); simp [go_sem, hP, hgl, hn]; (repeat (refine ⟨by omega, ?_⟩)); (first | refine hK _ ?_ | refine ⟨by rfl, hK _ ?_⟩); clear hK K) | refine W_cond rfl (fun _ => ?_) (fun hq => False.elim (by first | (simp; done) | (simp; omega) | (simp at hq; done) | (simp at hq; omega))) | refine W_cond rfl (fun hq => False.elim (by first | (simp; done) | (simp; omega) | (simp at hq; done) | (simp at hq; omega))) (fun _ => ?_))
  · refine t_rg0 ?_
    refine t_no ?_
    refine t_g0 ?_
    refine t_r ?_
    simp [go_sem, hP, hgl, hn] <;> (try omega)
    all_goals exact t_f

def vT (i : Int) : Tm := Tm.mk 1 i (Ty.mk 0 []) []
def nT (k : Int) (l : List Tm) : Tm := Tm.mk k 0 (Ty.mk 0 []) l
def recT (b s o : Tm) : Tm := Tm.mk 6 0 (Ty.mk 1 []) [b, lamsT s [Ty.mk 1 [], Ty.mk 1 []], o]
def twoT (b : Tm) : Tm := lamsT b [Ty.mk 1 [], Ty.mk 1 []]
def predT : Tm := lamsT (recT (nT 4 []) (vT 1) (vT 0)) [Ty.mk 1 []]
def plusT : Tm := twoT (recT (vT 1) (nT 5 [vT 0]) (vT 0))
def subT : Tm := twoT (recT (vT 1) (appsT predT [vT 0]) (vT 0))
theorem recursion_ok (a b c : Tm) : Con1 Tryz.prog gl 276 [a.dv, b.dv, c.dv] [] (recT a b c).dv [] := by
  refine t_in Tryz.func276 ?_
  intro X hP hgl hf hfn hn hR hids hfit
  refine t_g0 ?_
  refine t_c5 @nat_v nat_ok nat_ok nat_ok (tree_lam_ok b [Ty.mk 1 [], Ty.mk 1 []]) (tree_rec_ok 6 (Ty.mk 1 []) a (lamsT b [Ty.mk 1 [], Ty.mk 1 []]) c) ?_
  refine t_r ?_
  simp [go_sem, hP, hgl, hn, recT] <;> (try omega)
  all_goals exact t_f
theorem two_ok (b : Tm) : Con1 Tryz.prog gl 275 [b.dv] [] (twoT b).dv [] := by
  refine t_in Tryz.func275 ?_
  intro X hP hgl hf hfn hn hR hids hfit
  refine t_g0 ?_
  refine t_c3 @nat_v nat_ok nat_ok (tree_lam_ok b [Ty.mk 1 [], Ty.mk 1 []]) ?_
  refine t_r ?_
  simp [go_sem, hP, hgl, hn, twoT] <;> (try omega)
theorem pred_ok : Con1 Tryz.prog gl 280 [] [] predT.dv [] := by
  refine t_in Tryz.func280 ?_
  intro X hP hgl hf hfn hn hR hids hfit
  refine t_g0 ?_
  refine t_a ?_
  first | refine W_reg [] fun K hK => ?_ | refine W_regd (by rw [hP]; exact mixed) [] fun K hK => ?_
  simp [go_sem, hP, hgl, hn, nat_v, nT, vT]
  repeat (refine ⟨by omega, ?_⟩)
  first | refine vcK_call hP hgl (of_ok 4 []) (by simp [go_sem, hP, hgl, hn, nat_v, nT, vT]) rfl (by simp [go_sem]) (by simp) (by rw [hn]; exact Nat.le_of_ble_eq_true rfl) ?_ | refine vcdC_call (fun _ _ => vcd_sound) hP hgl (of_ok 4 []) (by simp [go_sem, hP, hgl, hn, nat_v, nT, vT]) rfl (by simp [go_sem]) (by simp) (by rw [hn]; exact Nat.le_of_ble_eq_true rfl) ?_ | refine vcK_callG hP hgl (of_ok 4 []) (by simp [go_sem, hP, hgl, hn, nat_v, nT, vT]) rfl (by simp [go_sem]) (by simp) (by rw [hn]; exact Nat.le_of_ble_eq_true rfl) (by simp [go_sem]; rfl) (by rw [hn]; exact Nat.le_of_ble_eq_true rfl) (by simp [go_sem]) ?_ | refine vcdC_callG (fun _ _ => vcd_sound) hP hgl (of_ok 4 []) (by simp [go_sem, hP, hgl, hn, nat_v, nT, vT]) rfl (by simp [go_sem]) (by simp) (by rw [hn]; exact Nat.le_of_ble_eq_true rfl) (by simp [go_sem]; rfl) (by rw [hn]; exact Nat.le_of_ble_eq_true rfl) (by simp [go_sem]) ?_
  simp [go_sem, hP, hgl, hn, nat_v, nT, vT]
  repeat (refine ⟨by omega, ?_⟩)
  first | refine vcK_call hP hgl (tree_var_ok 1) (by simp [go_sem, hP, hgl, hn, nat_v, nT, vT]) rfl (by simp [go_sem]) (by simp) (by rw [hn]; exact Nat.le_of_ble_eq_true rfl) ?_ | refine vcdC_call (fun _ _ => vcd_sound) hP hgl (tree_var_ok 1) (by simp [go_sem, hP, hgl, hn, nat_v, nT, vT]) rfl (by simp [go_sem]) (by simp) (by rw [hn]; exact Nat.le_of_ble_eq_true rfl) ?_ | refine vcK_callG hP hgl (tree_var_ok 1) (by simp [go_sem, hP, hgl, hn, nat_v, nT, vT]) rfl (by simp [go_sem]) (by simp) (by rw [hn]; exact Nat.le_of_ble_eq_true rfl) (by simp [go_sem]; rfl) (by rw [hn]; exact Nat.le_of_ble_eq_true rfl) (by simp [go_sem]) ?_ | refine vcdC_callG (fun _ _ => vcd_sound) hP hgl (tree_var_ok 1) (by simp [go_sem, hP, hgl, hn, nat_v, nT, vT]) rfl (by simp [go_sem]) (by simp) (by rw [hn]; exact Nat.le_of_ble_eq_true rfl) (by simp [go_sem]; rfl) (by rw [hn]; exact Nat.le_of_ble_eq_true rfl) (by simp [go_sem]) ?_
  simp [go_sem, hP, hgl, hn, nat_v, nT, vT]
  repeat (refine ⟨by omega, ?_⟩)
  first | refine vcK_call hP hgl (tree_var_ok 0) (by simp [go_sem, hP, hgl, hn, nat_v, nT, vT]) rfl (by simp [go_sem]) (by simp) (by rw [hn]; exact Nat.le_of_ble_eq_true rfl) ?_ | refine vcdC_call (fun _ _ => vcd_sound) hP hgl (tree_var_ok 0) (by simp [go_sem, hP, hgl, hn, nat_v, nT, vT]) rfl (by simp [go_sem]) (by simp) (by rw [hn]; exact Nat.le_of_ble_eq_true rfl) ?_ | refine vcK_callG hP hgl (tree_var_ok 0) (by simp [go_sem, hP, hgl, hn, nat_v, nT, vT]) rfl (by simp [go_sem]) (by simp) (by rw [hn]; exact Nat.le_of_ble_eq_true rfl) (by simp [go_sem]; rfl) (by rw [hn]; exact Nat.le_of_ble_eq_true rfl) (by simp [go_sem]) ?_ | refine vcdC_callG (fun _ _ => vcd_sound) hP hgl (tree_var_ok 0) (by simp [go_sem, hP, hgl, hn, nat_v, nT, vT]) rfl (by simp [go_sem]) (by simp) (by rw [hn]; exact Nat.le_of_ble_eq_true rfl) (by simp [go_sem]; rfl) (by rw [hn]; exact Nat.le_of_ble_eq_true rfl) (by simp [go_sem]) ?_
  simp [go_sem, hP, hgl, hn, nat_v, nT, vT]
  repeat (refine ⟨by omega, ?_⟩)
  first | refine vcK_call hP hgl (recursion_ok (nT 4 []) (vT 1) (vT 0)) (by simp [go_sem, hP, hgl, hn, nat_v, nT, vT]) rfl (by simp [go_sem]) (by simp) (by rw [hn]; exact Nat.le_of_ble_eq_true rfl) ?_ | refine vcdC_call (fun _ _ => vcd_sound) hP hgl (recursion_ok (nT 4 []) (vT 1) (vT 0)) (by simp [go_sem, hP, hgl, hn, nat_v, nT, vT]) rfl (by simp [go_sem]) (by simp) (by rw [hn]; exact Nat.le_of_ble_eq_true rfl) ?_ | refine vcK_callG hP hgl (recursion_ok (nT 4 []) (vT 1) (vT 0)) (by simp [go_sem, hP, hgl, hn, nat_v, nT, vT]) rfl (by simp [go_sem]) (by simp) (by rw [hn]; exact Nat.le_of_ble_eq_true rfl) (by simp [go_sem]; rfl) (by rw [hn]; exact Nat.le_of_ble_eq_true rfl) (by simp [go_sem]) ?_ | refine vcdC_callG (fun _ _ => vcd_sound) hP hgl (recursion_ok (nT 4 []) (vT 1) (vT 0)) (by simp [go_sem, hP, hgl, hn, nat_v, nT, vT]) rfl (by simp [go_sem]) (by simp) (by rw [hn]; exact Nat.le_of_ble_eq_true rfl) (by simp [go_sem]; rfl) (by rw [hn]; exact Nat.le_of_ble_eq_true rfl) (by simp [go_sem]) ?_
  simp [go_sem, hP, hgl, hn, nat_v, nT, vT]
  repeat (refine ⟨by omega, ?_⟩)
  first | refine vcK_call hP hgl (nat_ok) (by simp [go_sem, hP, hgl, hn, nat_v, nT, vT]) rfl (by simp [go_sem]) (by simp) (by rw [hn]; exact Nat.le_of_ble_eq_true rfl) ?_ | refine vcdC_call (fun _ _ => vcd_sound) hP hgl (nat_ok) (by simp [go_sem, hP, hgl, hn, nat_v, nT, vT]) rfl (by simp [go_sem]) (by simp) (by rw [hn]; exact Nat.le_of_ble_eq_true rfl) ?_ | refine vcK_callG hP hgl (nat_ok) (by simp [go_sem, hP, hgl, hn, nat_v, nT, vT]) rfl (by simp [go_sem]) (by simp) (by rw [hn]; exact Nat.le_of_ble_eq_true rfl) (by simp [go_sem]; rfl) (by rw [hn]; exact Nat.le_of_ble_eq_true rfl) (by simp [go_sem]) ?_ | refine vcdC_callG (fun _ _ => vcd_sound) hP hgl (nat_ok) (by simp [go_sem, hP, hgl, hn, nat_v, nT, vT]) rfl (by simp [go_sem]) (by simp) (by rw [hn]; exact Nat.le_of_ble_eq_true rfl) (by simp [go_sem]; rfl) (by rw [hn]; exact Nat.le_of_ble_eq_true rfl) (by simp [go_sem]) ?_
  simp [go_sem, hP, hgl, hn, nat_v, nT, vT]
  repeat (refine ⟨by omega, ?_⟩)
  first | refine vcK_call hP hgl (tree_lam_ok (recT (nT 4 []) (vT 1) (vT 0)) [Ty.mk 1 []]) (by simp [go_sem, hP, hgl, hn, nat_v, nT, vT]) rfl (by simp [go_sem]) (by simp) (by rw [hn]; exact Nat.le_of_ble_eq_true rfl) ?_ | refine vcdC_call (fun _ _ => vcd_sound) hP hgl (tree_lam_ok (recT (nT 4 []) (vT 1) (vT 0)) [Ty.mk 1 []]) (by simp [go_sem, hP, hgl, hn, nat_v, nT, vT]) rfl (by simp [go_sem]) (by simp) (by rw [hn]; exact Nat.le_of_ble_eq_true rfl) ?_ | refine vcK_callG hP hgl (tree_lam_ok (recT (nT 4 []) (vT 1) (vT 0)) [Ty.mk 1 []]) (by simp [go_sem, hP, hgl, hn, nat_v, nT, vT]) rfl (by simp [go_sem]) (by simp) (by rw [hn]; exact Nat.le_of_ble_eq_true rfl) (by simp [go_sem]; rfl) (by rw [hn]; exact Nat.le_of_ble_eq_true rfl) (by simp [go_sem]) ?_ | refine vcdC_callG (fun _ _ => vcd_sound) hP hgl (tree_lam_ok (recT (nT 4 []) (vT 1) (vT 0)) [Ty.mk 1 []]) (by simp [go_sem, hP, hgl, hn, nat_v, nT, vT]) rfl (by simp [go_sem]) (by simp) (by rw [hn]; exact Nat.le_of_ble_eq_true rfl) (by simp [go_sem]; rfl) (by rw [hn]; exact Nat.le_of_ble_eq_true rfl) (by simp [go_sem]) ?_
  simp [go_sem, hP, hgl, hn, nat_v, nT, vT]
  refine t_e ?_
  clear hK K
  refine t_r ?_
  simp [go_sem, hP, hgl, hn, predT, nT, vT] <;> (try omega)
theorem plus_ok : Con1 Tryz.prog gl 265 [] [] plusT.dv [] := by
  refine t_in Tryz.func265 ?_
  intro X hP hgl hf hfn hn hR hids hfit
  refine t_g0 ?_
  refine t_a ?_
  first | refine W_reg [] fun K hK => ?_ | refine W_regd (by rw [hP]; exact mixed) [] fun K hK => ?_
  simp [go_sem, hP, hgl, hn, nT, vT]
  repeat (refine ⟨by omega, ?_⟩)
  first | refine vcK_call hP hgl (tree_var_ok 1) (by simp [go_sem, hP, hgl, hn, nT, vT]) rfl (by simp [go_sem]) (by simp) (by rw [hn]; exact Nat.le_of_ble_eq_true rfl) ?_ | refine vcdC_call (fun _ _ => vcd_sound) hP hgl (tree_var_ok 1) (by simp [go_sem, hP, hgl, hn, nT, vT]) rfl (by simp [go_sem]) (by simp) (by rw [hn]; exact Nat.le_of_ble_eq_true rfl) ?_ | refine vcK_callG hP hgl (tree_var_ok 1) (by simp [go_sem, hP, hgl, hn, nT, vT]) rfl (by simp [go_sem]) (by simp) (by rw [hn]; exact Nat.le_of_ble_eq_true rfl) (by simp [go_sem]; rfl) (by rw [hn]; exact Nat.le_of_ble_eq_true rfl) (by simp [go_sem]) ?_ | refine vcdC_callG (fun _ _ => vcd_sound) hP hgl (tree_var_ok 1) (by simp [go_sem, hP, hgl, hn, nT, vT]) rfl (by simp [go_sem]) (by simp) (by rw [hn]; exact Nat.le_of_ble_eq_true rfl) (by simp [go_sem]; rfl) (by rw [hn]; exact Nat.le_of_ble_eq_true rfl) (by simp [go_sem]) ?_
  simp [go_sem, hP, hgl, hn, nT, vT]
  repeat (refine ⟨by omega, ?_⟩)
  first | refine vcK_call hP hgl (tree_var_ok 0) (by simp [go_sem, hP, hgl, hn, nT, vT]) rfl (by simp [go_sem]) (by simp) (by rw [hn]; exact Nat.le_of_ble_eq_true rfl) ?_ | refine vcdC_call (fun _ _ => vcd_sound) hP hgl (tree_var_ok 0) (by simp [go_sem, hP, hgl, hn, nT, vT]) rfl (by simp [go_sem]) (by simp) (by rw [hn]; exact Nat.le_of_ble_eq_true rfl) ?_ | refine vcK_callG hP hgl (tree_var_ok 0) (by simp [go_sem, hP, hgl, hn, nT, vT]) rfl (by simp [go_sem]) (by simp) (by rw [hn]; exact Nat.le_of_ble_eq_true rfl) (by simp [go_sem]; rfl) (by rw [hn]; exact Nat.le_of_ble_eq_true rfl) (by simp [go_sem]) ?_ | refine vcdC_callG (fun _ _ => vcd_sound) hP hgl (tree_var_ok 0) (by simp [go_sem, hP, hgl, hn, nT, vT]) rfl (by simp [go_sem]) (by simp) (by rw [hn]; exact Nat.le_of_ble_eq_true rfl) (by simp [go_sem]; rfl) (by rw [hn]; exact Nat.le_of_ble_eq_true rfl) (by simp [go_sem]) ?_
  simp [go_sem, hP, hgl, hn, nT, vT]
  repeat (refine ⟨by omega, ?_⟩)
  first | refine vcK_call hP hgl (of_ok 5 [vT 0]) (by simp [go_sem, hP, hgl, hn, nT, vT]) rfl (by simp [go_sem]) (by simp) (by rw [hn]; exact Nat.le_of_ble_eq_true rfl) ?_ | refine vcdC_call (fun _ _ => vcd_sound) hP hgl (of_ok 5 [vT 0]) (by simp [go_sem, hP, hgl, hn, nT, vT]) rfl (by simp [go_sem]) (by simp) (by rw [hn]; exact Nat.le_of_ble_eq_true rfl) ?_ | refine vcK_callG hP hgl (of_ok 5 [vT 0]) (by simp [go_sem, hP, hgl, hn, nT, vT]) rfl (by simp [go_sem]) (by simp) (by rw [hn]; exact Nat.le_of_ble_eq_true rfl) (by simp [go_sem]; rfl) (by rw [hn]; exact Nat.le_of_ble_eq_true rfl) (by simp [go_sem]) ?_ | refine vcdC_callG (fun _ _ => vcd_sound) hP hgl (of_ok 5 [vT 0]) (by simp [go_sem, hP, hgl, hn, nT, vT]) rfl (by simp [go_sem]) (by simp) (by rw [hn]; exact Nat.le_of_ble_eq_true rfl) (by simp [go_sem]; rfl) (by rw [hn]; exact Nat.le_of_ble_eq_true rfl) (by simp [go_sem]) ?_
  simp [go_sem, hP, hgl, hn, nT, vT]
  repeat (refine ⟨by omega, ?_⟩)
  first | refine vcK_call hP hgl (tree_var_ok 0) (by simp [go_sem, hP, hgl, hn, nT, vT]) rfl (by simp [go_sem]) (by simp) (by rw [hn]; exact Nat.le_of_ble_eq_true rfl) ?_ | refine vcdC_call (fun _ _ => vcd_sound) hP hgl (tree_var_ok 0) (by simp [go_sem, hP, hgl, hn, nT, vT]) rfl (by simp [go_sem]) (by simp) (by rw [hn]; exact Nat.le_of_ble_eq_true rfl) ?_ | refine vcK_callG hP hgl (tree_var_ok 0) (by simp [go_sem, hP, hgl, hn, nT, vT]) rfl (by simp [go_sem]) (by simp) (by rw [hn]; exact Nat.le_of_ble_eq_true rfl) (by simp [go_sem]; rfl) (by rw [hn]; exact Nat.le_of_ble_eq_true rfl) (by simp [go_sem]) ?_ | refine vcdC_callG (fun _ _ => vcd_sound) hP hgl (tree_var_ok 0) (by simp [go_sem, hP, hgl, hn, nT, vT]) rfl (by simp [go_sem]) (by simp) (by rw [hn]; exact Nat.le_of_ble_eq_true rfl) (by simp [go_sem]; rfl) (by rw [hn]; exact Nat.le_of_ble_eq_true rfl) (by simp [go_sem]) ?_
  simp [go_sem, hP, hgl, hn, nT, vT]
  repeat (refine ⟨by omega, ?_⟩)
  first | refine vcK_call hP hgl (recursion_ok (vT 1) (nT 5 [vT 0]) (vT 0)) (by simp [go_sem, hP, hgl, hn, nT, vT]) rfl (by simp [go_sem]) (by simp) (by rw [hn]; exact Nat.le_of_ble_eq_true rfl) ?_ | refine vcdC_call (fun _ _ => vcd_sound) hP hgl (recursion_ok (vT 1) (nT 5 [vT 0]) (vT 0)) (by simp [go_sem, hP, hgl, hn, nT, vT]) rfl (by simp [go_sem]) (by simp) (by rw [hn]; exact Nat.le_of_ble_eq_true rfl) ?_ | refine vcK_callG hP hgl (recursion_ok (vT 1) (nT 5 [vT 0]) (vT 0)) (by simp [go_sem, hP, hgl, hn, nT, vT]) rfl (by simp [go_sem]) (by simp) (by rw [hn]; exact Nat.le_of_ble_eq_true rfl) (by simp [go_sem]; rfl) (by rw [hn]; exact Nat.le_of_ble_eq_true rfl) (by simp [go_sem]) ?_ | refine vcdC_callG (fun _ _ => vcd_sound) hP hgl (recursion_ok (vT 1) (nT 5 [vT 0]) (vT 0)) (by simp [go_sem, hP, hgl, hn, nT, vT]) rfl (by simp [go_sem]) (by simp) (by rw [hn]; exact Nat.le_of_ble_eq_true rfl) (by simp [go_sem]; rfl) (by rw [hn]; exact Nat.le_of_ble_eq_true rfl) (by simp [go_sem]) ?_
  simp [go_sem, hP, hgl, hn, nT, vT]
  repeat (refine ⟨by omega, ?_⟩)
  first | refine vcK_call hP hgl (two_ok (recT (vT 1) (nT 5 [vT 0]) (vT 0))) (by simp [go_sem, hP, hgl, hn, nT, vT]) rfl (by simp [go_sem]) (by simp) (by rw [hn]; exact Nat.le_of_ble_eq_true rfl) ?_ | refine vcdC_call (fun _ _ => vcd_sound) hP hgl (two_ok (recT (vT 1) (nT 5 [vT 0]) (vT 0))) (by simp [go_sem, hP, hgl, hn, nT, vT]) rfl (by simp [go_sem]) (by simp) (by rw [hn]; exact Nat.le_of_ble_eq_true rfl) ?_ | refine vcK_callG hP hgl (two_ok (recT (vT 1) (nT 5 [vT 0]) (vT 0))) (by simp [go_sem, hP, hgl, hn, nT, vT]) rfl (by simp [go_sem]) (by simp) (by rw [hn]; exact Nat.le_of_ble_eq_true rfl) (by simp [go_sem]; rfl) (by rw [hn]; exact Nat.le_of_ble_eq_true rfl) (by simp [go_sem]) ?_ | refine vcdC_callG (fun _ _ => vcd_sound) hP hgl (two_ok (recT (vT 1) (nT 5 [vT 0]) (vT 0))) (by simp [go_sem, hP, hgl, hn, nT, vT]) rfl (by simp [go_sem]) (by simp) (by rw [hn]; exact Nat.le_of_ble_eq_true rfl) (by simp [go_sem]; rfl) (by rw [hn]; exact Nat.le_of_ble_eq_true rfl) (by simp [go_sem]) ?_
  simp [go_sem, hP, hgl, hn, nT, vT]
  refine t_e ?_
  clear hK K
  refine t_r ?_
  simp [go_sem, hP, hgl, hn, plusT, nT, vT] <;> (try omega)
theorem sub_ok : Con1 Tryz.prog gl 266 [] [] subT.dv [] := by
  refine t_in Tryz.func266 ?_
  intro X hP hgl hf hfn hn hR hids hfit
  refine t_g0 ?_
  refine t_a ?_
  first | refine W_reg [] fun K hK => ?_ | refine W_regd (by rw [hP]; exact mixed) [] fun K hK => ?_
  simp [go_sem, hP, hgl, hn, nT, vT]
  repeat (refine ⟨by omega, ?_⟩)
  first | refine vcK_call hP hgl (tree_var_ok 1) (by simp [go_sem, hP, hgl, hn, nT, vT]) rfl (by simp [go_sem]) (by simp) (by rw [hn]; exact Nat.le_of_ble_eq_true rfl) ?_ | refine vcdC_call (fun _ _ => vcd_sound) hP hgl (tree_var_ok 1) (by simp [go_sem, hP, hgl, hn, nT, vT]) rfl (by simp [go_sem]) (by simp) (by rw [hn]; exact Nat.le_of_ble_eq_true rfl) ?_ | refine vcK_callG hP hgl (tree_var_ok 1) (by simp [go_sem, hP, hgl, hn, nT, vT]) rfl (by simp [go_sem]) (by simp) (by rw [hn]; exact Nat.le_of_ble_eq_true rfl) (by simp [go_sem]; rfl) (by rw [hn]; exact Nat.le_of_ble_eq_true rfl) (by simp [go_sem]) ?_ | refine vcdC_callG (fun _ _ => vcd_sound) hP hgl (tree_var_ok 1) (by simp [go_sem, hP, hgl, hn, nT, vT]) rfl (by simp [go_sem]) (by simp) (by rw [hn]; exact Nat.le_of_ble_eq_true rfl) (by simp [go_sem]; rfl) (by rw [hn]; exact Nat.le_of_ble_eq_true rfl) (by simp [go_sem]) ?_
  simp [go_sem, hP, hgl, hn, nT, vT]
  repeat (refine ⟨by omega, ?_⟩)
  first | refine vcK_call hP hgl (pred_ok) (by simp [go_sem, hP, hgl, hn, nT, vT]) rfl (by simp [go_sem]) (by simp) (by rw [hn]; exact Nat.le_of_ble_eq_true rfl) ?_ | refine vcdC_call (fun _ _ => vcd_sound) hP hgl (pred_ok) (by simp [go_sem, hP, hgl, hn, nT, vT]) rfl (by simp [go_sem]) (by simp) (by rw [hn]; exact Nat.le_of_ble_eq_true rfl) ?_ | refine vcK_callG hP hgl (pred_ok) (by simp [go_sem, hP, hgl, hn, nT, vT]) rfl (by simp [go_sem]) (by simp) (by rw [hn]; exact Nat.le_of_ble_eq_true rfl) (by simp [go_sem]; rfl) (by rw [hn]; exact Nat.le_of_ble_eq_true rfl) (by simp [go_sem]) ?_ | refine vcdC_callG (fun _ _ => vcd_sound) hP hgl (pred_ok) (by simp [go_sem, hP, hgl, hn, nT, vT]) rfl (by simp [go_sem]) (by simp) (by rw [hn]; exact Nat.le_of_ble_eq_true rfl) (by simp [go_sem]; rfl) (by rw [hn]; exact Nat.le_of_ble_eq_true rfl) (by simp [go_sem]) ?_
  simp [go_sem, hP, hgl, hn, nT, vT]
  repeat (refine ⟨by omega, ?_⟩)
  first | refine vcK_call hP hgl (tree_var_ok 0) (by simp [go_sem, hP, hgl, hn, nT, vT]) rfl (by simp [go_sem]) (by simp) (by rw [hn]; exact Nat.le_of_ble_eq_true rfl) ?_ | refine vcdC_call (fun _ _ => vcd_sound) hP hgl (tree_var_ok 0) (by simp [go_sem, hP, hgl, hn, nT, vT]) rfl (by simp [go_sem]) (by simp) (by rw [hn]; exact Nat.le_of_ble_eq_true rfl) ?_ | refine vcK_callG hP hgl (tree_var_ok 0) (by simp [go_sem, hP, hgl, hn, nT, vT]) rfl (by simp [go_sem]) (by simp) (by rw [hn]; exact Nat.le_of_ble_eq_true rfl) (by simp [go_sem]; rfl) (by rw [hn]; exact Nat.le_of_ble_eq_true rfl) (by simp [go_sem]) ?_ | refine vcdC_callG (fun _ _ => vcd_sound) hP hgl (tree_var_ok 0) (by simp [go_sem, hP, hgl, hn, nT, vT]) rfl (by simp [go_sem]) (by simp) (by rw [hn]; exact Nat.le_of_ble_eq_true rfl) (by simp [go_sem]; rfl) (by rw [hn]; exact Nat.le_of_ble_eq_true rfl) (by simp [go_sem]) ?_
  simp [go_sem, hP, hgl, hn, nT, vT]
  repeat (refine ⟨by omega, ?_⟩)
  first | refine vcK_call hP hgl (tree_app_ok predT [vT 0]) (by simp [go_sem, hP, hgl, hn, nT, vT]) rfl (by simp [go_sem]) (by simp) (by rw [hn]; exact Nat.le_of_ble_eq_true rfl) ?_ | refine vcdC_call (fun _ _ => vcd_sound) hP hgl (tree_app_ok predT [vT 0]) (by simp [go_sem, hP, hgl, hn, nT, vT]) rfl (by simp [go_sem]) (by simp) (by rw [hn]; exact Nat.le_of_ble_eq_true rfl) ?_ | refine vcK_callG hP hgl (tree_app_ok predT [vT 0]) (by simp [go_sem, hP, hgl, hn, nT, vT]) rfl (by simp [go_sem]) (by simp) (by rw [hn]; exact Nat.le_of_ble_eq_true rfl) (by simp [go_sem]; rfl) (by rw [hn]; exact Nat.le_of_ble_eq_true rfl) (by simp [go_sem]) ?_ | refine vcdC_callG (fun _ _ => vcd_sound) hP hgl (tree_app_ok predT [vT 0]) (by simp [go_sem, hP, hgl, hn, nT, vT]) rfl (by simp [go_sem]) (by simp) (by rw [hn]; exact Nat.le_of_ble_eq_true rfl) (by simp [go_sem]; rfl) (by rw [hn]; exact Nat.le_of_ble_eq_true rfl) (by simp [go_sem]) ?_
  simp [go_sem, hP, hgl, hn, nT, vT]
  repeat (refine ⟨by omega, ?_⟩)
  first | refine vcK_call hP hgl (tree_var_ok 0) (by simp [go_sem, hP, hgl, hn, nT, vT]) rfl (by simp [go_sem]) (by simp) (by rw [hn]; exact Nat.le_of_ble_eq_true rfl) ?_ | refine vcdC_call (fun _ _ => vcd_sound) hP hgl (tree_var_ok 0) (by simp [go_sem, hP, hgl, hn, nT, vT]) rfl (by simp [go_sem]) (by simp) (by rw [hn]; exact Nat.le_of_ble_eq_true rfl) ?_ | refine vcK_callG hP hgl (tree_var_ok 0) (by simp [go_sem, hP, hgl, hn, nT, vT]) rfl (by simp [go_sem]) (by simp) (by rw [hn]; exact Nat.le_of_ble_eq_true rfl) (by simp [go_sem]; rfl) (by rw [hn]; exact Nat.le_of_ble_eq_true rfl) (by simp [go_sem]) ?_ | refine vcdC_callG (fun _ _ => vcd_sound) hP hgl (tree_var_ok 0) (by simp [go_sem, hP, hgl, hn, nT, vT]) rfl (by simp [go_sem]) (by simp) (by rw [hn]; exact Nat.le_of_ble_eq_true rfl) (by simp [go_sem]; rfl) (by rw [hn]; exact Nat.le_of_ble_eq_true rfl) (by simp [go_sem]) ?_
  simp [go_sem, hP, hgl, hn, nT, vT]
  repeat (refine ⟨by omega, ?_⟩)
  first | refine vcK_call hP hgl (recursion_ok (vT 1) (appsT predT [vT 0]) (vT 0)) (by simp [go_sem, hP, hgl, hn, nT, vT]) rfl (by simp [go_sem]) (by simp) (by rw [hn]; exact Nat.le_of_ble_eq_true rfl) ?_ | refine vcdC_call (fun _ _ => vcd_sound) hP hgl (recursion_ok (vT 1) (appsT predT [vT 0]) (vT 0)) (by simp [go_sem, hP, hgl, hn, nT, vT]) rfl (by simp [go_sem]) (by simp) (by rw [hn]; exact Nat.le_of_ble_eq_true rfl) ?_ | refine vcK_callG hP hgl (recursion_ok (vT 1) (appsT predT [vT 0]) (vT 0)) (by simp [go_sem, hP, hgl, hn, nT, vT]) rfl (by simp [go_sem]) (by simp) (by rw [hn]; exact Nat.le_of_ble_eq_true rfl) (by simp [go_sem]; rfl) (by rw [hn]; exact Nat.le_of_ble_eq_true rfl) (by simp [go_sem]) ?_ | refine vcdC_callG (fun _ _ => vcd_sound) hP hgl (recursion_ok (vT 1) (appsT predT [vT 0]) (vT 0)) (by simp [go_sem, hP, hgl, hn, nT, vT]) rfl (by simp [go_sem]) (by simp) (by rw [hn]; exact Nat.le_of_ble_eq_true rfl) (by simp [go_sem]; rfl) (by rw [hn]; exact Nat.le_of_ble_eq_true rfl) (by simp [go_sem]) ?_
  simp [go_sem, hP, hgl, hn, nT, vT]
  repeat (refine ⟨by omega, ?_⟩)
  first | refine vcK_call hP hgl (two_ok (recT (vT 1) (appsT predT [vT 0]) (vT 0))) (by simp [go_sem, hP, hgl, hn, nT, vT]) rfl (by simp [go_sem]) (by simp) (by rw [hn]; exact Nat.le_of_ble_eq_true rfl) ?_ | refine vcdC_call (fun _ _ => vcd_sound) hP hgl (two_ok (recT (vT 1) (appsT predT [vT 0]) (vT 0))) (by simp [go_sem, hP, hgl, hn, nT, vT]) rfl (by simp [go_sem]) (by simp) (by rw [hn]; exact Nat.le_of_ble_eq_true rfl) ?_ | refine vcK_callG hP hgl (two_ok (recT (vT 1) (appsT predT [vT 0]) (vT 0))) (by simp [go_sem, hP, hgl, hn, nT, vT]) rfl (by simp [go_sem]) (by simp) (by rw [hn]; exact Nat.le_of_ble_eq_true rfl) (by simp [go_sem]; rfl) (by rw [hn]; exact Nat.le_of_ble_eq_true rfl) (by simp [go_sem]) ?_ | refine vcdC_callG (fun _ _ => vcd_sound) hP hgl (two_ok (recT (vT 1) (appsT predT [vT 0]) (vT 0))) (by simp [go_sem, hP, hgl, hn, nT, vT]) rfl (by simp [go_sem]) (by simp) (by rw [hn]; exact Nat.le_of_ble_eq_true rfl) (by simp [go_sem]; rfl) (by rw [hn]; exact Nat.le_of_ble_eq_true rfl) (by simp [go_sem]) ?_
  simp [go_sem, hP, hgl, hn, nT, vT]
  refine t_e ?_
  clear hK K
  refine t_r ?_
  simp [go_sem, hP, hgl, hn, subT, nT, vT] <;> (try omega)
end Go.Proofs.YtcldnfbcbkaanaaGreatDoor.Lift

namespace Go.Proofs.YtcldnfbcbkaanaaGreatDoor.Lift
set_option linter.unusedSimpArgs false
set_option linter.unusedVariables false
set_option linter.unnecessarySimpa false
open Go
variable {gl : Globs}

theorem plainD_cases (l : List Int) (p : Nat) : (plainD l p).1 = Ty.mk 1 [] ∨ (plainD l p).1 = Ty.mk 2 [] ∨ (plainD l p).1 = Ty.mk 5 [] ∨ (plainD l p).1 = Ty.mk 3 [Ty.mk 1 [], Ty.mk 2 []] ∨ (plainD l p).1 = Ty.mk 3 [Ty.mk 1 [], Ty.mk 1 []] := by
  unfold plainD
  generalize nextD l p 6 = q
  obtain ⟨k, p'⟩ := q
  simp only
  by_cases h1 : k = 0 ∨ k = 1
  · rw [if_pos h1]; simp
  · rw [if_neg h1]
    by_cases h2 : k = 2
    · rw [if_pos h2]; simp
    · rw [if_neg h2]
      by_cases h3 : k = 3
      · rw [if_pos h3]; simp
      · rw [if_neg h3]
        by_cases h4 : k = 4
        · rw [if_pos h4]; simp
        · rw [if_neg h4]; simp
theorem plainD_plain (l : List Int) (p : Nat) : (plainD l p).1.plain := by
  rcases plainD_cases l p with h | h | h | h | h <;> rw [h] <;> simp [Ty.plain, Ty.plain.plains]

theorem numTm_count : ∀ n : Nat, (numTm n).count = n + 1
  | 0 => rfl
  | n + 1 => by rw [numTm, Tm.count_eq]; simp [Tm.args, Tm.count.counts, numTm_count n]; omega
end Go.Proofs.YtcldnfbcbkaanaaGreatDoor.Lift

/-
  Plain facts: the terms of small values.
-/
namespace Go.Proofs.YtcldnfbcbkaanaaGreatDoor.Lift
set_option linter.unusedSimpArgs false
set_option linter.unusedVariables false
set_option linter.unnecessarySimpa false
open Go

theorem num_shape : ∀ n : Nat, (numTm n).shape = true
  | 0 => rfl
  | n + 1 => by
    rw [numTm, Tm.shape_eq]
    simp [Tm.kind, Tm.index, Tm.type, Tm.args, Tm.shape.shapes, num_shape n, tmKind, tyOfKind, arityI, Ty.zero, Ty.kind, Ty.args]
end Go.Proofs.YtcldnfbcbkaanaaGreatDoor.Lift

/-
  Plain law: what typed terms denote.
-/
namespace Go.Proofs.YtcldnfbcbkaanaaGreatDoor.Lift
set_option linter.unusedSimpArgs false
set_option linter.unusedVariables false
set_option linter.unnecessarySimpa false
open Go

/-- simple types -/
inductive T where
  | nat | list | unit
  | pair (a b : T)
  | fn (a b : T)
  deriving DecidableEq
namespace T
set_option linter.unusedSimpArgs false
set_option linter.unusedVariables false
set_option linter.unnecessarySimpa false
def ty : T → Ty
  | nat => Ty.mk 1 []
  | list => Ty.mk 2 []
  | unit => Ty.mk 5 []
  | pair a b => Ty.mk 3 [a.ty, b.ty]
  | fn a b => Ty.mk 4 [a.ty, b.ty]
/-- the values of a type -/
def V : T → Type
  | nat => Nat
  | list => List Nat
  | unit => Unit
  | pair a b => a.V × b.V
  | fn a b => a.V → b.V
def size : T → Nat
  | nat => 1
  | list => 1
  | unit => 1
  | pair a b => 1 + a.size + b.size
  | fn a b => 1 + a.size + b.size
theorem ty_count (a : T) : a.ty.count = a.size := by
  induction a with
  | nat => rfl
  | list => rfl
  | unit => rfl
  | pair a b iha ihb => show 1 + (a.ty.count + (b.ty.count + 0)) = _; simp only [size]; omega
  | fn a b iha ihb => show 1 + (a.ty.count + (b.ty.count + 0)) = _; simp only [size]; omega
theorem ty_shape (a : T) : a.ty.shape = true := by
  induction a with
  | nat => rfl
  | list => rfl
  | unit => rfl
  | pair a b iha ihb => simp [ty, Ty.shape, Ty.shape.shapes, tyKind, iha, ihb]
  | fn a b iha ihb => simp [ty, Ty.shape, Ty.shape.shapes, tyKind, iha, ihb]
/-- small enough to be written -/
def ok (a : T) : Prop := a.size ≤ 64
theorem ok_ty {a : T} (h : a.ok) : a.ty.ok := ⟨a.ty_shape, by rw [ty_count]; exact h⟩
theorem ty_ok {a : T} (h : a.ty.ok) : a.ok := by have := h.2; rw [ty_count] at this; exact this
theorem of_shape (s : Ty) (h : s.shape = true) : ∃ a : T, a.ty = s := by
  induction s using Ty.ind with
  | h s ih =>
  cases s with
  | mk k ts =>
    have h1 := h
    rw [Ty.shape_eq, Bool.and_eq_true, Ty.shapes_iff] at h1
    obtain ⟨h2, h3⟩ := h1
    unfold tyKind at h2
    simp [Ty.kind, Ty.args] at h2
    rcases h2 with ⟨h2, rfl⟩ | ⟨h2, h4⟩
    · rcases of_decide_eq_true h2 with rfl | rfl | rfl
      · exact ⟨nat, rfl⟩
      · exact ⟨list, rfl⟩
      · exact ⟨unit, rfl⟩
    · match ts, h4, ih, h3 with
      | [x, y], _, ih, h3 =>
        obtain ⟨a, rfl⟩ := ih x (by simp [Ty.args]) (h3 x (by simp [Ty.args]))
        obtain ⟨b, rfl⟩ := ih y (by simp [Ty.args]) (h3 y (by simp [Ty.args]))
        rcases of_decide_eq_true h2 with rfl | rfl
        · exact ⟨pair a b, rfl⟩
        · exact ⟨fn a b, rfl⟩
theorem ty_inj : ∀ {a b : T}, a.ty = b.ty → a = b := by
  intro a
  induction a with
  | nat => intro b h; cases b <;> simp [ty] at h <;> rfl
  | list => intro b h; cases b <;> simp [ty] at h <;> rfl
  | unit => intro b h; cases b <;> simp [ty] at h <;> rfl
  | pair x y ihx ihy => intro b h; cases b <;> simp [ty] at h; rw [ihx h.1, ihy h.2]
  | fn x y ihx ihy => intro b h; cases b <;> simp [ty] at h; rw [ihx h.1, ihy h.2]
/-- some value of each type -/
def dflt : (a : T) → a.V
  | nat => (0 : Nat)
  | list => ([] : List Nat)
  | unit => ()
  | pair a b => (a.dflt, b.dflt)
  | fn _ b => fun _ => b.dflt
end T

/-- values of variables: the last one first -/
def Env : List T → Type
  | [] => Unit
  | a :: Γ => a.V × Env Γ

/-- the variable i: its type and its value -/
inductive At : (Γ : List T) → Nat → (a : T) → (Env Γ → a.V) → Prop
  | zero {a : T} {Γ : List T} : At (a :: Γ) 0 a (fun e => e.1)
  | succ {a b : T} {Γ : List T} {i : Nat} {p : Env Γ → a.V} (h : At Γ i a p) : At (b :: Γ) (i + 1) a (fun e => p e.2)

theorem At.of : ∀ {Γ : List T} {i : Nat} {a : T}, Γ[i]? = some a → ∃ p, At Γ i a p
  | [], _, _, h => by simp at h
  | b :: Γ, 0, a, h => by simp at h; subst h; exact ⟨_, .zero⟩
  | b :: Γ, i + 1, a, h => by
    obtain ⟨p, hp⟩ := At.of (Γ := Γ) (i := i) (a := a) (by simpa using h)
    exact ⟨_, .succ hp⟩
theorem At.get {Γ : List T} {i : Nat} {a : T} {p : Env Γ → a.V} (h : At Γ i a p) : Γ[i]? = some a := by
  induction h with
  | zero => rfl
  | succ h ih => simpa using ih

def natRec {α : Type} (b : α) (f : Nat → α → α) : Nat → α
  | 0 => b
  | n + 1 => f n (natRec b f n)
def listRec {α : Type} (b : α) (f : Nat → List Nat → α → α) : List Nat → α
  | [] => b
  | x :: l => f x l (listRec b f l)

def lamT (a : T) (b : Tm) : Tm := Tm.mk 2 0 a.ty [b]

/-- a term has a type below some variables, and means a value for all of theirs -/
inductive Dn : (Γ : List T) → Tm → (a : T) → (Env Γ → a.V) → Prop
  | var {Γ : List T} {i : Nat} {a : T} {p : Env Γ → a.V} (h : At Γ i a p) : Dn Γ (vT i) a p
  | lam {Γ : List T} {a r : T} {b : Tm} {f : Env (a :: Γ) → r.V} (ha : a.ok) (h : Dn (a :: Γ) b r f) : Dn Γ (lamT a b) (.fn a r) (fun e v => f (v, e))
  | app {Γ : List T} {a b : T} {f x : Tm} {F : Env Γ → (T.fn a b).V} {X : Env Γ → a.V} (hf : Dn Γ f (.fn a b) F) (hx : Dn Γ x a X) : Dn Γ (nT 3 [f, x]) b (fun e => F e (X e))
  | zero {Γ : List T} : Dn Γ (nT 4 []) .nat (fun _ => (0 : Nat))
  | succ {Γ : List T} {x : Tm} {X : Env Γ → T.nat.V} (hx : Dn Γ x .nat X) : Dn Γ (nT 5 [x]) .nat (fun e => Nat.succ (X e))
  | rc {Γ : List T} {a : T} {b f n : Tm} {B : Env Γ → a.V} {F : Env Γ → (T.fn .nat (.fn a a)).V} {N : Env Γ → T.nat.V} (ha : a.ok) (hb : Dn Γ b a B) (hf : Dn Γ f (.fn .nat (.fn a a)) F) (hn : Dn Γ n .nat N) :
      Dn Γ (Tm.mk 6 0 a.ty [b, f, n]) a (fun e => natRec (B e) (F e) (N e))
  | nil {Γ : List T} : Dn Γ (nT 7 []) .list (fun _ => ([] : List Nat))
  | cons {Γ : List T} {x l : Tm} {X : Env Γ → T.nat.V} {L : Env Γ → T.list.V} (hx : Dn Γ x .nat X) (hl : Dn Γ l .list L) : Dn Γ (nT 8 [x, l]) .list (fun e => List.cons (X e) (L e))
  | fold {Γ : List T} {a : T} {b f n : Tm} {B : Env Γ → a.V} {F : Env Γ → (T.fn .nat (.fn .list (.fn a a))).V} {N : Env Γ → T.list.V} (ha : a.ok) (hb : Dn Γ b a B) (hf : Dn Γ f (.fn .nat (.fn .list (.fn a a))) F) (hn : Dn Γ n .list N) :
      Dn Γ (Tm.mk 9 0 a.ty [b, f, n]) a (fun e => listRec (B e) (F e) (N e))
  | pair {Γ : List T} {a b : T} {x y : Tm} {X : Env Γ → a.V} {Y : Env Γ → b.V} (hx : Dn Γ x a X) (hy : Dn Γ y b Y) : Dn Γ (nT 10 [x, y]) (.pair a b) (fun e => Prod.mk (X e) (Y e))
  | fst {Γ : List T} {a b : T} {x : Tm} {X : Env Γ → (T.pair a b).V} (hx : Dn Γ x (.pair a b) X) : Dn Γ (nT 11 [x]) a (fun e => Prod.fst (X e))
  | snd {Γ : List T} {a b : T} {x : Tm} {X : Env Γ → (T.pair a b).V} (hx : Dn Γ x (.pair a b) X) : Dn Γ (nT 12 [x]) b (fun e => Prod.snd (X e))
  | unit {Γ : List T} : Dn Γ (nT 13 []) .unit (fun _ => ())

end Go.Proofs.YtcldnfbcbkaanaaGreatDoor.Lift

/-
  Plain law: lifting and putting in keep what a term denotes.
-/
namespace Go.Proofs.YtcldnfbcbkaanaaGreatDoor.Lift
set_option linter.unusedSimpArgs false
set_option linter.unusedVariables false
set_option linter.unnecessarySimpa false
open Go

def Env.drop {Γ : List T} : (Ξ : List T) → Env (Ξ ++ Γ) → Env Γ
  | [], e => e
  | _ :: Ξ, e => Env.drop Ξ e.2
/-- the values without those of Ξ, which stand below Δ -/
def Env.wk {Γ : List T} : (Δ Ξ : List T) → Env (Δ ++ (Ξ ++ Γ)) → Env (Δ ++ Γ)
  | [], Ξ, e => Env.drop Ξ e
  | _ :: Δ, Ξ, e => (e.1, Env.wk Δ Ξ e.2)
theorem At.drop {Γ : List T} {i : Nat} {a : T} {p : Env Γ → a.V} (h : At Γ i a p) : ∀ Ξ : List T, At (Ξ ++ Γ) (i + Ξ.length) a (fun e => p (Env.drop Ξ e))
  | [] => h
  | _ :: Ξ => .succ (At.drop h Ξ)
theorem At.wk {Γ Ξ : List T} {a : T} : ∀ (Δ : List T) {i : Nat} {p : Env (Δ ++ Γ) → a.V}, At (Δ ++ Γ) i a p → At (Δ ++ (Ξ ++ Γ)) (if i < Δ.length then i else i + Ξ.length) a (fun e => p (Env.wk Δ Ξ e))
  | [], i, p, h => by rw [if_neg (by simp)]; exact At.drop h Ξ
  | b :: Δ, i, p, h => by
    cases h with
    | zero => rw [if_pos (by simp)]; exact At.zero
    | succ h =>
      rename_i j q
      have := At.succ (b := b) (At.wk (Ξ := Ξ) Δ h)
      have e : (if j + 1 < (b :: Δ).length then j + 1 else j + 1 + Ξ.length) = (if j < Δ.length then j else j + Ξ.length) + 1 := by
        simp only [List.length_cons]
        split <;> split <;> omega
      rw [e]
      exact this

theorem up_node {k : Int} (hk : k ≠ 1 ∧ k ≠ 2) (i : Int) (y : Ty) (a : List Tm) (f b : Int) : (Tm.mk k i y a).upN f b = Tm.mk k i y (a.map fun x => x.upN f b) := by
  rw [Tm.upN_eq]
  simp [Tm.kind, Tm.index, Tm.type, Tm.args, hk.1, hk.2, bindI]
theorem up_lam (a : T) (t : Tm) (f b : Int) : (lamT a t).upN f b = lamT a (t.upN (f + 1) b) := by
  rw [lamT, Tm.upN_eq]
  simp [Tm.kind, Tm.index, Tm.type, Tm.args, bindI, lamT]
theorem up_var (i : Int) (f b : Int) : (vT i).upN f b = vT (if f ≤ i then i + b else i) := by
  rw [vT, Tm.upN_eq]
  simp [Tm.kind, Tm.index, Tm.type, Tm.args, vT]
theorem up_zero (t : Tm) (f : Int) : t.upN f 0 = t := by
  induction t using Tm.ind generalizing f with
  | h t ih =>
  rw [Tm.upN_eq]
  have h1 : (if t.kind = 1 ∧ f ≤ t.index then t.index + 0 else t.index) = t.index := by split <;> omega
  have h2 : (t.args.map fun x => x.upN (f + bindI t.kind) 0) = t.args := by
    conv => rhs; rw [← List.map_id t.args]
    exact List.map_congr_left fun x hx => ih x hx _
  rw [h1, h2]
  exact Tm.eta t
theorem dn_wk {Γ Ξ : List T} {Θ : List T} {t : Tm} {a : T} {F : Env Θ → a.V} (h : Dn Θ t a F) : ∀ (Δ : List T) (hΘ : Θ = Δ ++ Γ), Dn (Δ ++ (Ξ ++ Γ)) (t.upN Δ.length Ξ.length) a (fun e => F (cast (congrArg Env hΘ.symm) (Env.wk Δ Ξ e))) := by
  induction h with
  | var h =>
    intro Δ hΘ
    subst hΘ
    rename_i i a p
    have := Dn.var (At.wk (Ξ := Ξ) Δ h)
    rw [up_var]
    have e : (if (Δ.length : Int) ≤ (i : Nat) then ((i : Nat) : Int) + Ξ.length else (i : Nat)) = ((if i < Δ.length then i else i + Ξ.length : Nat) : Int) := by
      split <;> split <;> omega
    rw [e]
    exact this
  | lam ha h ih =>
    intro Δ hΘ
    subst hΘ
    rw [up_lam]
    have := ih (_ :: Δ) rfl
    simp only [List.length_cons, Int.natCast_add, Int.cast_ofNat_Int] at this
    exact .lam ha this
  | app hf hx ihf ihx => intro Δ hΘ; subst hΘ; rw [nT, up_node (by decide)]; exact .app (ihf Δ rfl) (ihx Δ rfl)
  | zero => intro Δ hΘ; subst hΘ; rw [nT, up_node (by decide)]; exact .zero
  | succ hx ih => intro Δ hΘ; subst hΘ; rw [nT, up_node (by decide)]; exact .succ (ih Δ rfl)
  | rc ha hb hf hn ihb ihf ihn => intro Δ hΘ; subst hΘ; rw [up_node (by decide)]; exact .rc ha (ihb Δ rfl) (ihf Δ rfl) (ihn Δ rfl)
  | nil => intro Δ hΘ; subst hΘ; rw [nT, up_node (by decide)]; exact .nil
  | cons hx hl ihx ihl => intro Δ hΘ; subst hΘ; rw [nT, up_node (by decide)]; exact .cons (ihx Δ rfl) (ihl Δ rfl)
  | fold ha hb hf hn ihb ihf ihn => intro Δ hΘ; subst hΘ; rw [up_node (by decide)]; exact .fold ha (ihb Δ rfl) (ihf Δ rfl) (ihn Δ rfl)
  | pair hx hy ihx ihy => intro Δ hΘ; subst hΘ; rw [nT, up_node (by decide)]; exact .pair (ihx Δ rfl) (ihy Δ rfl)
  | fst hx ih => intro Δ hΘ; subst hΘ; rw [nT, up_node (by decide)]; exact .fst (ih Δ rfl)
  | snd hx ih => intro Δ hΘ; subst hΘ; rw [nT, up_node (by decide)]; exact .snd (ih Δ rfl)
  | unit => intro Δ hΘ; subst hΘ; rw [nT, up_node (by decide)]; exact .unit

/-- a term below some more variables -/
theorem dn_up {Γ : List T} {t : Tm} {a : T} {F : Env Γ → a.V} (h : Dn Γ t a F) (Ξ : List T) : Dn (Ξ ++ Γ) (t.upN 0 Ξ.length) a (fun e => F (Env.drop Ξ e)) := dn_wk (Ξ := Ξ) h [] rfl

/-- what is denoted may be told otherwise -/
theorem Dn.eq {Γ : List T} {t : Tm} {a : T} {F G : Env Γ → a.V} (h : Dn Γ t a F) (e : ∀ ρ, F ρ = G ρ) : Dn Γ t a G := by
  have : F = G := funext e
  rw [← this]; exact h
end Go.Proofs.YtcldnfbcbkaanaaGreatDoor.Lift

/-
  Part X of the small logic: a drawn region whose last operations wait for all others; slices whose cells are written again (raw): a literal, an append in place or to a new block.
-/
namespace Go.Proofs.YtcldnfbcbkaanaaGreatDoor.Lift
set_option linter.unusedSimpArgs false
set_option linter.unusedVariables false
set_option linter.unnecessarySimpa false
open Go
section
variable {X : Ctx} {s s0 : St} {k : List Item}

/-- from place m on, each operation waits for all before it -/
def tailB (T : List Nat) (m n : Nat) : Bool := (List.range n).all fun j => decide (j < m) || (List.range j).all fun i => (T.getD j 0).testBit i
theorem tailB_spec {T : List Nat} {m n : Nat} (h : tailB T m n = true) : ∀ j, m ≤ j → j < n → ∀ i, i < j → (T.getD j 0).testBit i = true := by
  intro j hj hn i hi
  have := List.all_eq_true.1 h j (List.mem_range.2 hn)
  rw [Bool.or_eq_true] at this
  rcases this with h1 | h1
  · exact absurd (of_decide_eq_true h1) (by omega)
  · exact List.all_eq_true.1 h1 i (List.mem_range.2 hi)

theorem seq_any {ops : Array Oper} {m : Nat} {T : List Nat} (hback : backB 0 ops.toList = true) (hfix : fixB T T ops.toList = true) (htail : ∀ j, m ≤ j → j < ops.size → ∀ i, i < j → (T.getD j 0).testBit i = true) {Q : Exit → Act → World → Prop} :
    ∀ (k j fuel : Nat) (listed : Array Bool) (a : Act) (w : World), j + k = ops.size → m ≤ j → listed.size = ops.size → (∀ i, i < ops.size → Lof listed i = decide (i < j)) → k ≤ fuel → wpOpsIn X.F 0 X.P ops Q (List.range' j k) a w → wpAnyIn X.F 0 X.P .any ops Q fuel listed a w
  | 0, j, fuel, listed, a, w, hjk, hm, hsz, hL, hf, hw => by
    have hall : ∀ i, i < ops.size → Lof listed i = true := fun i hi => by rw [hL i hi]; exact decide_eq_true (by omega)
    have hr : ∀ i, ¬ i ∈ Region.ready .any ops listed := by
      intro i hi
      obtain ⟨h1, o, h2, -⟩ := mem_ready.1 hi
      have hj : i < ops.size := (Array.getElem?_eq_some_iff.1 h2).1
      rw [getD_tf (by omega), hall i hj] at h1
      cases h1
    have hQ : Q .normal a w := hw
    cases fuel with
    | zero =>
      refine ⟨?_, hQ⟩
      cases hq : Region.ready .any ops listed with
      | nil => rfl
      | cons i r => exact absurd (by rw [hq]; simp) (hr i)
    | succ fuel => exact ⟨fun _ => hQ, fun i hi => absurd hi (hr i)⟩
  | k + 1, j, fuel, listed, a, w, hjk, hm, hsz, hL, hf, hw => by
    obtain ⟨fuel, rfl⟩ : ∃ f, fuel = f + 1 := ⟨fuel - 1, by omega⟩
    have hjo : j < ops.size := by omega
    have hcl : Closed ops (Lof listed) := by
      intro i o hi ho e he hb
      have hio : i < ops.size := (Array.getElem?_eq_some_iff.1 ho).1
      have hlt := backB_spec hback i o (by simpa using ho) e he hb
      rw [hL i hio] at hi
      have := of_decide_eq_true hi
      rw [hL e.on (by omega)]
      exact decide_eq_true (by omega)
    have hj : j ∈ Region.ready .any ops listed := by
      rw [mem_ready]
      refine ⟨by rw [getD_tf (by omega), hL j hjo]; exact decide_eq_false (by omega), ops[j], Array.getElem?_eq_getElem hjo, fun e he hb => ?_⟩
      have hlt := backB_spec hback j ops[j] (by simp [hjo]) e he hb
      show Lof listed e.on = true
      rw [hL e.on (by omega)]
      exact decide_eq_true (by omega)
    refine ⟨fun hr => absurd hj (by rw [hr]; simp), fun i hi => ?_⟩
    obtain ⟨h1, o, ho, hall⟩ := mem_ready.1 hi
    have hio : i < ops.size := (Array.getElem?_eq_some_iff.1 ho).1
    rw [getD_tf (by omega), hL i hio] at h1
    have hij : j ≤ i := by have := of_decide_eq_false h1; omega
    have hall' : ∀ e ∈ o.after, Region.binds .any e = true → Lof listed e.on = true := hall
    have heq : i = j := by
      rcases Nat.lt_or_ge j i with h | h
      · have := anc_spec hback hfix hcl i o ho hall' (htail i (by omega) hio j h)
        rw [hL j hjo] at this
        exact absurd (of_decide_eq_true this) (by omega)
      · omega
    subst heq
    rw [List.range'_succ, wpOpsIn_cons] at hw
    refine wpOpIn_mono (fun a' w' h' => ?_) hw
    refine seq_any hback hfix htail k (i + 1) fuel _ a' w' (by omega) (by omega) (by simpa using hsz) (fun x hx => ?_) (by omega) h'
    rw [Lof_set (by omega)]
    show (x == i || Lof listed x) = _
    rw [hL x hx]
    by_cases hxi : x = i
    · subst hxi; simp
    · have : (x == i) = false := by simpa using hxi
      rw [this, Bool.false_or]
      congr 1
      exact propext ⟨fun h => by omega, fun h => by omega⟩

theorem draw_anyT {ops ops' : Array Oper} {m : Nat} {T0 : List Nat} (hops : ops.toList.take m = ops'.toList) (hmn : m ≤ ops.size) {evs : List Ev} {K : St → Prop} (hrun : RunL X ops' ops'.toList s0 evs) (hg : ∀ o ∈ ops'.toList, o.guard = none) (hchk : chkB ops'.toList s0 evs = true)
    (hback0 : backB 0 ops.toList = true) (hfix0 : fixB T0 T0 ops.toList = true) (htail : ∀ j, m ≤ j → j < ops.size → ∀ i, i < j → (T0.getD j 0).testBit i = true) (hK : VL X ops (ops.toList.drop m) (appAll s0 evs) K) :
    ∀ (fuel : Nat) (listed : Array Bool) (G : Gh) (a : Act) (w : World), listed.size = ops.size → Closed ops (Lof listed) → (∀ j, m ≤ j → Lof listed j = false) → (left m listed).length + (ops.size - m) ≤ fuel → Rel X G (sel (Lof listed) 0 evs s0) a w →
      wpAnyIn X.F 0 X.P .any ops (Nrm X K) fuel listed a w := by
  simp only [chkB, Bool.and_eq_true] at hchk
  obtain ⟨⟨⟨hback, hfix⟩, hfr⟩, hp⟩ := hchk
  generalize tabGo ops'.toList [] = T at *
  have hsz' : ops'.size = m := by
    have := congrArg List.length hops
    simp at this
    omega
  have hlen : evs.length = m := by have := RunL_length hrun; simp at this; omega
  have hget : ∀ i, i < m → ops'[i]? = ops[i]? := by
    intro i hi
    have h1 : ops'.toList[i]? = ops.toList[i]? := by rw [← hops, List.getElem?_take_of_lt hi]
    simpa using h1
  intro fuel
  induction fuel with
  | zero =>
    intro listed G a w hsz hcl htl hle R
    have hm0 : m = ops.size := by omega
    have hall : ∀ j, j < m → Lof listed j = true := by
      intro j hj
      cases hq : Lof listed j with
      | true => rfl
      | false =>
        have hm : j ∈ left m listed := by simp [left, hj, hq]
        have := List.length_pos_of_mem hm
        omega
    refine seq_any hback0 hfix0 htail 0 m 0 listed a w (by omega) (Nat.le_refl _) hsz (fun i hi => by rw [hall i (by omega)]; exact (decide_eq_true (by omega)).symm) (Nat.le_refl _) ?_
    have R' : Rel X G (appAll s0 evs) a w := R.congr fun l => by
      rw [← sel_all 0]
      refine sel_diff evs 0 _ _ rfl fun j ev hj hne => ?_
      have hj' : j < m := by rw [← hlen]; exact (List.getElem?_eq_some_iff.1 hj).1
      exact absurd (hall j hj').symm (by simpa using hne)
    have := hK m rfl G a w R'
    have hd : (ops.toList.drop m).length = 0 := by simp; omega
    rw [hd] at this
    exact this
  | succ fuel ih =>
    intro listed G a w hsz hcl htl hle R
    by_cases hall : ∀ j, j < m → Lof listed j = true
    · have R' : Rel X G (appAll s0 evs) a w := R.congr fun l => by
        rw [← sel_all 0]
        refine sel_diff evs 0 _ _ rfl fun j ev hj hne => ?_
        have hj' : j < m := by rw [← hlen]; exact (List.getElem?_eq_some_iff.1 hj).1
        exact absurd (hall j hj').symm (by simpa using hne)
      have hw := hK m rfl G a w R'
      have hd : (ops.toList.drop m).length = ops.size - m := by simp
      rw [hd] at hw
      refine seq_any hback0 hfix0 htail (ops.size - m) m (fuel + 1) listed a w (by omega) (Nat.le_refl _) hsz (fun i hi => ?_) (by omega) hw
      by_cases him : i < m
      · rw [hall i him]; exact (decide_eq_true him).symm
      · rw [htl i (by omega)]; exact (decide_eq_false him).symm
    have hex : ∃ j, j < m ∧ Lof listed j = false := by
      by_cases h : ∃ j, j < m ∧ Lof listed j = false
      · exact h
      · exact absurd (fun j hj => by
          cases hq : Lof listed j with
          | true => rfl
          | false => exact absurd ⟨j, hj, hq⟩ h) hall
    have hstuck : Region.ready .any ops listed = [] → ∀ j, j < m → Lof listed j = true := by
      intro hr j
      induction j using Nat.strongRecOn with
      | _ j ihj =>
        intro hj
        cases hq : Lof listed j with
        | true => rfl
        | false =>
          have hjo : j < ops.size := by omega
          have : j ∈ Region.ready .any ops listed := by
            rw [mem_ready]
            refine ⟨by rw [getD_tf (by omega)]; exact hq, ops[j], Array.getElem?_eq_getElem hjo, fun e he hb => ?_⟩
            have hlt := backB_spec hback0 j ops[j] (by simp [hjo]) e he hb
            exact ihj e.on (by omega) (by omega)
          rw [hr] at this
          cases this
    refine ⟨fun hr => absurd (hstuck hr) hall, fun i hi => ?_⟩
    obtain ⟨h1, o, ho, hall1⟩ := mem_ready.1 hi
    have hio : i < ops.size := (Array.getElem?_eq_some_iff.1 ho).1
    have hil : i < listed.size := by omega
    rw [getD_tf hil] at h1
    have hall' : ∀ e ∈ o.after, Region.binds .any e = true → Lof listed e.on = true := hall1
    have him : i < m := by
      rcases Nat.lt_or_ge i m with h | h
      · exact h
      · exact absurd (fun j hj => anc_spec hback0 hfix0 hcl i o ho hall' (htail i h hio j (by omega))) hall
    have hcl' : Closed ops' (Lof listed) := by
      intro j o' hL ho' e he hb
      have hj : j < m := by have := (Array.getElem?_eq_some_iff.1 ho').1; omega
      exact hcl j o' hL (by rw [← hget j hj]; exact ho') e he hb
    have ho' : ops'[i]? = some o := by rw [hget i him]; exact ho
    have hie : i < evs.length := by omega
    have hev : evs[i]? = some evs[i] := List.getElem?_eq_getElem hie
    have hstep := RunL_at 0 hrun i o evs[i] (by simpa using ho') hev
    have hind1 : ∀ (j : Nat) (ev : Ev), evs[j]? = some ev → i < j → Lof listed j = true → apart evs[i] ev = true := by
      intro j ev hj hij hL
      have hjm : j < m := by rw [← hlen]; exact (List.getElem?_eq_some_iff.1 hj).1
      have hjo : j < ops'.size := by omega
      rcases (chkP_spec hp i j _ ev hij hev hj).2 with h | h
      · have := anc_spec hback hfix hcl' j ops'[j] (Array.getElem?_eq_getElem hjo) (fun e he hb => hcl' j _ hL (Array.getElem?_eq_getElem hjo) e he hb) (by simpa using h)
        rw [h1] at this; cases this
      · exact h
    have hind2 : ∀ (j : Nat) (ev : Ev), evs[j]? = some ev → j < i → Lof listed j = false → apart ev evs[i] = true := by
      intro j ev hj hij hL
      rcases (chkP_spec hp j i ev _ hij hj hev).2 with h | h
      · have := anc_spec hback hfix hcl' i o ho' hall' (by simpa using h)
        rw [hL] at this; cases this
      · exact h
    have hop : OpOK X ops' o (sel (Lof listed) 0 evs s0) (apply (sel (Lof listed) 0 evs s0) evs[i].e) := by
      refine hstep _ (fun l v hl => ?_) (fun d hd => ?_)
      · obtain ⟨hfp, hg⟩ := get_restr hl
        rw [← hg]
        refine sel_diff evs 0 _ _ rfl fun j ev hj hne hw => ?_
        simp only [Nat.zero_add] at hne
        by_cases hij : j < i
        · cases hq : Lof listed j with
          | true => rw [hq] at hne; simp [hij] at hne
          | false =>
            have := hind2 j ev hj hij hq
            simp only [apart, Bool.and_eq_true, disL_iff] at this
            exact this.1.1.1 l hw hfp
        · cases hq : Lof listed j with
          | false => rw [hq] at hne; simp [hij] at hne
          | true =>
            have hne' : j ≠ i := fun e => by rw [e, h1] at hq; cases hq
            have := hind1 j ev hj (by omega) hq
            simp only [apart, Bool.and_eq_true, disL_iff] at this
            exact this.1.1.2 l hw hfp
      · refine sel_fresh evs 0 s0 (chkF_spec hfr i _ hev d hd) fun j ev hj hL => ?_
        simp only [Nat.zero_add] at hL
        have hne' : j ≠ i := fun e => by rw [e, h1] at hL; cases hL
        by_cases hij : j < i
        · exact (chkP_spec hp j i ev _ hij hj hev).1 d hd
        · have := hind1 j ev hj (by omega) hL
          simp only [apart, Bool.and_eq_true, allN_iff] at this
          simpa using this.2 d hd
    have hnext : ∀ G' a' w', Rel X G' (apply (sel (Lof listed) 0 evs s0) evs[i].e) a' w' → wpAnyIn X.F 0 X.P .any ops (Nrm X K) fuel (listed.setIfInBounds i true) a' w' := by
      intro G' a' w' R'
      refine ih _ G' a' w' (by simpa using hsz) ?_ ?_ ?_ ?_
      · rw [Lof_set hil]
        intro j o' hL hoj e he hb
        simp only [Bool.or_eq_true, beq_iff_eq] at hL ⊢
        rcases hL with rfl | hL
        · rw [ho] at hoj; cases hoj
          exact .inr (hall' e he hb)
        · exact .inr (hcl j o' hL hoj e he hb)
      · intro j hj
        rw [Lof_set hil]
        show (j == i || Lof listed j) = false
        rw [htl j hj, Bool.or_false]
        simp; omega
      · have := left_set (n := m) hil him h1
        omega
      · rw [Lof_set hil]
        refine R'.congr fun l => sel_add h1 evs 0 s0 (Nat.zero_le _) hev fun j ev hj hlt hL hw => ?_
        simp only [Nat.zero_add] at hlt hL
        have := hind1 j ev hj hlt hL
        simp only [apart, Bool.and_eq_true, disL_iff] at this
        exact this.1.2 l hw
    have hgn : o.guard = none := hg o (List.mem_of_getElem? (i := i) (by simpa using ho'))
    have := hop G a w R _ (Nrm X K) hnext
    unfold wpOpIn
    simp only [ho]
    have hw : ∀ y, Region.wanted o y = true := fun y => by simp [Region.wanted, hgn]
    simp only [hw, if_true] at this ⊢
    exact this

def tailOK (ops : List Oper) (m : Nat) : Bool :=
  let T := tabGo ops []
  backB 0 ops && fixB T T ops && tailB T m ops.length && (ops.take m).all fun o => o.guard.isNone

/-- A DRAWN REGION WHOSE LAST OPERATIONS WAIT FOR ALL OTHERS: these are walked one by one -/
theorem W_regT {id : Nat} {ops : Array Oper} {s : St} (hm : X.P.follows .mixedOrders = true) (m : Nat) (hmn : m ≤ ops.size) (hfull : tailOK ops.toList m = true) (esc esc' : List Nat)
    (h : ∀ K : St → Prop, (∀ s', W X k s' → K s') → vcd X esc (ops.toList.take m).toArray s (fun s' => vc X esc' ops (ops.toList.drop m) s' K) (ops.toList.take m) s []) : W X (.code (.region id ops true) :: k) s := by
  intro G a w b cs hf hk hr R
  simp only [tailOK, Bool.and_eq_true, List.all_eq_true] at hfull
  obtain ⟨⟨⟨t1, t2⟩, t3⟩, t4⟩ := hfull
  obtain ⟨evs, h1, h2, h3⟩ := vcd_sound (h (fun s' => W X k s') (fun _ h => h))
  have ht : (ops.toList.take m).toArray.toList = ops.toList.take m := rfl
  have h3' : VL X ops (ops.toList.drop m) (appAll s evs) (fun s' => W X k s') := vc_sound h3
  have hany := draw_anyT (ops' := (ops.toList.take m).toArray) (s0 := s) rfl hmn (by rw [ht]; exact h1) (fun o ho => by have := t4 o (by simpa using ho); cases hq : o.guard with | none => rfl | some _ => rw [hq] at this; cases this) (by simpa using h2) t1 t2 (tailB_spec (by simpa using t3)) h3' ops.size (Array.replicate ops.size false) G a { w with drawn := w.drawn + 1 } (by simp) (fun j o hL => by simp [Lof, Array.getElem?_replicate] at hL; split at hL <;> simp at hL) (fun j _ => by simp only [Lof, Array.getD_eq_getD_getElem?, Array.getElem?_replicate]; split <;> rfl) (by
      have : (left m (Array.replicate ops.size false)).length ≤ m := Nat.le_trans (List.length_filter_le _ _) (by simp)
      omega) (by
      rw [sel_none _ _ _ (fun j _ => by simp only [Lof, Array.getD_eq_getD_getElem?, Array.getElem?_replicate]; split <;> rfl)]
      exact R.drawn _)
  obtain ⟨e', a', w', ⟨rfl, G', s', hK, R'⟩, harr⟩ := wpIn_region_any (F := X.F) (n := 0) hm hany b k cs hr trivial (roomF _)
  obtain ⟨w'', fr, q1, q2⟩ := hK G' a' w' b cs hf hk hr R'
  exact ⟨w'', fr, q1, Steps.trans (StepsIn.steps harr) q2⟩

/-! raw slices: the slice's value is a datum of its own, its block an object -/
abbrev rawS (b n cap : Nat) : DV := .prim (.slice (some ⟨b, 0, none⟩) n cap)

theorem put_mid (A M D xs : List SV) (h : xs.length = M.length) : put (A ++ (M ++ D)) A.length xs = A ++ (xs ++ D) := by
  apply List.ext_getElem?
  intro i
  rw [get_put _ _ _ _ (by simp; omega)]
  split
  · rename_i hi
    rw [List.getElem?_append_right hi.1, List.getElem?_append_left (by omega)]
  · rename_i hi
    by_cases h1 : i < A.length
    · rw [List.getElem?_append_left h1, List.getElem?_append_left h1]
    · have h2 : A.length + xs.length ≤ i := by omega
      rw [List.getElem?_append_right (by omega), List.getElem?_append_right (by omega), List.getElem?_append_right (by omega), List.getElem?_append_right (by omega), h]
theorem arrRow_append (l r : List (List DV)) : arrRow (l ++ r) = arrRow l ++ arrRow r := by simp [arrRow]
theorem arrRow_len {E : Nat} {l : List (List DV)} (h : ∀ e ∈ l, e.length = E) : (arrRow l).length = l.length * E := by simp only [arrRow, List.length_map]; exact flatten_len h
theorem arrRow_put {E : Nat} {full zs : List (List DV)} {n : Nat} (hE1 : ∀ e ∈ full, e.length = E) (hE2 : ∀ e ∈ zs, e.length = E) (hle : n + zs.length ≤ full.length) :
    put (arrRow full) (n * E) (arrRow zs) = arrRow (full.take n ++ zs ++ full.drop (n + zs.length)) := by
  have h1 : full = full.take n ++ ((full.drop n).take zs.length ++ full.drop (n + zs.length)) := by
    have := List.take_append_drop zs.length (full.drop n)
    rw [List.drop_drop] at this
    rw [this, List.take_append_drop]
  have m1 : ∀ e ∈ full.take n, e.length = E := fun e he => hE1 e (List.mem_of_mem_take he)
  have m2 : ∀ e ∈ (full.drop n).take zs.length, e.length = E := fun e he => hE1 e (List.mem_of_mem_drop (List.mem_of_mem_take he))
  have e1 : (arrRow (full.take n)).length = n * E := by rw [arrRow_len m1, List.length_take, Nat.min_eq_left (by omega)]
  have e2 : (arrRow zs).length = (arrRow ((full.drop n).take zs.length)).length := by rw [arrRow_len hE2, arrRow_len m2, List.length_take, List.length_drop, Nat.min_eq_left (by omega)]
  have h2 : arrRow full = arrRow (full.take n) ++ (arrRow ((full.drop n).take zs.length) ++ arrRow (full.drop (n + zs.length))) := by rw [← arrRow_append, ← arrRow_append, ← h1]
  rw [h2, ← e1, put_mid _ _ _ _ e2, arrRow_append, arrRow_append, List.append_assoc]

/-- the cells of elements that are laid -/
theorem rowOf_laid {G : Gh} {w : World} {E : Nat} {zs : List (List DV)} {g : Nat → Value} (hE : ∀ e ∈ zs, e.length = E) (h : Laid G.D w E zs g) : RowOf G w (arrRow zs) (arr g (zs.length * E)) := by
  have hl := flatten_len hE
  refine ⟨by rw [arr_size, arrRow_len hE], fun i x v hx hv => ?_⟩
  simp only [arrRow, List.getElem?_map] at hx
  cases hd0 : zs.flatten[i]? with
  | none => rw [hd0] at hx; cases hx
  | some dd =>
    rw [hd0] at hx
    cases hx
    obtain ⟨i1, j1, e1, k1, k2, rfl⟩ := flatten_get hE hd0
    have hj : j1 < E := by rw [← hE e1 (List.mem_of_getElem? k1)]; exact (List.getElem?_eq_some_iff.1 k2).1
    have hi : i1 < zs.length := (List.getElem?_eq_some_iff.1 k1).1
    rw [arr_get _ _ _ (lt_mul hi hj)] at hv
    cases hv
    exact h i1 j1 e1 dd k1 k2
theorem cellBS_arrRow {zs : List (List DV)} (h : ∀ e ∈ zs, ∀ c ∈ e, DV.isCell c = true) : cellBS (arrRow zs) = true := by
  rw [cellBS_iff]
  intro x hx
  simp only [arrRow, List.mem_map, List.mem_flatten] at hx
  obtain ⟨d, ⟨e, he, hd⟩, rfl⟩ := hx
  exact h e he d hd

/-- append in place -/
theorem step_appendF {o : Oper} {x y : Operand} {T T2 : TypeId} (ho : o.op = .call { callee := .builtin .append, args := #[x, y], argTypes := #[T, T2] }) {d : Nat} (hd : o.dst = some d) (hn : d < X.n)
    {E B : Nat} (he : elemZ X.P T = some (E, B)) (h2 : (elemT X.P T2).isSome = true) {b n cap : Nat} {full zs : List (List DV)} (hx : evl X (get s) x = some (.v (rawS b n cap))) (hy : (evl X (get s) y).bind slOf = some zs)
    (hrow : get s (.heap b) = some (.row (arrRow full))) (hfl : full.length = cap) (hle : n + zs.length ≤ cap) (hE1 : ∀ e ∈ full, e.length = E) (hE2 : ∀ e ∈ zs, e.length = E) :
    StepOK X s o (upd (upd s (.heap b) (.row (arrRow (full.take n ++ zs ++ full.drop (n + zs.length))))) (.slot d) (.one (.v (rawS b (n + zs.length) cap)))) := by
  intro G a w R next Q hK
  have hv := (prim_of (evl_sound R hx)).1
  obtain ⟨q, hq, hq'⟩ := Option.bind_eq_some_iff.1 hy
  obtain ⟨yb, ycap, hyv, hyr, -⟩ := slOf_sound hq' (evl_sound R hq)
  obtain ⟨c2, g, g1, g2, g3⟩ := sl_laid hyr hE2
  have hle2 : n * E + (arrRow zs).length ≤ (arrRow full).length := by
    rw [arrRow_len hE1, arrRow_len hE2, ← Nat.add_mul, hfl]; exact Nat.mul_le_mul_right _ hle
  obtain ⟨w', h1, h2'⟩ := R.storeRow hrow rfl (b := b) rfl (rowOf_laid hE2 g1) (cellBS_arrRow c2) hle2
  have hrun := run_append_fits (P := X.P) (t := T) (ty := o.type) (t2 := T2) (w := w) he h2 (base := some ⟨b, 0, none⟩) (len := n) (cap := cap) (lenOf_sl (P := X.P) hyr w) (run_firstCells (P := X.P) g3) hle (w' := w') (by simp only [addr_add, Nat.zero_add]; exact h1)
  rw [← hv] at hrun
  refine opIn (by intro c e; rw [ho] at e; cases e) ?_
  have hexec : (execOp a.eval o).run X.P w = .ok (.value (.slice (some ⟨b, 0, none⟩) (n + zs.length) cap)) w' := by
    simp [execOp, ho, resolve, invoke, builtin, hrun]
  rw [hexec, upn_value, hd]
  rw [arrRow_put hE1 hE2 (by omega)] at h2'
  exact hK G _ w' (h2'.setSlot (Trans.refl X G a w' R.nil) rfl rfl (fun _ h => h) hn (.prim _ trivial))

/-- a new block whose first cells are told -/
theorem Rel.newArr {G : Gh} {a : Act} {w : World} (R : Rel X G s a w) {d : Nat} (hn : d < X.n) {w1 : World} (hw1 : w1.heap = w.heap) {c : Array Value} {e : TypeId} {E : Nat} {full : List (List DV)} {n cap : Nat}
    (T' : Trans X G a w G (a.put (some d) (.slice (some ⟨w.heap.size, 0, none⟩) n cap)) (w1.alloc (.cells c e)) (fun _ => False))
    (hE : ∀ e ∈ full, e.length = E) (hcell : ∀ e ∈ full, ∀ c ∈ e, DV.isCell c = true) (hc : full.length * E ≤ c.size) (hget : ∀ (i j : Nat) (e : List DV) (dd : DV), full[i]? = some e → e[j]? = some dd → ∃ v, c[i * E + j]? = some v ∧ RV G.D w dd v) :
    Rel X G (upd (upd s (.slot d) (.one (.v (rawS w.heap.size n cap)))) (.heap w.heap.size) (.row (arrRow full))) (a.put (some d) (.slice (some ⟨w.heap.size, 0, none⟩) n cap)) (w1.alloc (.cells c e)) := by
  have hp := put_tmps a (some d) (.slice (some ⟨w.heap.size, 0, none⟩) n cap)
  refine R.step T' (fun l u => (l = .slot d ∧ u = .one (.v (rawS w.heap.size n cap))) ∨ (l = .heap w.heap.size ∧ u = .row (arrRow full))) (fun l u h => ?_) (fun l u h => ?_) (fun l u l' u' b h h' hb hb' => ?_)
  · rw [get_upd, get_upd] at h
    by_cases h1 : Loc.heap w.heap.size = l
    · rw [if_pos h1] at h; cases h; exact .inl (.inr ⟨h1.symm, rfl⟩)
    · rw [if_neg h1] at h
      by_cases h3 : Loc.slot d = l
      · rw [if_pos h3] at h; cases h; exact .inl (.inl ⟨h3.symm, rfl⟩)
      · rw [if_neg h3] at h
        exact .inr ⟨h, fun n hn => put_get_ne _ _ _ _ (fun e => h3 (by rw [hn, e])), fun b hb hBb => hBb.elim, fun _ _ => rfl, fun _ _ => rfl⟩
  · rcases h with ⟨rfl, rfl⟩ | ⟨rfl, rfl⟩
    · refine ⟨?_, fun b hb => by cases hb⟩
      show RSV G _ (.v _) _
      rw [put_get_same _ _ _ (by rw [R.size]; exact hn)]
      exact .prim _ trivial
    · refine ⟨⟨c, e, ?_, ?_, fun i x hx => ?_⟩, fun b hb => ?_⟩
      · have := alloc_new w1 (.cells c e)
        rw [hw1] at this
        exact this
      · rw [arrRow_len hE]; exact hc
      · simp only [arrRow, List.getElem?_map] at hx
        cases hd0 : full.flatten[i]? with
        | none => rw [hd0] at hx; cases hx
        | some dd =>
          rw [hd0] at hx
          cases hx
          obtain ⟨i1, j1, e1, k1, k2, rfl⟩ := flatten_get hE hd0
          obtain ⟨v, hv, hr⟩ := hget i1 j1 e1 dd k1 k2
          exact ⟨hcell e1 (List.mem_of_getElem? k1) dd (List.mem_of_getElem? k2), v, hv, hr.mono T'.grow⟩
      · cases hb
        exact ⟨.inl (Nat.le_refl _), .inl R.ext.size, fun _ o hD => absurd (R.wf.lt hD) (Nat.lt_irrefl _)⟩
  · rcases h with ⟨rfl, rfl⟩ | ⟨rfl, rfl⟩
    · cases hb
    · rcases h' with ⟨rfl, rfl⟩ | ⟨rfl, rfl⟩
      · cases hb'
      · rfl
theorem newB_size {G : Gh} {a : Act} {w : World} (R : Rel X G s a w) : newB w.heap.size s := newB_of fun v hv => by
  have hh := R.holds _ _ hv
  cases v with
  | row cs => exact absurd (blk_lt hh rfl) (Nat.lt_irrefl _)
  | ob r => exact absurd (blk_lt hh rfl) (Nat.lt_irrefl _)
  | one x => exact hh.elim
  | tk E n => exact hh.elim

/-- the zero of a slice's elements -/
def zeroE (P : Program) (T : TypeId) : Option (List DV) :=
  match P.underlying T with
  | some (.slice e) => (zeroT P e).bind toDs
  | _ => none

theorem mod_mul_add {E i j : Nat} (hj : j < E) : (i * E + j) % E = j := by
  rw [Nat.mul_comm, Nat.mul_add_mod]; exact Nat.mod_eq_of_lt hj

theorem run_append_newZ {P : Program} {w : World} {t ty t2 E B : Nat} (he : elemZ P t = some (E, B)) (hB : 0 < B ∧ B ≤ 1024) (h2 : (elemT P t2).isSome = true) {base : Option Addr} {len cap : Nat} {x : Value} {n : Nat} {old new : Array Value}
    (hx : ∀ w', w'.heap = w.heap → (Builtin.lenOf x).run P w' = .ok n w') (hn : ∀ w', w'.heap = w.heap → (Builtin.firstCells E n x).run P w' = .ok new w') (ho : ∀ w', w'.heap = w.heap → (Builtin.firstCells E len (.slice base len cap)).run P w' = .ok old w')
    (hle : ¬ len + n ≤ cap) (hbig : len + n ≤ BIG) (h1 : old.size = len * E) (h3 : new.size = n * E) {zd : List DV} (hz : zeroE P t = some zd) :
    zd.length = E ∧ ∃ c e nc, (Builtin.append_ #[t, t2] ty #[.slice base len cap, x]).run P w = .ok (.slice (some ⟨w.heap.size, 0, none⟩) (len + n) nc) (w.drew.alloc (.cells c e)) ∧ len + n ≤ nc ∧ c.size = nc * E ∧ (∀ k, k < len * E → c[k]? = old[k]?) ∧ (∀ k, k < n * E → c[len * E + k]? = new[k]?) ∧
      ∀ (G : Gh) (w' : World), G.τ 0 = (none, 0) → ∀ (i j : Nat) (dd : DV), i < nc - (len + n) → zd[j]? = some dd → ∃ v, c[(len + n + i) * E + j]? = some v ∧ RV G.D w' dd v := by
  obtain ⟨e, i, z, hu, hi, hzv, hzs, his, hib⟩ := elemZ_run he
  obtain ⟨E2, hE2⟩ := Option.isSome_iff_exists.1 h2
  obtain ⟨e2, i2, hu2, -, -⟩ := elem_run hE2
  have hzz : ∃ cs, zeroS z.cells.toList = some cs ∧ toDs cs = some zd := by
    simp only [zeroE, hu, zeroT, hi, hzv] at hz
    exact Option.bind_eq_some_iff.1 hz
  obtain ⟨zcs, hz1, hz2⟩ := hzz
  have hzl : zd.length = E := by
    have h0 : RowOf { D := fun _ _ => False, ν := fun _ => 0, τ := fun _ => (none, 0) } w zcs z.cells.toList.toArray := zeroS_sound rfl hz1
    have := (toDs_row h0 hz2).1
    rw [← this]
    simpa using hzs
  refine ⟨hzl, ?_⟩
  unfold BIG at hbig
  have hcap : ¬ (Builtin.nextslicecap (len + n) cap * B > 2 ^ 48) := by
    have := nextslicecap_le (need := len + n) (cap := cap) (by omega)
    have : Builtin.nextslicecap (len + n) cap * B ≤ (2 * (len + n) + 600) * 1024 := Nat.mul_le_mul this hB.2
    omega
  let q : Question := .appendCap (len + n) cap e
  let nc := q.cut (w.tape w.drawn q)
  have hnc : len + n ≤ nc := by show len + n ≤ _; simp [nc, q, Question.cut]
  have hzc : (Builtin.zeroCells z.cells (nc - (len + n))).size = (nc - (len + n)) * E := by simp [Builtin.zeroCells, hzs]
  refine ⟨old ++ new ++ Builtin.zeroCells z.cells (nc - (len + n)), e, nc, ?_, hnc, ?_, fun k hk => ?_, fun k hk => ?_, fun G w' hG i j dd hi' hj => ?_⟩
  · unfold Builtin.append_
    have hc' : ¬ (2 ^ 48 < Builtin.nextslicecap (len + n) cap * B) := hcap
    simp [run_underlying hu, run_underlying hu2, sizeOf, typeInfo, hi, his, hx w rfl, hle, hib, hc', Question.forced, ho (w.drew) rfl, hn (w.drew) rfl, zeroValue, hzv, newRow, nc, q]
    intro h
    omega
  · simp [h1, h3, Builtin.zeroCells, hzs]
    rw [← Nat.add_mul, ← Nat.add_mul]
    congr 1; omega
  · rw [Array.getElem?_append_left (by simp [h1, h3]; omega), Array.getElem?_append_left (by omega)]
  · rw [Array.getElem?_append_left (by simp [h1, h3]; omega), Array.getElem?_append_right (by omega), h1]
    congr 1; omega
  · have hjE : j < E := by rw [← hzl]; exact (List.getElem?_eq_some_iff.1 hj).1
    have hlt : i * E + j < (nc - (len + n)) * E := lt_mul hi' hjE
    have hrow : RowOf G w' zcs z.cells.toList.toArray := zeroS_sound hG hz1
    have hr := (toDs_row hrow hz2).2 j dd
    simp only [Array.toArray_toList] at hr
    have hjz : j < z.cells.size := by omega
    refine ⟨z.cells[j], ?_, hr _ hj (Array.getElem?_eq_getElem hjz)⟩
    have hsz : (old ++ new).size = (len + n) * E := by simp [h1, h3, Nat.add_mul]
    have e1 : (len + n + i) * E + j = (old ++ new).size + (i * E + j) := by rw [hsz, Nat.add_mul (len + n) i E]; omega
    rw [e1, Array.getElem?_append_right (Nat.le_add_right _ _), Nat.add_sub_cancel_left]
    have hs2 : i * E + j < (nc - (len + n)) * z.cells.size := by rw [hzs]; exact hlt
    simp only [Builtin.zeroCells]
    rw [Array.getElem?_map, Array.getElem?_range, if_pos hs2]
    simp only [Option.map_some, hzs, mod_mul_add hjE]
    rw [getElem!_pos z.cells j hjz]

theorem flatten_at {E : Nat} : ∀ {ys : List (List DV)}, (∀ e ∈ ys, e.length = E) → ∀ {i j : Nat} {e : List DV} {d : DV}, ys[i]? = some e → e[j]? = some d → ys.flatten[i * E + j]? = some d
  | [], _, i, j, e, d, h, _ => by simp at h
  | y :: r, hE, 0, j, e, d, h, hd => by
    simp at h
    subst h
    rw [List.flatten_cons, Nat.zero_mul, Nat.zero_add, List.getElem?_append_left (List.getElem?_eq_some_iff.1 hd).1]
    exact hd
  | y :: r, hE, i + 1, j, e, d, h, hd => by
    have hy := hE y (by simp)
    have ih := flatten_at (ys := r) (fun e he => hE e (List.mem_cons_of_mem _ he)) (by simpa using h) hd
    rw [List.flatten_cons, List.getElem?_append_right (by rw [hy, Nat.add_mul]; omega), hy]
    rw [show (i + 1) * E + j - E = i * E + j from by rw [Nat.add_mul]; omega]
    exact ih

/-- append to a new block -/
theorem step_appendN {o : Oper} {x y : Operand} {T T2 : TypeId} (ho : o.op = .call { callee := .builtin .append, args := #[x, y], argTypes := #[T, T2] }) {d : Nat} (hd : o.dst = some d) (hn : d < X.n)
    {E B : Nat} (he : elemZ X.P T = some (E, B)) (hB : 0 < B ∧ B ≤ 1024) (h2 : (elemT X.P T2).isSome = true) {b n cap : Nat} {full zs : List (List DV)} {zd : List DV} (hx : evl X (get s) x = some (.v (rawS b n cap))) (hy : (evl X (get s) y).bind slOf = some zs)
    (hrow : get s (.heap b) = some (.row (arrRow full))) (hfl : full.length = cap) (hnc : n ≤ cap) (hnf : cap < n + zs.length) (hbig : n + zs.length ≤ BIG) (hE1 : ∀ e ∈ full, e.length = E) (hE2 : ∀ e ∈ zs, e.length = E) (hz : zeroE X.P T = some zd) (hzc : cellB zd = true)
    {G : Gh} {a : Act} {w : World} (R : Rel X G s a w) (next : Act → World → Prop) (Q : Exit → Act → World → Prop)
    (hK : ∀ b' cap', n + zs.length ≤ cap' → newB b' s → X.w0.heap.size ≤ b' → ∀ G' a' w', Rel X G' (upd (upd s (.slot d) (.one (.v (rawS b' (n + zs.length) cap')))) (.heap b') (.row (arrRow (full.take n ++ zs ++ List.replicate (cap' - (n + zs.length)) zd)))) a' w' → next a' w') :
    o.wpIn X.F 0 X.P a w next Q := by
  have hv := (prim_of (evl_sound R hx)).1
  obtain ⟨q, hq, hq'⟩ := Option.bind_eq_some_iff.1 hy
  obtain ⟨yb, ycap, hyv, hyr, -⟩ := slOf_sound hq' (evl_sound R hq)
  obtain ⟨c2, g, g1, g2, g3⟩ := sl_laid hyr hE2
  obtain ⟨c0, e0, k1, k2, k3⟩ : BlkAt G w b (arrRow full) := R.holds _ _ hrow
  rw [arrRow_len hE1] at k2
  have hnE : n * E ≤ full.length * E := Nat.mul_le_mul_right _ (by omega)
  have hdr : ∀ w' : World, w'.heap = w.heap → (Builtin.firstCells E zs.length (a.eval y)).run X.P w' = .ok (arr g (zs.length * E)) w' := fun w' hw => by
    refine run_firstCells (D := G.D) ?_
    rcases g3 with h | ⟨b, o', cap, h, hc⟩
    · exact .inl h
    · exact .inr ⟨b, o', cap, h, fun k hk => by rw [cell_of_heap hw]; exact hc k hk⟩
  have hdo : ∀ w' : World, w'.heap = w.heap → (Builtin.firstCells E n (.slice (some ⟨b, 0, none⟩) n cap)).run X.P w' = .ok (arr (fun k => (c0[k]?).getD undef) (n * E)) w' := fun w' hw => by
    simp only [Builtin.firstCells]
    refine run_loadCells_f b 0 (n * E) _ (fun k hk => ?_)
    have hlt : k < c0.size := by omega
    rw [cell_of_heap hw, Nat.zero_add]
    simp [World.cell?, k1, hlt]
  obtain ⟨hzl, c, e, nc, r1, r2, r3, r4, r5, r6⟩ := run_append_newZ (P := X.P) (t := T) (ty := o.type) (t2 := T2) (w := w) he hB h2 (base := some ⟨b, 0, none⟩) (len := n) (cap := cap) (fun w' _ => lenOf_sl (P := X.P) hyr w') hdr hdo (by omega) hbig (arr_size _ _) (arr_size _ _) hz
  rw [← hv] at r1
  have hexec : (execOp a.eval o).run X.P w = .ok (.value (.slice (some ⟨w.heap.size, 0, none⟩) (n + zs.length) nc)) (w.drew.alloc (.cells c e)) := by
    simp [execOp, ho, resolve, invoke, builtin, r1]
  refine opIn (by intro c e; rw [ho] at e; cases e) ?_
  rw [hexec, upn_value, hd]
  have hp := put_tmps a (some d) (.slice (some ⟨w.heap.size, 0, none⟩) (n + zs.length) nc)
  have T' : Trans X G a w G (a.put (some d) (.slice (some ⟨w.heap.size, 0, none⟩) (n + zs.length) nc)) (w.drew.alloc (.cells c e)) (fun _ => False) := by
    refine ⟨hp.1, fun h => (h.heap fun b hb => alloc_old w.drew _ b hb).put hp.2, rfl, rfl, rfl, by simp, fun b hb _ => alloc_old w.drew _ b hb, fun _ h => h.elim, fun b k hD => ⟨hD, World.cell?_alloc_lt w.drew _ _ (R.wf.lt hD)⟩, fun b k hD hnD => absurd hD hnD, R.nil⟩
  refine hK w.heap.size nc r2 (newB_size R) R.ext.size G _ _ (R.newArr hn (w1 := w.drew) rfl T' (E := E) ?_ ?_ ?_ ?_)
  · intro e he
    rcases List.mem_append.1 he with he | he
    · rcases List.mem_append.1 he with he | he
      · exact hE1 e (List.mem_of_mem_take he)
      · exact hE2 e he
    · rw [(List.mem_replicate.1 he).2]; exact hzl
  · intro e he d hd
    rcases List.mem_append.1 he with he | he
    · rcases List.mem_append.1 he with he | he
      · have he := List.mem_of_mem_take he
        obtain ⟨i, hi⟩ := List.mem_iff_getElem?.1 he
        obtain ⟨j, hj⟩ := List.mem_iff_getElem?.1 hd
        exact (k3 (i * E + j) (.v d) (by simp only [arrRow, List.getElem?_map, flatten_at hE1 hi hj, Option.map_some])).1
      · exact c2 e he d hd
    · rw [(List.mem_replicate.1 he).2] at hd
      exact (cellB_iff zd).1 hzc d hd
  · rw [r3]
    simp only [List.length_append, List.length_take, List.length_replicate]
    exact Nat.mul_le_mul_right _ (by omega)
  · intro i j e dd hi hj
    have hl1 : (full.take n).length = n := by rw [List.length_take, Nat.min_eq_left (by omega)]
    rw [List.append_assoc] at hi
    rcases Nat.lt_or_ge i n with h | h
    · rw [List.getElem?_append_left (by omega), List.getElem?_take_of_lt h] at hi
      have hjE : j < E := by rw [← hE1 e (List.mem_of_getElem? hi)]; exact (List.getElem?_eq_some_iff.1 hj).1
      have hlt := lt_mul h hjE
      obtain ⟨-, v, q1, q2⟩ := k3 (i * E + j) (.v dd) (by simp only [arrRow, List.getElem?_map, flatten_at hE1 hi hj, Option.map_some])
      refine ⟨v, ?_, q2⟩
      rw [r4 _ hlt, arr_get _ _ _ hlt, q1]
      rfl
    · rw [List.getElem?_append_right (by omega), hl1] at hi
      rcases Nat.lt_or_ge (i - n) zs.length with h' | h'
      · rw [List.getElem?_append_left h'] at hi
        have hjE : j < E := by rw [← hE2 e (List.mem_of_getElem? hi)]; exact (List.getElem?_eq_some_iff.1 hj).1
        have hlt := lt_mul h' hjE
        refine ⟨_, ?_, g1 _ _ _ _ hi hj⟩
        have e1 : i * E + j = n * E + ((i - n) * E + j) := by rw [← Nat.add_assoc, ← Nat.add_mul]; congr 2; omega
        rw [e1, r5 _ hlt, arr_get _ _ _ hlt]
      · rw [List.getElem?_append_right h'] at hi
        obtain ⟨hi1, hi2⟩ : e = zd ∧ i - n - zs.length < nc - (n + zs.length) := by
          have hm := List.mem_of_getElem? hi
          have hlt := (List.getElem?_eq_some_iff.1 hi).1
          simp only [List.length_replicate] at hlt
          exact ⟨(List.mem_replicate.1 hm).2, hlt⟩
        subst hi1
        obtain ⟨v, q1, q2⟩ := r6 G w R.nil (i - n - zs.length) j dd hi2 hj
        refine ⟨v, ?_, q2⟩
        rw [show n + zs.length + (i - n - zs.length) = i from by omega] at q1
        exact q1

theorem vcK_appendR {esc : List Nat} {ops : Array Oper} {l : List Oper} {K : St → Prop} {d : Tmp} {x y : Operand} {T T2 ty : TypeId} {pos : String} {af : Array Edge} {q : Option (Prop × St)}
    {E B b n cap : Nat} {full zs : List (List DV)} {zd : List DV} (hx : evl X (get s) x = some (.v (rawS b n cap))) (hy : (evl X (get s) y).bind slOf = some zs) (hrow : get s (.heap b) = some (.row (arrRow full)))
    (he : elemZ X.P T = some (E, B)) (hz : zeroE X.P T = some zd) (hzc : cellB zd = true) (hB : 0 < B ∧ B ≤ 1024) (h2 : (elemT X.P T2).isSome = true) (hn : d < X.n)
    (hfl : full.length = cap) (hnc : n ≤ cap) (hbig : n + zs.length ≤ BIG) (hE1 : ∀ e ∈ full, e.length = E) (hE2 : ∀ e ∈ zs, e.length = E) (hq : q = none)
    (h1 : n + zs.length ≤ cap → vc X esc ops l (upd (upd s (.heap b) (.row (arrRow (full.take n ++ zs ++ full.drop (n + zs.length))))) (.slot d) (.one (.v (rawS b (n + zs.length) cap)))) K)
    (h3 : cap < n + zs.length → ∀ b' cap', n + zs.length ≤ cap' → newB b' s → X.w0.heap.size ≤ b' → vc X esc ops l (upd (upd s (.slot d) (.one (.v (rawS b' (n + zs.length) cap')))) (.heap b') (.row (arrRow (full.take n ++ zs ++ List.replicate (cap' - (n + zs.length)) zd)))) K) :
    vcK X esc ops l K ⟨some d, .call { callee := .builtin .append, args := #[x, y], argTypes := #[T, T2] }, ty, pos, af, none⟩ s q := by
  subst hq
  rcases Nat.lt_or_ge cap (n + zs.length) with h | h
  · intro m hm G a w R0
    obtain ⟨p1, p3⟩ := drop_cons hm
    simp only [List.length_cons, List.range'_succ, wpOpsIn, p1, Region.wanted, if_true]
    refine step_appendN (o := ⟨some d, .call { callee := .builtin .append, args := #[x, y], argTypes := #[T, T2] }, ty, pos, af, none⟩) rfl rfl hn he hB h2 hx hy hrow hfl hnc h hbig hE1 hE2 hz hzc R0 _ _ fun b' cap' hc hb hw G' a' w' R' => ?_
    exact vc_sound (h3 h b' cap' hc hb hw) (m + 1) p3 G' a' w' R'
  · exact VL_step rfl (step_appendF (o := ⟨some d, .call { callee := .builtin .append, args := #[x, y], argTypes := #[T, T2] }, ty, pos, af, none⟩) rfl rfl hn he h2 hx hy hrow hfl h hE1 hE2) (vc_sound (h1 h))

/-- a literal as a raw slice -/
theorem step_litX {o : Oper} {t len E B : Nat} {parts : Array (Nat × Operand)} (ho : o.op = .buildSlice t len parts) {d : Nat} (hd : o.dst = some d) (hn : d < X.n) (he : elemZ X.P t = some (E, B)) {els : List (List DV)}
    (h : litEls X (get s) E 0 parts.toList = some els) (hlen : els.length = len) (hb : len * E ≤ 16777216)
    {G : Gh} {a : Act} {w : World} (R : Rel X G s a w) (next : Act → World → Prop) (Q : Exit → Act → World → Prop)
    (hK : ∀ b, newB b s → X.w0.heap.size ≤ b → ∀ G' a' w', Rel X G' (upd (upd s (.slot d) (.one (.v (rawS b len len)))) (.heap b) (.row (arrRow els))) a' w' → next a' w') :
    o.wpIn X.F 0 X.P a w next Q := by
  obtain ⟨e, i, z, hu, hi, hz, hzs, his, hib⟩ := elemZ_run he
  subst hlen
  have hsz0 : ((Array.range (els.length * E)).map fun k => (if els.length * E = 0 then #[] else z.cells)[k % (if els.length * E = 0 then #[] else z.cells).size]!).size = els.length * E := by simp
  obtain ⟨q1, q2, q3, c', f1, f2, f3, f4⟩ := litEls_sound R E parts.toList 0 els ((Array.range (els.length * E)).map fun k => (if els.length * E = 0 then #[] else z.cells)[k % (if els.length * E = 0 then #[] else z.cells).size]!) h (by rw [hsz0, Nat.zero_add]; exact Nat.le_refl _)
  rw [hsz0] at f2
  have hrun : (Instr.buildSlice t els.length (parts.map fun (i, x) => (i, a.eval x))).run X.P w = .ok (.slice (some ⟨w.heap.size, 0, none⟩) els.length els.length) (w.alloc (.cells c' e)) := by
    have hne : ¬ (els.length * E > 2 ^ 24) := by omega
    have hf : Instr.fill (fun k => some (k * E, E)) ((Array.range (els.length * E)).map fun k => (if els.length * E = 0 then #[] else z.cells)[k % (if els.length * E = 0 then #[] else z.cells).size]!) ((parts.map fun (q : Nat × Operand) => (q.1, a.eval q.2)).toList) = some c' := by
      rw [Array.toList_map]; exact f1
    unfold Instr.buildSlice
    simp only [run_underlying hu, sizeOf, typeInfo, hi, his, Sem.run_bind, Sem.run_pure, run_program, Result.andThen_ok, hne, if_false]
    by_cases h0 : els.length * E = 0
    · simp only [if_pos h0] at hf ⊢
      simp only [Sem.run_bind, Sem.run_pure, Result.andThen_ok, hf, newRow, run_newObj]
      rfl
    · simp only [if_neg h0] at hf ⊢
      simp only [zeroValue, typeInfo, run_program, hi, hz, Sem.run_bind, Sem.run_pure, Result.andThen_ok, hf, newRow, run_newObj]
      rfl
  refine opIn (by intro c e; rw [ho] at e; cases e) ?_
  have hexec : (execOp a.eval o).run X.P w = .ok (.value (.slice (some ⟨w.heap.size, 0, none⟩) els.length els.length)) (w.alloc (.cells c' e)) := by
    simp only [execOp, ho, Sem.run_bind, hrun, Result.andThen_ok, Sem.run_pure]
  rw [hexec, upn_value, hd]
  have hp := put_tmps a (some d) (.slice (some ⟨w.heap.size, 0, none⟩) els.length els.length)
  have T' : Trans X G a w G (a.put (some d) (.slice (some ⟨w.heap.size, 0, none⟩) els.length els.length)) (w.alloc (.cells c' e)) (fun _ => False) := by
    refine ⟨hp.1, fun h => (h.heap fun b hb => alloc_old w _ b hb).put hp.2, rfl, rfl, rfl, by simp, fun b hb _ => alloc_old w _ b hb, fun _ h => h.elim, fun b k hD => ⟨hD, World.cell?_alloc_lt w _ _ (R.wf.lt hD)⟩, fun b k hD hnD => absurd hD hnD, R.nil⟩
  refine hK w.heap.size (newB_size R) R.ext.size G _ _ (R.newArr hn (w1 := w) rfl T' (E := E) q1 q2 (by rw [f2]; exact Nat.le_refl _) fun i j e dd hi hj => ?_)
  obtain ⟨v, hv, hr⟩ := f4 i j e dd hi hj
  rw [Nat.zero_add] at hv
  exact ⟨v, hv, hr⟩

theorem vcK_litX {esc : List Nat} {ops : Array Oper} {l : List Oper} {K : St → Prop} {d : Tmp} {t len : Nat} {parts : Array (Nat × Operand)} {ty : TypeId} {pos : String} {af : Array Edge} {q : Option (Prop × St)} {E B : Nat} {els : List (List DV)}
    (he : elemZ X.P t = some (E, B)) (h : litEls X (get s) E 0 parts.toList = some els) (hc : els.length = len ∧ len * E ≤ 16777216) (hn : d < X.n) (hq : q = none)
    (k : ∀ b, newB b s → X.w0.heap.size ≤ b → vc X esc ops l (upd (upd s (.slot d) (.one (.v (rawS b len len)))) (.heap b) (.row (arrRow els))) K) :
    vcK X esc ops l K ⟨some d, .buildSlice t len parts, ty, pos, af, none⟩ s q := by
  subst hq
  intro m hm G a w R0
  obtain ⟨p1, p3⟩ := drop_cons hm
  simp only [List.length_cons, List.range'_succ, wpOpsIn, p1, Region.wanted, if_true]
  refine step_litX (o := ⟨some d, .buildSlice t len parts, ty, pos, af, none⟩) rfl rfl hn he h hc.1 hc.2 R0 _ _ fun b hb hw G' a' w' R' => ?_
  exact vc_sound (k b hb hw) (m + 1) p3 G' a' w' R'
end
end Go.Proofs.YtcldnfbcbkaanaaGreatDoor.Lift

namespace Go.Proofs.YtcldnfbcbkaanaaGreatDoor.Lift
set_option linter.unusedSimpArgs false
set_option linter.unusedVariables false
set_option linter.unnecessarySimpa false
open Go
variable {gl : Globs}

theorem Tm.idx_of (t : Tm) (m : Int) (h : t.shape = true) (hm : t.leastN m = true) : t.idx m := by
  induction t using Tm.ind with
  | h t ih =>
  have hs := Tm.shape_node h
  rw [leastN_eq, Bool.and_eq_true] at hm
  have key : ∀ l : List Tm, leastN.leasts l m = true → ∀ a ∈ l, a.leastN m = true := by
    intro l
    induction l with
    | nil => simp
    | cons a r ihr =>
      intro hl x hx
      simp only [leastN.leasts, Bool.and_eq_true] at hl
      rcases List.mem_cons.1 hx with rfl | hx
      · exact hl.1
      · exact ihr hl.2 x hx
  rw [idx_eq]
  refine ⟨⟨hs.2.1, ?_⟩, fun a ha => ih a ha (hs.2.2.2.2 a ha) (key _ hm.2 a ha)⟩
  have := hm.1
  simp at this
  exact this

end Go.Proofs.YtcldnfbcbkaanaaGreatDoor.Lift

/-
  Plain law: reducing keeps what a term denotes; normal closed terms of plain types are the terms of values.
-/
namespace Go.Proofs.YtcldnfbcbkaanaaGreatDoor.Lift
set_option linter.unusedSimpArgs false
set_option linter.unusedVariables false
set_option linter.unnecessarySimpa false
open Go

/-- types without functions -/
def T.plain : T → Prop
  | .nat => True
  | .list => True
  | .unit => True
  | .pair a b => a.plain ∧ b.plain
  | .fn _ _ => False
/-- the plain value of a value -/
def valOf : (a : T) → a.V → Val
  | .nat, n => Val.mk 1 (Int.ofNat n) [] []
  | .list, l => Val.mk 2 0 (List.map Int.ofNat l) []
  | .unit, _ => Val.mk 4 0 [] []
  | .pair a b, p => Val.mk 3 0 [] [valOf a p.1, valOf b p.2]
  | .fn _ _, _ => Val.mk 4 0 [] []

end Go.Proofs.YtcldnfbcbkaanaaGreatDoor.Lift

/-
  Plain facts: what is drawn out of a deck of numbers: types, contexts, terms; their forms.
-/
namespace Go.Proofs.YtcldnfbcbkaanaaGreatDoor.Lift
set_option linter.unusedSimpArgs false
set_option linter.unusedVariables false
set_option linter.unnecessarySimpa false
open Go

/-- a small type -/
def typeD (l : List Int) : Nat → Nat → Ty × Nat
  | 0, p =>
    if (nextD l p 7).1 = 3 then (Ty.mk 2 [], (nextD l p 7).2) else if (nextD l p 7).1 = 4 then (Ty.mk 5 [], (nextD l p 7).2) else (Ty.mk 1 [], (nextD l p 7).2)
  | n + 1, p =>
    if (nextD l p 7).1 = 3 then (Ty.mk 2 [], (nextD l p 7).2) else if (nextD l p 7).1 = 4 then (Ty.mk 5 [], (nextD l p 7).2)
    else if (nextD l p 7).1 = 5 then (Ty.mk 3 [(typeD l n (nextD l p 7).2).1, (typeD l n (typeD l n (nextD l p 7).2).2).1], (typeD l n (typeD l n (nextD l p 7).2).2).2)
    else if (nextD l p 7).1 = 6 then (Ty.mk 4 [(typeD l n (nextD l p 7).2).1, (typeD l n (typeD l n (nextD l p 7).2).2).1], (typeD l n (typeD l n (nextD l p 7).2).2).2)
    else (Ty.mk 1 [], (nextD l p 7).2)

/-- the variable i's type -/
def varTy (g : List Ty) (i : Nat) : Ty := g.getD (g.length - 1 - i) zeroTy
/-- the variables of a type -/
def varsN (g : List Ty) (t : Ty) : List Nat := (List.range g.length).filter fun i => (varTy g i).same t
/-- the first variable that is a function into a type -/
def funN (g : List Ty) (t : Ty) : Option Nat := (List.range g.length).find? fun i => decide ((varTy g i).kind = 4) && ((varTy g i).arg 1).same t

/-- a variable, if one is chosen -/
def pickD (l : List Int) (t : Ty) (g : List Ty) (p : Nat) : Option Tm × Nat :=
  if (varsN g t).length = 0 then (none, p)
  else if (nextD l p 3).1 = 0 then (none, (nextD l p 3).2)
  else (some (vT ((varsN g t).getD (nextD l (nextD l p 3).2 (varsN g t).length).1.toNat 0 : Nat)), (nextD l (nextD l p 3).2 (varsN g t).length).2)

def numD (l : List Int) (p : Nat) : Tm × Nat := (numTm (nextD l p 3).1.toNat, (nextD l p 3).2)

/-- a term of a type, without depth -/
def leafD (l : List Int) (t : Ty) (g : List Ty) (p : Nat) : Tm × Nat :=
  match pickD l t g p with
  | (some x, q) => (x, q)
  | (none, q) =>
    match t with
    | .mk k ts =>
      if k = 1 then numD l q
      else if k = 2 then (nT 7 [], q)
      else match ts with
        | [a, b] =>
          if k = 3 then (nT 10 [(leafD l a g q).1, (leafD l b g (leafD l a g q).2).1], (leafD l b g (leafD l a g q).2).2)
          else if k = 4 then (Tm.mk 2 0 a [(leafD l b (g ++ [a]) q).1], (leafD l b (g ++ [a]) q).2)
          else (nT 13 [], q)
        | _ => (nT 13 [], q)
termination_by SizeOf.sizeOf t

/-- the end of a draw: by the type -/
def endD (l : List Int) (F : Ty → List Ty → Nat → Tm × Nat) (t : Ty) (g : List Ty) (q : Nat) : Tm × Nat :=
  if t.kind = 1 then
    if (nextD l q 5).1 = 0 then (nT 5 [(F t g (nextD l q 5).2).1], (F t g (nextD l q 5).2).2)
    else if (nextD l q 5).1 = 1 then (appsT plusT [(F t g (nextD l q 5).2).1, (F t g (F t g (nextD l q 5).2).2).1], (F t g (F t g (nextD l q 5).2).2).2)
    else if (nextD l q 5).1 = 2 then (appsT subT [(F t g (nextD l q 5).2).1, (F t g (F t g (nextD l q 5).2).2).1], (F t g (F t g (nextD l q 5).2).2).2)
    else numD l (nextD l q 5).2
  else if t.kind = 2 then
    if (nextD l q 2).1 = 0 then (nT 8 [(F (Ty.mk 1 []) g (nextD l q 2).2).1, (F t g (F (Ty.mk 1 []) g (nextD l q 2).2).2).1], (F t g (F (Ty.mk 1 []) g (nextD l q 2).2).2).2)
    else (nT 7 [], (nextD l q 2).2)
  else if t.kind = 3 then (nT 10 [(F (t.arg 0) g q).1, (F (t.arg 1) g (F (t.arg 0) g q).2).1], (F (t.arg 1) g (F (t.arg 0) g q).2).2)
  else if t.kind = 4 then (Tm.mk 2 0 (t.arg 0) [(F (t.arg 1) (g ++ [t.arg 0]) q).1], (F (t.arg 1) (g ++ [t.arg 0]) q).2)
  else (nT 13 [], q)

/-- a draw with depth, without a variable: by the choice k -/
def stepD (l : List Int) (F : Ty → List Ty → Nat → Tm × Nat) (t : Ty) (g : List Ty) (k : Int) (q : Nat) : Tm × Nat :=
  if k = 0 then
    let s := typeD l 0 q
    let x := F t (g ++ [s.1]) s.2
    let y := F s.1 g x.2
    (nT 3 [Tm.mk 2 0 s.1 [x.1], y.1], y.2)
  else if k = 1 then
    let s := typeD l 0 q
    let x := F t g s.2
    let y := F s.1 g x.2
    (nT 11 [nT 10 [x.1, y.1]], y.2)
  else if k = 2 then
    let x := F t (g ++ [Ty.mk 1 [], t]) q
    let y := F t g x.2
    let z := numD l y.2
    (Tm.mk 6 0 t [y.1, Tm.mk 2 0 (Ty.mk 1 []) [Tm.mk 2 0 t [x.1]], z.1], z.2)
  else if k = 3 then
    let x := F t (g ++ [Ty.mk 1 [], Ty.mk 2 [], t]) q
    let y := F t g x.2
    let z := F (Ty.mk 2 []) g y.2
    (Tm.mk 9 0 t [y.1, Tm.mk 2 0 (Ty.mk 1 []) [Tm.mk 2 0 (Ty.mk 2 []) [Tm.mk 2 0 t [x.1]]], z.1], z.2)
  else if k = 4 then
    let s := typeD l 0 q
    let x := F s.1 g s.2
    let y := F t g x.2
    (nT 12 [nT 10 [x.1, y.1]], y.2)
  else if k = 5 then
    match funN g t with
    | some i => (nT 3 [vT i, (F ((varTy g i).arg 0) g q).1], (F ((varTy g i).arg 0) g q).2)
    | none => endD l F t g q
  else endD l F t g q

/-- a term of a type in a context -/
def termD (l : List Int) : Nat → Ty → List Ty → Nat → Tm × Nat
  | 0, t, g, p => leafD l t g p
  | n + 1, t, g, p =>
    match pickD l t g p with
    | (some x, q) => (x, q)
    | (none, q) => stepD l (termD l n) t g (nextD l q 8).1 (nextD l q 8).2

theorem leafD_eq (l : List Int) (t : Ty) (g : List Ty) (p : Nat) (ht : t.ok) : leafD l t g p =
    match pickD l t g p with
    | (some x, q) => (x, q)
    | (none, q) =>
      if t.kind = 1 then numD l q
      else if t.kind = 2 then (nT 7 [], q)
      else if t.kind = 3 then (nT 10 [(leafD l (t.arg 0) g q).1, (leafD l (t.arg 1) g (leafD l (t.arg 0) g q).2).1], (leafD l (t.arg 1) g (leafD l (t.arg 0) g q).2).2)
      else if t.kind = 4 then (Tm.mk 2 0 (t.arg 0) [(leafD l (t.arg 1) (g ++ [t.arg 0]) q).1], (leafD l (t.arg 1) (g ++ [t.arg 0]) q).2)
      else (nT 13 [], q) := by
  rw [leafD.eq_def]
  rcases pickD l t g p with ⟨_ | x, q⟩
  · cases t with
    | mk k ts =>
      simp only [Ty.kind]
      by_cases h1 : k = 1
      · simp [h1]
      by_cases h2 : k = 2
      · simp [h2]
      simp only [h1, h2, if_false]
      by_cases h34 : k = 3 ∨ k = 4
      · obtain ⟨a, b, e, -, -, e0, e1⟩ := Ty.ok_args ht h34
        simp only [Ty.args] at e
        subst e
        rw [e0, e1]
        rfl
      · have h3 : k ≠ 3 := fun e => h34 (.inl e)
        have h4 : k ≠ 4 := fun e => h34 (.inr e)
        simp only [h3, h4, if_false]
        match ts with
        | [a, b] => rfl
        | [] => rfl
        | [_] => rfl
        | _ :: _ :: _ :: _ => rfl
  · rfl

theorem ty_two {k : Int} {a b : Ty} (hk : k = 3 ∨ k = 4) (ha : a.shape = true) (hb : b.shape = true) : (Ty.mk k [a, b]).shape = true := by
  rcases hk with rfl | rfl <;> simp [Ty.shape, Ty.shape.shapes, tyKind, ha, hb]

theorem typeD_facts (l : List Int) : ∀ (n p : Nat), p ≤ l.length → (typeD l n p).2 ≤ l.length ∧ (typeD l n p).1.shape = true ∧ (typeD l n p).1.count + 1 ≤ 2 ^ (n + 1)
  | 0, p, hp => by
    have hq := nextD_le (n := 7) hp
    unfold typeD
    split
    · exact ⟨hq, rfl, Nat.le_refl 2⟩
    · split
      · exact ⟨hq, rfl, Nat.le_refl 2⟩
      · exact ⟨hq, rfl, Nat.le_refl 2⟩
  | n + 1, p, hp => by
    have hq := nextD_le (n := 7) hp
    obtain ⟨a1, a2, a3⟩ := typeD_facts l n _ hq
    obtain ⟨b1, b2, b3⟩ := typeD_facts l n _ a1
    have h2 : 2 ≤ 2 ^ (n + 1) := Nat.pow_le_pow_right (n := 2) (by decide) (show 1 ≤ n + 1 by omega)
    have h3 : 2 ^ (n + 1 + 1) = 2 ^ (n + 1) * 2 := Nat.pow_succ ..
    have hc : ∀ (k : Int) (a b : Ty), (Ty.mk k [a, b]).count = 1 + (a.count + (b.count + 0)) := fun _ _ _ => rfl
    unfold typeD
    split
    · exact ⟨hq, rfl, by show 1 + 0 + 1 ≤ _; omega⟩
    split
    · exact ⟨hq, rfl, by show 1 + 0 + 1 ≤ _; omega⟩
    split
    · exact ⟨b1, ty_two (.inl rfl) a2 b2, by rw [hc]; omega⟩
    split
    · exact ⟨b1, ty_two (.inr rfl) a2 b2, by rw [hc]; omega⟩
    · exact ⟨hq, rfl, by show 1 + 0 + 1 ≤ _; omega⟩

/-- a small type -/
def Ty.small (t : Ty) : Prop := t.shape = true ∧ t.count ≤ 15
theorem Ty.small.ok {t : Ty} (h : t.small) : t.ok := ⟨h.1, by have := h.2; omega⟩
theorem Ty.small.arg {t : Ty} (h : t.small) (hk : t.kind = 3 ∨ t.kind = 4) : (t.arg 0).small ∧ (t.arg 1).small ∧ (t.arg 0).count + (t.arg 1).count < t.count := by
  obtain ⟨a, b, e, oa, ob, e0, e1⟩ := Ty.ok_args h.ok hk
  have hc : t.count = 1 + (a.count + (b.count + 0)) := by rw [Ty.count_eq, e]; rfl
  have := h.2
  rw [e0, e1]
  exact ⟨⟨oa.1, by omega⟩, ⟨ob.1, by omega⟩, by omega⟩
theorem typeD_small (l : List Int) {n p : Nat} (hp : p ≤ l.length) (hn : n ≤ 3) : (typeD l n p).2 ≤ l.length ∧ (typeD l n p).1.small := by
  obtain ⟨h1, h2, h3⟩ := typeD_facts l n p hp
  have : 2 ^ (n + 1) ≤ 2 ^ 4 := Nat.pow_le_pow_right (by decide) (by omega)
  exact ⟨h1, h2, by omega⟩
theorem small_nat : (Ty.mk 1 []).small := ⟨rfl, by decide⟩
theorem small_list : (Ty.mk 2 []).small := ⟨rfl, by decide⟩
theorem varTy_mem {g : List Ty} {i : Nat} (h : i < g.length) : varTy g i ∈ g ∧ g[g.length - 1 - i]? = some (varTy g i) := by
  have hl : g.length - 1 - i < g.length := by omega
  unfold varTy
  rw [List.getD_eq_getElem?_getD, List.getElem?_eq_getElem hl]
  exact ⟨List.getElem_mem _, rfl⟩
theorem varsN_mem {g : List Ty} {t : Ty} {i : Nat} (h : i ∈ varsN g t) : i < g.length ∧ varTy g i = t := by
  simp only [varsN, List.mem_filter, List.mem_range, Ty.same_iff] at h
  exact h
theorem funN_some {g : List Ty} {t : Ty} {i : Nat} (h : funN g t = some i) : i < g.length ∧ (varTy g i).kind = 4 ∧ (varTy g i).arg 1 = t := by
  have h1 := List.find?_some h
  have h2 := List.mem_of_find?_eq_some h
  simp only [Bool.and_eq_true, decide_eq_true_eq, Ty.same_iff] at h1
  exact ⟨List.mem_range.1 h2, h1.1, h1.2⟩

theorem pickD_le {l : List Int} {t : Ty} {g : List Ty} {p : Nat} (hp : p ≤ l.length) : (pickD l t g p).2 ≤ l.length := by
  unfold pickD
  split
  · exact hp
  · split
    · exact nextD_le hp
    · exact nextD_le (nextD_le hp)
theorem pickD_some {l : List Int} {t : Ty} {g : List Ty} {p q : Nat} {x : Tm} (h : pickD l t g p = (some x, q)) : ∃ i : Nat, x = vT i ∧ i < g.length ∧ varTy g i = t := by
  unfold pickD at h
  split at h
  · cases h
  · rename_i hne
    split at h
    · cases h
    · simp only [Prod.mk.injEq, Option.some.injEq] at h
      generalize hk : (nextD l (nextD l p 3).2 (varsN g t).length).1.toNat = k at h
      have hb := nextD_bd (l := l) (p := (nextD l p 3).2) (n := (varsN g t).length) (by omega)
      have hlt : k < (varsN g t).length := by omega
      refine ⟨(varsN g t)[k], ?_, varsN_mem (List.getElem_mem hlt)⟩
      rw [← h.1, List.getD_eq_getElem?_getD, List.getElem?_eq_getElem hlt, Option.getD_some]

theorem shape_v {i : Nat} : (vT i).shape = true := by
  unfold vT
  rw [Tm.shape_eq]
  simp [Tm.kind, Tm.index, Tm.type, Tm.args, Tm.shape.shapes, tmKind, tyOfKind, arityI, Ty.zero, Ty.kind, Ty.args]
theorem shape_n {k : Int} {a : List Tm} (h : (a.length : Int) = arityI k) (hk : ¬ (k = 2 ∨ k = 6 ∨ k = 9)) (ha : ∀ x ∈ a, x.shape = true) : (nT k a).shape = true := by
  unfold nT
  rw [Tm.shape_eq]
  have hz : tyOfKind k (Ty.mk 0 []) = true := by unfold tyOfKind; rw [if_neg hk]; rfl
  simp only [Tm.kind, Tm.index, Tm.type, Tm.args, (Tm.shapes_iff a).2 ha, tmKind, hz, h]
  simp
theorem shape_t {k : Int} {s : Ty} {a : List Tm} (h : (a.length : Int) = arityI k) (hk : k = 2 ∨ k = 6 ∨ k = 9) (hs : s.ok) (ha : ∀ x ∈ a, x.shape = true) : (Tm.mk k 0 s a).shape = true := by
  rw [Tm.shape_eq]
  simp only [Tm.kind, Tm.index, Tm.type, Tm.args, (Tm.shapes_iff a).2 ha, tmKind, tyOfKind, if_pos hk, h, (Ty.checkN_iff s).2 hs]
  simp

/-- what holds of all that F draws -/
def Draws (l : List Int) (F : Ty → List Ty → Nat → Tm × Nat) (Q : Ty → List Ty → Tm → Prop) : Prop :=
  ∀ t g p, t.small → (∀ x ∈ g, x.small) → p ≤ l.length → (F t g p).2 ≤ l.length ∧ Q t g (F t g p).1

/-- what a property of drawn terms must obey -/
structure DrawOK (Q : Ty → List Ty → Tm → Prop) : Prop where
  var : ∀ g i, i < g.length → Q (varTy g i) g (vT (i : Nat))
  num : ∀ g n, n < 3 → Q (Ty.mk 1 []) g (numTm n)
  app : ∀ g s t f x, s.small → t.small → Q (Ty.mk 4 [s, t]) g f → Q s g x → Q t g (nT 3 [f, x])
  lam : ∀ g s t x, s.small → t.small → Q t (g ++ [s]) x → Q (Ty.mk 4 [s, t]) g (Tm.mk 2 0 s [x])
  lam2 : ∀ g s t r x, s.small → t.small → r.small → Q r (g ++ [s, t]) x → Q (Ty.mk 4 [s, Ty.mk 4 [t, r]]) g (Tm.mk 2 0 s [Tm.mk 2 0 t [x]])
  lam3 : ∀ g s t u r x, s.small → t.small → u.small → r.small → Q r (g ++ [s, t, u]) x → Q (Ty.mk 4 [s, Ty.mk 4 [t, Ty.mk 4 [u, r]]]) g (Tm.mk 2 0 s [Tm.mk 2 0 t [Tm.mk 2 0 u [x]]])
  pair : ∀ g s t x y, s.small → t.small → Q s g x → Q t g y → Q (Ty.mk 3 [s, t]) g (nT 10 [x, y])
  fst : ∀ g s t x, s.small → t.small → Q (Ty.mk 3 [s, t]) g x → Q s g (nT 11 [x])
  snd : ∀ g s t x, s.small → t.small → Q (Ty.mk 3 [s, t]) g x → Q t g (nT 12 [x])
  rc : ∀ g t x f n, t.small → Q t g x → Q (Ty.mk 4 [Ty.mk 1 [], Ty.mk 4 [t, t]]) g f → Q (Ty.mk 1 []) g n → Q t g (Tm.mk 6 0 t [x, f, n])
  fold : ∀ g t x f n, t.small → Q t g x → Q (Ty.mk 4 [Ty.mk 1 [], Ty.mk 4 [Ty.mk 2 [], Ty.mk 4 [t, t]]]) g f → Q (Ty.mk 2 []) g n → Q t g (Tm.mk 9 0 t [x, f, n])
  succ : ∀ g x, Q (Ty.mk 1 []) g x → Q (Ty.mk 1 []) g (nT 5 [x])
  plus : ∀ g x y, Q (Ty.mk 1 []) g x → Q (Ty.mk 1 []) g y → Q (Ty.mk 1 []) g (appsT plusT [x, y])
  sub : ∀ g x y, Q (Ty.mk 1 []) g x → Q (Ty.mk 1 []) g y → Q (Ty.mk 1 []) g (appsT subT [x, y])
  nil : ∀ g, Q (Ty.mk 2 []) g (nT 7 [])
  cons : ∀ g x y, Q (Ty.mk 1 []) g x → Q (Ty.mk 2 []) g y → Q (Ty.mk 2 []) g (nT 8 [x, y])
  unit : ∀ g, Q (Ty.mk 5 []) g (nT 13 [])

theorem numD_facts {l : List Int} {Q : Ty → List Ty → Tm → Prop} (hQ : DrawOK Q) {p : Nat} (hp : p ≤ l.length) (g : List Ty) : (numD l p).2 ≤ l.length ∧ Q (Ty.mk 1 []) g (numD l p).1 := by
  have := nextD_bd (l := l) (p := p) (n := 3) (by decide)
  exact ⟨nextD_le hp, hQ.num g _ (by omega)⟩

theorem small_kinds {t : Ty} (h : t.small) : (t.kind = 1 ∧ t = Ty.mk 1 []) ∨ (t.kind = 2 ∧ t = Ty.mk 2 []) ∨ (t.kind = 5 ∧ t = Ty.mk 5 []) ∨ (t.kind = 3 ∧ t = Ty.mk 3 [t.arg 0, t.arg 1]) ∨ (t.kind = 4 ∧ t = Ty.mk 4 [t.arg 0, t.arg 1]) := by
  cases t with
  | mk k ts =>
    have h1 := h.1
    rw [Ty.shape_eq, Bool.and_eq_true] at h1
    have hk := h1.1
    unfold tyKind at hk
    simp [Ty.kind, Ty.args] at hk
    rcases hk with ⟨h2, rfl⟩ | ⟨h2, h3⟩
    · rcases of_decide_eq_true h2 with rfl | rfl | rfl <;> simp [Ty.kind]
    · match ts, h3 with
      | [a, b], _ => rcases of_decide_eq_true h2 with rfl | rfl <;> simp [Ty.kind, Ty.arg, Ty.args]

theorem endD_facts {l : List Int} {F : Ty → List Ty → Nat → Tm × Nat} {Q : Ty → List Ty → Tm → Prop} (hQ : DrawOK Q) (hF : Draws l F Q) : Draws l (endD l F) Q := by
  intro t g p ht hg hp
  unfold endD
  have h5 := nextD_le (n := 5) hp
  have h2 := nextD_le (n := 2) hp
  rcases small_kinds ht with ⟨h, e⟩ | ⟨h, e⟩ | ⟨h, e⟩ | ⟨h, e⟩ | ⟨h, e⟩
  · rw [if_pos h]
    obtain ⟨a1, a2⟩ := hF t g _ ht hg h5
    obtain ⟨b1, b2⟩ := hF t g _ ht hg a1
    rw [e] at a1 a2 b1 b2 ⊢
    split
    · exact ⟨a1, hQ.succ g _ a2⟩
    split
    · exact ⟨b1, hQ.plus g _ _ a2 b2⟩
    split
    · exact ⟨b1, hQ.sub g _ _ a2 b2⟩
    · exact numD_facts hQ h5 g
  · rw [if_neg (by omega), if_pos h]
    obtain ⟨a1, a2⟩ := hF _ g _ small_nat hg h2
    obtain ⟨b1, b2⟩ := hF t g _ ht hg a1
    rw [e] at b1 b2 ⊢
    split
    · exact ⟨b1, hQ.cons g _ _ a2 b2⟩
    · exact ⟨h2, hQ.nil g⟩
  · rw [if_neg (by omega), if_neg (by omega), if_neg (by omega), if_neg (by omega)]
    rw [e]
    exact ⟨hp, hQ.unit g⟩
  · rw [if_neg (by omega), if_neg (by omega), if_pos h]
    obtain ⟨s0, s1, _⟩ := ht.arg (.inl h)
    obtain ⟨a1, a2⟩ := hF _ g _ s0 hg hp
    obtain ⟨b1, b2⟩ := hF _ g _ s1 hg a1
    refine ⟨b1, ?_⟩
    rw [e]
    exact hQ.pair g _ _ _ _ s0 s1 a2 b2
  · rw [if_neg (by omega), if_neg (by omega), if_neg (by omega), if_pos h]
    obtain ⟨s0, s1, _⟩ := ht.arg (.inr h)
    obtain ⟨a1, a2⟩ := hF (t.arg 1) (g ++ [t.arg 0]) _ s1 (by intro x hx; rcases List.mem_append.1 hx with hx | hx; exact hg x hx; rw [List.mem_singleton.1 hx]; exact s0) hp
    refine ⟨a1, ?_⟩
    rw [e]
    exact hQ.lam g _ _ _ s0 s1 a2

theorem stepD_facts {l : List Int} {F : Ty → List Ty → Nat → Tm × Nat} {Q : Ty → List Ty → Tm → Prop} (hQ : DrawOK Q) (hF : Draws l F Q) (k : Int) : Draws l (fun t g p => stepD l F t g k p) Q := by
  intro t g p ht hg hp
  have hg1 : ∀ a : List Ty, (∀ x ∈ a, x.small) → ∀ x ∈ g ++ a, x.small := by
    intro a ha x hx
    rcases List.mem_append.1 hx with hx | hx
    · exact hg x hx
    · exact ha x hx
  have hg2 : ∀ s : Ty, s.small → ∀ x ∈ g ++ [s], x.small := fun s hs => hg1 [s] (by simpa using hs)
  obtain ⟨s1, s2⟩ := typeD_small l (n := 0) hp (by decide)
  show (stepD l F t g k p).2 ≤ l.length ∧ Q t g (stepD l F t g k p).1
  unfold stepD
  split
  · obtain ⟨a1, a2⟩ := hF t _ _ ht (hg2 _ s2) s1
    obtain ⟨b1, b2⟩ := hF _ g _ s2 hg a1
    exact ⟨b1, hQ.app g _ _ _ _ s2 ht (hQ.lam g _ _ _ s2 ht a2) b2⟩
  split
  · obtain ⟨a1, a2⟩ := hF t g _ ht hg s1
    obtain ⟨b1, b2⟩ := hF _ g _ s2 hg a1
    exact ⟨b1, hQ.fst g _ _ _ ht s2 (hQ.pair g _ _ _ _ ht s2 a2 b2)⟩
  split
  · obtain ⟨a1, a2⟩ := hF t _ _ ht (hg1 [Ty.mk 1 [], t] (by intro x hx; simp at hx; rcases hx with rfl | rfl; exact small_nat; exact ht)) hp
    obtain ⟨b1, b2⟩ := hF t g _ ht hg a1
    obtain ⟨c1, c2⟩ := numD_facts hQ b1 g
    exact ⟨c1, hQ.rc g _ _ _ _ ht b2 (hQ.lam2 g _ _ _ _ small_nat ht ht a2) c2⟩
  split
  · obtain ⟨a1, a2⟩ := hF t _ _ ht (hg1 [Ty.mk 1 [], Ty.mk 2 [], t] (by intro x hx; simp at hx; rcases hx with rfl | rfl | rfl; exact small_nat; exact small_list; exact ht)) hp
    obtain ⟨b1, b2⟩ := hF t g _ ht hg a1
    obtain ⟨c1, c2⟩ := hF _ g _ small_list hg b1
    exact ⟨c1, hQ.fold g _ _ _ _ ht b2 (hQ.lam3 g _ _ _ _ _ small_nat small_list ht ht a2) c2⟩
  split
  · obtain ⟨a1, a2⟩ := hF _ g _ s2 hg s1
    obtain ⟨b1, b2⟩ := hF t g _ ht hg a1
    exact ⟨b1, hQ.snd g _ _ _ s2 ht (hQ.pair g _ _ _ _ s2 ht a2 b2)⟩
  split
  · split
    · rename_i i hi
      obtain ⟨f1, f2, f3⟩ := funN_some hi
      have hfs := hg _ (varTy_mem f1).1
      obtain ⟨c0, c1, -⟩ := hfs.arg (.inr f2)
      obtain ⟨a1, a2⟩ := hF _ g _ c0 hg hp
      have hv := hQ.var g i f1
      rcases small_kinds hfs with ⟨h, e⟩ | ⟨h, e⟩ | ⟨h, e⟩ | ⟨h, e⟩ | ⟨h, e⟩
      · omega
      · omega
      · omega
      · omega
      · rw [e, f3] at hv
        exact ⟨a1, hQ.app g _ _ _ _ c0 ht hv a2⟩
    · exact endD_facts hQ hF t g p ht hg hp
  · exact endD_facts hQ hF t g p ht hg hp

theorem leafD_facts {l : List Int} {Q : Ty → List Ty → Tm → Prop} (hQ : DrawOK Q) : Draws l (leafD l) Q := by
  intro t
  generalize hn : t.count = n
  induction n using Nat.strongRecOn generalizing t with
  | _ n ih =>
  intro g p ht hg hp
  rw [leafD_eq l t g p ht.ok]
  have hq := pickD_le (t := t) (g := g) hp
  split
  · rename_i x q hx
    obtain ⟨i, rfl, h1, h2⟩ := pickD_some hx
    rw [hx] at hq
    have := hQ.var g i h1
    rw [h2] at this
    exact ⟨hq, this⟩
  · rename_i q hx
    rw [hx] at hq
    rcases small_kinds ht with ⟨h, e⟩ | ⟨h, e⟩ | ⟨h, e⟩ | ⟨h, e⟩ | ⟨h, e⟩
    · rw [if_pos h, e]; exact numD_facts hQ hq g
    · rw [if_neg (by omega), if_pos h, e]; exact ⟨hq, hQ.nil g⟩
    · rw [if_neg (by omega), if_neg (by omega), if_neg (by omega), if_neg (by omega), e]; exact ⟨hq, hQ.unit g⟩
    · rw [if_neg (by omega), if_neg (by omega), if_pos h]
      obtain ⟨s0, s1, hc⟩ := ht.arg (.inl h)
      have p0 := Ty.count_eq (t.arg 0)
      have p1 := Ty.count_eq (t.arg 1)
      obtain ⟨a1, a2⟩ := ih _ (by omega) (t.arg 0) rfl g _ s0 hg hq
      obtain ⟨b1, b2⟩ := ih _ (by omega) (t.arg 1) rfl g _ s1 hg a1
      refine ⟨b1, ?_⟩
      have := hQ.pair g _ _ _ _ s0 s1 a2 b2
      rw [← e] at this
      exact this
    · rw [if_neg (by omega), if_neg (by omega), if_neg (by omega), if_pos h]
      obtain ⟨s0, s1, hc⟩ := ht.arg (.inr h)
      have p0 := Ty.count_eq (t.arg 0)
      have p1 := Ty.count_eq (t.arg 1)
      obtain ⟨a1, a2⟩ := ih _ (by omega) (t.arg 1) rfl (g ++ [t.arg 0]) _ s1 (by intro x hx; rcases List.mem_append.1 hx with hx | hx; exact hg x hx; rw [List.mem_singleton.1 hx]; exact s0) hq
      refine ⟨a1, ?_⟩
      have := hQ.lam g _ _ _ s0 s1 a2
      rw [← e] at this
      exact this

theorem termD_facts {l : List Int} {Q : Ty → List Ty → Tm → Prop} (hQ : DrawOK Q) : ∀ n, Draws l (termD l n) Q
  | 0 => leafD_facts hQ
  | n + 1 => by
    intro t g p ht hg hp
    have hq := pickD_le (t := t) (g := g) hp
    unfold termD
    split
    · rename_i x q hx
      obtain ⟨i, rfl, h1, h2⟩ := pickD_some hx
      rw [hx] at hq
      have := hQ.var g i h1
      rw [h2] at this
      exact ⟨hq, this⟩
    · rename_i q hx
      rw [hx] at hq
      exact stepD_facts hQ (termD_facts hQ n) _ t g _ ht hg (nextD_le hq)

theorem app2_shape {f x y : Tm} (hf : f.shape = true) (hx : x.shape = true) (hy : y.shape = true) : (appsT f [x, y]).shape = true := by
  show (nT 3 [nT 3 [f, x], y]).shape = true
  exact shape_n rfl (by decide) (by intro z hz; simp at hz; rcases hz with rfl | rfl; exact shape_n rfl (by decide) (by intro z hz; simp at hz; rcases hz with rfl | rfl; exact hf; exact hx); exact hy)

theorem closed_shape : DrawOK (fun _ _ x => x.shape = true) where
  var _ _ _ := shape_v
  num _ n _ := num_shape n
  app _ _ _ _ _ _ _ hf hx := shape_n rfl (by decide) (by intro z hz; simp at hz; rcases hz with rfl | rfl; exact hf; exact hx)
  lam _ _ _ _ hs _ hx := shape_t rfl (.inl rfl) hs.ok (by intro z hz; simp at hz; rw [hz]; exact hx)
  lam2 _ _ _ _ _ hs ht _ hx := shape_t rfl (.inl rfl) hs.ok (by intro z hz; simp at hz; rw [hz]; exact shape_t rfl (.inl rfl) ht.ok (by intro z hz; simp at hz; rw [hz]; exact hx))
  lam3 _ _ _ _ _ _ hs ht hu _ hx := shape_t rfl (.inl rfl) hs.ok (by intro z hz; simp at hz; rw [hz]; exact shape_t rfl (.inl rfl) ht.ok (by intro z hz; simp at hz; rw [hz]; exact shape_t rfl (.inl rfl) hu.ok (by intro z hz; simp at hz; rw [hz]; exact hx)))
  pair _ _ _ _ _ _ _ hf hx := shape_n rfl (by decide) (by intro z hz; simp at hz; rcases hz with rfl | rfl; exact hf; exact hx)
  fst _ _ _ _ _ _ hx := shape_n rfl (by decide) (by intro z hz; simp at hz; rw [hz]; exact hx)
  snd _ _ _ _ _ _ hx := shape_n rfl (by decide) (by intro z hz; simp at hz; rw [hz]; exact hx)
  rc _ _ _ _ _ ht hx hf hn := shape_t rfl (.inr (.inl rfl)) ht.ok (by intro z hz; simp at hz; rcases hz with rfl | rfl | rfl; exact hx; exact hf; exact hn)
  fold _ _ _ _ _ ht hx hf hn := shape_t rfl (.inr (.inr rfl)) ht.ok (by intro z hz; simp at hz; rcases hz with rfl | rfl | rfl; exact hx; exact hf; exact hn)
  succ _ _ hx := shape_n rfl (by decide) (by intro z hz; simp at hz; rw [hz]; exact hx)
  plus _ _ _ hx hy := app2_shape (by decide) hx hy
  sub _ _ _ hx hy := app2_shape (by decide) hx hy
  nil _ := rfl
  cons _ _ _ hf hx := shape_n rfl (by decide) (by intro z hz; simp at hz; rcases hz with rfl | rfl; exact hf; exact hx)
  unit _ := rfl
end Go.Proofs.YtcldnfbcbkaanaaGreatDoor.Lift

namespace Go.Proofs.YtcldnfbcbkaanaaGreatDoor.Lift
set_option linter.unusedSimpArgs false
set_option linter.unusedVariables false
set_option linter.unnecessarySimpa false
open Go
variable {gl : Globs}

/-- whether all nodes have a form -/
theorem Val.nodes_flat {v : Val} (h : v.args = []) : v.nodesN.2 = v.okB := by rw [nodesN_eq, h]; rfl
theorem Val.nodes_pair {v a b : Val} (h : v.args = [a, b]) : v.nodesN.2 = (v.okB && (a.nodesN.2 && b.nodesN.2)) := by
  rw [nodesN_eq, h]
  cases ho : v.okB <;> simp [nodesN.nodesL]
  cases ha : a.nodesN.2 <;> simp
theorem Val.nodes_count (v : Val) (h : v.nodesN.2 = true) : v.nodesN.1 = v.count := by
  induction v using Val.ind with
  | h v ih =>
  have key : ∀ l : List Val, (∀ a ∈ l, a.nodesN.2 = true → a.nodesN.1 = a.count) → ∀ (n : Int) (ok : Bool), (nodesN.nodesL l (n, ok)).2 = true → (nodesN.nodesL l (n, ok)).1 = n + count.counts l := by
    intro l
    induction l with
    | nil => intro _ n ok _; simp [nodesN.nodesL, count.counts]
    | cons a r ihr =>
      intro hl n ok hok
      cases ok with
      | false => rw [nodesL_no] at hok; cases hok
      | true =>
        simp only [nodesN.nodesL, if_true] at hok ⊢
        have ha : a.nodesN.2 = true := (nodesL_ok hok).1
        rw [ihr (fun b hb => hl b (List.mem_cons_of_mem _ hb)) _ _ hok, hl a (by simp) ha]
        simp only [count.counts]
        omega
  rw [nodesN_eq] at h ⊢
  rw [key v.args ih _ _ h, count_eq]
  omega

end Go.Proofs.YtcldnfbcbkaanaaGreatDoor.Lift

/-
  Plain law: the rounds of reduction on closed typed terms.
-/
namespace Go.Proofs.YtcldnfbcbkaanaaGreatDoor.Lift
set_option linter.unusedSimpArgs false
set_option linter.unusedVariables false
set_option linter.unnecessarySimpa false
open Go

theorem dn_shape {Γ : List T} {t : Tm} {a : T} {F : Env Γ → a.V} (h : Dn Γ t a F) : t.shape = true := by
  have one : ∀ {x : Tm}, x.shape = true → ∀ z ∈ [x], z.shape = true := by intro x hx z hz; rw [List.mem_singleton.1 hz]; exact hx
  have two : ∀ {x y : Tm}, x.shape = true → y.shape = true → ∀ z ∈ [x, y], z.shape = true := by
    intro x y hx hy z hz; simp at hz; rcases hz with rfl | rfl; exact hx; exact hy
  have three : ∀ {x y w : Tm}, x.shape = true → y.shape = true → w.shape = true → ∀ z ∈ [x, y, w], z.shape = true := by
    intro x y w hx hy hw z hz; simp at hz; rcases hz with rfl | rfl | rfl; exact hx; exact hy; exact hw
  induction h with
  | var h => exact shape_v
  | lam ha hb ih => exact shape_t rfl (.inl rfl) (T.ok_ty ha) (one ih)
  | app hf hx ihf ihx => exact shape_n rfl (by decide) (two ihf ihx)
  | zero => rfl
  | succ hx ih => exact shape_n rfl (by decide) (one ih)
  | rc ha hb hf hn ihb ihf ihn => exact shape_t rfl (.inr (.inl rfl)) (T.ok_ty ha) (three ihb ihf ihn)
  | nil => rfl
  | cons hx hl ihx ihl => exact shape_n rfl (by decide) (two ihx ihl)
  | fold ha hb hf hn ihb ihf ihn => exact shape_t rfl (.inr (.inr rfl)) (T.ok_ty ha) (three ihb ihf ihn)
  | pair hx hy ihx ihy => exact shape_n rfl (by decide) (two ihx ihy)
  | fst hx ih => exact shape_n rfl (by decide) (one ih)
  | snd hx ih => exact shape_n rfl (by decide) (one ih)
  | unit => rfl

theorem At.lt {Γ : List T} {i : Nat} {a : T} {p : Env Γ → a.V} (h : At Γ i a p) : i < Γ.length := by
  have := h.get
  exact (List.getElem?_eq_some_iff.1 this).1

theorem dn_least {Γ : List T} {t : Tm} {a : T} {F : Env Γ → a.V} (h : Dn Γ t a F) : ∀ m : Int, (Γ.length : Int) + t.count ≤ m → t.leastN m = true := by
  have node0 : ∀ (k : Int) (y : Ty) (m : Int), 0 ≤ m → (Tm.mk k 0 y []).leastN m = true := by
    intro k y m hm; rw [Tm.leastN_eq]; have h9 : decide (m < (0 : Int)) = false := decide_eq_false (by omega); simp [Tm.index, Tm.args, Tm.leastN.leasts, h9] <;> exact decide_eq_false (by omega)
  have node1 : ∀ (k : Int) (y : Ty) (x : Tm) (m : Int), 0 ≤ m → x.leastN m = true → (Tm.mk k 0 y [x]).leastN m = true := by
    intro k y x m hm h1; rw [Tm.leastN_eq]; have h9 : decide (m < (0 : Int)) = false := decide_eq_false (by omega); simp [Tm.index, Tm.args, Tm.leastN.leasts, h9, h1] <;> exact decide_eq_false (by omega)
  have node2 : ∀ (k : Int) (y : Ty) (x z : Tm) (m : Int), 0 ≤ m → x.leastN m = true → z.leastN m = true → (Tm.mk k 0 y [x, z]).leastN m = true := by
    intro k y x z m hm h1 h2; rw [Tm.leastN_eq]; have h9 : decide (m < (0 : Int)) = false := decide_eq_false (by omega); simp [Tm.index, Tm.args, Tm.leastN.leasts, h9, h1, h2] <;> exact decide_eq_false (by omega)
  have node3 : ∀ (k : Int) (y : Ty) (x z w : Tm) (m : Int), 0 ≤ m → x.leastN m = true → z.leastN m = true → w.leastN m = true → (Tm.mk k 0 y [x, z, w]).leastN m = true := by
    intro k y x z w m hm h1 h2 h3; rw [Tm.leastN_eq]; have h9 : decide (m < (0 : Int)) = false := decide_eq_false (by omega); simp [Tm.index, Tm.args, Tm.leastN.leasts, h9, h1, h2, h3] <;> exact decide_eq_false (by omega)
  induction h with
  | var h =>
    intro m hm
    have := h.lt
    rename_i Γ i a p
    have h9 : decide (m < ((i : Nat) : Int)) = false := decide_eq_false (by omega)
    rw [vT, Tm.leastN_eq]
    simp [Tm.index, Tm.args, Tm.leastN.leasts, h9] <;> exact decide_eq_false (by omega)
  | lam ha hb ih =>
    intro m hm
    rename_i Γ a r b f
    have hc : (lamT a b).count = 1 + (b.count + 0) := rfl
    rw [hc] at hm
    exact node1 _ _ _ _ (by omega) (ih m (by simp only [List.length_cons]; omega))
  | app hf hx ihf ihx =>
    intro m hm
    rename_i Γ a b f x F X
    have hc : (nT 3 [f, x]).count = 1 + (f.count + (x.count + 0)) := rfl
    rw [hc] at hm
    exact node2 _ _ _ _ _ (by omega) (ihf m (by omega)) (ihx m (by omega))
  | zero => intro m hm; exact node0 _ _ _ (by omega)
  | succ hx ih =>
    intro m hm
    rename_i Γ x X
    have hc : (nT 5 [x]).count = 1 + (x.count + 0) := rfl
    rw [hc] at hm
    exact node1 _ _ _ _ (by omega) (ih m (by omega))
  | rc ha hb hf hn ihb ihf ihn =>
    intro m hm
    rename_i Γ a b f n B F N
    have hc : (Tm.mk 6 0 a.ty [b, f, n]).count = 1 + (b.count + (f.count + (n.count + 0))) := rfl
    rw [hc] at hm
    exact node3 _ _ _ _ _ _ (by omega) (ihb m (by omega)) (ihf m (by omega)) (ihn m (by omega))
  | nil => intro m hm; exact node0 _ _ _ (by omega)
  | cons hx hl ihx ihl =>
    intro m hm
    rename_i Γ x l X L
    have hc : (nT 8 [x, l]).count = 1 + (x.count + (l.count + 0)) := rfl
    rw [hc] at hm
    exact node2 _ _ _ _ _ (by omega) (ihx m (by omega)) (ihl m (by omega))
  | fold ha hb hf hn ihb ihf ihn =>
    intro m hm
    rename_i Γ a b f n B F N
    have hc : (Tm.mk 9 0 a.ty [b, f, n]).count = 1 + (b.count + (f.count + (n.count + 0))) := rfl
    rw [hc] at hm
    exact node3 _ _ _ _ _ _ (by omega) (ihb m (by omega)) (ihf m (by omega)) (ihn m (by omega))
  | pair hx hy ihx ihy =>
    intro m hm
    rename_i Γ a b x y X Y
    have hc : (nT 10 [x, y]).count = 1 + (x.count + (y.count + 0)) := rfl
    rw [hc] at hm
    exact node2 _ _ _ _ _ (by omega) (ihx m (by omega)) (ihy m (by omega))
  | fst hx ih =>
    intro m hm
    rename_i Γ a b x X
    have hc : (nT 11 [x]).count = 1 + (x.count + 0) := rfl
    rw [hc] at hm
    exact node1 _ _ _ _ (by omega) (ih m (by omega))
  | snd hx ih =>
    intro m hm
    rename_i Γ a b x X
    have hc : (nT 12 [x]).count = 1 + (x.count + 0) := rfl
    rw [hc] at hm
    exact node1 _ _ _ _ (by omega) (ih m (by omega))
  | unit => intro m hm; exact node0 _ _ _ (by omega)

theorem up_count (t : Tm) (f b : Int) : (t.upN f b).count = t.count := by
  induction t using Tm.ind generalizing f with
  | h t ih =>
  rw [Tm.upN_eq, Tm.count_eq, Tm.count_eq t, Tm.args_mk]
  have key : ∀ l : List Tm, (∀ a ∈ l, a ∈ t.args) → Tm.count.counts (l.map fun x => x.upN (f + bindI t.kind) b) = Tm.count.counts l := by
    intro l
    induction l with
    | nil => intro _; rfl
    | cons a r ihr => intro h; simp only [List.map_cons, Tm.count.counts, ih a (h a (by simp)), ihr fun b hb => h b (by simp [hb])]
  rw [key t.args fun _ h => h]

/-- plain values have a form, and as many nodes as their types at most -/
theorem valOf_nodes : ∀ (a : T) (v : a.V), a.plain → (valOf a v).nodesN.2 = true ∧ (valOf a v).count ≤ a.size
  | .nat, n, _ => ⟨by rw [Val.nodes_flat rfl]; simp [valOf, Val.okB, Val.kind, Val.num, Val.list, Val.args]; exact decide_eq_true (Int.natCast_nonneg _), Nat.le_refl _⟩
  | .list, l, _ => ⟨by rw [Val.nodes_flat rfl]; simp [valOf, Val.okB, Val.kind, Val.num, Val.list, Val.args]; intro x hx; obtain ⟨n, _, rfl⟩ := List.mem_map.1 hx; exact Int.natCast_nonneg _, Nat.le_refl _⟩
  | .unit, _, _ => ⟨rfl, Nat.le_refl _⟩
  | .pair a b, p, h => by
    obtain ⟨a1, a2⟩ := valOf_nodes a p.1 h.1
    obtain ⟨b1, b2⟩ := valOf_nodes b p.2 h.2
    refine ⟨?_, ?_⟩
    · rw [Val.nodes_pair (v := valOf (.pair a b) p) rfl, a1, b1]; rfl
    · show 1 + ((valOf a p.1).count + ((valOf b p.2).count + 0)) ≤ 1 + a.size + b.size
      omega
  | .fn _ _, _, h => h.elim

end Go.Proofs.YtcldnfbcbkaanaaGreatDoor.Lift

/-
  Plain law: a machine that evaluates terms and counts its work; it returns what is denoted.
-/
namespace Go.Proofs.YtcldnfbcbkaanaaGreatDoor.Lift
set_option linter.unusedSimpArgs false
set_option linter.unusedVariables false
set_option linter.unnecessarySimpa false
open Go

/-- a value of a machine -/
inductive MV where
  | num (n : Nat)
  | list (l : List Nat)
  | both (a b : MV)
  | unit
  | clo (b : Tm) (e : List MV)

abbrev Evl := Tm → List MV → Option (MV × Nat)

/-- some terms, one after the other -/
def allC (ev : Evl) : List Tm → List MV → Option (List MV × Nat)
  | [], _ => some ([], 0)
  | t :: r, e => match ev t e with
    | none => none
    | some (v, c) => match allC ev r e with
      | none => none
      | some (l, c') => some (v :: l, c + c')
/-- a closure called with some values -/
def callC (ev : Evl) : MV → List MV → Option (MV × Nat)
  | f, [] => some (f, 0)
  | .clo b e, a :: r => match ev b (a :: e) with
    | none => none
    | some (v, c) => match callC ev v r with
      | none => none
      | some (w, c') => some (w, c + c')
  | _, _ => none
/-- n rounds from k on -/
def recC (ev : Evl) (f : MV) : Nat → Nat → MV → Option (MV × Nat)
  | 0, _, r => some (r, 0)
  | n + 1, k, r => match callC ev f [.num k, r] with
    | none => none
    | some (r', c) => match recC ev f n (k + 1) r' with
      | none => none
      | some (w, c') => some (w, c + c')
/-- through a list, from its end -/
def foldC (ev : Evl) (f : MV) (r : MV) : List Nat → Option (MV × Nat)
  | [] => some (r, 0)
  | x :: l => match foldC ev f r l with
    | none => none
    | some (r', c) => match callC ev f [.num x, .list l, r'] with
      | none => none
      | some (w, c') => some (w, c + c')
/-- a node whose parts have values -/
def nodeC (ev : Evl) (k : Int) (l : List MV) : Option (MV × Nat) :=
  if k = 3 then match l with
    | [f, x] => callC ev f [x]
    | _ => none
  else if k = 4 then some (.num 0, 0)
  else if k = 5 then match l with
    | [.num n] => some (.num (n + 1), 0)
    | _ => none
  else if k = 6 then match l with
    | [b, f, .num n] => recC ev f n 0 b
    | _ => none
  else if k = 7 then some (.list [], 0)
  else if k = 8 then match l with
    | [.num n, .list m] => some (.list (n :: m), 0)
    | _ => none
  else if k = 9 then match l with
    | [b, f, .list m] => foldC ev f b m
    | _ => none
  else if k = 10 then match l with
    | [x, y] => some (.both x y, 0)
    | _ => none
  else if k = 11 then match l with
    | [.both x _] => some (x, 0)
    | _ => none
  else if k = 12 then match l with
    | [.both _ y] => some (y, 0)
    | _ => none
  else some (.unit, 0)
/-- a term below some values, to a depth: its value and the work -/
def evC : Nat → Tm → List MV → Option (MV × Nat)
  | 0, _, _ => none
  | d + 1, t, e =>
    if t.kind = 1 then some (e.getD t.index.toNat .unit, 1)
    else if t.kind = 2 then some (.clo (t.argN 0) e, 1)
    else match allC (evC d) t.args e with
      | none => none
      | some (l, c) => match nodeC (evC d) t.kind l with
        | none => none
        | some (v, c') => some (v, 1 + c + c')

/-- what a value of a machine is a value of -/
def Rl : (a : T) → MV → a.V → Prop
  | .nat, v, n => v = .num n
  | .list, v, l => v = .list l
  | .unit, v, _ => v = .unit
  | .pair a b, v, p => ∃ x y, v = .both x y ∧ Rl a x p.1 ∧ Rl b y p.2
  | .fn a b, v, f => ∃ body e, v = .clo body e ∧ ∀ (x : MV) (y : a.V), Rl a x y → ∀ (d : Nat) (r : MV) (c : Nat), evC d body (x :: e) = some (r, c) → Rl b r (f y)

/-- the values of the variables -/
def RlE : (Γ : List T) → List MV → Env Γ → Prop
  | [], e, _ => e = []
  | a :: Γ, e, ρ => ∃ x r, e = x :: r ∧ Rl a x ρ.1 ∧ RlE Γ r ρ.2

theorem RlE.get {Γ : List T} {i : Nat} {a : T} {p : Env Γ → a.V} (h : At Γ i a p) : ∀ {e : List MV} {ρ : Env Γ}, RlE Γ e ρ → Rl a (e.getD i .unit) (p ρ) := by
  induction h with
  | zero => rintro e ρ ⟨x, r, rfl, h1, h2⟩; exact h1
  | succ h ih => rintro e ρ ⟨x, r, rfl, h1, h2⟩; simpa using ih h2

theorem natRec_range {α : Type} (b : α) (f : Nat → α → α) : ∀ n : Nat, natRec b f n = (List.range' 0 n).foldl (fun r i => f i r) b
  | 0 => rfl
  | n + 1 => by
    rw [List.range'_1_concat, List.foldl_append, ← natRec_range b f n]
    simp [natRec]
end Go.Proofs.YtcldnfbcbkaanaaGreatDoor.Lift

/-
  Package machine's values as data, and how a variable's value is found.
-/
namespace Go.Proofs.YtcldnfbcbkaanaaGreatDoor.Lift
set_option linter.unusedSimpArgs false
set_option linter.unusedVariables false
set_option linter.unnecessarySimpa false
open Go
variable {gl : Globs}

abbrev nilP : DV := .prim (.pointer none)
abbrev nilI : DV := .prim .nilIface
def cellM : List Nat → DV
  | [] => nilP
  | n :: l => .ref [dint (n : Int), cellM l]
mutual
def MV.thing : MV → DV
  | .num n => .iface 3 (dint (n : Int))
  | .list l => .iface 176 (cellM l)
  | .both a b => .iface 182 (.ref [MV.thing a, MV.thing b])
  | .unit => .iface 186 (.agg [])
  | .clo b e => .iface 192 (.ref (b.cells ++ [MV.envM e]))
def MV.envM : List MV → DV
  | [] => nilP
  | v :: e => .ref [MV.thing v, MV.envM e]
end
theorem cellM_cell : ∀ l, (cellM l).isCell = true
  | [] => rfl
  | _ :: _ => rfl
theorem thing_cell (v : MV) : v.thing.isCell = true := by cases v <;> (simp only [MV.thing]; rfl)
theorem envM_cell (e : List MV) : (MV.envM e).isCell = true := by cases e <;> (simp only [MV.envM]; rfl)
theorem cellsD_thing (v : MV) : cellsD v.thing = [v.thing] := by cases v <;> (simp only [MV.thing]; rfl)
theorem cellsD_envM (e : List MV) : cellsD (MV.envM e) = [MV.envM e] := by cases e <;> (simp only [MV.envM]; rfl)
theorem cellsD_cellM (l : List Nat) : cellsD (cellM l) = [cellM l] := by cases l <;> rfl
attribute [go_sem] cellM_cell thing_cell envM_cell cellsD_thing cellsD_envM cellsD_cellM

theorem env_at_ok (e : List MV) (i : Nat) (hi : i < e.length) : Con1 Tryz.prog gl 143 [MV.envM e, dint (i : Int)] [] (e.getD i .unit).thing [] := by
  refine t_in Tryz.func143 ?_
  intro X hP hgl hf hfn hn hR hids hfit
  have h0 : e.drop (i - i) = e := by simp
  have hi1 : intOK .i64 i := hfit (dint i) (by simp)
  rw [intOK_i64] at hi1
  refine t_g0 ?_
  refine t_a ?_
  refine t_sub [] @h0 (W_rounds (fun k : Nat => k ≤ i) (fun k : Nat => [(.slot 0, .one (.v (MV.envM (e.drop (i - k))))), (.slot 1, .one (.v (dint (k : Int)))), (.slot 4, .one (.v nilI))]) (fun k : Nat => k) i (Nat.le_refl i) ?_)
  intro k hk ih
  obtain ⟨v, r, hr⟩ : ∃ v r, e.drop (i - k) = v :: r := by
    cases hq : e.drop (i - k) with
    | nil => have := List.drop_eq_nil_iff.1 hq; omega
    | cons v r => exact ⟨v, r, rfl⟩
  have hE : MV.envM (e.drop (i - k)) = .ref [v.thing, MV.envM r] := by rw [hr, MV.envM]
  cases k with
  | zero =>
    have hv : (e[i]?.getD MV.unit) = v := by
      have := congrArg (fun l => l.head?) hr
      simp only [Nat.sub_zero, List.head?_drop, List.head?_cons] at this
      simp [this]
    rw [Nat.sub_zero] at hE
    refine t_rg0 ?_
    refine t_no ?_
    refine t_g @hE ?_
    refine t_r ?_
    simp [go_sem, hP, hgl, hn, hv] <;> (try omega)
  | succ k =>
    have hd : e.drop (i - k) = r := by
      have h1 : i - k = (i - (k + 1)) + 1 := by omega
      rw [h1, ← List.drop_drop, hr, List.drop_one, List.tail_cons]
    have hk0 : (0 : Int) < (k : Int) + 1 := by omega
    refine t_rg0 ?_
    refine t_yes ?_
    refine t_rg @hE ?_
    refine t_rg0 ?_
    refine t_b ?_
    refine t_sub [] @hd (ih k (by omega) (by omega))
end Go.Proofs.YtcldnfbcbkaanaaGreatDoor.Lift

/-
  Package machine: a run as a function (with its work), and the walk of a call.
-/
namespace Go.Proofs.YtcldnfbcbkaanaaGreatDoor.Lift
set_option linter.unusedSimpArgs false
set_option linter.unusedVariables false
set_option linter.unnecessarySimpa false
open Go
variable {gl : Globs}

def nodeS (ev : Evl) (k : Int) (l : List MV) : Option (MV × Nat) := if 3 ≤ k ∧ k ≤ 13 then nodeC ev k l else none
/-- a run to a depth: none where it would be stuck, or deeper -/
def evS : Nat → Evl
  | 0, _, _ => none
  | d + 1, t, e =>
    if t.kind = 1 then if 0 ≤ t.index ∧ t.index.toNat < e.length then some (e.getD t.index.toNat .unit, 1) else none
    else if t.kind = 2 then if t.args.length = 0 then none else some (.clo (t.argN 0) e, 1)
    else if 3 < t.args.length then none
    else match allC (evS d) t.args e with
      | none => none
      | some (l, c) => match nodeS (evS d) t.kind l with
        | none => none
        | some (v, c') => some (v, 1 + c + c')

/-! numbers up to M -/
mutual
def MV.nle (M : Nat) : MV → Prop
  | .num n => n ≤ M
  | .list l => l.length ≤ M ∧ ∀ n ∈ l, n ≤ M
  | .both a b => MV.nle M a ∧ MV.nle M b
  | .unit => True
  | .clo _ e => MV.nles M e
def MV.nles (M : Nat) : List MV → Prop
  | [] => True
  | v :: e => MV.nle M v ∧ MV.nles M e
end

/-- what is told of a work of n where most is the most -/
def outM (most n : Nat) (v : DV) : DV := if n ≤ most then .tup [v, dbool true] else .tup [nilI, dbool false]
def useM (most n : Nat) : List DV := [dint (if n ≤ most then (n : Int) else (most : Int)), dint (most : Int)]

/-- what is asked of a run, to be walked -/
def WalkM (P : Program) (gl : Globs) (fe : FuncId) (most : Nat) (ev : Evl) : Prop :=
  ∀ ⦃t : Tm⦄ ⦃e : List MV⦄ ⦃u : Nat⦄ ⦃v : MV⦄ ⦃c : Nat⦄ (b : Nat) (M : Nat), ev t e = some (v, c) → u ≤ most → M + (most - u) ≤ 1073741824 → MV.nles M e →
    Con1 P gl fe [ptr b, t.dv, MV.envM e] [(b, useM most u)] (outM most (u + c) v.thing) [(b, useM most (u + c))]
def NleM (most : Nat) (ev : Evl) : Prop :=
  ∀ ⦃t : Tm⦄ ⦃e : List MV⦄ ⦃v : MV⦄ ⦃c : Nat⦄ (M : Nat), ev t e = some (v, c) → MV.nles M e → v.nle (M + c)

theorem thing_clo (b : Tm) (e : List MV) : (MV.clo b e).thing = .iface 192 (.ref [dint b.kind, dint b.index, dint b.type.kind, .sl (b.type.args.map Ty.cells), .sl (b.args.map Tm.cells), MV.envM e]) := by
  rw [MV.thing, Tm.cells_eq]; rfl
theorem envM_cons (v : MV) (e : List MV) : MV.envM (v :: e) = .ref [v.thing, MV.envM e] := by rw [MV.envM]

mutual
theorem MV.nle_mono {M N : Nat} (h : M ≤ N) : ∀ v : MV, v.nle M → v.nle N
  | .num n, k => by simp only [MV.nle] at k ⊢; omega
  | .list l, k => by simp only [MV.nle] at k ⊢; exact ⟨Nat.le_trans k.1 h, fun n hn => Nat.le_trans (k.2 n hn) h⟩
  | .both a b, k => by simp only [MV.nle] at k ⊢; exact ⟨MV.nle_mono h a k.1, MV.nle_mono h b k.2⟩
  | .unit, _ => by simp only [MV.nle]
  | .clo b e, k => by simp only [MV.nle] at k ⊢; exact MV.nles_mono h e k
theorem MV.nles_mono {M N : Nat} (h : M ≤ N) : ∀ e : List MV, MV.nles M e → MV.nles N e
  | [], _ => by simp only [MV.nles]
  | v :: e, k => by simp only [MV.nles] at k ⊢; exact ⟨MV.nle_mono h v k.1, MV.nles_mono h e k.2⟩
end

theorem nles_get {M : Nat} : ∀ {l : List MV} {i : Nat} {a : MV}, MV.nles M l → l[i]? = some a → a.nle M
  | x :: l, 0, a, h, k => by simp only [MV.nles] at h; simp at k; rw [← k]; exact h.1
  | x :: l, i + 1, a, h, k => by simp only [MV.nles] at h; exact nles_get h.2 (by simpa using k)
theorem callM_ok {most : Nat} (hm : most ≤ 1073741824) {ev : Evl} (H : WalkM Tryz.prog gl 75 most ev) (hN : NleM most ev) {f v : MV} {l : List MV} {u c : Nat} (b M : Nat)
    (h : callC ev f l = some (v, c)) (hu : u ≤ most) (hM : M + (most - u) ≤ 1073741824) (hF : f.nle M) (hL : MV.nles M l) :
    Con1 Tryz.prog gl 76 [ptr b, f.thing, .sl (l.map fun x => [x.thing])] [(b, useM most u)] (outM most (u + c) v.thing) [(b, useM most (u + c))] := by
  refine t_in Tryz.func76 ?_
  intro X hP hgl hf hfn hn hR hids hfit
  have hl1 : (l.length : Int) ≤ 2147483648 := by have := hfit (.sl (l.map fun x => [x.thing])) (by simp); simp [DV.fit] at this; have := this.1; simp [BIG] at this; omega
  have hu0 : useM most u = [dint (u : Int), dint (most : Int)] := by unfold useM; rw [if_pos hu]
  rw [hu0]
  refine t_g0 ?_
  refine t_a ?_
  refine t_sub [] trivial (W_rounds (fun x : MV × Nat × Nat => x.2.1 ≤ l.length ∧ x.2.2 ≤ most ∧ u ≤ x.2.2 ∧ x.1.nle (M + (x.2.2 - u)) ∧ ∃ c', callC ev x.1 (l.drop x.2.1) = some (v, c') ∧ x.2.2 + c' = u + c) (fun x : MV × Nat × Nat => [(.slot 15, .one (.v (dint (x.2.1 : Int)))), (.slot 14, .one (.v (dint (l.length : Int)))), (.slot 13, .one (.v (.sl (l.map fun x => [x.thing])))), (.slot 0, .one (.v (ptr b))), (.slot 1, .one (.v x.1.thing)), (.slot 6, .one (.v nilI)), (.slot 7, .one (.v (dbool false))), (.heap  b, .row ([.v (dint (x.2.2 : Int)), .v (dint (most : Int))]))]) (fun x : MV × Nat × Nat => l.length - x.2.1) (f, 0, u) (⟨Nat.zero_le _, hu, Nat.le_refl u, by simpa using hF, c, by simpa using h, rfl⟩) ?_)
  rintro ⟨g, i, u'⟩ ⟨hi, hu', huu, hg, c', hc, hcc⟩ ih
  simp only at hi hu' huu hg hc hcc
  by_cases hil : i < l.length
  · obtain ⟨a, ha⟩ : ∃ a, l[i]? = some a := ⟨l[i], List.getElem?_eq_getElem hil⟩
    have hd : l.drop i = a :: l.drop (i + 1) := by
      rw [List.drop_eq_getElem_cons hil]
      rw [List.getElem?_eq_getElem hil, Option.some.injEq] at ha
      rw [ha]
    rw [hd] at hc
    have hmem : a.nle M := nles_get hL ha
    cases g with
    | num n => cases hc
    | list q => cases hc
    | both p q => cases hc
    | unit => cases hc
    | clo body e =>
      simp only [callC] at hc
      split at hc
      · cases hc
      · rename_i v1 c1 hv1
        split at hc
        · cases hc
        · rename_i w c2 hw
          simp only [Option.some.injEq, Prod.mk.injEq] at hc
          obtain ⟨rfl, rfl⟩ := hc
          simp only [MV.nle] at hg
          have hes : MV.nles (M + (u' - u)) (a :: e) := by simp only [MV.nles]; exact ⟨MV.nle_mono (by omega) _ hmem, hg⟩
          have W1 := H b (M + (u' - u)) hv1 hu' (by omega) hes
          have hN1 := hN (M + (u' - u)) hv1 hes
          have hth := thing_clo body e
          have hT := Tm.fold body
          have hu1 : useM most u' = [dint (u' : Int), dint (most : Int)] := by unfold useM; rw [if_pos hu']
          rw [hu1, envM_cons] at W1
          have hgi : (l.map fun x => [x.thing])[i]? = some [a.thing] := by rw [List.getElem?_map, ha]; rfl
          rw [hth]
          generalize l.map (fun x => [x.thing]) = L at *
          refine t_rg0 ?_
          refine t_yes ?_
          refine t_rg @hgi ?_
          refine t_rg0 ?_
          refine t_a ?_
          refine W_regd (by rw [hP]; exact mixed) [33] fun K hK => ?_
          simp [go_sem, hP, hgl, hn, hT]
          refine vcdC_boxR (cs := [a.thing, MV.envM e]) (y := .ag [a.thing, MV.envM e] []) (fun _ _ => vcd_sound) (by simp [go_sem, hP, hgl, hn]) (by simp [go_sem]) (by simp [go_sem]) (by rw [hn]; exact Nat.le_of_ble_eq_true rfl) (by rfl) ?_
          simp [go_sem, hP, hgl, hn]
          by_cases hfit1 : u' + c1 ≤ most
          · have o1 : outM most (u' + c1) v1.thing = .tup [v1.thing, dbool true] := by unfold outM; rw [if_pos hfit1]
            have o2 : useM most (u' + c1) = [dint ((u' + c1 : Nat) : Int), dint (most : Int)] := by unfold useM; rw [if_pos hfit1]
            rw [o1, o2] at W1
            refine t_c trivial (W1) ?_
            refine t_e ?_
            clear hK K
            refine t_rg0 ?_
            refine t_no ?_
            refine t_rg0 ?_
            refine t_rg0 ?_
            have a1 : i + 1 ≤ l.length := by omega
            have a2 : u ≤ u' + c1 := by omega
            have a3 : M + (u' - u) + c1 ≤ M + (u' + c1 - u) := by omega
            have a4 : u' + c1 + c2 = u + c := by omega
            have a5 : l.length - (i + 1) < l.length - i := by omega
            refine t_b ?_
            refine t_sub [] trivial (ih (v1, i + 1, u' + c1) ⟨a1, hfit1, a2, MV.nle_mono a3 _ hN1, c2, hw, a4⟩ a5)
          · have o1 : outM most (u' + c1) v1.thing = .tup [nilI, dbool false] := by unfold outM; rw [if_neg hfit1]
            have o2 : useM most (u' + c1) = [dint (most : Int), dint (most : Int)] := by unfold useM; rw [if_neg hfit1]
            have hbig : ¬ u + c ≤ most := by omega
            have o3 : outM most (u + c) w.thing = .tup [nilI, dbool false] := by unfold outM; rw [if_neg hbig]
            have o4 : useM most (u + c) = [dint (most : Int), dint (most : Int)] := by unfold useM; rw [if_neg hbig]
            rw [o3, o4] at hR
            rw [o1, o2] at W1
            refine t_c trivial (W1) ?_
            refine t_e ?_
            clear hK K
            refine t_rg0 ?_
            refine t_yes ?_
            refine t_rg0 ?_
            repeat (first | refine W_seq ?_ | refine W_skip ?_ | refine W_block ?_ | refine W_inBlock ?_ | refine W_label ?_ | refine W_exit rfl ?_)
            first | refine W_retR hP hf hfn _ ([(b, [dint (most : Int), dint (most : Int)])]) (by first | (simp [go_sem, hP, hgl, hn]; done) | (simp [go_sem, hP, hgl, hn]; rfl)) (by simp [go_sem, hP, hgl, hn]) (by simp) ?_ hR.2 | refine W_endR hP hf hfn _ ([(b, [dint (most : Int), dint (most : Int)])]) (by first | (simp [go_sem, hP, hgl, hn]; done) | (simp [go_sem, hP, hgl, hn]; rfl)) (by simp [go_sem, hP, hgl, hn]) (by simp) ?_ hR.2
            rw [hR.1]
            refine ⟨?_, by simp⟩
            try simp
            try all_goals (simp [Ty.dv, Ty.cells_eq, Ty.kind_mk, Ty.args_mk, Tm.dv, Tm.cells_eq, Tm.kind_mk, Tm.index_mk, Tm.type_mk, Tm.args_mk, Val.dv, Val.cells_eq, Val.kind_mk, Val.num_mk, Val.list_mk, Val.args_mk, ints])
  · have hd : l.drop i = [] := List.drop_eq_nil_iff.2 (by omega)
    have hii : i = l.length := by omega
    subst hii
    rw [hd] at hc
    have hc0 : callC ev g [] = some (g, 0) := by cases g <;> rfl
    rw [hc0] at hc
    simp only [Option.some.injEq, Prod.mk.injEq] at hc
    obtain ⟨rfl, rfl⟩ := hc
    have hsm : u + c ≤ most := by omega
    have o3 : outM most (u + c) g.thing = .tup [g.thing, dbool true] := by unfold outM; rw [if_pos hsm]
    have o4 : useM most (u + c) = [dint (u' : Int), dint (most : Int)] := by unfold useM; rw [if_pos hsm]; rw [← hcc]; simp
    rw [o3, o4] at hR
    refine t_rg0 ?_
    refine t_no ?_
    refine t_rg0 ?_
    repeat (first | refine W_seq ?_ | refine W_skip ?_ | refine W_block ?_ | refine W_inBlock ?_ | refine W_label ?_ | refine W_exit rfl ?_)
    first | refine W_retR hP hf hfn _ ([(b, [dint (u' : Int), dint (most : Int)])]) (by first | (simp [go_sem, hP, hgl, hn]; done) | (simp [go_sem, hP, hgl, hn]; rfl)) (by simp [go_sem, hP, hgl, hn]) (by simp) ?_ hR.2 | refine W_endR hP hf hfn _ ([(b, [dint (u' : Int), dint (most : Int)])]) (by first | (simp [go_sem, hP, hgl, hn]; done) | (simp [go_sem, hP, hgl, hn]; rfl)) (by simp [go_sem, hP, hgl, hn]) (by simp) ?_ hR.2
    rw [hR.1]
    refine ⟨?_, by simp⟩
    try simp
    try all_goals (simp [Ty.dv, Ty.cells_eq, Ty.kind_mk, Ty.args_mk, Tm.dv, Tm.cells_eq, Tm.kind_mk, Tm.index_mk, Tm.type_mk, Tm.args_mk, Val.dv, Val.cells_eq, Val.kind_mk, Val.num_mk, Val.list_mk, Val.args_mk, ints])
end Go.Proofs.YtcldnfbcbkaanaaGreatDoor.Lift

/-
  Package machine: the walk of the parts of a node.
-/
namespace Go.Proofs.YtcldnfbcbkaanaaGreatDoor.Lift
set_option linter.unusedSimpArgs false
set_option linter.unusedVariables false
set_option linter.unnecessarySimpa false
open Go
variable {gl : Globs}

def at3 (l : List MV) (i : Nat) : DV := match l[i]? with
  | some v => v.thing
  | none => nilI
theorem at3_cell (l : List MV) (i : Nat) : (at3 l i).isCell = true := by unfold at3; split; exact thing_cell _; rfl
theorem cellsD_at3 (l : List MV) (i : Nat) : cellsD (at3 l i) = [at3 l i] := by unfold at3; split; exact cellsD_thing _; rfl
attribute [go_sem] at3_cell cellsD_at3
def arr3 (l : List MV) : List DV := [at3 l 0, at3 l 1, at3 l 2]
/-- the values before the work is out -/
def preC (ev : Evl) (most : Nat) (e : List MV) : Nat → List Tm → List MV
  | _, [] => []
  | u, t :: r => match ev t e with
    | none => []
    | some (v, c) => if u + c ≤ most then v :: preC ev most e (u + c) r else []
def outA (most n : Nat) (l : List MV) : DV := .tup [.agg (arr3 l), dbool (decide (n ≤ most))]
theorem preC_all {ev : Evl} {most : Nat} {e : List MV} : ∀ {l : List Tm} {u : Nat} {vs : List MV} {c : Nat}, allC ev l e = some (vs, c) → u + c ≤ most → preC ev most e u l = vs
  | [], u, vs, c, h, k => by simp only [allC, Option.some.injEq, Prod.mk.injEq] at h; rw [preC, h.1]
  | t :: r, u, vs, c, h, k => by
    simp only [allC] at h
    split at h
    · cases h
    · rename_i v c1 hv
      split at h
      · cases h
      · rename_i l c2 hl
        simp only [Option.some.injEq, Prod.mk.injEq] at h
        obtain ⟨rfl, rfl⟩ := h
        rw [preC, hv]
        simp only
        rw [if_pos (show u + c1 ≤ most by omega), preC_all hl (show u + c1 + c2 ≤ most by omega)]

theorem allM_ok {most : Nat} (hm : most ≤ 1073741824) {ev : Evl} (H : WalkM Tryz.prog gl 75 most ev) (hN : NleM most ev) {l : List Tm} {e vs : List MV} {u c : Nat} (b M : Nat)
    (h : allC ev l e = some (vs, c)) (h3 : l.length ≤ 3) (hu : u ≤ most) (hM : M + (most - u) ≤ 1073741824) (he : MV.nles M e) :
    Con1 Tryz.prog gl 144 [ptr b, .sl (l.map Tm.cells), MV.envM e] [(b, useM most u)] (outA most (u + c) (preC ev most e u l)) [(b, useM most (u + c))] := by
  refine t_in Tryz.func144 ?_
  intro X hP hgl hf hfn hn hR hids hfit
  have hu0 : useM most u = [dint (u : Int), dint (most : Int)] := by unfold useM; rw [if_pos hu]
  rw [hu0]
  have z0 : at3 [] 0 = nilI := rfl
  have z1 : at3 [] 1 = nilI := rfl
  have z2 : at3 [] 2 = nilI := rfl
  refine t_g0 ?_
  refine t_a ?_
  refine t_sub [] (j2 @z0 (j2 @z1 @z2)) (W_rounds (fun x : List MV × Nat × Nat => x.2.1 ≤ l.length ∧ x.2.2 ≤ most ∧ u ≤ x.2.2 ∧ x.1.length = x.2.1 ∧ MV.nles (M + (x.2.2 - u)) e ∧ ∃ c' vs', allC ev (l.drop x.2.1) e = some (vs', c') ∧ x.2.2 + c' = u + c ∧ x.1 ++ preC ev most e x.2.2 (l.drop x.2.1) = preC ev most e u l) (fun x : List MV × Nat × Nat => [(.slot 15, .one (.v (dint (x.2.1 : Int)))), (.slot 14, .one (.v (dint (l.length : Int)))), (.slot 13, .one (.v (.sl (l.map Tm.cells)))), (.slot 0, .one (.v (ptr b))), (.slot 2, .one (.v (MV.envM e))), (.slot 7, .one (.v (dbool false))), (.slot 6, .one (.loc 6 0)), (.slot 8, .one (.loc 8 0)), (.loc 6, .row ([.v nilI, .v nilI, .v nilI])), (.loc 8, .row ([.v (at3 x.1 0), .v (at3 x.1 1), .v (at3 x.1 2)])), (.heap  b, .row ([.v (dint (x.2.2 : Int)), .v (dint (most : Int))]))]) (fun x : List MV × Nat × Nat => l.length - x.2.1) (([] : List MV), 0, u) (⟨Nat.zero_le _, hu, Nat.le_refl u, rfl, by simpa using he, c, vs, by simpa using h, rfl, by simp⟩) ?_)
  rintro ⟨p, i, u'⟩ ⟨hi, hu', huu, hpl, hg, c', vs', hc, hcc, hpre⟩ ih
  simp only at hi hu' huu hpl hg hc hcc hpre
  by_cases hil : i < l.length
  · obtain ⟨t, ht⟩ : ∃ t, l[i]? = some t := ⟨l[i], List.getElem?_eq_getElem hil⟩
    have hd : l.drop i = t :: l.drop (i + 1) := by
      rw [List.drop_eq_getElem_cons hil]
      rw [List.getElem?_eq_getElem hil, Option.some.injEq] at ht
      rw [ht]
    rw [hd] at hc
    rw [hd] at hpre
    simp only [allC] at hc
    split at hc
    · cases hc
    rename_i v1 c1 hv1
    rw [preC, hv1] at hpre
    simp only at hpre
    split at hc
    · cases hc
    rename_i vs1 c2 hw
    simp only [Option.some.injEq, Prod.mk.injEq] at hc
    obtain ⟨rfl, rfl⟩ := hc
    have hgz : MV.nles (M + (u' - u)) e := hg
    have W1 := H b (M + (u' - u)) hv1 hu' (by omega) hg
    have hT := Tm.fold t
    have hu1 : useM most u' = [dint (u' : Int), dint (most : Int)] := by unfold useM; rw [if_pos hu']
    rw [hu1] at W1
    have hgi : (l.map Tm.cells)[i]? = some [dint t.kind, dint t.index, dint t.type.kind, .sl (t.type.args.map Ty.cells), .sl (t.args.map Tm.cells)] := by rw [List.getElem?_map, ht]; simp [Tm.cells_eq]
    have hne : l ≠ [] := by rintro rfl; simp at hil
    rcases (show i = 0 ∨ i = 1 ∨ i = 2 by omega) with rfl | rfl | rfl
    · refine t_rg0 ?_
      refine t_y (j2 @hne @hil) ?_
      refine t_rg (j2 @hgi @hT) ?_
      by_cases hfit1 : u' + c1 ≤ most
      · have o1 : outM most (u' + c1) v1.thing = .tup [v1.thing, dbool true] := by unfold outM; rw [if_pos hfit1]
        have o2 : useM most (u' + c1) = [dint ((u' + c1 : Nat) : Int), dint (most : Int)] := by unfold useM; rw [if_pos hfit1]
        rw [o1, o2] at W1
        refine t_c1 @hT W1 ?_
        refine t_rg0 ?_
        refine t_no ?_
        refine t_rg0 ?_
        refine t_rg0 ?_
        have a4 : u' + c1 + c2 = u + c := by omega
        have a6 : (p ++ [v1]).length = 0 + 1 := by simp [hpl]
        have a7 : at3 (p ++ [v1]) 0 = v1.thing := by simp [at3, hpl]
        have a8 : p ++ [v1] ++ preC ev most e (u' + c1) (l.drop (0 + 1)) = preC ev most e u l := by rw [List.append_assoc]; rw [← hpre, if_pos hfit1]; rfl
        have b1 : at3 (p ++ [v1]) 1 = at3 p 1 := by simp [at3, hpl, List.getElem?_append]
        have b2 : at3 (p ++ [v1]) 2 = at3 p 2 := by simp [at3, hpl, List.getElem?_append]
        have d1 : 0 + 1 ≤ l.length := by omega
        have d2 : u ≤ u' + c1 := by omega
        have d3 : M + (u' - u) ≤ M + (u' + c1 - u) := by omega
        have d5 : l.length - (0 + 1) < l.length - 0 := by omega
        refine t_b ?_
        refine t_sub [] (j2 @a7 (j2 @b1 @b2)) (ih (p ++ [v1], 0 + 1, u' + c1) ⟨d1, hfit1, d2, a6, MV.nles_mono d3 _ hgz, c2, vs1, hw, a4, a8⟩ d5)
      · have o1 : outM most (u' + c1) v1.thing = .tup [nilI, dbool false] := by unfold outM; rw [if_neg hfit1]
        have o2 : useM most (u' + c1) = [dint (most : Int), dint (most : Int)] := by unfold useM; rw [if_neg hfit1]
        have hbig : ¬ u + c ≤ most := by omega
        have o4 : useM most (u + c) = [dint (most : Int), dint (most : Int)] := by unfold useM; rw [if_neg hbig]
        have o5 : preC ev most e u l = p := by rw [← hpre, if_neg hfit1]; simp
        have o6 : decide (u + c ≤ most) = false := decide_eq_false hbig
        unfold outA at hR
        rw [o4, o5, o6] at hR
        rw [o1, o2] at W1
        refine t_c1 @hT W1 ?_
        refine t_rg0 ?_
        refine t_yes ?_
        refine t_rg0 ?_
        repeat (first | refine W_seq ?_ | refine W_skip ?_ | refine W_block ?_ | refine W_inBlock ?_ | refine W_label ?_ | refine W_exit rfl ?_)
        first | refine W_retR hP hf hfn _ ([(b, [dint (most : Int), dint (most : Int)])]) (by first | (simp [go_sem, hP, hgl, hn, arr3]; done) | (simp [go_sem, hP, hgl, hn, arr3]; rfl)) (by simp [go_sem, hP, hgl, hn, arr3]) (by simp) ?_ hR.2 | refine W_endR hP hf hfn _ ([(b, [dint (most : Int), dint (most : Int)])]) (by first | (simp [go_sem, hP, hgl, hn, arr3]; done) | (simp [go_sem, hP, hgl, hn, arr3]; rfl)) (by simp [go_sem, hP, hgl, hn, arr3]) (by simp) ?_ hR.2
        rw [hR.1]
        refine ⟨?_, by simp [arr3]⟩
        try simp [arr3]
        try all_goals (simp [Ty.dv, Ty.cells_eq, Ty.kind_mk, Ty.args_mk, Tm.dv, Tm.cells_eq, Tm.kind_mk, Tm.index_mk, Tm.type_mk, Tm.args_mk, Val.dv, Val.cells_eq, Val.kind_mk, Val.num_mk, Val.list_mk, Val.args_mk, ints])
    · refine t_rg0 ?_
      refine t_y (j2 @hne @hil) ?_
      refine t_rg (j2 @hgi @hT) ?_
      by_cases hfit1 : u' + c1 ≤ most
      · have o1 : outM most (u' + c1) v1.thing = .tup [v1.thing, dbool true] := by unfold outM; rw [if_pos hfit1]
        have o2 : useM most (u' + c1) = [dint ((u' + c1 : Nat) : Int), dint (most : Int)] := by unfold useM; rw [if_pos hfit1]
        rw [o1, o2] at W1
        refine t_c1 @hT W1 ?_
        refine t_rg0 ?_
        refine t_no ?_
        refine t_rg0 ?_
        refine t_rg0 ?_
        have a4 : u' + c1 + c2 = u + c := by omega
        have a6 : (p ++ [v1]).length = 1 + 1 := by simp [hpl]
        have a7 : at3 (p ++ [v1]) 1 = v1.thing := by simp [at3, hpl]
        have a8 : p ++ [v1] ++ preC ev most e (u' + c1) (l.drop (1 + 1)) = preC ev most e u l := by rw [List.append_assoc]; rw [← hpre, if_pos hfit1]; rfl
        have b0 : at3 (p ++ [v1]) 0 = at3 p 0 := by simp [at3, hpl, List.getElem?_append]
        have b2 : at3 (p ++ [v1]) 2 = at3 p 2 := by simp [at3, hpl, List.getElem?_append]
        have d1 : 1 + 1 ≤ l.length := by omega
        have d2 : u ≤ u' + c1 := by omega
        have d3 : M + (u' - u) ≤ M + (u' + c1 - u) := by omega
        have d5 : l.length - (1 + 1) < l.length - 1 := by omega
        refine t_b ?_
        refine t_sub [] (j2 @a7 (j2 @b0 @b2)) (ih (p ++ [v1], 1 + 1, u' + c1) ⟨d1, hfit1, d2, a6, MV.nles_mono d3 _ hgz, c2, vs1, hw, a4, a8⟩ d5)
      · have o1 : outM most (u' + c1) v1.thing = .tup [nilI, dbool false] := by unfold outM; rw [if_neg hfit1]
        have o2 : useM most (u' + c1) = [dint (most : Int), dint (most : Int)] := by unfold useM; rw [if_neg hfit1]
        have hbig : ¬ u + c ≤ most := by omega
        have o4 : useM most (u + c) = [dint (most : Int), dint (most : Int)] := by unfold useM; rw [if_neg hbig]
        have o5 : preC ev most e u l = p := by rw [← hpre, if_neg hfit1]; simp
        have o6 : decide (u + c ≤ most) = false := decide_eq_false hbig
        unfold outA at hR
        rw [o4, o5, o6] at hR
        rw [o1, o2] at W1
        refine t_c1 @hT W1 ?_
        refine t_rg0 ?_
        refine t_yes ?_
        refine t_rg0 ?_
        repeat (first | refine W_seq ?_ | refine W_skip ?_ | refine W_block ?_ | refine W_inBlock ?_ | refine W_label ?_ | refine W_exit rfl ?_)
        first | refine W_retR hP hf hfn _ ([(b, [dint (most : Int), dint (most : Int)])]) (by first | (simp [go_sem, hP, hgl, hn, arr3]; done) | (simp [go_sem, hP, hgl, hn, arr3]; rfl)) (by simp [go_sem, hP, hgl, hn, arr3]) (by simp) ?_ hR.2 | refine W_endR hP hf hfn _ ([(b, [dint (most : Int), dint (most : Int)])]) (by first | (simp [go_sem, hP, hgl, hn, arr3]; done) | (simp [go_sem, hP, hgl, hn, arr3]; rfl)) (by simp [go_sem, hP, hgl, hn, arr3]) (by simp) ?_ hR.2
        rw [hR.1]
        refine ⟨?_, by simp [arr3]⟩
        try simp [arr3]
        try all_goals (simp [Ty.dv, Ty.cells_eq, Ty.kind_mk, Ty.args_mk, Tm.dv, Tm.cells_eq, Tm.kind_mk, Tm.index_mk, Tm.type_mk, Tm.args_mk, Val.dv, Val.cells_eq, Val.kind_mk, Val.num_mk, Val.list_mk, Val.args_mk, ints])
    · refine t_rg0 ?_
      refine t_y (j2 @hne @hil) ?_
      refine t_rg (j2 @hgi @hT) ?_
      by_cases hfit1 : u' + c1 ≤ most
      · have o1 : outM most (u' + c1) v1.thing = .tup [v1.thing, dbool true] := by unfold outM; rw [if_pos hfit1]
        have o2 : useM most (u' + c1) = [dint ((u' + c1 : Nat) : Int), dint (most : Int)] := by unfold useM; rw [if_pos hfit1]
        rw [o1, o2] at W1
        refine t_c1 @hT W1 ?_
        refine t_rg0 ?_
        refine t_no ?_
        refine t_rg0 ?_
        refine t_rg0 ?_
        have a4 : u' + c1 + c2 = u + c := by omega
        have a6 : (p ++ [v1]).length = 2 + 1 := by simp [hpl]
        have a7 : at3 (p ++ [v1]) 2 = v1.thing := by simp [at3, hpl]
        have a8 : p ++ [v1] ++ preC ev most e (u' + c1) (l.drop (2 + 1)) = preC ev most e u l := by rw [List.append_assoc]; rw [← hpre, if_pos hfit1]; rfl
        have b0 : at3 (p ++ [v1]) 0 = at3 p 0 := by simp [at3, hpl, List.getElem?_append]
        have b1 : at3 (p ++ [v1]) 1 = at3 p 1 := by simp [at3, hpl, List.getElem?_append]
        have d1 : 2 + 1 ≤ l.length := by omega
        have d2 : u ≤ u' + c1 := by omega
        have d3 : M + (u' - u) ≤ M + (u' + c1 - u) := by omega
        have d5 : l.length - (2 + 1) < l.length - 2 := by omega
        refine t_b ?_
        refine t_sub [] (j2 @a7 (j2 @b0 @b1)) (ih (p ++ [v1], 2 + 1, u' + c1) ⟨d1, hfit1, d2, a6, MV.nles_mono d3 _ hgz, c2, vs1, hw, a4, a8⟩ d5)
      · have o1 : outM most (u' + c1) v1.thing = .tup [nilI, dbool false] := by unfold outM; rw [if_neg hfit1]
        have o2 : useM most (u' + c1) = [dint (most : Int), dint (most : Int)] := by unfold useM; rw [if_neg hfit1]
        have hbig : ¬ u + c ≤ most := by omega
        have o4 : useM most (u + c) = [dint (most : Int), dint (most : Int)] := by unfold useM; rw [if_neg hbig]
        have o5 : preC ev most e u l = p := by rw [← hpre, if_neg hfit1]; simp
        have o6 : decide (u + c ≤ most) = false := decide_eq_false hbig
        unfold outA at hR
        rw [o4, o5, o6] at hR
        rw [o1, o2] at W1
        refine t_c1 @hT W1 ?_
        refine t_rg0 ?_
        refine t_yes ?_
        refine t_rg0 ?_
        repeat (first | refine W_seq ?_ | refine W_skip ?_ | refine W_block ?_ | refine W_inBlock ?_ | refine W_label ?_ | refine W_exit rfl ?_)
        first | refine W_retR hP hf hfn _ ([(b, [dint (most : Int), dint (most : Int)])]) (by first | (simp [go_sem, hP, hgl, hn, arr3]; done) | (simp [go_sem, hP, hgl, hn, arr3]; rfl)) (by simp [go_sem, hP, hgl, hn, arr3]) (by simp) ?_ hR.2 | refine W_endR hP hf hfn _ ([(b, [dint (most : Int), dint (most : Int)])]) (by first | (simp [go_sem, hP, hgl, hn, arr3]; done) | (simp [go_sem, hP, hgl, hn, arr3]; rfl)) (by simp [go_sem, hP, hgl, hn, arr3]) (by simp) ?_ hR.2
        rw [hR.1]
        refine ⟨?_, by simp [arr3]⟩
        try simp [arr3]
        try all_goals (simp [Ty.dv, Ty.cells_eq, Ty.kind_mk, Ty.args_mk, Tm.dv, Tm.cells_eq, Tm.kind_mk, Tm.index_mk, Tm.type_mk, Tm.args_mk, Val.dv, Val.cells_eq, Val.kind_mk, Val.num_mk, Val.list_mk, Val.args_mk, ints])
  · have hd : l.drop i = [] := List.drop_eq_nil_iff.2 (by omega)
    have hii : i = l.length := by omega
    subst hii
    rw [hd] at hc hpre
    simp only [allC, Option.some.injEq, Prod.mk.injEq] at hc
    obtain ⟨rfl, rfl⟩ := hc
    simp only [preC, List.append_nil] at hpre
    have hsm : u + c ≤ most := by omega
    have o4 : useM most (u + c) = [dint (u' : Int), dint (most : Int)] := by unfold useM; rw [if_pos hsm]; rw [← hcc]; simp
    have o6 : decide (u + c ≤ most) = true := decide_eq_true hsm
    unfold outA at hR
    rw [← hpre, o4, o6] at hR
    refine t_rg0 ?_
    refine t_no ?_
    refine t_rg0 ?_
    repeat (first | refine W_seq ?_ | refine W_skip ?_ | refine W_block ?_ | refine W_inBlock ?_ | refine W_label ?_ | refine W_exit rfl ?_)
    first | refine W_retR hP hf hfn _ ([(b, [dint (u' : Int), dint (most : Int)])]) (by first | (simp [go_sem, hP, hgl, hn, arr3]; done) | (simp [go_sem, hP, hgl, hn, arr3]; rfl)) (by simp [go_sem, hP, hgl, hn, arr3]) (by simp) ?_ hR.2 | refine W_endR hP hf hfn _ ([(b, [dint (u' : Int), dint (most : Int)])]) (by first | (simp [go_sem, hP, hgl, hn, arr3]; done) | (simp [go_sem, hP, hgl, hn, arr3]; rfl)) (by simp [go_sem, hP, hgl, hn, arr3]) (by simp) ?_ hR.2
    rw [hR.1]
    refine ⟨?_, by simp [arr3]⟩
    try simp [arr3]
    try all_goals (simp [Ty.dv, Ty.cells_eq, Ty.kind_mk, Ty.args_mk, Tm.dv, Tm.cells_eq, Tm.kind_mk, Tm.index_mk, Tm.type_mk, Tm.args_mk, Val.dv, Val.cells_eq, Val.kind_mk, Val.num_mk, Val.list_mk, Val.args_mk, ints])
end Go.Proofs.YtcldnfbcbkaanaaGreatDoor.Lift

/-
  Package machine: the walk of the rounds of a recursion.
-/
namespace Go.Proofs.YtcldnfbcbkaanaaGreatDoor.Lift
set_option linter.unusedSimpArgs false
set_option linter.unusedVariables false
set_option linter.unnecessarySimpa false
open Go
variable {gl : Globs}

theorem thing_num (n : Nat) : (MV.num n).thing = .iface 3 (dint (n : Int)) := by rw [MV.thing]

theorem recM_ok {most : Nat} (hm : most ≤ 1073741824) {ev : Evl} (H : WalkM Tryz.prog gl 75 most ev) (hN : NleM most ev) (hNc : ∀ {f v : MV} {l : List MV} {c M : Nat}, callC ev f l = some (v, c) → f.nle M → MV.nles M l → v.nle (M + c)) {r f v : MV} {n u c : Nat} (b M : Nat)
    (h : recC ev f n 0 r = some (v, c)) (hu : u ≤ most) (hM : M + (most - u) ≤ 1073741824) (hr0 : r.nle M) (hf0 : f.nle M) (hn0 : n ≤ M) :
    Con1 Tryz.prog gl 145 [ptr b, .agg (arr3 [r, f, .num n])] [(b, useM most u)] (outM most (u + c) v.thing) [(b, useM most (u + c))] := by
  have z0 : at3 [r, f, .num n] 0 = r.thing := rfl
  have z1 : at3 [r, f, .num n] 1 = f.thing := rfl
  have z2 : at3 [r, f, .num n] 2 = .iface 3 (dint (n : Int)) := thing_num n
  have hu0 : useM most u = [dint (u : Int), dint (most : Int)] := by unfold useM; rw [if_pos hu]
  unfold arr3
  rw [z0, z1, z2, hu0]
  refine t_in Tryz.func145 ?_
  intro X hP hgl hf hfn hn hR hids hfit
  refine t_g0 ?_
  refine t_a ?_
  refine t_sub [] trivial (W_rounds (fun x : DV × Bool × Nat × Nat => x.1.isCell = true ∧ cellsD x.1 = [x.1] ∧ (x.2.1 = true → x.2.2.1 ≤ n ∧ x.2.2.2 ≤ most ∧ u ≤ x.2.2.2 ∧ ∃ (q : MV) (c' : Nat), x.1 = q.thing ∧ q.nle (M + (x.2.2.2 - u)) ∧ recC ev f (n - x.2.2.1) x.2.2.1 q = some (v, c') ∧ x.2.2.2 + c' = u + c) ∧ (x.2.1 = false → x.1 = nilI ∧ x.2.2.2 = most ∧ ¬ u + c ≤ most ∧ x.2.2.1 ≤ n + 1)) (fun x : DV × Bool × Nat × Nat => [(.slot 6, .one (.v x.1)), (.slot 7, .one (.v (dbool x.2.1))), (.slot 8, .one (.v (dint (x.2.2.1 : Int)))), (.slot 0, .one (.v (ptr b))), (.slot 4, .one (.v nilI)), (.slot 5, .one (.v (dbool false))), (.slot 3, .one (.loc 3 0)), (.loc 3, .row ([.v r.thing, .v f.thing, .v (.iface 3 (dint (n : Int)))])), (.heap  b, .row ([.v (dint (x.2.2.2 : Int)), .v (dint (most : Int))]))]) (fun x : DV × Bool × Nat × Nat => (if x.2.1 then n - x.2.2.1 + 1 else 0)) (r.thing, true, 0, u) (⟨thing_cell r, cellsD_thing r, fun _ => ⟨Nat.zero_le _, hu, Nat.le_refl u, r, c, rfl, by simpa using hr0, by simpa using h, rfl⟩, fun e => by cases e⟩) ?_)
  rintro ⟨y, ok, k, u'⟩ ⟨hy1, hy2, hy3, hy4⟩ ih
  simp only at hy1 hy2 hy3 hy4
  cases ok with
  | false =>
    obtain ⟨rfl, rfl, hbig, hk⟩ := hy4 rfl
    have o3 : outM u' (u + c) v.thing = .tup [nilI, dbool false] := by unfold outM; rw [if_neg hbig]
    have o4 : useM u' (u + c) = [dint (u' : Int), dint (u' : Int)] := by unfold useM; rw [if_neg hbig]
    rw [o3, o4] at hR
    refine t_rg0 ?_
    refine t_no ?_
    refine t_rg0 ?_
    repeat (first | refine W_seq ?_ | refine W_skip ?_ | refine W_block ?_ | refine W_inBlock ?_ | refine W_label ?_ | refine W_exit rfl ?_)
    first | refine W_retR hP hf hfn _ ([(b, [dint (u' : Int), dint (u' : Int)])]) (by first | (simp [go_sem, hP, hgl, hn]; done) | (simp [go_sem, hP, hgl, hn]; rfl)) (by simp [go_sem, hP, hgl, hn]) (by simp) ?_ hR.2 | refine W_endR hP hf hfn _ ([(b, [dint (u' : Int), dint (u' : Int)])]) (by first | (simp [go_sem, hP, hgl, hn]; done) | (simp [go_sem, hP, hgl, hn]; rfl)) (by simp [go_sem, hP, hgl, hn]) (by simp) ?_ hR.2
    rw [hR.1]
    refine ⟨?_, by simp⟩
    try simp
    try all_goals (simp [Ty.dv, Ty.cells_eq, Ty.kind_mk, Ty.args_mk, Tm.dv, Tm.cells_eq, Tm.kind_mk, Tm.index_mk, Tm.type_mk, Tm.args_mk, Val.dv, Val.cells_eq, Val.kind_mk, Val.num_mk, Val.list_mk, Val.args_mk, ints])
  | true =>
    obtain ⟨hk, hu', huu, q, c', rfl, hq, hc, hcc⟩ := hy3 rfl
    have hn1 : (n : Int) ≤ 1073741824 := by omega
    by_cases hkn : k < n
    · have e1 : n - k = (n - (k + 1)) + 1 := by omega
      rw [e1, recC] at hc
      split at hc
      · cases hc
      rename_i v1 c1 hv1
      split at hc
      · cases hc
      rename_i w c2 hw
      simp only [Option.some.injEq, Prod.mk.injEq] at hc
      obtain ⟨rfl, rfl⟩ := hc
      have hfg : f.nle (M + (u' - u)) := MV.nle_mono (by omega) _ hf0
      have hlg : MV.nles (M + (u' - u)) [.num k, q] := by simp only [MV.nles, MV.nle]; exact ⟨by omega, hq, trivial⟩
      have W1 := callM_ok hm H hN b (M + (u' - u)) hv1 hu' (by omega) hfg hlg
      have hN1 := hNc hv1 hfg hlg
      have hu1 : useM most u' = [dint (u' : Int), dint (most : Int)] := by unfold useM; rw [if_pos hu']
      have hkn' : (k : Int) < (n : Int) := by omega
      rw [hu1] at W1
      simp only [List.map, thing_num] at W1
      refine t_rg0 ?_
      refine t_yes ?_
      by_cases hfit1 : u' + c1 ≤ most
      · have o1 : outM most (u' + c1) v1.thing = .tup [v1.thing, dbool true] := by unfold outM; rw [if_pos hfit1]
        have o2 : useM most (u' + c1) = [dint ((u' + c1 : Nat) : Int), dint (most : Int)] := by unfold useM; rw [if_pos hfit1]
        rw [o1, o2] at W1
        refine t_c1 trivial W1 ?_
        refine t_rg0 ?_
        have d1 : k + 1 ≤ n := by omega
        have d2 : u ≤ u' + c1 := by omega
        have d3 : M + (u' - u) + c1 ≤ M + (u' + c1 - u) := by omega
        have d4 : u' + c1 + c2 = u + c := by omega
        have d5 : n - (k + 1) + 1 < n - k + 1 := by omega
        refine t_b ?_
        refine t_sub [] trivial (ih (v1.thing, true, k + 1, u' + c1) ⟨thing_cell v1, cellsD_thing v1, fun _ => ⟨d1, hfit1, d2, v1, c2, rfl, MV.nle_mono d3 _ hN1, hw, d4⟩, fun e => by cases e⟩ d5)
      · have o1 : outM most (u' + c1) v1.thing = .tup [nilI, dbool false] := by unfold outM; rw [if_neg hfit1]
        have o2 : useM most (u' + c1) = [dint (most : Int), dint (most : Int)] := by unfold useM; rw [if_neg hfit1]
        have hbig : ¬ u + c ≤ most := by omega
        have d1 : k + 1 ≤ n + 1 := by omega
        have d5 : 0 < n - k + 1 := by omega
        rw [o1, o2] at W1
        refine t_c1 trivial W1 ?_
        refine t_rg0 ?_
        refine t_b ?_
        refine t_sub [] trivial (ih (nilI, false, k + 1, most) ⟨rfl, rfl, fun e => (by cases e), fun _ => ⟨rfl, rfl, hbig, d1⟩⟩ d5)
    · have e0 : n - k = 0 := by omega
      rw [e0, recC] at hc
      simp only [Option.some.injEq, Prod.mk.injEq] at hc
      obtain ⟨rfl, rfl⟩ := hc
      have hkn' : (n : Int) ≤ (k : Int) := by omega
      have hsm : u + c ≤ most := by omega
      have o3 : outM most (u + c) q.thing = .tup [q.thing, dbool true] := by unfold outM; rw [if_pos hsm]
      have o4 : useM most (u + c) = [dint (u' : Int), dint (most : Int)] := by unfold useM; rw [if_pos hsm]; rw [← hcc]; simp
      rw [o3, o4] at hR
      refine t_rg0 ?_
      refine t_no ?_
      refine t_rg0 ?_
      repeat (first | refine W_seq ?_ | refine W_skip ?_ | refine W_block ?_ | refine W_inBlock ?_ | refine W_label ?_ | refine W_exit rfl ?_)
      first | refine W_retR hP hf hfn _ ([(b, [dint (u' : Int), dint (most : Int)])]) (by first | (simp [go_sem, hP, hgl, hn]; done) | (simp [go_sem, hP, hgl, hn]; rfl)) (by simp [go_sem, hP, hgl, hn]) (by simp) ?_ hR.2 | refine W_endR hP hf hfn _ ([(b, [dint (u' : Int), dint (most : Int)])]) (by first | (simp [go_sem, hP, hgl, hn]; done) | (simp [go_sem, hP, hgl, hn]; rfl)) (by simp [go_sem, hP, hgl, hn]) (by simp) ?_ hR.2
      rw [hR.1]
      refine ⟨?_, by simp⟩
      try simp
      try all_goals (simp [Ty.dv, Ty.cells_eq, Ty.kind_mk, Ty.args_mk, Tm.dv, Tm.cells_eq, Tm.kind_mk, Tm.index_mk, Tm.type_mk, Tm.args_mk, Val.dv, Val.cells_eq, Val.kind_mk, Val.num_mk, Val.list_mk, Val.args_mk, ints])
end Go.Proofs.YtcldnfbcbkaanaaGreatDoor.Lift

/-
  Plain law: how large the numbers of a run get; more depth changes nothing.
-/
namespace Go.Proofs.YtcldnfbcbkaanaaGreatDoor.Lift
set_option linter.unusedSimpArgs false
set_option linter.unusedVariables false
set_option linter.unnecessarySimpa false
open Go

theorem nle_call {most : Nat} {ev : Evl} (hN : NleM most ev) : ∀ {l : List MV} {f v : MV} {c M : Nat}, callC ev f l = some (v, c) → f.nle M → MV.nles M l → v.nle (M + c)
  | [], f, v, c, M, h, hf, hl => by
    have : callC ev f [] = some (f, 0) := by cases f <;> rfl
    rw [this] at h
    simp only [Option.some.injEq, Prod.mk.injEq] at h
    obtain ⟨rfl, rfl⟩ := h
    exact hf
  | a :: l, f, v, c, M, h, hf, hl => by
    cases f with
    | num n => cases h
    | list q => cases h
    | both p q => cases h
    | unit => cases h
    | clo body e =>
      simp only [callC] at h
      split at h
      · cases h
      rename_i v1 c1 hv1
      split at h
      · cases h
      rename_i w c2 hw
      simp only [Option.some.injEq, Prod.mk.injEq] at h
      obtain ⟨rfl, rfl⟩ := h
      simp only [MV.nle] at hf
      simp only [MV.nles] at hl
      have k := hN M hv1 (by simp only [MV.nles]; exact ⟨hl.1, hf⟩)
      have := nle_call hN hw k (MV.nles_mono (by omega) _ hl.2)
      rw [Nat.add_assoc] at this
      exact this
theorem nle_rec {most : Nat} {ev : Evl} (hN : NleM most ev) {f : MV} : ∀ {n k : Nat} {r v : MV} {c M : Nat}, recC ev f n k r = some (v, c) → f.nle M → r.nle M → k + n ≤ M → v.nle (M + c)
  | 0, k, r, v, c, M, h, hf, hr, hk => by
    simp only [recC, Option.some.injEq, Prod.mk.injEq] at h
    obtain ⟨rfl, rfl⟩ := h
    exact hr
  | n + 1, k, r, v, c, M, h, hf, hr, hk => by
    simp only [recC] at h
    split at h
    · cases h
    rename_i v1 c1 hv1
    split at h
    · cases h
    rename_i w c2 hw
    simp only [Option.some.injEq, Prod.mk.injEq] at h
    obtain ⟨rfl, rfl⟩ := h
    have k1 := nle_call hN hv1 hf (by simp only [MV.nles, MV.nle]; exact ⟨by omega, hr, trivial⟩)
    have := nle_rec hN hw (MV.nle_mono (by omega) _ hf) k1 (by omega)
    rw [Nat.add_assoc] at this
    exact this
theorem nle_fold {most : Nat} {ev : Evl} (hN : NleM most ev) {f r : MV} : ∀ {l : List Nat} {v : MV} {c M : Nat}, foldC ev f r l = some (v, c) → f.nle M → r.nle M → (l.length ≤ M ∧ ∀ n ∈ l, n ≤ M) → v.nle (M + c)
  | [], v, c, M, h, hf, hr, hl => by
    simp only [foldC, Option.some.injEq, Prod.mk.injEq] at h
    obtain ⟨rfl, rfl⟩ := h
    exact hr
  | x :: l, v, c, M, h, hf, hr, hl => by
    simp only [foldC] at h
    split at h
    · cases h
    rename_i v1 c1 hv1
    split at h
    · cases h
    rename_i w c2 hw
    simp only [Option.some.injEq, Prod.mk.injEq] at h
    obtain ⟨rfl, rfl⟩ := h
    have hl1 : l.length + 1 ≤ M := by simpa using hl.1
    have k1 := nle_fold hN hv1 hf hr ⟨by omega, fun n hn => hl.2 n (List.mem_cons_of_mem _ hn)⟩
    have hx : x ≤ M := hl.2 x (by simp)
    have k2 := nle_call hN hw (MV.nle_mono (show M ≤ M + c1 by omega) _ hf) (by
      simp only [MV.nles, MV.nle]
      exact ⟨by omega, ⟨by omega, fun n hn => Nat.le_trans (hl.2 n (List.mem_cons_of_mem _ hn)) (by omega)⟩, k1, trivial⟩)
    rw [Nat.add_assoc] at k2
    exact k2
theorem nle_all {most : Nat} {ev : Evl} (hN : NleM most ev) {e : List MV} : ∀ {l : List Tm} {vs : List MV} {c M : Nat}, allC ev l e = some (vs, c) → MV.nles M e → MV.nles (M + c) vs
  | [], vs, c, M, h, he => by
    simp only [allC, Option.some.injEq, Prod.mk.injEq] at h
    obtain ⟨rfl, rfl⟩ := h
    simp only [MV.nles]
  | t :: l, vs, c, M, h, he => by
    simp only [allC] at h
    split at h
    · cases h
    rename_i v1 c1 hv1
    split at h
    · cases h
    rename_i w c2 hw
    simp only [Option.some.injEq, Prod.mk.injEq] at h
    obtain ⟨rfl, rfl⟩ := h
    simp only [MV.nles]
    exact ⟨MV.nle_mono (by omega) _ (hN M hv1 he), MV.nles_mono (by omega) _ (nle_all hN hw he)⟩
theorem nle_node {most : Nat} {ev : Evl} (hN : NleM most ev) {k : Int} {l : List MV} {v : MV} {c M : Nat} (h : nodeC ev k l = some (v, c)) (hl : MV.nles M l) : v.nle (M + 1 + c) := by
  unfold nodeC at h
  repeat' split at h
  all_goals first
    | (cases h; done)
    | skip
  all_goals try simp only [MV.nles, MV.nle] at hl
  · exact nle_call hN h (MV.nle_mono (by omega) _ hl.1) (by simp only [MV.nles]; exact ⟨MV.nle_mono (by omega) _ hl.2.1, trivial⟩)
  · simp only [Option.some.injEq, Prod.mk.injEq] at h
    obtain ⟨rfl, rfl⟩ := h
    simp only [MV.nle]; omega
  · simp only [Option.some.injEq, Prod.mk.injEq] at h
    obtain ⟨rfl, rfl⟩ := h
    simp only [MV.nle]; omega
  · exact nle_rec hN h (MV.nle_mono (by omega) _ hl.2.1) (MV.nle_mono (by omega) _ hl.1) (by omega)
  · simp only [Option.some.injEq, Prod.mk.injEq] at h
    obtain ⟨rfl, rfl⟩ := h
    simp only [MV.nle]; simp
  · simp only [Option.some.injEq, Prod.mk.injEq] at h
    obtain ⟨rfl, rfl⟩ := h
    simp only [MV.nle, List.mem_cons, List.length_cons]
    refine ⟨by omega, ?_⟩
    rintro n (rfl | hn)
    · omega
    · exact Nat.le_trans (hl.2.1.2 n hn) (by omega)
  · exact nle_fold hN h (MV.nle_mono (by omega) _ hl.2.1) (MV.nle_mono (by omega) _ hl.1) ⟨by omega, fun n hn => Nat.le_trans (hl.2.2.1.2 n hn) (by omega)⟩
  · simp only [Option.some.injEq, Prod.mk.injEq] at h
    obtain ⟨rfl, rfl⟩ := h
    simp only [MV.nle]
    exact ⟨MV.nle_mono (by omega) _ hl.1, MV.nle_mono (by omega) _ hl.2.1⟩
  · simp only [Option.some.injEq, Prod.mk.injEq] at h
    obtain ⟨rfl, rfl⟩ := h
    exact MV.nle_mono (by omega) _ hl.1.1
  · simp only [Option.some.injEq, Prod.mk.injEq] at h
    obtain ⟨rfl, rfl⟩ := h
    exact MV.nle_mono (by omega) _ hl.1.2
  · simp only [Option.some.injEq, Prod.mk.injEq] at h
    obtain ⟨rfl, rfl⟩ := h
    simp only [MV.nle]
theorem nle_evS (most : Nat) : ∀ d, NleM most (evS d)
  | 0, t, e, v, c, M, h, he => by cases h
  | d + 1, t, e, v, c, M, h, he => by
    have hN := nle_evS most d
    rw [evS] at h
    split at h
    · split at h
      · rename_i hi
        simp only [Option.some.injEq, Prod.mk.injEq] at h
        obtain ⟨rfl, rfl⟩ := h
        have hg : e[t.index.toNat]? = some (e.getD t.index.toNat .unit) := by simp [List.getD, List.getElem?_eq_getElem hi.2]
        exact MV.nle_mono (by omega) _ (nles_get he hg)
      · cases h
    split at h
    · split at h
      · cases h
      · simp only [Option.some.injEq, Prod.mk.injEq] at h
        obtain ⟨rfl, rfl⟩ := h
        simp only [MV.nle]
        exact MV.nles_mono (by omega) _ he
    split at h
    · cases h
    split at h
    · cases h
    rename_i l c1 hl
    split at h
    · cases h
    rename_i w c2 hw
    simp only [Option.some.injEq, Prod.mk.injEq] at h
    obtain ⟨rfl, rfl⟩ := h
    unfold nodeS at hw
    split at hw
    · have := nle_node hN hw (nle_all hN hl he)
      exact MV.nle_mono (by omega) _ this
    · cases hw
end Go.Proofs.YtcldnfbcbkaanaaGreatDoor.Lift

/-
  Package machine: the walk of eval.
-/
namespace Go.Proofs.YtcldnfbcbkaanaaGreatDoor.Lift
set_option linter.unusedSimpArgs false
set_option linter.unusedVariables false
set_option linter.unnecessarySimpa false
open Go
variable {gl : Globs}

theorem evS_pos : ∀ {d : Nat} {t : Tm} {e : List MV} {v : MV} {c : Nat}, evS d t e = some (v, c) → 1 ≤ c
  | 0, t, e, v, c, h => by cases h
  | d + 1, t, e, v, c, h => by
    rw [evS] at h
    repeat' split at h
    all_goals first
      | (cases h; done)
      | (simp only [Option.some.injEq, Prod.mk.injEq] at h; omega)
theorem blC_nil0 : blC [] (some []) = some (True, .ag [] []) := rfl
attribute [go_sem] blC_nil0
theorem thing_list (l : List Nat) : (MV.list l).thing = .iface 176 (cellM l) := by rw [MV.thing]
theorem thing_both (x y : MV) : (MV.both x y).thing = .iface 182 (.ref [x.thing, y.thing]) := by rw [MV.thing]
theorem thing_unit : MV.unit.thing = .iface 186 (.agg []) := by rw [MV.thing]
theorem cellM_nil : cellM [] = nilP := rfl
theorem cellM_cons (n : Nat) (l : List Nat) : cellM (n :: l) = .ref [dint (n : Int), cellM l] := rfl
theorem outM_yes {most n : Nat} (h : n ≤ most) (v : DV) : outM most n v = .tup [v, dbool true] := by unfold outM; rw [if_pos h]
theorem outM_no {most n : Nat} (h : ¬ n ≤ most) (v : DV) : outM most n v = .tup [nilI, dbool false] := by unfold outM; rw [if_neg h]
theorem useM_yes {most n : Nat} (h : n ≤ most) : useM most n = [dint (n : Int), dint (most : Int)] := by unfold useM; rw [if_pos h]
theorem useM_no {most n : Nat} (h : ¬ n ≤ most) : useM most n = [dint (most : Int), dint (most : Int)] := by unfold useM; rw [if_neg h]

def FoldM (P : Program) (gl : Globs) (ff : FuncId) (most : Nat) (ev : Evl) : Prop :=
  ∀ ⦃r f v : MV⦄ ⦃l : List Nat⦄ ⦃u c : Nat⦄ (b M : Nat), foldC ev f r l = some (v, c) → u ≤ most → M + (most - u) ≤ 1073741824 → r.nle M → f.nle M → (l.length ≤ M ∧ ∀ n ∈ l, n ≤ M) →
    Con1 P gl ff [ptr b, .agg (arr3 [r, f, .list l])] [(b, useM most u)] (outM most (u + c) v.thing) [(b, useM most (u + c))]

/-- the first unit is spent; a variable, a function -/
theorem evalM_1 {most : Nat} (hm : most ≤ 1073741824) (t : Tm) {e : List MV} {u : Nat} (b : Nat) (hu : u ≤ most) (h1 : t.kind = 1) (hi : 0 ≤ t.index ∧ t.index.toNat < e.length) :
    Con1 Tryz.prog gl 75 [ptr b, t.dv, MV.envM e] [(b, useM most u)] (outM most (u + 1) (e.getD t.index.toNat .unit).thing) [(b, useM most (u + 1))] := by
  rw [useM_yes hu]
  have hti : (t.index.toNat : Int) = t.index := Int.toNat_of_nonneg hi.1
  have W1 := env_at_ok (gl := gl) e t.index.toNat hi.2
  rw [hti] at W1
  by_cases hf1 : u + 1 ≤ most
  · rw [useM_yes hf1, outM_yes hf1]
    have hum : ¬ (most : Int) ≤ (u : Int) := by omega
    refine t_in Tryz.func75 ?_
    intro X hP hgl hf hfn hn hR hids hfit
    refine t_g (j2 @hum @h1) ?_
    refine t_c1 trivial W1 ?_
    repeat (first | refine W_seq ?_ | refine W_skip ?_ | refine W_block ?_ | refine W_inBlock ?_ | refine W_label ?_ | refine W_exit rfl ?_)
    first | refine W_retR hP hf hfn _ ([(b, [dint ((u + 1 : Nat) : Int), dint (most : Int)])]) (by first | (simp [go_sem, hP, hgl, hn]; done) | (simp [go_sem, hP, hgl, hn]; rfl)) (by simp [go_sem, hP, hgl, hn]) (by simp) ?_ hR.2 | refine W_endR hP hf hfn _ ([(b, [dint ((u + 1 : Nat) : Int), dint (most : Int)])]) (by first | (simp [go_sem, hP, hgl, hn]; done) | (simp [go_sem, hP, hgl, hn]; rfl)) (by simp [go_sem, hP, hgl, hn]) (by simp) ?_ hR.2
    rw [hR.1]
    refine ⟨?_, by simp⟩
    try simp
    try all_goals (simp [Ty.dv, Ty.cells_eq, Ty.kind_mk, Ty.args_mk, Tm.dv, Tm.cells_eq, Tm.kind_mk, Tm.index_mk, Tm.type_mk, Tm.args_mk, Val.dv, Val.cells_eq, Val.kind_mk, Val.num_mk, Val.list_mk, Val.args_mk, ints])
  · rw [useM_no hf1, outM_no hf1]
    have hum : (most : Int) ≤ (u : Int) := by omega
    have hue : (u : Int) = (most : Int) := by omega
    refine t_in Tryz.func75 ?_
    intro X hP hgl hf hfn hn hR hids hfit
    refine t_g @hum ?_
    repeat (first | refine W_seq ?_ | refine W_skip ?_ | refine W_block ?_ | refine W_inBlock ?_ | refine W_label ?_ | refine W_exit rfl ?_)
    first | refine W_retR hP hf hfn _ ([(b, [dint (most : Int), dint (most : Int)])]) (by first | (simp [go_sem, hP, hgl, hn, hue]; done) | (simp [go_sem, hP, hgl, hn, hue]; rfl)) (by simp [go_sem, hP, hgl, hn, hue]) (by simp) ?_ hR.2 | refine W_endR hP hf hfn _ ([(b, [dint (most : Int), dint (most : Int)])]) (by first | (simp [go_sem, hP, hgl, hn, hue]; done) | (simp [go_sem, hP, hgl, hn, hue]; rfl)) (by simp [go_sem, hP, hgl, hn, hue]) (by simp) ?_ hR.2
    rw [hR.1]
    refine ⟨?_, by simp [hue]⟩
    try simp [hue]
    try all_goals (simp [Ty.dv, Ty.cells_eq, Ty.kind_mk, Ty.args_mk, Tm.dv, Tm.cells_eq, Tm.kind_mk, Tm.index_mk, Tm.type_mk, Tm.args_mk, Val.dv, Val.cells_eq, Val.kind_mk, Val.num_mk, Val.list_mk, Val.args_mk, ints])

theorem evalM_2 {most : Nat} (hm : most ≤ 1073741824) (t : Tm) {e : List MV} {u : Nat} (b : Nat) (hu : u ≤ most) (h2 : t.kind = 2) {body : Tm} {rest : List Tm} (ha : t.args = body :: rest) :
    Con1 Tryz.prog gl 75 [ptr b, t.dv, MV.envM e] [(b, useM most u)] (outM most (u + 1) (MV.clo body e).thing) [(b, useM most (u + 1))] := by
  rw [useM_yes hu]
  by_cases hf1 : u + 1 ≤ most
  · rw [useM_yes hf1, outM_yes hf1, thing_clo]
    have hum : ¬ (most : Int) ≤ (u : Int) := by omega
    have hg : (t.args.map Tm.cells)[0]? = some [dint body.kind, dint body.index, dint body.type.kind, .sl (body.type.args.map Ty.cells), .sl (body.args.map Tm.cells)] := by rw [ha]; simp [Tm.cells_eq]
    have hg' : t.args[0]? = some body := by rw [ha]; rfl
    have hT := Tm.fold body
    refine t_in Tryz.func75 ?_
    intro X hP hgl hf hfn hn hR hids hfit
    refine t_g (j2 @hum @h2) ?_
    refine W_reg [42] fun K hK => ?_
    simp [go_sem, hP, hgl, hn, hg, hg', hT, Tm.cells_eq]
    refine vcK_boxR (cs := [dint body.kind, dint body.index, dint body.type.kind, .sl (body.type.args.map Ty.cells), .sl (body.args.map Tm.cells), MV.envM e]) (y := .ag [dint body.kind, dint body.index, dint body.type.kind, .sl (body.type.args.map Ty.cells), .sl (body.args.map Tm.cells), MV.envM e] []) (by simp [go_sem, hP, hgl, hn]) (by simp [go_sem]) (by simp [go_sem]) (by rw [hn]; exact Nat.le_of_ble_eq_true rfl) (by rfl) ?_
    simp [go_sem, hP, hgl, hn]
    refine t_e ?_
    clear hK K
    repeat (first | refine W_seq ?_ | refine W_skip ?_ | refine W_block ?_ | refine W_inBlock ?_ | refine W_label ?_ | refine W_exit rfl ?_)
    first | refine W_retR hP hf hfn _ ([(b, [dint ((u + 1 : Nat) : Int), dint (most : Int)])]) (by first | (simp [go_sem, hP, hgl, hn]; done) | (simp [go_sem, hP, hgl, hn]; rfl)) (by simp [go_sem, hP, hgl, hn]) (by simp) ?_ hR.2 | refine W_endR hP hf hfn _ ([(b, [dint ((u + 1 : Nat) : Int), dint (most : Int)])]) (by first | (simp [go_sem, hP, hgl, hn]; done) | (simp [go_sem, hP, hgl, hn]; rfl)) (by simp [go_sem, hP, hgl, hn]) (by simp) ?_ hR.2
    rw [hR.1]
    refine ⟨?_, by simp⟩
    try simp
    try all_goals (simp [Ty.dv, Ty.cells_eq, Ty.kind_mk, Ty.args_mk, Tm.dv, Tm.cells_eq, Tm.kind_mk, Tm.index_mk, Tm.type_mk, Tm.args_mk, Val.dv, Val.cells_eq, Val.kind_mk, Val.num_mk, Val.list_mk, Val.args_mk, ints])
  · rw [useM_no hf1, outM_no hf1]
    have hum : (most : Int) ≤ (u : Int) := by omega
    have hue : (u : Int) = (most : Int) := by omega
    refine t_in Tryz.func75 ?_
    intro X hP hgl hf hfn hn hR hids hfit
    refine t_g @hum ?_
    repeat (first | refine W_seq ?_ | refine W_skip ?_ | refine W_block ?_ | refine W_inBlock ?_ | refine W_label ?_ | refine W_exit rfl ?_)
    first | refine W_retR hP hf hfn _ ([(b, [dint (most : Int), dint (most : Int)])]) (by first | (simp [go_sem, hP, hgl, hn, hue]; done) | (simp [go_sem, hP, hgl, hn, hue]; rfl)) (by simp [go_sem, hP, hgl, hn, hue]) (by simp) ?_ hR.2 | refine W_endR hP hf hfn _ ([(b, [dint (most : Int), dint (most : Int)])]) (by first | (simp [go_sem, hP, hgl, hn, hue]; done) | (simp [go_sem, hP, hgl, hn, hue]; rfl)) (by simp [go_sem, hP, hgl, hn, hue]) (by simp) ?_ hR.2
    rw [hR.1]
    refine ⟨?_, by simp [hue]⟩
    try simp [hue]
    try all_goals (simp [Ty.dv, Ty.cells_eq, Ty.kind_mk, Ty.args_mk, Tm.dv, Tm.cells_eq, Tm.kind_mk, Tm.index_mk, Tm.type_mk, Tm.args_mk, Val.dv, Val.cells_eq, Val.kind_mk, Val.num_mk, Val.list_mk, Val.args_mk, ints])
end Go.Proofs.YtcldnfbcbkaanaaGreatDoor.Lift

namespace Go.Proofs.YtcldnfbcbkaanaaGreatDoor.Lift
set_option linter.unusedSimpArgs false
set_option linter.unusedVariables false
set_option linter.unnecessarySimpa false
open Go
variable {gl : Globs}

/-- a slice of one-cell elements -/
def ones (l : List DV) : List (List DV) := l.map fun x => [x]
theorem ones_length (l : List DV) : (ones l).length = l.length := by simp [ones]
theorem ones_get {l : List DV} {i : Nat} {x : DV} (h : l[i]? = some x) : (ones l)[i]? = some [x] := by simp [ones, h]
attribute [go_sem] ones_length

theorem backwardM_ok (l : List DV) : Con Tryz.prog gl 195 [.sl (ones l)] [] fun r φ => ∃ b, r = .prim (.func (.func 240) #[] #[.pointer (some ⟨b, 0, none⟩)]) ∧ φ = [(b, [.sl (ones l)])] := by
  refine t_in Tryz.func195 ?_
  intro X hP hgl hf hfn hn hR hids hfit
  refine t_rg0 ?_
  refine W_expose 1 (by simp [go_sem]; rfl) ?_
  intro b hb
  simp [go_sem]
  refine t_rg0 ?_
  refine t_a ?_
  refine W_retR hP hf hfn (.prim (.func (.func 240) #[] #[.pointer (some ⟨b, 0, none⟩)])) [(b, [.sl (ones l)])] (by simp [go_sem, hP, hgl, hn]) (by simp [go_sem]) (by simp) (by rw [hR.1]; exact ⟨b, rfl, rfl⟩) hR.2

/-- what is asked of yield: the numbers from the last one on -/
def BackM (P : Program) (gl : Globs) (l : List DV) (φ : Nat → Objs) (Stop : Objs → Loop → Prop) (lp : Nat) (r : Loop) (D0 : Nat → Nat → Prop) (w0 : World) : Prop :=
  ∀ (i : Nat) (x : DV), l[i]? = some x → YC P gl D0 w0 lp r [dint i, x] (φ (i + 1)) fun b φ' r' => if b = true then φ' = φ i ∧ r' = r else Stop φ' r'

theorem backItM_ok (l : List DV) (hlen : l.length ≤ 2147483648) (b0 : Nat) (φ : Nat → Objs) (hφ : ∀ i, (φ i).map (·.1) = (φ 0).map (·.1)) (hnd : ((φ 0).map (·.1)).Nodup) (hb0 : b0 ∉ (φ 0).map (·.1)) {Stop : Objs → Loop → Prop} (hStop : ∀ ψ r', Stop ψ r' → ψ.map (·.1) = (φ 0).map (·.1)) (lp : Nat) (r : Loop) (hps : r.params.size = 2) :
    ItC Tryz.prog gl 240 [.prim (.func (.yield lp) #[] #[]), ptr b0] ((b0, [.sl (ones l)]) :: φ l.length) lp r (BackM Tryz.prog gl l φ Stop lp r) (fun φ' r' => (φ' = (b0, [.sl (ones l)]) :: φ 0 ∧ r' = r) ∨ ∃ ψ, φ' = (b0, [.sl (ones l)]) :: ψ ∧ Stop ψ r') := by
  refine ItC_intro Tryz.func240 rfl (by kernel_rfl) (Nat.le_of_ble_eq_true rfl) ?_
  intro X hP hgl hf hfn hn hmd hids hfit hlp hY
  simp only [List.map_cons, List.mem_cons, not_or, hφ] at hlp
  obtain ⟨hlb, hlφ⟩ := hlp
  have hin : ∀ (i : Nat) (A : St), (∀ m v, (m, v) ∈ A → ∀ b ∈ (φ 0).map (·.1), m ≠ .heap b) → objsIn (get (A ++ heapSt (φ i))) (φ i) := fun i A h => objsIn_tail (by rw [hφ]; exact hnd) (by rw [hφ]; exact h)
  simp only [entryL, entry, argSt, heapSt, List.map_cons, List.map_nil, List.cons_append, List.nil_append]
  refine t_rg @hlb ?_
  refine t_a ?_
  refine W_tail (A' := [(.slot 3, .one (.v (dint ((l.length : Int) - 1 - (0 : Nat))))), (.slot 0, .one (.v (.prim (.func (.yield lp) #[] #[])))), (.slot 1, .one (.v (ptr b0))), (.heap lp, .ob r), (.heap b0, .row [.v (.sl (ones l))])]) (A := [_, _, _, _, _, _, _, _]) ?_ ?_ ?_
  · intro m v h
    simp only [List.mem_cons, List.not_mem_nil, or_false, Prod.mk.injEq] at h
    rcases h with ⟨rfl, rfl⟩ | ⟨rfl, rfl⟩ | ⟨rfl, rfl⟩ | ⟨rfl, rfl⟩ | ⟨rfl, rfl⟩ <;> simp [go_sem, hlb]
  · simp only [List.cons_append, List.nil_append]
    refine W_upto (X := X) l.length (fun _ => True) (fun j => (.slot 3, .one (.v (dint ((l.length : Int) - 1 - (j : Nat))))) :: (.slot 0, .one (.v (.prim (.func (.yield lp) #[] #[])))) :: (.slot 1, .one (.v (ptr b0))) :: (.heap lp, .ob r) :: (.heap b0, .row [.v (.sl (ones l))]) :: heapSt (φ (l.length - j))) trivial ?_ ?_
    · intro j hj _ hnext
      obtain ⟨i, hi⟩ : ∃ i : Nat, l.length = j + 1 + i := ⟨l.length - (j + 1), by omega⟩
      have hi1 : (l.length : Int) - 1 - (j : Nat) = (i : Nat) := by omega
      have hi2 : l.length - j = i + 1 := by omega
      have hi3 : l.length - (j + 1) = i := by omega
      have hx : l[i]? = some l[i] := List.getElem?_eq_getElem (by omega)
      rw [hi1, hi2]
      rw [hi3] at hnext
      generalize l[i] = x at hx
      have hgi := ones_get hx
      refine t_rg0 ?_
      refine t_yes ?_
      refine t_a ?_
      first | refine W_reg [] fun K hK => ?_ | refine W_regd (by rw [hP]; exact mixed) [] fun K hK => ?_
      refine t_s (j2 @hlb @hgi) ?_
      repeat (refine ⟨by omega, ?_⟩)
      refine vcK_yieldA (by simp [go_sem]) hP hgl (hY i x hx) hps (by simp [go_sem]) rfl ?_ (by rw [hφ]; exact hnd) (by simp [go_sem]) (by rw [hn]; exact Nat.le_of_ble_eq_true rfl) [(.slot 3, .one (.v (dint (i : Nat)))), (.slot 0, .one (.v (.prim (.func (.yield lp) #[] #[])))), (.slot 1, .one (.v (ptr b0))), (.heap b0, .row [.v (.sl (ones l))])] ?_ ?_ ?_
      · repeat (first | refine objsIn_slot ?_ | refine objsIn_heap (by rw [hφ]; assumption) ?_)
        exact objsIn_self (by rw [hφ]; exact hnd)
      · intro m v h
        simp only [List.mem_cons, List.not_mem_nil, or_false, Prod.mk.injEq] at h
        rw [hφ]
        rcases h with ⟨rfl, rfl⟩ | ⟨rfl, rfl⟩ | ⟨rfl, rfl⟩ | ⟨rfl, rfl⟩
        · simp [go_sem]
        · simp [go_sem]
        · simp [go_sem]
        · refine ⟨by simp [go_sem, hlb], by simp, by simp; exact fun e => hlb e.symm, fun b hb e => ?_⟩
          cases e; exact hb0 hb
      · intro b φ' r' h
        have : φ'.map (·.1) = (φ 0).map (·.1) := by
          split at h
          · rw [h.1, hφ]
          · exact hStop _ _ h
        rw [this]
        exact ⟨hnd, hlφ⟩
      · intro b φ' r' h _
        simp only [List.cons_append, List.nil_append]
        cases b with
        | true =>
          simp only [if_true] at h
          obtain ⟨rfl, rfl⟩ := h
          simp [go_sem, hP, hgl, hn]
          refine t_e ?_
          clear hK K
          refine t_no ?_
          refine t_rg0 ?_
          refine t_a ?_
          refine W_tail (A' := [(.slot 3, .one (.v (dint ((l.length : Int) - 1 - (j + 1 : Nat))))), (.slot 0, .one (.v (.prim (.func (.yield lp) #[] #[])))), (.slot 1, .one (.v (ptr b0))), (.heap lp, .ob r'), (.heap b0, .row [.v (.sl (ones l))])]) (A := [_, _, _, _, _, _, _, _, _]) ?_ (hnext trivial) ?_
          · intro m v h
            simp only [List.mem_cons, List.not_mem_nil, or_false, Prod.mk.injEq] at h
            rcases h with ⟨rfl, rfl⟩ | ⟨rfl, rfl⟩ | ⟨rfl, rfl⟩ | ⟨rfl, rfl⟩ | ⟨rfl, rfl⟩ <;> simp [go_sem, hlb]
            omega
          · intro m v h
            simp only [List.mem_cons, List.not_mem_nil, or_false, Prod.mk.injEq] at h
            rw [hφ]
            intro b hb
            rcases h with ⟨rfl, rfl⟩ | ⟨rfl, rfl⟩ | ⟨rfl, rfl⟩ | ⟨rfl, rfl⟩ | ⟨rfl, rfl⟩ | ⟨rfl, rfl⟩ | ⟨rfl, rfl⟩ | ⟨rfl, rfl⟩ | ⟨rfl, rfl⟩ <;> first | (simp; done) | (intro e; cases e; first | exact hb0 hb | exact hlφ hb)
        | false =>
          simp only [Bool.false_eq_true, if_false] at h
          have hids' := hStop _ _ h
          simp [go_sem, hP, hgl, hn]
          refine t_e ?_
          clear hK K
          refine t_yes ?_
          refine t_a ?_
          refine W_itfin hmd (φ := (b0, [.sl (ones l)]) :: φ') (q := r') (r := .tup []) (by rw [hP, hf, hfn]; exact Tryz.func240) (by rw [hfn]; simp [go_sem]) (objsIn_one ?_ ?_) ?_ ?_ (.inr ⟨φ', rfl, h⟩) outs_ret
          · simp [go_sem, hlb]
          · repeat (first | refine objsIn_slot ?_ | refine objsIn_heap (by rw [hids']; assumption) ?_)
            exact objsIn_self (by rw [hids']; exact hnd)
          · simp only [List.map_cons, List.nodup_cons, hids']; exact ⟨hb0, hnd⟩
          · simp [go_sem, hlb]
    · intro _
      refine t_rg0 ?_
      refine t_no ?_
      refine t_a ?_
      refine W_itfin hmd (φ := (b0, [.sl (ones l)]) :: φ 0) (q := r) (r := .tup []) (by rw [hP, hf, hfn]; exact Tryz.func240) (by rw [hfn]; simp [go_sem]) (objsIn_one ?_ ?_) ?_ ?_ (.inl ⟨rfl, rfl⟩) outs_end
      · simp [go_sem, hlb]
      · repeat (first | refine objsIn_slot ?_ | refine objsIn_heap (by assumption) ?_)
        exact objsIn_self hnd
      · simp only [List.map_cons, List.nodup_cons]; exact ⟨hb0, hnd⟩
      · simp [go_sem, hlb]
  · intro m v h
    simp only [List.mem_cons, List.not_mem_nil, or_false, Prod.mk.injEq] at h
    rw [hφ]
    intro b hb
    rcases h with ⟨rfl, rfl⟩ | ⟨rfl, rfl⟩ | ⟨rfl, rfl⟩ | ⟨rfl, rfl⟩ | ⟨rfl, rfl⟩ | ⟨rfl, rfl⟩ | ⟨rfl, rfl⟩ | ⟨rfl, rfl⟩ <;> first | (simp; done) | (intro e; cases e; first | exact hb0 hb | exact hlφ hb)
end Go.Proofs.YtcldnfbcbkaanaaGreatDoor.Lift

/-
  Package machine: the walk of a fold.
-/
namespace Go.Proofs.YtcldnfbcbkaanaaGreatDoor.Lift
set_option linter.unusedSimpArgs false
set_option linter.unusedVariables false
set_option linter.unnecessarySimpa false
open Go
variable {gl : Globs}

/-- the cells of a list, the first one first -/
def cellsOf : List Nat → List DV
  | [] => []
  | n :: l => cellM (n :: l) :: cellsOf l
theorem cellsOf_length : ∀ l, (cellsOf l).length = l.length
  | [] => rfl
  | n :: l => by simp [cellsOf, cellsOf_length l]
theorem cellsOf_get : ∀ {l : List Nat} {i : Nat}, i < l.length → (cellsOf l)[i]? = some (cellM (l.drop i))
  | n :: l, 0, _ => rfl
  | n :: l, i + 1, h => by simpa [cellsOf] using cellsOf_get (l := l) (i := i) (by simpa using h)

theorem fold_drop {ev : Evl} {f r : MV} : ∀ {l : List Nat} {v : MV} {c : Nat} (i : Nat), foldC ev f r l = some (v, c) → ∃ v' c', foldC ev f r (l.drop i) = some (v', c') ∧ c' ≤ c
  | l, v, c, 0, h => ⟨v, c, h, Nat.le_refl _⟩
  | [], v, c, i + 1, h => ⟨v, c, h, Nat.le_refl _⟩
  | x :: l, v, c, i + 1, h => by
    simp only [foldC] at h
    split at h
    · cases h
    rename_i v1 c1 hv1
    split at h
    · cases h
    rename_i w c2 hw
    simp only [Option.some.injEq, Prod.mk.injEq] at h
    obtain ⟨rfl, rfl⟩ := h
    obtain ⟨v', c', h1, h2⟩ := fold_drop i hv1
    exact ⟨v', c', h1, by omega⟩
theorem fold_step {ev : Evl} {f r : MV} {x : Nat} {l : List Nat} {v : MV} {c : Nat} (h : foldC ev f r (x :: l) = some (v, c)) : ∃ v1 c1 c2, foldC ev f r l = some (v1, c1) ∧ callC ev f [.num x, .list l, v1] = some (v, c2) ∧ c = c1 + c2 := by
  simp only [foldC] at h
  split at h
  · cases h
  rename_i v1 c1 hv1
  split at h
  · cases h
  rename_i w c2 hw
  simp only [Option.some.injEq, Prod.mk.injEq] at h
  obtain ⟨rfl, rfl⟩ := h
  exact ⟨v1, c1, c2, hv1, hw, rfl⟩
def foldS (ev : Evl) (f r : MV) (l : List Nat) (i : Nat) : MV × Nat := (foldC ev f r (l.drop i)).getD (.unit, 0)

theorem room_le {M c1 most u : Nat} (h : M + (most - u) ≤ 1073741824) (k : u + c1 ≤ most) : M + c1 + (most - (u + c1)) ≤ 1073741824 := by omega
set_option maxHeartbeats 1000000 in
theorem foldM_ok {most : Nat} (hm : most ≤ 1073741824) {ev : Evl} (H : WalkM Tryz.prog gl 75 most ev) (hN : NleM most ev) : FoldM Tryz.prog gl 146 most ev := by
  intro r f v l u c b M h hu hM hr0 hf0 hl0
  have z0 : at3 [r, f, .list l] 0 = r.thing := rfl
  have z1 : at3 [r, f, .list l] 1 = f.thing := rfl
  have z2 : at3 [r, f, .list l] 2 = .iface 176 (cellM l) := thing_list l
  have hll : (l.length : Int) ≤ 1073741824 := by omega
  unfold arr3
  rw [z0, z1, z2, useM_yes hu]
  refine t_in Tryz.func146 ?_
  intro X hP hgl hf hfn hn hR hids hfit
  refine t_g0 ?_
  refine t_a ?_
  refine W_sub [(1006, 0)] (by simp [go_sem]) (by simp [go_sem, ones] <;> omega) (by simp [go_sem]) (W_rounds (fun x : List DV × List Nat => x.1 ++ cellsOf x.2 = cellsOf l ∧ x.1.length + x.2.length = l.length) (fun x : List DV × List Nat => [(.slot 6, .one (.own 1006 (ones x.1))), (.tok 1006, .tk 1 x.1.length), (.slot 7, .one (.v (cellM x.2))), (.slot 4, .one (.v nilI)), (.slot 5, .one (.v (dbool false))), (.slot 2, .one (.loc 2 0)), (.loc 2, .row ([.v (ptr b)])), (.slot 3, .one (.loc 3 0)), (.loc 3, .row ([.v r.thing, .v f.thing, .v (.iface 176 (cellM l))])), (.heap  b, .row ([.v (dint (u : Int)), .v (dint (most : Int))]))]) (fun x : List DV × List Nat => x.2.length) (([] : List DV), l) (⟨rfl, by simp⟩) ?_)
  rintro ⟨cs, q⟩ ⟨hq1, hq2⟩ ih
  simp only at hq1 hq2
  cases q with
  | cons n q =>
    have hcm := cellM_cons n q
    have hon := ones_length cs
    simp only [List.length_cons] at hq2
    have hle : (cs.length : Int) + 1 ≤ 1073741824 := by omega
    have hcl : cs.length ≤ 2147483647 := by omega
    have hwid : ∀ e : List DV, e ∈ ones cs → e.length = 1 := by intro e he; simp only [ones, List.mem_map] at he; obtain ⟨x, -, rfl⟩ := he; rfl
    have hone : ones cs ++ [[DV.ref [dint (n : Int), cellM q]]] = ones (cs ++ [DV.ref [dint (n : Int), cellM q]]) := by simp [ones]
    have e1 : (cs ++ [DV.ref [dint (n : Int), cellM q]]) ++ cellsOf q = cellsOf l := by rw [← hq1, cellsOf, hcm]; simp
    have e2 : (cs ++ [DV.ref [dint (n : Int), cellM q]]).length + q.length = l.length := by simp; omega
    have e3 : q.length < (n :: q).length := by simp
    rw [hcm]
    refine t_rg0 ?_
    refine t_yes ?_
    refine t_rg (j2 @hcl (j2 @hwid @hon)) ?_
    refine t_rg0 ?_
    have hl1 : (cs ++ [DV.ref [dint (n : Int), cellM q]]).length = cs.length + 1 := by simp
    refine t_b ?_
    refine t_sub [(1006, 24)] (j2 @hone (j2 @hon @hl1)) (ih (cs ++ [DV.ref [dint (n : Int), cellM q]], q) ⟨e1, e2⟩ e3)
  | nil =>
    simp only [cellsOf, List.append_nil] at hq1
    subst hq1
    have hcm := cellM_nil
    rw [hcm]
    refine t_rg0 ?_
    refine t_no ?_
    refine t_rg0 ?_
    refine t_a ?_
    first | refine W_reg [] fun K hK => ?_ | refine W_regd (by rw [hP]; exact mixed) [] fun K hK => ?_
    refine t_s0 ?_
    repeat (refine ⟨by omega, ?_⟩)
    refine vcK_callR hP hgl (backwardM_ok (cellsOf l)) (by simp [go_sem]) rfl (by simp [go_sem]) (by simp) (by rw [hn]; exact Nat.le_of_ble_eq_true rfl) ?_
    rintro rr ψ ⟨b0, rfl, rfl⟩ hdis
    simp [go_sem] at hdis ⊢
    refine t_e ?_
    clear hK K
    refine t_a ?_
    refine W_expose 2 (by simp [go_sem]; rfl) ?_
    intro b2 hb2
    simp [go_sem, hdis] at hb2 ⊢
    refine W_expose 3 (by simp [go_sem]; rfl) ?_
    intro b3 hb3
    simp [go_sem, hdis, hb2] at hb3 ⊢
    refine W_expose 8 (by simp [go_sem]; rfl) ?_
    intro b8 hb8
    simp [go_sem, hdis, hb2, hb3] at hb8 ⊢
    refine W_expose 9 (by simp [go_sem]; rfl) ?_
    intro b9 hb9
    simp [go_sem, hdis, hb2, hb3, hb8] at hb9 ⊢
    have hnds : ¬ b0 = b := fun e => hdis e.symm
    obtain ⟨q1, q2⟩ := hb2
    obtain ⟨q3, q4, q5⟩ := hb3
    obtain ⟨q6, q7, q8, q9⟩ := hb8
    obtain ⟨q10, q11, q12, q13, q14⟩ := hb9
    have q15 : ¬ b9 = b := fun e => q14 e.symm
    have q16 : ¬ b8 = b := fun e => q9 e.symm
    have q17 : ¬ b3 = b := fun e => q5 e.symm
    have q18 : ¬ b2 = b := fun e => q2 e.symm
    have p1 := Ne.symm q1
    have p3 := Ne.symm q3
    have p4 := Ne.symm q4
    have p6 := Ne.symm q6
    have p7 := Ne.symm q7
    have p8 := Ne.symm q8
    have p10 := Ne.symm q10
    have p11 := Ne.symm q11
    have p12 := Ne.symm q12
    have p13 := Ne.symm q13
    have hS : ∀ i, foldC ev f r (l.drop i) = some (foldS ev f r l i) ∧ (foldS ev f r l i).2 ≤ c := by
      intro i
      obtain ⟨v', c', e1, e2⟩ := fold_drop i h
      unfold foldS
      rw [e1]
      exact ⟨rfl, e2⟩
    have hS0 : foldS ev f r l 0 = (v, c) := by unfold foldS; rw [List.drop_zero, h]; rfl
    have hSl : foldS ev f r l l.length = (r, 0) := by unfold foldS; rw [List.drop_length]; rfl
    generalize hSS : foldS ev f r l = S at hS hS0 hSl
    let Φ : Nat → Objs := fun i => [(b2, [ptr b]), (b3, [r.thing, f.thing, .iface 176 (cellM l)]), (b8, [if u + (S i).2 ≤ most then (S i).1.thing else nilI]), (b9, [dbool (decide (u + (S i).2 ≤ most))]), (b, useM most (u + (S i).2))]
    have hlenc : (cellsOf l).length = l.length := cellsOf_length l
    have hΦl : Φ (cellsOf l).length = [(b2, [ptr b]), (b3, [r.thing, f.thing, .iface 176 (cellM l)]), (b8, [r.thing]), (b9, [dbool true]), (b, [dint (u : Int), dint (most : Int)])] := by
      simp only [Φ, hlenc, hSl, Nat.add_zero, if_pos hu, useM_yes hu, decide_eq_true hu]
    refine W_rangeFunc hR.2 (f := 240) (fi := #[]) (ca := #[.pointer (some ⟨b0, 0, none⟩)]) (by simp [go_sem]) (by simp [primOK]) (φ := (b0, [.sl (ones (cellsOf l))]) :: Φ (cellsOf l).length) ?_ ?_ (Y := BackM X.P X.gl (cellsOf l) Φ (fun ψ r' => ∃ i, ψ = Φ i ∧ ¬ u + (S i).2 ≤ most ∧ r'.state = .done ∧ r'.pending = some (.exit 2))) (R := fun φ' r' => (φ' = (b0, [.sl (ones (cellsOf l))]) :: Φ 0 ∧ r'.state = .ready ∧ r'.pending = none) ∨ ∃ i, φ' = (b0, [.sl (ones (cellsOf l))]) :: Φ i ∧ ¬ u + (S i).2 ≤ most ∧ r'.state = .done ∧ r'.pending = some (.exit 2)) (SL := [(2, ptr b2), (3, ptr b3), (8, ptr b8), (9, ptr b9)]) ?_ ?_ ?_ ?_ ?_
    · rw [hΦl]
      refine objsIn_one ?_ (objsIn_one ?_ (objsIn_one ?_ (objsIn_one ?_ (objsIn_one ?_ (objsIn_one ?_ (by simp [objsIn]))))))
      all_goals simp [go_sem, hdis, hnds, q1, q2, q3, q4, q5, q6, q7, q8, q9, q10, q11, q12, q13, q14, q15, q16, q17, q18, p1, p3, p4, p6, p7, p8, p10, p11, p12, p13]
    · rw [hΦl]
      simp [hdis, hnds, q1, q2, q3, q4, q5, q6, q7, q8, q9, q10, q11, q12, q13, q14, q15, q16, q17, q18, p1, p3, p4, p6, p7, p8, p10, p11, p12, p13]
      try (refine ⟨?_, ?_⟩ <;> (intro e; subst e; simp_all))
    · intro n x h
      simp only [List.mem_cons, List.not_mem_nil, or_false, Prod.mk.injEq] at h
      rcases h with ⟨rfl, rfl⟩ | ⟨rfl, rfl⟩ | ⟨rfl, rfl⟩ | ⟨rfl, rfl⟩ <;> simp [go_sem]
    · intro lp rr h1 h2 h3 h4
      have := backItM_ok (gl := gl) (cellsOf l) (by rw [hlenc]; omega) b0 Φ (fun _ => rfl) (by simp only [Φ]; simp [hdis, hnds, q1, q2, q3, q4, q5, q6, q7, q8, q9, q10, q11, q12, q13, q14, q15, q16, q17, q18, p1, p3, p4, p6, p7, p8, p10, p11, p12, p13]; try (intro e; subst e; simp_all)) (by simp only [Φ]; simp [hdis, hnds, q1, q2, q3, q4, q5, q6, q7, q8, q9, q10, q11, q12, q13, q14, q15, q16, q17, q18, p1, p3, p4, p6, p7, p8, p10, p11, p12, p13]) (Stop := fun ψ r' => ∃ i, ψ = Φ i ∧ ¬ u + (S i).2 ≤ most ∧ r'.state = .done ∧ r'.pending = some (.exit 2)) (by rintro ψ r' ⟨i, rfl, -⟩; rfl) lp rr (by rw [h3]; rfl)
      rw [hP, hgl]
      refine ⟨this.1, fun D w vs a1 a2 a3 a4 a5 a6 => (this.2 D w vs a1 a2 a3 a4 a5 a6).mono ?_⟩
      rintro e w' ⟨v1, D', φ', r', rfl, hR', rest⟩
      refine ⟨v1, D', φ', r', rfl, ?_, rest⟩
      rcases hR' with ⟨rfl, rfl⟩ | ⟨ψ, hψ, i, rfl, k1, k2, k3⟩
      · exact .inl ⟨rfl, h1, h2⟩
      · exact .inr ⟨i, hψ, k1, k2, k3⟩
    · intro lp rr D0 w0 h1 h2 h3 h4 h5 h6 h7 h8 h9 i x hx
      rw [hP, hgl]
      have hil : i < l.length := by have := (List.getElem?_eq_some_iff.1 hx).1; rw [hlenc] at this; exact this
      rw [cellsOf_get hil, Option.some.injEq] at hx
      subst hx
      refine YC_round X.n h5 h9 h1 (by rw [h3]; rfl) (by rw [h3, hn]; decide) (by rw [h3]; decide) (by rw [h3]; simp) ?_
      intro X' hP' hgl' hf' hn' hmd' hids' hl' hfit'
      rw [h3, h6, h7]
      rw [hn] at hn'
      clear hP hgl hn
      have hP := hP'
      have hgl := hgl'
      have hn := hn'
      have hl2 : ¬ lp = b2 ∧ ¬ lp = b3 ∧ ¬ lp = b8 ∧ ¬ lp = b9 ∧ ¬ lp = b := by simpa [Φ] using hl'
      obtain ⟨x2, x3, x8, x9, xb⟩ := hl2
      have i2 := Ne.symm x2
      have i3 := Ne.symm x3
      have i8 := Ne.symm x8
      have i9 := Ne.symm x9
      have ib := Ne.symm xb
      obtain ⟨n, hdi⟩ : ∃ n, l.drop i = n :: l.drop (i + 1) := ⟨l[i], List.drop_eq_getElem_cons hil⟩
      have hcm := cellM_cons n (l.drop (i + 1))
      have hfS := (hS i).1
      rw [hdi] at hfS ⊢
      obtain ⟨v1, c1, c2, g1, g2, g3⟩ := fold_step hfS
      have hS1 := (hS (i + 1)).1
      rw [g1, Option.some.injEq] at hS1
      rw [hcm]
      by_cases hfa : u + c1 ≤ most
      · have hΦ1 : Φ (i + 1) = [(b2, [ptr b]), (b3, [r.thing, f.thing, .iface 176 (cellM l)]), (b8, [v1.thing]), (b9, [dbool true]), (b, [dint ((u + c1 : Nat) : Int), dint (most : Int)])] := by
          simp only [Φ, ← hS1, if_pos hfa, useM_yes hfa, decide_eq_true hfa]
        have hbd : ∀ n' ∈ l.drop (i + 1), n' ≤ M := fun n' hn' => hl0.2 n' (List.mem_of_mem_drop hn')
        have hbl : (l.drop (i + 1)).length ≤ M := by have := hl0.1; rw [List.length_drop]; omega
        have hnM : n ≤ M := hl0.2 n (List.mem_of_mem_drop (by rw [hdi]; exact List.mem_cons_self))
        have hv1 := nle_fold hN g1 hf0 hr0 ⟨hbl, hbd⟩
        have w1 : f.nle (M + c1) := MV.nle_mono (Nat.le_add_right M c1) f hf0
        have w2 : M + c1 + (most - (u + c1)) ≤ 1073741824 := room_le hM hfa
        have w3 : MV.nles (M + c1) [.num n, .list (l.drop (i + 1)), v1] := by
          simp only [MV.nles, MV.nle]
          exact ⟨by omega, ⟨by omega, fun n' hn' => Nat.le_trans (hbd n' hn') (Nat.le_add_right M c1)⟩, hv1, trivial⟩
        have W1 := callM_ok hm H hN b (M + c1) g2 hfa w2 w1 w3
        rw [useM_yes hfa] at W1
        simp only [List.map, thing_num, thing_list] at W1
        rw [hΦ1]
        simp only [entryR, h3, parSt, slotSt, heapSt, List.cons_append, List.nil_append]
        refine t_rg (j2 @hdis (j2 @hnds (j2 @q1 (j2 @q2 (j2 @q3 (j2 @q4 (j2 @q5 (j2 @q6 (j2 @q7 (j2 @q8 (j2 @q9 (j2 @q10 (j2 @q11 (j2 @q12 (j2 @q13 (j2 @q14 (j2 @q15 (j2 @q16 (j2 @q17 (j2 @q18 (j2 @p1 (j2 @p3 (j2 @p4 (j2 @p6 (j2 @p7 (j2 @p8 (j2 @p10 (j2 @p11 (j2 @p12 (j2 @p13 (j2 @x2 (j2 @x3 (j2 @x8 (j2 @x9 (j2 @xb (j2 @i2 (j2 @i3 (j2 @i8 (j2 @i9 @ib))))))))))))))))))))))))))))))))))))))) ?_
        refine W_begin (r := rr) (l := lp) (by simp [Ctx.rd, hmd']) (by simp [go_sem]) h1 ?_
        simp [go_sem, hdis, hnds, q1, q2, q3, q4, q5, q6, q7, q8, q9, q10, q11, q12, q13, q14, q15, q16, q17, q18, p1, p3, p4, p6, p7, p8, p10, p11, p12, p13, x2, x3, x8, x9, xb, i2, i3, i8, i9, ib]
        refine t_rg (j2 @hdis (j2 @hnds (j2 @q1 (j2 @q2 (j2 @q3 (j2 @q4 (j2 @q5 (j2 @q6 (j2 @q7 (j2 @q8 (j2 @q9 (j2 @q10 (j2 @q11 (j2 @q12 (j2 @q13 (j2 @q14 (j2 @q15 (j2 @q16 (j2 @q17 (j2 @q18 (j2 @p1 (j2 @p3 (j2 @p4 (j2 @p6 (j2 @p7 (j2 @p8 (j2 @p10 (j2 @p11 (j2 @p12 (j2 @p13 (j2 @x2 (j2 @x3 (j2 @x8 (j2 @x9 (j2 @xb (j2 @i2 (j2 @i3 (j2 @i8 (j2 @i9 @ib))))))))))))))))))))))))))))))))))))))) ?_
        refine t_no ?_
        by_cases hfb : u + c1 + c2 ≤ most
        · have o1 : outM most (u + c1 + c2) (S i).1.thing = .tup [(S i).1.thing, dbool true] := outM_yes hfb _
          have hΦ0 : Φ i = [(b2, [ptr b]), (b3, [r.thing, f.thing, .iface 176 (cellM l)]), (b8, [(S i).1.thing]), (b9, [dbool true]), (b, [dint ((u + c1 + c2 : Nat) : Int), dint (most : Int)])] := by
            have e9 : u + (S i).2 = u + c1 + c2 := by omega
            simp only [Φ, e9, if_pos hfb, useM_yes hfb, decide_eq_true hfb]
          rw [o1, useM_yes hfb] at W1
          refine t_a ?_
          first | refine W_reg [] fun K hK => ?_ | refine W_regd (by rw [hP]; exact mixed) [] fun K hK => ?_
          refine t_s (j2 @hdis (j2 @hnds (j2 @q1 (j2 @q2 (j2 @q3 (j2 @q4 (j2 @q5 (j2 @q6 (j2 @q7 (j2 @q8 (j2 @q9 (j2 @q10 (j2 @q11 (j2 @q12 (j2 @q13 (j2 @q14 (j2 @q15 (j2 @q16 (j2 @q17 (j2 @q18 (j2 @p1 (j2 @p3 (j2 @p4 (j2 @p6 (j2 @p7 (j2 @p8 (j2 @p10 (j2 @p11 (j2 @p12 (j2 @p13 (j2 @x2 (j2 @x3 (j2 @x8 (j2 @x9 (j2 @xb (j2 @i2 (j2 @i3 (j2 @i8 (j2 @i9 @ib))))))))))))))))))))))))))))))))))))))) ?_
          repeat (refine ⟨by omega, ?_⟩)
          first | refine vcK_call hP hgl (W1) (by simp [go_sem, hP, hgl, hn, hdis, hnds, q1, q2, q3, q4, q5, q6, q7, q8, q9, q10, q11, q12, q13, q14, q15, q16, q17, q18, p1, p3, p4, p6, p7, p8, p10, p11, p12, p13, x2, x3, x8, x9, xb, i2, i3, i8, i9, ib]) rfl (by simp [go_sem, hP, hgl, hn, hdis, hnds, q1, q2, q3, q4, q5, q6, q7, q8, q9, q10, q11, q12, q13, q14, q15, q16, q17, q18, p1, p3, p4, p6, p7, p8, p10, p11, p12, p13, x2, x3, x8, x9, xb, i2, i3, i8, i9, ib]) (by simp [hdis, hnds, q1, q2, q3, q4, q5, q6, q7, q8, q9, q10, q11, q12, q13, q14, q15, q16, q17, q18, p1, p3, p4, p6, p7, p8, p10, p11, p12, p13, x2, x3, x8, x9, xb, i2, i3, i8, i9, ib]) (by rw [hn]; exact Nat.le_of_ble_eq_true rfl) ?_ | refine vcdC_call (fun _ _ => vcd_sound) hP hgl (W1) (by simp [go_sem, hP, hgl, hn, hdis, hnds, q1, q2, q3, q4, q5, q6, q7, q8, q9, q10, q11, q12, q13, q14, q15, q16, q17, q18, p1, p3, p4, p6, p7, p8, p10, p11, p12, p13, x2, x3, x8, x9, xb, i2, i3, i8, i9, ib]) rfl (by simp [go_sem, hP, hgl, hn, hdis, hnds, q1, q2, q3, q4, q5, q6, q7, q8, q9, q10, q11, q12, q13, q14, q15, q16, q17, q18, p1, p3, p4, p6, p7, p8, p10, p11, p12, p13, x2, x3, x8, x9, xb, i2, i3, i8, i9, ib]) (by simp [hdis, hnds, q1, q2, q3, q4, q5, q6, q7, q8, q9, q10, q11, q12, q13, q14, q15, q16, q17, q18, p1, p3, p4, p6, p7, p8, p10, p11, p12, p13, x2, x3, x8, x9, xb, i2, i3, i8, i9, ib]) (by rw [hn]; exact Nat.le_of_ble_eq_true rfl) ?_
          simp [go_sem, hP, hgl, hn, hdis, hnds, q1, q2, q3, q4, q5, q6, q7, q8, q9, q10, q11, q12, q13, q14, q15, q16, q17, q18, p1, p3, p4, p6, p7, p8, p10, p11, p12, p13, x2, x3, x8, x9, xb, i2, i3, i8, i9, ib]
          refine t_e ?_
          clear hK K
          refine t_a ?_
          refine W_rdfin hmd' (φ := Φ i) ?_ (by simp only [Φ]; simp [hdis, hnds, q1, q2, q3, q4, q5, q6, q7, q8, q9, q10, q11, q12, q13, q14, q15, q16, q17, q18, p1, p3, p4, p6, p7, p8, p10, p11, p12, p13]) (by simp [go_sem, hdis, hnds, q1, q2, q3, q4, q5, q6, q7, q8, q9, q10, q11, q12, q13, q14, q15, q16, q17, q18, p1, p3, p4, p6, p7, p8, p10, p11, p12, p13, x2, x3, x8, x9, xb, i2, i3, i8, i9, ib]) none rfl ?_
          · rw [hΦ0]
            refine objsIn_one ?_ (objsIn_one ?_ (objsIn_one ?_ (objsIn_one ?_ (objsIn_one ?_ (by simp [objsIn])))))
            all_goals simp [go_sem, hdis, hnds, q1, q2, q3, q4, q5, q6, q7, q8, q9, q10, q11, q12, q13, q14, q15, q16, q17, q18, p1, p3, p4, p6, p7, p8, p10, p11, p12, p13, x2, x3, x8, x9, xb, i2, i3, i8, i9, ib]
          · simp only [Option.isNone_none, if_true, true_and]
            cases rr; simp only [pastL] at h1 h2 ⊢; subst h1 h2; rfl
        · have o1 : outM most (u + c1 + c2) (S i).1.thing = .tup [nilI, dbool false] := outM_no hfb _
          have hΦ0 : Φ i = [(b2, [ptr b]), (b3, [r.thing, f.thing, .iface 176 (cellM l)]), (b8, [nilI]), (b9, [dbool false]), (b, [dint (most : Int), dint (most : Int)])] := by
            have e9 : u + (S i).2 = u + c1 + c2 := by omega
            simp only [Φ, e9, if_neg hfb, useM_no hfb, decide_eq_false hfb]
          rw [o1, useM_no hfb] at W1
          refine t_a ?_
          first | refine W_reg [] fun K hK => ?_ | refine W_regd (by rw [hP]; exact mixed) [] fun K hK => ?_
          refine t_s (j2 @hdis (j2 @hnds (j2 @q1 (j2 @q2 (j2 @q3 (j2 @q4 (j2 @q5 (j2 @q6 (j2 @q7 (j2 @q8 (j2 @q9 (j2 @q10 (j2 @q11 (j2 @q12 (j2 @q13 (j2 @q14 (j2 @q15 (j2 @q16 (j2 @q17 (j2 @q18 (j2 @p1 (j2 @p3 (j2 @p4 (j2 @p6 (j2 @p7 (j2 @p8 (j2 @p10 (j2 @p11 (j2 @p12 (j2 @p13 (j2 @x2 (j2 @x3 (j2 @x8 (j2 @x9 (j2 @xb (j2 @i2 (j2 @i3 (j2 @i8 (j2 @i9 @ib))))))))))))))))))))))))))))))))))))))) ?_
          repeat (refine ⟨by omega, ?_⟩)
          first | refine vcK_call hP hgl (W1) (by simp [go_sem, hP, hgl, hn, hdis, hnds, q1, q2, q3, q4, q5, q6, q7, q8, q9, q10, q11, q12, q13, q14, q15, q16, q17, q18, p1, p3, p4, p6, p7, p8, p10, p11, p12, p13, x2, x3, x8, x9, xb, i2, i3, i8, i9, ib]) rfl (by simp [go_sem, hP, hgl, hn, hdis, hnds, q1, q2, q3, q4, q5, q6, q7, q8, q9, q10, q11, q12, q13, q14, q15, q16, q17, q18, p1, p3, p4, p6, p7, p8, p10, p11, p12, p13, x2, x3, x8, x9, xb, i2, i3, i8, i9, ib]) (by simp [hdis, hnds, q1, q2, q3, q4, q5, q6, q7, q8, q9, q10, q11, q12, q13, q14, q15, q16, q17, q18, p1, p3, p4, p6, p7, p8, p10, p11, p12, p13, x2, x3, x8, x9, xb, i2, i3, i8, i9, ib]) (by rw [hn]; exact Nat.le_of_ble_eq_true rfl) ?_ | refine vcdC_call (fun _ _ => vcd_sound) hP hgl (W1) (by simp [go_sem, hP, hgl, hn, hdis, hnds, q1, q2, q3, q4, q5, q6, q7, q8, q9, q10, q11, q12, q13, q14, q15, q16, q17, q18, p1, p3, p4, p6, p7, p8, p10, p11, p12, p13, x2, x3, x8, x9, xb, i2, i3, i8, i9, ib]) rfl (by simp [go_sem, hP, hgl, hn, hdis, hnds, q1, q2, q3, q4, q5, q6, q7, q8, q9, q10, q11, q12, q13, q14, q15, q16, q17, q18, p1, p3, p4, p6, p7, p8, p10, p11, p12, p13, x2, x3, x8, x9, xb, i2, i3, i8, i9, ib]) (by simp [hdis, hnds, q1, q2, q3, q4, q5, q6, q7, q8, q9, q10, q11, q12, q13, q14, q15, q16, q17, q18, p1, p3, p4, p6, p7, p8, p10, p11, p12, p13, x2, x3, x8, x9, xb, i2, i3, i8, i9, ib]) (by rw [hn]; exact Nat.le_of_ble_eq_true rfl) ?_
          simp [go_sem, hP, hgl, hn, hdis, hnds, q1, q2, q3, q4, q5, q6, q7, q8, q9, q10, q11, q12, q13, q14, q15, q16, q17, q18, p1, p3, p4, p6, p7, p8, p10, p11, p12, p13, x2, x3, x8, x9, xb, i2, i3, i8, i9, ib]
          refine t_e ?_
          clear hK K
          refine t_a ?_
          refine W_rdfin hmd' (φ := Φ i) ?_ (by simp only [Φ]; simp [hdis, hnds, q1, q2, q3, q4, q5, q6, q7, q8, q9, q10, q11, q12, q13, q14, q15, q16, q17, q18, p1, p3, p4, p6, p7, p8, p10, p11, p12, p13]) (by simp [go_sem, hdis, hnds, q1, q2, q3, q4, q5, q6, q7, q8, q9, q10, q11, q12, q13, q14, q15, q16, q17, q18, p1, p3, p4, p6, p7, p8, p10, p11, p12, p13, x2, x3, x8, x9, xb, i2, i3, i8, i9, ib]) none rfl ?_
          · rw [hΦ0]
            refine objsIn_one ?_ (objsIn_one ?_ (objsIn_one ?_ (objsIn_one ?_ (objsIn_one ?_ (by simp [objsIn])))))
            all_goals simp [go_sem, hdis, hnds, q1, q2, q3, q4, q5, q6, q7, q8, q9, q10, q11, q12, q13, q14, q15, q16, q17, q18, p1, p3, p4, p6, p7, p8, p10, p11, p12, p13, x2, x3, x8, x9, xb, i2, i3, i8, i9, ib]
          · simp only [Option.isNone_none, if_true, true_and]
            cases rr; simp only [pastL] at h1 h2 ⊢; subst h1 h2; rfl
      · have hΦ1 : Φ (i + 1) = [(b2, [ptr b]), (b3, [r.thing, f.thing, .iface 176 (cellM l)]), (b8, [nilI]), (b9, [dbool false]), (b, [dint (most : Int), dint (most : Int)])] := by
          simp only [Φ, ← hS1, if_neg hfa, useM_no hfa, decide_eq_false hfa]
        rw [hΦ1]
        simp only [entryR, h3, parSt, slotSt, heapSt, List.cons_append, List.nil_append]
        refine t_rg (j2 @hdis (j2 @hnds (j2 @q1 (j2 @q2 (j2 @q3 (j2 @q4 (j2 @q5 (j2 @q6 (j2 @q7 (j2 @q8 (j2 @q9 (j2 @q10 (j2 @q11 (j2 @q12 (j2 @q13 (j2 @q14 (j2 @q15 (j2 @q16 (j2 @q17 (j2 @q18 (j2 @p1 (j2 @p3 (j2 @p4 (j2 @p6 (j2 @p7 (j2 @p8 (j2 @p10 (j2 @p11 (j2 @p12 (j2 @p13 (j2 @x2 (j2 @x3 (j2 @x8 (j2 @x9 (j2 @xb (j2 @i2 (j2 @i3 (j2 @i8 (j2 @i9 @ib))))))))))))))))))))))))))))))))))))))) ?_
        refine W_begin (r := rr) (l := lp) (by simp [Ctx.rd, hmd']) (by simp [go_sem]) h1 ?_
        simp [go_sem, hdis, hnds, q1, q2, q3, q4, q5, q6, q7, q8, q9, q10, q11, q12, q13, q14, q15, q16, q17, q18, p1, p3, p4, p6, p7, p8, p10, p11, p12, p13, x2, x3, x8, x9, xb, i2, i3, i8, i9, ib]
        refine t_rg (j2 @hdis (j2 @hnds (j2 @q1 (j2 @q2 (j2 @q3 (j2 @q4 (j2 @q5 (j2 @q6 (j2 @q7 (j2 @q8 (j2 @q9 (j2 @q10 (j2 @q11 (j2 @q12 (j2 @q13 (j2 @q14 (j2 @q15 (j2 @q16 (j2 @q17 (j2 @q18 (j2 @p1 (j2 @p3 (j2 @p4 (j2 @p6 (j2 @p7 (j2 @p8 (j2 @p10 (j2 @p11 (j2 @p12 (j2 @p13 (j2 @x2 (j2 @x3 (j2 @x8 (j2 @x9 (j2 @xb (j2 @i2 (j2 @i3 (j2 @i8 (j2 @i9 @ib))))))))))))))))))))))))))))))))))))))) ?_
        refine t_yes ?_
        refine W_rdfin hmd' (φ := Φ (i + 1)) ?_ (by simp only [Φ]; simp [hdis, hnds, q1, q2, q3, q4, q5, q6, q7, q8, q9, q10, q11, q12, q13, q14, q15, q16, q17, q18, p1, p3, p4, p6, p7, p8, p10, p11, p12, p13]) (by simp [go_sem, hdis, hnds, q1, q2, q3, q4, q5, q6, q7, q8, q9, q10, q11, q12, q13, q14, q15, q16, q17, q18, p1, p3, p4, p6, p7, p8, p10, p11, p12, p13, x2, x3, x8, x9, xb, i2, i3, i8, i9, ib]) (some (.exit 2)) ⟨_, rfl, rfl⟩ ?_
        · rw [hΦ1]
          refine objsIn_one ?_ (objsIn_one ?_ (objsIn_one ?_ (objsIn_one ?_ (objsIn_one ?_ (by simp [objsIn])))))
          all_goals simp [go_sem, hdis, hnds, q1, q2, q3, q4, q5, q6, q7, q8, q9, q10, q11, q12, q13, q14, q15, q16, q17, q18, p1, p3, p4, p6, p7, p8, p10, p11, p12, p13, x2, x3, x8, x9, xb, i2, i3, i8, i9, ib]
        · rw [if_neg (by simp)]
          exact ⟨i + 1, rfl, by rw [← hS1]; exact hfa, rfl, rfl⟩
    · rintro φ' r' (⟨-, h, -⟩ | ⟨_, -, -, h, -⟩) <;> (rw [h]; simp)
    · rintro φ' r' (⟨rfl, -, h⟩ | ⟨i, rfl, hi, -, h⟩) -
      · rw [h]
        by_cases hfc : u + c ≤ most
        · rw [outM_yes hfc, useM_yes hfc] at hR
          have hΦ0 : Φ 0 = [(b2, [ptr b]), (b3, [r.thing, f.thing, .iface 176 (cellM l)]), (b8, [v.thing]), (b9, [dbool true]), (b, [dint ((u + c : Nat) : Int), dint (most : Int)])] := by
            simp only [Φ, hS0, if_pos hfc, useM_yes hfc, decide_eq_true hfc]
          rw [hΦ0, hΦl]
          simp [go_sem, hdis, hnds, q1, q2, q3, q4, q5, q6, q7, q8, q9, q10, q11, q12, q13, q14, q15, q16, q17, q18, p1, p3, p4, p6, p7, p8, p10, p11, p12, p13]
          refine t_rg (j2 @hdis (j2 @hnds (j2 @q1 (j2 @q2 (j2 @q3 (j2 @q4 (j2 @q5 (j2 @q6 (j2 @q7 (j2 @q8 (j2 @q9 (j2 @q10 (j2 @q11 (j2 @q12 (j2 @q13 (j2 @q14 (j2 @q15 (j2 @q16 (j2 @q17 (j2 @q18 (j2 @p1 (j2 @p3 (j2 @p4 (j2 @p6 (j2 @p7 (j2 @p8 (j2 @p10 (j2 @p11 (j2 @p12 @p13))))))))))))))))))))))))))))) ?_
          repeat (first | refine W_seq ?_ | refine W_skip ?_ | refine W_block ?_ | refine W_inBlock ?_ | refine W_label ?_ | refine W_exit rfl ?_)
          first | refine W_retR hP hf hfn _ ([(b, [dint ((u + c : Nat) : Int), dint (most : Int)])]) (by first | (simp [go_sem, hP, hgl, hn, hdis, hnds, q1, q2, q3, q4, q5, q6, q7, q8, q9, q10, q11, q12, q13, q14, q15, q16, q17, q18, p1, p3, p4, p6, p7, p8, p10, p11, p12, p13]; done) | (simp [go_sem, hP, hgl, hn, hdis, hnds, q1, q2, q3, q4, q5, q6, q7, q8, q9, q10, q11, q12, q13, q14, q15, q16, q17, q18, p1, p3, p4, p6, p7, p8, p10, p11, p12, p13]; rfl)) (by simp [go_sem, hP, hgl, hn, hdis, hnds, q1, q2, q3, q4, q5, q6, q7, q8, q9, q10, q11, q12, q13, q14, q15, q16, q17, q18, p1, p3, p4, p6, p7, p8, p10, p11, p12, p13]) (by simp) ?_ hR.2 | refine W_endR hP hf hfn _ ([(b, [dint ((u + c : Nat) : Int), dint (most : Int)])]) (by first | (simp [go_sem, hP, hgl, hn, hdis, hnds, q1, q2, q3, q4, q5, q6, q7, q8, q9, q10, q11, q12, q13, q14, q15, q16, q17, q18, p1, p3, p4, p6, p7, p8, p10, p11, p12, p13]; done) | (simp [go_sem, hP, hgl, hn, hdis, hnds, q1, q2, q3, q4, q5, q6, q7, q8, q9, q10, q11, q12, q13, q14, q15, q16, q17, q18, p1, p3, p4, p6, p7, p8, p10, p11, p12, p13]; rfl)) (by simp [go_sem, hP, hgl, hn, hdis, hnds, q1, q2, q3, q4, q5, q6, q7, q8, q9, q10, q11, q12, q13, q14, q15, q16, q17, q18, p1, p3, p4, p6, p7, p8, p10, p11, p12, p13]) (by simp) ?_ hR.2
          rw [hR.1]
          refine ⟨?_, by simp [hdis, hnds, q1, q2, q3, q4, q5, q6, q7, q8, q9, q10, q11, q12, q13, q14, q15, q16, q17, q18, p1, p3, p4, p6, p7, p8, p10, p11, p12, p13]⟩
          try simp [hdis, hnds, q1, q2, q3, q4, q5, q6, q7, q8, q9, q10, q11, q12, q13, q14, q15, q16, q17, q18, p1, p3, p4, p6, p7, p8, p10, p11, p12, p13]
          try all_goals (simp [Ty.dv, Ty.cells_eq, Ty.kind_mk, Ty.args_mk, Tm.dv, Tm.cells_eq, Tm.kind_mk, Tm.index_mk, Tm.type_mk, Tm.args_mk, Val.dv, Val.cells_eq, Val.kind_mk, Val.num_mk, Val.list_mk, Val.args_mk, ints])
        · rw [outM_no hfc, useM_no hfc] at hR
          have hΦ0 : Φ 0 = [(b2, [ptr b]), (b3, [r.thing, f.thing, .iface 176 (cellM l)]), (b8, [nilI]), (b9, [dbool false]), (b, [dint (most : Int), dint (most : Int)])] := by
            simp only [Φ, hS0, if_neg hfc, useM_no hfc, decide_eq_false hfc]
          rw [hΦ0, hΦl]
          simp [go_sem, hdis, hnds, q1, q2, q3, q4, q5, q6, q7, q8, q9, q10, q11, q12, q13, q14, q15, q16, q17, q18, p1, p3, p4, p6, p7, p8, p10, p11, p12, p13]
          refine t_rg (j2 @hdis (j2 @hnds (j2 @q1 (j2 @q2 (j2 @q3 (j2 @q4 (j2 @q5 (j2 @q6 (j2 @q7 (j2 @q8 (j2 @q9 (j2 @q10 (j2 @q11 (j2 @q12 (j2 @q13 (j2 @q14 (j2 @q15 (j2 @q16 (j2 @q17 (j2 @q18 (j2 @p1 (j2 @p3 (j2 @p4 (j2 @p6 (j2 @p7 (j2 @p8 (j2 @p10 (j2 @p11 (j2 @p12 @p13))))))))))))))))))))))))))))) ?_
          repeat (first | refine W_seq ?_ | refine W_skip ?_ | refine W_block ?_ | refine W_inBlock ?_ | refine W_label ?_ | refine W_exit rfl ?_)
          first | refine W_retR hP hf hfn _ ([(b, [dint (most : Int), dint (most : Int)])]) (by first | (simp [go_sem, hP, hgl, hn, hdis, hnds, q1, q2, q3, q4, q5, q6, q7, q8, q9, q10, q11, q12, q13, q14, q15, q16, q17, q18, p1, p3, p4, p6, p7, p8, p10, p11, p12, p13]; done) | (simp [go_sem, hP, hgl, hn, hdis, hnds, q1, q2, q3, q4, q5, q6, q7, q8, q9, q10, q11, q12, q13, q14, q15, q16, q17, q18, p1, p3, p4, p6, p7, p8, p10, p11, p12, p13]; rfl)) (by simp [go_sem, hP, hgl, hn, hdis, hnds, q1, q2, q3, q4, q5, q6, q7, q8, q9, q10, q11, q12, q13, q14, q15, q16, q17, q18, p1, p3, p4, p6, p7, p8, p10, p11, p12, p13]) (by simp) ?_ hR.2 | refine W_endR hP hf hfn _ ([(b, [dint (most : Int), dint (most : Int)])]) (by first | (simp [go_sem, hP, hgl, hn, hdis, hnds, q1, q2, q3, q4, q5, q6, q7, q8, q9, q10, q11, q12, q13, q14, q15, q16, q17, q18, p1, p3, p4, p6, p7, p8, p10, p11, p12, p13]; done) | (simp [go_sem, hP, hgl, hn, hdis, hnds, q1, q2, q3, q4, q5, q6, q7, q8, q9, q10, q11, q12, q13, q14, q15, q16, q17, q18, p1, p3, p4, p6, p7, p8, p10, p11, p12, p13]; rfl)) (by simp [go_sem, hP, hgl, hn, hdis, hnds, q1, q2, q3, q4, q5, q6, q7, q8, q9, q10, q11, q12, q13, q14, q15, q16, q17, q18, p1, p3, p4, p6, p7, p8, p10, p11, p12, p13]) (by simp) ?_ hR.2
          rw [hR.1]
          refine ⟨?_, by simp [hdis, hnds, q1, q2, q3, q4, q5, q6, q7, q8, q9, q10, q11, q12, q13, q14, q15, q16, q17, q18, p1, p3, p4, p6, p7, p8, p10, p11, p12, p13]⟩
          try simp [hdis, hnds, q1, q2, q3, q4, q5, q6, q7, q8, q9, q10, q11, q12, q13, q14, q15, q16, q17, q18, p1, p3, p4, p6, p7, p8, p10, p11, p12, p13]
          try all_goals (simp [Ty.dv, Ty.cells_eq, Ty.kind_mk, Ty.args_mk, Tm.dv, Tm.cells_eq, Tm.kind_mk, Tm.index_mk, Tm.type_mk, Tm.args_mk, Val.dv, Val.cells_eq, Val.kind_mk, Val.num_mk, Val.list_mk, Val.args_mk, ints])
      · rw [h]
        have hfc : ¬ u + c ≤ most := by have := (hS i).2; omega
        rw [outM_no hfc, useM_no hfc] at hR
        have hΦ0 : Φ i = [(b2, [ptr b]), (b3, [r.thing, f.thing, .iface 176 (cellM l)]), (b8, [nilI]), (b9, [dbool false]), (b, [dint (most : Int), dint (most : Int)])] := by
          simp only [Φ, if_neg hi, useM_no hi, decide_eq_false hi]
        rw [hΦ0, hΦl]
        simp [go_sem, hdis, hnds, q1, q2, q3, q4, q5, q6, q7, q8, q9, q10, q11, q12, q13, q14, q15, q16, q17, q18, p1, p3, p4, p6, p7, p8, p10, p11, p12, p13]
        refine t_rg (j2 @hdis (j2 @hnds (j2 @q1 (j2 @q2 (j2 @q3 (j2 @q4 (j2 @q5 (j2 @q6 (j2 @q7 (j2 @q8 (j2 @q9 (j2 @q10 (j2 @q11 (j2 @q12 (j2 @q13 (j2 @q14 (j2 @q15 (j2 @q16 (j2 @q17 (j2 @q18 (j2 @p1 (j2 @p3 (j2 @p4 (j2 @p6 (j2 @p7 (j2 @p8 (j2 @p10 (j2 @p11 (j2 @p12 @p13))))))))))))))))))))))))))))) ?_
        repeat (first | refine W_seq ?_ | refine W_skip ?_ | refine W_block ?_ | refine W_inBlock ?_ | refine W_label ?_ | refine W_exit rfl ?_)
        first | refine W_retR hP hf hfn _ ([(b, [dint (most : Int), dint (most : Int)])]) (by first | (simp [go_sem, hP, hgl, hn, hdis, hnds, q1, q2, q3, q4, q5, q6, q7, q8, q9, q10, q11, q12, q13, q14, q15, q16, q17, q18, p1, p3, p4, p6, p7, p8, p10, p11, p12, p13]; done) | (simp [go_sem, hP, hgl, hn, hdis, hnds, q1, q2, q3, q4, q5, q6, q7, q8, q9, q10, q11, q12, q13, q14, q15, q16, q17, q18, p1, p3, p4, p6, p7, p8, p10, p11, p12, p13]; rfl)) (by simp [go_sem, hP, hgl, hn, hdis, hnds, q1, q2, q3, q4, q5, q6, q7, q8, q9, q10, q11, q12, q13, q14, q15, q16, q17, q18, p1, p3, p4, p6, p7, p8, p10, p11, p12, p13]) (by simp) ?_ hR.2 | refine W_endR hP hf hfn _ ([(b, [dint (most : Int), dint (most : Int)])]) (by first | (simp [go_sem, hP, hgl, hn, hdis, hnds, q1, q2, q3, q4, q5, q6, q7, q8, q9, q10, q11, q12, q13, q14, q15, q16, q17, q18, p1, p3, p4, p6, p7, p8, p10, p11, p12, p13]; done) | (simp [go_sem, hP, hgl, hn, hdis, hnds, q1, q2, q3, q4, q5, q6, q7, q8, q9, q10, q11, q12, q13, q14, q15, q16, q17, q18, p1, p3, p4, p6, p7, p8, p10, p11, p12, p13]; rfl)) (by simp [go_sem, hP, hgl, hn, hdis, hnds, q1, q2, q3, q4, q5, q6, q7, q8, q9, q10, q11, q12, q13, q14, q15, q16, q17, q18, p1, p3, p4, p6, p7, p8, p10, p11, p12, p13]) (by simp) ?_ hR.2
        rw [hR.1]
        refine ⟨?_, by simp [hdis, hnds, q1, q2, q3, q4, q5, q6, q7, q8, q9, q10, q11, q12, q13, q14, q15, q16, q17, q18, p1, p3, p4, p6, p7, p8, p10, p11, p12, p13]⟩
        try simp [hdis, hnds, q1, q2, q3, q4, q5, q6, q7, q8, q9, q10, q11, q12, q13, q14, q15, q16, q17, q18, p1, p3, p4, p6, p7, p8, p10, p11, p12, p13]
        try all_goals (simp [Ty.dv, Ty.cells_eq, Ty.kind_mk, Ty.args_mk, Tm.dv, Tm.cells_eq, Tm.kind_mk, Tm.index_mk, Tm.type_mk, Tm.args_mk, Val.dv, Val.cells_eq, Val.kind_mk, Val.num_mk, Val.list_mk, Val.args_mk, ints])
end Go.Proofs.YtcldnfbcbkaanaaGreatDoor.Lift

/-
  Package machine: eval, kind by kind.
-/
namespace Go.Proofs.YtcldnfbcbkaanaaGreatDoor.Lift
set_option linter.unusedSimpArgs false
set_option linter.unusedVariables false
set_option linter.unnecessarySimpa false
open Go
variable {gl : Globs}

/-- nothing is left -/
theorem evalM_0 {most : Nat} (hm : most ≤ 1073741824) (t : Tm) {e : List MV} {u : Nat} (b : Nat) (hu : u ≤ most) (hf1 : ¬ u + 1 ≤ most) :
    Con1 Tryz.prog gl 75 [ptr b, t.dv, MV.envM e] [(b, useM most u)] (.tup [nilI, dbool false]) [(b, [dint (most : Int), dint (most : Int)])] := by
  rw [useM_yes hu]
  have hum : (most : Int) ≤ (u : Int) := by omega
  have hue : (u : Int) = (most : Int) := by omega
  refine t_in Tryz.func75 ?_
  intro X hP hgl hf hfn hn hR hids hfit
  refine t_g @hum ?_
  repeat (first | refine W_seq ?_ | refine W_skip ?_ | refine W_block ?_ | refine W_inBlock ?_ | refine W_label ?_ | refine W_exit rfl ?_)
  first | refine W_retR hP hf hfn _ ([(b, [dint (most : Int), dint (most : Int)])]) (by first | (simp [go_sem, hP, hgl, hn, hue]; done) | (simp [go_sem, hP, hgl, hn, hue]; rfl)) (by simp [go_sem, hP, hgl, hn, hue]) (by simp) ?_ hR.2 | refine W_endR hP hf hfn _ ([(b, [dint (most : Int), dint (most : Int)])]) (by first | (simp [go_sem, hP, hgl, hn, hue]; done) | (simp [go_sem, hP, hgl, hn, hue]; rfl)) (by simp [go_sem, hP, hgl, hn, hue]) (by simp) ?_ hR.2
  rw [hR.1]
  refine ⟨?_, by simp [hue]⟩
  try simp [hue]
  try all_goals (simp [Ty.dv, Ty.cells_eq, Ty.kind_mk, Ty.args_mk, Tm.dv, Tm.cells_eq, Tm.kind_mk, Tm.index_mk, Tm.type_mk, Tm.args_mk, Val.dv, Val.cells_eq, Val.kind_mk, Val.num_mk, Val.list_mk, Val.args_mk, ints])

/-- the parts are too much -/
theorem evalM_all {most : Nat} (hm : most ≤ 1073741824) {ev : Evl} (H : WalkM Tryz.prog gl 75 most ev) (hN : NleM most ev) (t : Tm) {e : List MV} {u : Nat} (b M : Nat) (hu : u ≤ most) (hM : M + (most - u) ≤ 1073741824) (he : MV.nles M e)
    (h3 : t.args.length ≤ 3) (hk1 : ¬ t.kind = 1) (hk2 : ¬ t.kind = 2) {vs : List MV} {c1 : Nat} (hall : allC ev t.args e = some (vs, c1)) (hf1 : u + 1 ≤ most) (hf2 : ¬ u + 1 + c1 ≤ most) :
    Con1 Tryz.prog gl 75 [ptr b, t.dv, MV.envM e] [(b, useM most u)] (.tup [nilI, dbool false]) [(b, [dint (most : Int), dint (most : Int)])] := by
  rw [useM_yes hu]
  have hum : ¬ (most : Int) ≤ (u : Int) := by omega
  have A1 := allM_ok hm H hN b (M + 1) hall h3 hf1 (by omega) (MV.nles_mono (by omega) _ he)
  have o6 : decide (u + 1 + c1 ≤ most) = false := decide_eq_false hf2
  unfold outA arr3 at A1
  rw [useM_yes hf1, useM_no hf2, o6] at A1
  generalize preC ev most e (u + 1) t.args = pp at A1
  refine t_in Tryz.func75 ?_
  intro X hP hgl hf hfn hn hR hids hfit
  refine t_g (j2 @hum (j2 @hk1 @hk2)) ?_
  refine t_c1 trivial A1 ?_
  refine t_g0 ?_
  repeat (first | refine W_seq ?_ | refine W_skip ?_ | refine W_block ?_ | refine W_inBlock ?_ | refine W_label ?_ | refine W_exit rfl ?_)
  first | refine W_retR hP hf hfn _ ([(b, [dint (most : Int), dint (most : Int)])]) (by first | (simp [go_sem, hP, hgl, hn]; done) | (simp [go_sem, hP, hgl, hn]; rfl)) (by simp [go_sem, hP, hgl, hn]) (by simp) ?_ hR.2 | refine W_endR hP hf hfn _ ([(b, [dint (most : Int), dint (most : Int)])]) (by first | (simp [go_sem, hP, hgl, hn]; done) | (simp [go_sem, hP, hgl, hn]; rfl)) (by simp [go_sem, hP, hgl, hn]) (by simp) ?_ hR.2
  rw [hR.1]
  refine ⟨?_, by simp⟩
  try simp
  try all_goals (simp [Ty.dv, Ty.cells_eq, Ty.kind_mk, Ty.args_mk, Tm.dv, Tm.cells_eq, Tm.kind_mk, Tm.index_mk, Tm.type_mk, Tm.args_mk, Val.dv, Val.cells_eq, Val.kind_mk, Val.num_mk, Val.list_mk, Val.args_mk, ints])

theorem evalM_k3 {most : Nat} (hm : most ≤ 1073741824) {ev : Evl} (H : WalkM Tryz.prog gl 75 most ev) (hN : NleM most ev) (t : Tm) {e : List MV} {u : Nat} (b M : Nat) (hu : u ≤ most) (hM : M + (most - u) ≤ 1073741824) (he : MV.nles M e)
    (h3 : t.args.length ≤ 3) (hk : t.kind = 3) {f x : MV} {v : MV} {c2 : Nat} {c1 : Nat} (hall : allC ev t.args e = some ([f, x], c1)) (hf1 : u + 1 ≤ most) (hf2 : u + 1 + c1 ≤ most) (hnode : callC ev f [x] = some (v, c2)) :
    Con1 Tryz.prog gl 75 [ptr b, t.dv, MV.envM e] [(b, useM most u)] (outM most (u + 1 + c1 + c2) v.thing) [(b, useM most (u + 1 + c1 + c2))] := by
  rw [useM_yes hu]
  have hum : ¬ (most : Int) ≤ (u : Int) := by omega
  have A1 := allM_ok hm H hN b (M + 1) hall h3 hf1 (by omega) (MV.nles_mono (by omega) _ he)
  have B1 := nle_all hN hall he
  have o6 : decide (u + 1 + c1 ≤ most) = true := decide_eq_true hf2
  unfold outA arr3 at A1
  rw [useM_yes hf1, useM_yes hf2, o6, preC_all hall hf2] at A1
  have z0 : at3 [f, x] 0 = f.thing := by first | rfl | (simp only [at3]; rw [MV.thing]; done) | exact rfl
  have z1 : at3 [f, x] 1 = x.thing := by first | rfl | (simp only [at3]; rw [MV.thing]; done) | exact rfl
  have z2 : at3 [f, x] 2 = nilI := by first | rfl | (simp only [at3]; rw [MV.thing]; done) | exact rfl
  rw [z0, z1, z2] at A1
  simp only [MV.nles] at B1
  have W1 := callM_ok hm H hN b (M + c1) hnode hf2 (by omega) B1.1 (by simp only [MV.nles]; exact ⟨B1.2.1, trivial⟩)
  rw [useM_yes hf2] at W1
  simp only [List.map] at W1
  by_cases hf3 : u + 1 + c1 + c2 ≤ most
  · rw [useM_yes hf3, outM_yes hf3] at W1 ⊢
    refine t_in Tryz.func75 ?_
    intro X hP hgl hf hfn hn hR hids hfit
    refine t_g (j2 @hum @hk) ?_
    refine t_c1 trivial A1 ?_
    refine t_g @hk ?_
    refine t_c1 trivial W1 ?_
    repeat (first | refine W_seq ?_ | refine W_skip ?_ | refine W_block ?_ | refine W_inBlock ?_ | refine W_label ?_ | refine W_exit rfl ?_)
    first | refine W_retR hP hf hfn _ ([(b, [dint ((u + 1 + c1 + c2 : Nat) : Int), dint (most : Int)])]) (by first | (simp [go_sem, hP, hgl, hn]; done) | (simp [go_sem, hP, hgl, hn]; rfl)) (by simp [go_sem, hP, hgl, hn]) (by simp) ?_ hR.2 | refine W_endR hP hf hfn _ ([(b, [dint ((u + 1 + c1 + c2 : Nat) : Int), dint (most : Int)])]) (by first | (simp [go_sem, hP, hgl, hn]; done) | (simp [go_sem, hP, hgl, hn]; rfl)) (by simp [go_sem, hP, hgl, hn]) (by simp) ?_ hR.2
    rw [hR.1]
    refine ⟨?_, by simp⟩
    try simp
    try all_goals (simp [Ty.dv, Ty.cells_eq, Ty.kind_mk, Ty.args_mk, Tm.dv, Tm.cells_eq, Tm.kind_mk, Tm.index_mk, Tm.type_mk, Tm.args_mk, Val.dv, Val.cells_eq, Val.kind_mk, Val.num_mk, Val.list_mk, Val.args_mk, ints])
  · rw [useM_no hf3, outM_no hf3] at W1 ⊢
    refine t_in Tryz.func75 ?_
    intro X hP hgl hf hfn hn hR hids hfit
    refine t_g (j2 @hum @hk) ?_
    refine t_c1 trivial A1 ?_
    refine t_g @hk ?_
    refine t_c1 trivial W1 ?_
    repeat (first | refine W_seq ?_ | refine W_skip ?_ | refine W_block ?_ | refine W_inBlock ?_ | refine W_label ?_ | refine W_exit rfl ?_)
    first | refine W_retR hP hf hfn _ ([(b, [dint (most : Int), dint (most : Int)])]) (by first | (simp [go_sem, hP, hgl, hn]; done) | (simp [go_sem, hP, hgl, hn]; rfl)) (by simp [go_sem, hP, hgl, hn]) (by simp) ?_ hR.2 | refine W_endR hP hf hfn _ ([(b, [dint (most : Int), dint (most : Int)])]) (by first | (simp [go_sem, hP, hgl, hn]; done) | (simp [go_sem, hP, hgl, hn]; rfl)) (by simp [go_sem, hP, hgl, hn]) (by simp) ?_ hR.2
    rw [hR.1]
    refine ⟨?_, by simp⟩
    try simp
    try all_goals (simp [Ty.dv, Ty.cells_eq, Ty.kind_mk, Ty.args_mk, Tm.dv, Tm.cells_eq, Tm.kind_mk, Tm.index_mk, Tm.type_mk, Tm.args_mk, Val.dv, Val.cells_eq, Val.kind_mk, Val.num_mk, Val.list_mk, Val.args_mk, ints])

theorem evalM_k4 {most : Nat} (hm : most ≤ 1073741824) {ev : Evl} (H : WalkM Tryz.prog gl 75 most ev) (hN : NleM most ev) (t : Tm) {e : List MV} {u : Nat} (b M : Nat) (hu : u ≤ most) (hM : M + (most - u) ≤ 1073741824) (he : MV.nles M e)
    (h3 : t.args.length ≤ 3) (hk : t.kind = 4) {vs : List MV} {c1 : Nat} (hall : allC ev t.args e = some (vs, c1)) (hf1 : u + 1 ≤ most) (hf2 : u + 1 + c1 ≤ most) :
    Con1 Tryz.prog gl 75 [ptr b, t.dv, MV.envM e] [(b, useM most u)] (.tup [(.iface 3 (dint (0 : Int))), dbool true]) [(b, [dint ((u + 1 + c1 : Nat) : Int), dint (most : Int)])] := by
  rw [useM_yes hu]
  have hum : ¬ (most : Int) ≤ (u : Int) := by omega
  have A1 := allM_ok hm H hN b (M + 1) hall h3 hf1 (by omega) (MV.nles_mono (by omega) _ he)
  have B1 := nle_all hN hall he
  have o6 : decide (u + 1 + c1 ≤ most) = true := decide_eq_true hf2
  unfold outA arr3 at A1
  rw [useM_yes hf1, useM_yes hf2, o6, preC_all hall hf2] at A1
  refine t_in Tryz.func75 ?_
  intro X hP hgl hf hfn hn hR hids hfit
  refine t_g (j2 @hum @hk) ?_
  refine t_c1 trivial A1 ?_
  refine t_g @hk ?_
  repeat (first | refine W_seq ?_ | refine W_skip ?_ | refine W_block ?_ | refine W_inBlock ?_ | refine W_label ?_ | refine W_exit rfl ?_)
  first | refine W_retR hP hf hfn _ ([(b, [dint ((u + 1 + c1 : Nat) : Int), dint (most : Int)])]) (by first | (simp [go_sem, hP, hgl, hn]; done) | (simp [go_sem, hP, hgl, hn]; rfl)) (by simp [go_sem, hP, hgl, hn]) (by simp) ?_ hR.2 | refine W_endR hP hf hfn _ ([(b, [dint ((u + 1 + c1 : Nat) : Int), dint (most : Int)])]) (by first | (simp [go_sem, hP, hgl, hn]; done) | (simp [go_sem, hP, hgl, hn]; rfl)) (by simp [go_sem, hP, hgl, hn]) (by simp) ?_ hR.2
  rw [hR.1]
  refine ⟨?_, by simp⟩
  try simp
  try all_goals (simp [Ty.dv, Ty.cells_eq, Ty.kind_mk, Ty.args_mk, Tm.dv, Tm.cells_eq, Tm.kind_mk, Tm.index_mk, Tm.type_mk, Tm.args_mk, Val.dv, Val.cells_eq, Val.kind_mk, Val.num_mk, Val.list_mk, Val.args_mk, ints])

theorem evalM_k5 {most : Nat} (hm : most ≤ 1073741824) {ev : Evl} (H : WalkM Tryz.prog gl 75 most ev) (hN : NleM most ev) (t : Tm) {e : List MV} {u : Nat} (b M : Nat) (hu : u ≤ most) (hM : M + (most - u) ≤ 1073741824) (he : MV.nles M e)
    (h3 : t.args.length ≤ 3) (hk : t.kind = 5) {n : Nat} {c1 : Nat} (hall : allC ev t.args e = some ([.num n], c1)) (hf1 : u + 1 ≤ most) (hf2 : u + 1 + c1 ≤ most) :
    Con1 Tryz.prog gl 75 [ptr b, t.dv, MV.envM e] [(b, useM most u)] (.tup [(.iface 3 (dint (((n + 1 : Nat)) : Int))), dbool true]) [(b, [dint ((u + 1 + c1 : Nat) : Int), dint (most : Int)])] := by
  rw [useM_yes hu]
  have hum : ¬ (most : Int) ≤ (u : Int) := by omega
  have A1 := allM_ok hm H hN b (M + 1) hall h3 hf1 (by omega) (MV.nles_mono (by omega) _ he)
  have B1 := nle_all hN hall he
  have o6 : decide (u + 1 + c1 ≤ most) = true := decide_eq_true hf2
  unfold outA arr3 at A1
  rw [useM_yes hf1, useM_yes hf2, o6, preC_all hall hf2] at A1
  have z0 : at3 [.num n] 0 = (.iface 3 (dint (n : Int))) := by first | rfl | (simp only [at3]; rw [MV.thing]; done) | exact thing_num _
  have z1 : at3 [.num n] 1 = nilI := by first | rfl | (simp only [at3]; rw [MV.thing]; done) | exact rfl
  have z2 : at3 [.num n] 2 = nilI := by first | rfl | (simp only [at3]; rw [MV.thing]; done) | exact rfl
  rw [z0, z1, z2] at A1
  refine t_in Tryz.func75 ?_
  intro X hP hgl hf hfn hn hR hids hfit
  refine t_g (j2 @hum @hk) ?_
  refine t_c1 trivial A1 ?_
  simp only [MV.nles, MV.nle] at B1
  have hn1 : (n : Int) ≤ 1073741824 := by omega
  have hn2 : ((n + 1 : Nat) : Int) = (n : Int) + 1 := by omega
  refine t_g (j2 @hk @hn1) ?_
  repeat (first | refine W_seq ?_ | refine W_skip ?_ | refine W_block ?_ | refine W_inBlock ?_ | refine W_label ?_ | refine W_exit rfl ?_)
  first | refine W_retR hP hf hfn _ ([(b, [dint ((u + 1 + c1 : Nat) : Int), dint (most : Int)])]) (by first | (simp [go_sem, hP, hgl, hn, hn2]; done) | (simp [go_sem, hP, hgl, hn, hn2]; rfl)) (by simp [go_sem, hP, hgl, hn, hn2]) (by simp) ?_ hR.2 | refine W_endR hP hf hfn _ ([(b, [dint ((u + 1 + c1 : Nat) : Int), dint (most : Int)])]) (by first | (simp [go_sem, hP, hgl, hn, hn2]; done) | (simp [go_sem, hP, hgl, hn, hn2]; rfl)) (by simp [go_sem, hP, hgl, hn, hn2]) (by simp) ?_ hR.2
  rw [hR.1]
  refine ⟨?_, by simp [hn2]⟩
  try simp [hn2]
  try all_goals (simp [Ty.dv, Ty.cells_eq, Ty.kind_mk, Ty.args_mk, Tm.dv, Tm.cells_eq, Tm.kind_mk, Tm.index_mk, Tm.type_mk, Tm.args_mk, Val.dv, Val.cells_eq, Val.kind_mk, Val.num_mk, Val.list_mk, Val.args_mk, ints])

theorem evalM_k6 {most : Nat} (hm : most ≤ 1073741824) {ev : Evl} (H : WalkM Tryz.prog gl 75 most ev) (hN : NleM most ev) (t : Tm) {e : List MV} {u : Nat} (b M : Nat) (hu : u ≤ most) (hM : M + (most - u) ≤ 1073741824) (he : MV.nles M e)
    (h3 : t.args.length ≤ 3) (hk : t.kind = 6) {r f : MV} {n : Nat} {v : MV} {c2 : Nat} {c1 : Nat} (hall : allC ev t.args e = some ([r, f, .num n], c1)) (hf1 : u + 1 ≤ most) (hf2 : u + 1 + c1 ≤ most) (hnode : recC ev f n 0 r = some (v, c2)) :
    Con1 Tryz.prog gl 75 [ptr b, t.dv, MV.envM e] [(b, useM most u)] (outM most (u + 1 + c1 + c2) v.thing) [(b, useM most (u + 1 + c1 + c2))] := by
  rw [useM_yes hu]
  have hum : ¬ (most : Int) ≤ (u : Int) := by omega
  have A1 := allM_ok hm H hN b (M + 1) hall h3 hf1 (by omega) (MV.nles_mono (by omega) _ he)
  have B1 := nle_all hN hall he
  have o6 : decide (u + 1 + c1 ≤ most) = true := decide_eq_true hf2
  unfold outA arr3 at A1
  rw [useM_yes hf1, useM_yes hf2, o6, preC_all hall hf2] at A1
  simp only [MV.nles, MV.nle] at B1
  have W1 := recM_ok hm H hN (fun h => nle_call hN h) b (M + c1) hnode hf2 (by omega) B1.1 B1.2.1 B1.2.2.1
  unfold arr3 at W1
  rw [useM_yes hf2] at W1
  by_cases hf3 : u + 1 + c1 + c2 ≤ most
  · rw [useM_yes hf3, outM_yes hf3] at W1 ⊢
    refine t_in Tryz.func75 ?_
    intro X hP hgl hf hfn hn hR hids hfit
    refine t_g (j2 @hum @hk) ?_
    refine t_c1 trivial A1 ?_
    refine t_g @hk ?_
    refine t_c1 trivial W1 ?_
    repeat (first | refine W_seq ?_ | refine W_skip ?_ | refine W_block ?_ | refine W_inBlock ?_ | refine W_label ?_ | refine W_exit rfl ?_)
    first | refine W_retR hP hf hfn _ ([(b, [dint ((u + 1 + c1 + c2 : Nat) : Int), dint (most : Int)])]) (by first | (simp [go_sem, hP, hgl, hn]; done) | (simp [go_sem, hP, hgl, hn]; rfl)) (by simp [go_sem, hP, hgl, hn]) (by simp) ?_ hR.2 | refine W_endR hP hf hfn _ ([(b, [dint ((u + 1 + c1 + c2 : Nat) : Int), dint (most : Int)])]) (by first | (simp [go_sem, hP, hgl, hn]; done) | (simp [go_sem, hP, hgl, hn]; rfl)) (by simp [go_sem, hP, hgl, hn]) (by simp) ?_ hR.2
    rw [hR.1]
    refine ⟨?_, by simp⟩
    try simp
    try all_goals (simp [Ty.dv, Ty.cells_eq, Ty.kind_mk, Ty.args_mk, Tm.dv, Tm.cells_eq, Tm.kind_mk, Tm.index_mk, Tm.type_mk, Tm.args_mk, Val.dv, Val.cells_eq, Val.kind_mk, Val.num_mk, Val.list_mk, Val.args_mk, ints])
  · rw [useM_no hf3, outM_no hf3] at W1 ⊢
    refine t_in Tryz.func75 ?_
    intro X hP hgl hf hfn hn hR hids hfit
    refine t_g (j2 @hum @hk) ?_
    refine t_c1 trivial A1 ?_
    refine t_g @hk ?_
    refine t_c1 trivial W1 ?_
    repeat (first | refine W_seq ?_ | refine W_skip ?_ | refine W_block ?_ | refine W_inBlock ?_ | refine W_label ?_ | refine W_exit rfl ?_)
    first | refine W_retR hP hf hfn _ ([(b, [dint (most : Int), dint (most : Int)])]) (by first | (simp [go_sem, hP, hgl, hn]; done) | (simp [go_sem, hP, hgl, hn]; rfl)) (by simp [go_sem, hP, hgl, hn]) (by simp) ?_ hR.2 | refine W_endR hP hf hfn _ ([(b, [dint (most : Int), dint (most : Int)])]) (by first | (simp [go_sem, hP, hgl, hn]; done) | (simp [go_sem, hP, hgl, hn]; rfl)) (by simp [go_sem, hP, hgl, hn]) (by simp) ?_ hR.2
    rw [hR.1]
    refine ⟨?_, by simp⟩
    try simp
    try all_goals (simp [Ty.dv, Ty.cells_eq, Ty.kind_mk, Ty.args_mk, Tm.dv, Tm.cells_eq, Tm.kind_mk, Tm.index_mk, Tm.type_mk, Tm.args_mk, Val.dv, Val.cells_eq, Val.kind_mk, Val.num_mk, Val.list_mk, Val.args_mk, ints])

theorem evalM_k7 {most : Nat} (hm : most ≤ 1073741824) {ev : Evl} (H : WalkM Tryz.prog gl 75 most ev) (hN : NleM most ev) (t : Tm) {e : List MV} {u : Nat} (b M : Nat) (hu : u ≤ most) (hM : M + (most - u) ≤ 1073741824) (he : MV.nles M e)
    (h3 : t.args.length ≤ 3) (hk : t.kind = 7) {vs : List MV} {c1 : Nat} (hall : allC ev t.args e = some (vs, c1)) (hf1 : u + 1 ≤ most) (hf2 : u + 1 + c1 ≤ most) :
    Con1 Tryz.prog gl 75 [ptr b, t.dv, MV.envM e] [(b, useM most u)] (.tup [(.iface 176 (cellM [])), dbool true]) [(b, [dint ((u + 1 + c1 : Nat) : Int), dint (most : Int)])] := by
  rw [useM_yes hu]
  have hum : ¬ (most : Int) ≤ (u : Int) := by omega
  have A1 := allM_ok hm H hN b (M + 1) hall h3 hf1 (by omega) (MV.nles_mono (by omega) _ he)
  have B1 := nle_all hN hall he
  have o6 : decide (u + 1 + c1 ≤ most) = true := decide_eq_true hf2
  unfold outA arr3 at A1
  rw [useM_yes hf1, useM_yes hf2, o6, preC_all hall hf2] at A1
  refine t_in Tryz.func75 ?_
  intro X hP hgl hf hfn hn hR hids hfit
  refine t_g (j2 @hum @hk) ?_
  refine t_c1 trivial A1 ?_
  have hnil := cellM_nil
  refine t_g @hk ?_
  repeat (first | refine W_seq ?_ | refine W_skip ?_ | refine W_block ?_ | refine W_inBlock ?_ | refine W_label ?_ | refine W_exit rfl ?_)
  first | refine W_retR hP hf hfn _ ([(b, [dint ((u + 1 + c1 : Nat) : Int), dint (most : Int)])]) (by first | (simp [go_sem, hP, hgl, hn, cellM_nil]; done) | (simp [go_sem, hP, hgl, hn, cellM_nil]; rfl)) (by simp [go_sem, hP, hgl, hn, cellM_nil]) (by simp) ?_ hR.2 | refine W_endR hP hf hfn _ ([(b, [dint ((u + 1 + c1 : Nat) : Int), dint (most : Int)])]) (by first | (simp [go_sem, hP, hgl, hn, cellM_nil]; done) | (simp [go_sem, hP, hgl, hn, cellM_nil]; rfl)) (by simp [go_sem, hP, hgl, hn, cellM_nil]) (by simp) ?_ hR.2
  rw [hR.1]
  refine ⟨?_, by simp [cellM_nil]⟩
  try simp [cellM_nil]
  try all_goals (simp [Ty.dv, Ty.cells_eq, Ty.kind_mk, Ty.args_mk, Tm.dv, Tm.cells_eq, Tm.kind_mk, Tm.index_mk, Tm.type_mk, Tm.args_mk, Val.dv, Val.cells_eq, Val.kind_mk, Val.num_mk, Val.list_mk, Val.args_mk, ints])

theorem evalM_k9 {most : Nat} (hm : most ≤ 1073741824) {ev : Evl} (H : WalkM Tryz.prog gl 75 most ev) (hN : NleM most ev) (hFold : FoldM Tryz.prog gl 146 most ev) (t : Tm) {e : List MV} {u : Nat} (b M : Nat) (hu : u ≤ most) (hM : M + (most - u) ≤ 1073741824) (he : MV.nles M e)
    (h3 : t.args.length ≤ 3) (hk : t.kind = 9) {r f : MV} {l : List Nat} {v : MV} {c2 : Nat} {c1 : Nat} (hall : allC ev t.args e = some ([r, f, .list l], c1)) (hf1 : u + 1 ≤ most) (hf2 : u + 1 + c1 ≤ most) (hnode : foldC ev f r l = some (v, c2)) :
    Con1 Tryz.prog gl 75 [ptr b, t.dv, MV.envM e] [(b, useM most u)] (outM most (u + 1 + c1 + c2) v.thing) [(b, useM most (u + 1 + c1 + c2))] := by
  rw [useM_yes hu]
  have hum : ¬ (most : Int) ≤ (u : Int) := by omega
  have A1 := allM_ok hm H hN b (M + 1) hall h3 hf1 (by omega) (MV.nles_mono (by omega) _ he)
  have B1 := nle_all hN hall he
  have o6 : decide (u + 1 + c1 ≤ most) = true := decide_eq_true hf2
  unfold outA arr3 at A1
  rw [useM_yes hf1, useM_yes hf2, o6, preC_all hall hf2] at A1
  simp only [MV.nles, MV.nle] at B1
  have W1 := hFold b (M + c1) hnode hf2 (by omega) B1.1 B1.2.1 B1.2.2.1
  unfold arr3 at W1
  rw [useM_yes hf2] at W1
  by_cases hf3 : u + 1 + c1 + c2 ≤ most
  · rw [useM_yes hf3, outM_yes hf3] at W1 ⊢
    refine t_in Tryz.func75 ?_
    intro X hP hgl hf hfn hn hR hids hfit
    refine t_g (j2 @hum @hk) ?_
    refine t_c1 trivial A1 ?_
    refine t_g @hk ?_
    refine t_c1 trivial W1 ?_
    repeat (first | refine W_seq ?_ | refine W_skip ?_ | refine W_block ?_ | refine W_inBlock ?_ | refine W_label ?_ | refine W_exit rfl ?_)
    first | refine W_retR hP hf hfn _ ([(b, [dint ((u + 1 + c1 + c2 : Nat) : Int), dint (most : Int)])]) (by first | (simp [go_sem, hP, hgl, hn]; done) | (simp [go_sem, hP, hgl, hn]; rfl)) (by simp [go_sem, hP, hgl, hn]) (by simp) ?_ hR.2 | refine W_endR hP hf hfn _ ([(b, [dint ((u + 1 + c1 + c2 : Nat) : Int), dint (most : Int)])]) (by first | (simp [go_sem, hP, hgl, hn]; done) | (simp [go_sem, hP, hgl, hn]; rfl)) (by simp [go_sem, hP, hgl, hn]) (by simp) ?_ hR.2
    rw [hR.1]
    refine ⟨?_, by simp⟩
    try simp
    try all_goals (simp [Ty.dv, Ty.cells_eq, Ty.kind_mk, Ty.args_mk, Tm.dv, Tm.cells_eq, Tm.kind_mk, Tm.index_mk, Tm.type_mk, Tm.args_mk, Val.dv, Val.cells_eq, Val.kind_mk, Val.num_mk, Val.list_mk, Val.args_mk, ints])
  · rw [useM_no hf3, outM_no hf3] at W1 ⊢
    refine t_in Tryz.func75 ?_
    intro X hP hgl hf hfn hn hR hids hfit
    refine t_g (j2 @hum @hk) ?_
    refine t_c1 trivial A1 ?_
    refine t_g @hk ?_
    refine t_c1 trivial W1 ?_
    repeat (first | refine W_seq ?_ | refine W_skip ?_ | refine W_block ?_ | refine W_inBlock ?_ | refine W_label ?_ | refine W_exit rfl ?_)
    first | refine W_retR hP hf hfn _ ([(b, [dint (most : Int), dint (most : Int)])]) (by first | (simp [go_sem, hP, hgl, hn]; done) | (simp [go_sem, hP, hgl, hn]; rfl)) (by simp [go_sem, hP, hgl, hn]) (by simp) ?_ hR.2 | refine W_endR hP hf hfn _ ([(b, [dint (most : Int), dint (most : Int)])]) (by first | (simp [go_sem, hP, hgl, hn]; done) | (simp [go_sem, hP, hgl, hn]; rfl)) (by simp [go_sem, hP, hgl, hn]) (by simp) ?_ hR.2
    rw [hR.1]
    refine ⟨?_, by simp⟩
    try simp
    try all_goals (simp [Ty.dv, Ty.cells_eq, Ty.kind_mk, Ty.args_mk, Tm.dv, Tm.cells_eq, Tm.kind_mk, Tm.index_mk, Tm.type_mk, Tm.args_mk, Val.dv, Val.cells_eq, Val.kind_mk, Val.num_mk, Val.list_mk, Val.args_mk, ints])

theorem evalM_k11 {most : Nat} (hm : most ≤ 1073741824) {ev : Evl} (H : WalkM Tryz.prog gl 75 most ev) (hN : NleM most ev) (t : Tm) {e : List MV} {u : Nat} (b M : Nat) (hu : u ≤ most) (hM : M + (most - u) ≤ 1073741824) (he : MV.nles M e)
    (h3 : t.args.length ≤ 3) (hk : t.kind = 11) {x y : MV} {c1 : Nat} (hall : allC ev t.args e = some ([.both x y], c1)) (hf1 : u + 1 ≤ most) (hf2 : u + 1 + c1 ≤ most) :
    Con1 Tryz.prog gl 75 [ptr b, t.dv, MV.envM e] [(b, useM most u)] (.tup [x.thing, dbool true]) [(b, [dint ((u + 1 + c1 : Nat) : Int), dint (most : Int)])] := by
  rw [useM_yes hu]
  have hum : ¬ (most : Int) ≤ (u : Int) := by omega
  have A1 := allM_ok hm H hN b (M + 1) hall h3 hf1 (by omega) (MV.nles_mono (by omega) _ he)
  have B1 := nle_all hN hall he
  have o6 : decide (u + 1 + c1 ≤ most) = true := decide_eq_true hf2
  unfold outA arr3 at A1
  rw [useM_yes hf1, useM_yes hf2, o6, preC_all hall hf2] at A1
  have z0 : at3 [.both x y] 0 = (.iface 182 (.ref [x.thing, y.thing])) := by first | rfl | (simp only [at3]; rw [MV.thing]; done) | exact thing_both _ _
  have z1 : at3 [.both x y] 1 = nilI := by first | rfl | (simp only [at3]; rw [MV.thing]; done) | exact rfl
  have z2 : at3 [.both x y] 2 = nilI := by first | rfl | (simp only [at3]; rw [MV.thing]; done) | exact rfl
  rw [z0, z1, z2] at A1
  refine t_in Tryz.func75 ?_
  intro X hP hgl hf hfn hn hR hids hfit
  refine t_g (j2 @hum @hk) ?_
  refine t_c1 trivial A1 ?_
  refine t_g @hk ?_
  repeat (first | refine W_seq ?_ | refine W_skip ?_ | refine W_block ?_ | refine W_inBlock ?_ | refine W_label ?_ | refine W_exit rfl ?_)
  first | refine W_retR hP hf hfn _ ([(b, [dint ((u + 1 + c1 : Nat) : Int), dint (most : Int)])]) (by first | (simp [go_sem, hP, hgl, hn]; done) | (simp [go_sem, hP, hgl, hn]; rfl)) (by simp [go_sem, hP, hgl, hn]) (by simp) ?_ hR.2 | refine W_endR hP hf hfn _ ([(b, [dint ((u + 1 + c1 : Nat) : Int), dint (most : Int)])]) (by first | (simp [go_sem, hP, hgl, hn]; done) | (simp [go_sem, hP, hgl, hn]; rfl)) (by simp [go_sem, hP, hgl, hn]) (by simp) ?_ hR.2
  rw [hR.1]
  refine ⟨?_, by simp⟩
  try simp
  try all_goals (simp [Ty.dv, Ty.cells_eq, Ty.kind_mk, Ty.args_mk, Tm.dv, Tm.cells_eq, Tm.kind_mk, Tm.index_mk, Tm.type_mk, Tm.args_mk, Val.dv, Val.cells_eq, Val.kind_mk, Val.num_mk, Val.list_mk, Val.args_mk, ints])

theorem evalM_k12 {most : Nat} (hm : most ≤ 1073741824) {ev : Evl} (H : WalkM Tryz.prog gl 75 most ev) (hN : NleM most ev) (t : Tm) {e : List MV} {u : Nat} (b M : Nat) (hu : u ≤ most) (hM : M + (most - u) ≤ 1073741824) (he : MV.nles M e)
    (h3 : t.args.length ≤ 3) (hk : t.kind = 12) {x y : MV} {c1 : Nat} (hall : allC ev t.args e = some ([.both x y], c1)) (hf1 : u + 1 ≤ most) (hf2 : u + 1 + c1 ≤ most) :
    Con1 Tryz.prog gl 75 [ptr b, t.dv, MV.envM e] [(b, useM most u)] (.tup [y.thing, dbool true]) [(b, [dint ((u + 1 + c1 : Nat) : Int), dint (most : Int)])] := by
  rw [useM_yes hu]
  have hum : ¬ (most : Int) ≤ (u : Int) := by omega
  have A1 := allM_ok hm H hN b (M + 1) hall h3 hf1 (by omega) (MV.nles_mono (by omega) _ he)
  have B1 := nle_all hN hall he
  have o6 : decide (u + 1 + c1 ≤ most) = true := decide_eq_true hf2
  unfold outA arr3 at A1
  rw [useM_yes hf1, useM_yes hf2, o6, preC_all hall hf2] at A1
  have z0 : at3 [.both x y] 0 = (.iface 182 (.ref [x.thing, y.thing])) := by first | rfl | (simp only [at3]; rw [MV.thing]; done) | exact thing_both _ _
  have z1 : at3 [.both x y] 1 = nilI := by first | rfl | (simp only [at3]; rw [MV.thing]; done) | exact rfl
  have z2 : at3 [.both x y] 2 = nilI := by first | rfl | (simp only [at3]; rw [MV.thing]; done) | exact rfl
  rw [z0, z1, z2] at A1
  refine t_in Tryz.func75 ?_
  intro X hP hgl hf hfn hn hR hids hfit
  refine t_g (j2 @hum @hk) ?_
  refine t_c1 trivial A1 ?_
  refine t_g @hk ?_
  repeat (first | refine W_seq ?_ | refine W_skip ?_ | refine W_block ?_ | refine W_inBlock ?_ | refine W_label ?_ | refine W_exit rfl ?_)
  first | refine W_retR hP hf hfn _ ([(b, [dint ((u + 1 + c1 : Nat) : Int), dint (most : Int)])]) (by first | (simp [go_sem, hP, hgl, hn]; done) | (simp [go_sem, hP, hgl, hn]; rfl)) (by simp [go_sem, hP, hgl, hn]) (by simp) ?_ hR.2 | refine W_endR hP hf hfn _ ([(b, [dint ((u + 1 + c1 : Nat) : Int), dint (most : Int)])]) (by first | (simp [go_sem, hP, hgl, hn]; done) | (simp [go_sem, hP, hgl, hn]; rfl)) (by simp [go_sem, hP, hgl, hn]) (by simp) ?_ hR.2
  rw [hR.1]
  refine ⟨?_, by simp⟩
  try simp
  try all_goals (simp [Ty.dv, Ty.cells_eq, Ty.kind_mk, Ty.args_mk, Tm.dv, Tm.cells_eq, Tm.kind_mk, Tm.index_mk, Tm.type_mk, Tm.args_mk, Val.dv, Val.cells_eq, Val.kind_mk, Val.num_mk, Val.list_mk, Val.args_mk, ints])

theorem evalM_k13 {most : Nat} (hm : most ≤ 1073741824) {ev : Evl} (H : WalkM Tryz.prog gl 75 most ev) (hN : NleM most ev) (t : Tm) {e : List MV} {u : Nat} (b M : Nat) (hu : u ≤ most) (hM : M + (most - u) ≤ 1073741824) (he : MV.nles M e)
    (h3 : t.args.length ≤ 3) (hk : t.kind = 13) {vs : List MV} {c1 : Nat} (hall : allC ev t.args e = some (vs, c1)) (hf1 : u + 1 ≤ most) (hf2 : u + 1 + c1 ≤ most) :
    Con1 Tryz.prog gl 75 [ptr b, t.dv, MV.envM e] [(b, useM most u)] (.tup [(.iface 186 (.agg [])), dbool true]) [(b, [dint ((u + 1 + c1 : Nat) : Int), dint (most : Int)])] := by
  rw [useM_yes hu]
  have hum : ¬ (most : Int) ≤ (u : Int) := by omega
  have A1 := allM_ok hm H hN b (M + 1) hall h3 hf1 (by omega) (MV.nles_mono (by omega) _ he)
  have B1 := nle_all hN hall he
  have o6 : decide (u + 1 + c1 ≤ most) = true := decide_eq_true hf2
  unfold outA arr3 at A1
  rw [useM_yes hf1, useM_yes hf2, o6, preC_all hall hf2] at A1
  refine t_in Tryz.func75 ?_
  intro X hP hgl hf hfn hn hR hids hfit
  refine t_g (j2 @hum @hk) ?_
  refine t_c1 trivial A1 ?_
  refine t_g @hk ?_
  repeat (first | refine W_seq ?_ | refine W_skip ?_ | refine W_block ?_ | refine W_inBlock ?_ | refine W_label ?_ | refine W_exit rfl ?_)
  first | refine W_retR hP hf hfn _ ([(b, [dint ((u + 1 + c1 : Nat) : Int), dint (most : Int)])]) (by first | (simp [go_sem, hP, hgl, hn]; done) | (simp [go_sem, hP, hgl, hn]; rfl)) (by simp [go_sem, hP, hgl, hn]) (by simp) ?_ hR.2 | refine W_endR hP hf hfn _ ([(b, [dint ((u + 1 + c1 : Nat) : Int), dint (most : Int)])]) (by first | (simp [go_sem, hP, hgl, hn]; done) | (simp [go_sem, hP, hgl, hn]; rfl)) (by simp [go_sem, hP, hgl, hn]) (by simp) ?_ hR.2
  rw [hR.1]
  refine ⟨?_, by simp⟩
  try simp
  try all_goals (simp [Ty.dv, Ty.cells_eq, Ty.kind_mk, Ty.args_mk, Tm.dv, Tm.cells_eq, Tm.kind_mk, Tm.index_mk, Tm.type_mk, Tm.args_mk, Val.dv, Val.cells_eq, Val.kind_mk, Val.num_mk, Val.list_mk, Val.args_mk, ints])

theorem evalM_k10 {most : Nat} (hm : most ≤ 1073741824) {ev : Evl} (H : WalkM Tryz.prog gl 75 most ev) (hN : NleM most ev) (t : Tm) {e : List MV} {u : Nat} (b M : Nat) (hu : u ≤ most) (hM : M + (most - u) ≤ 1073741824) (he : MV.nles M e)
    (h3 : t.args.length ≤ 3) (hk : t.kind = 10) {x y : MV} {c1 : Nat} (hall : allC ev t.args e = some ([x, y], c1)) (hf1 : u + 1 ≤ most) (hf2 : u + 1 + c1 ≤ most) :
    Con1 Tryz.prog gl 75 [ptr b, t.dv, MV.envM e] [(b, useM most u)] (.tup [(.iface 182 (.ref [x.thing, y.thing])), dbool true]) [(b, [dint ((u + 1 + c1 : Nat) : Int), dint (most : Int)])] := by
  rw [useM_yes hu]
  have hum : ¬ (most : Int) ≤ (u : Int) := by omega
  have A1 := allM_ok hm H hN b (M + 1) hall h3 hf1 (by omega) (MV.nles_mono (by omega) _ he)
  have B1 := nle_all hN hall he
  have o6 : decide (u + 1 + c1 ≤ most) = true := decide_eq_true hf2
  unfold outA arr3 at A1
  rw [useM_yes hf1, useM_yes hf2, o6, preC_all hall hf2] at A1
  have z0 : at3 [x, y] 0 = x.thing := by first | rfl | (simp only [at3]; rw [MV.thing]; done) | exact rfl
  have z1 : at3 [x, y] 1 = y.thing := by first | rfl | (simp only [at3]; rw [MV.thing]; done) | exact rfl
  have z2 : at3 [x, y] 2 = nilI := by first | rfl | (simp only [at3]; rw [MV.thing]; done) | exact rfl
  rw [z0, z1, z2] at A1
  refine t_in Tryz.func75 ?_
  intro X hP hgl hf hfn hn hR hids hfit
  refine t_g (j2 @hum @hk) ?_
  refine t_c1 trivial A1 ?_
  refine t_g @hk ?_
  refine W_reg [109] fun K hK => ?_
  simp [go_sem, hP, hgl, hn]
  refine vcK_boxR (cs := [x.thing, y.thing]) (y := .ag [x.thing, y.thing] []) (by simp [go_sem, hP, hgl, hn]) (by simp [go_sem]) (by simp [go_sem]) (by rw [hn]; exact Nat.le_of_ble_eq_true rfl) (by rfl) ?_
  simp [go_sem, hP, hgl, hn]
  refine t_e ?_
  clear hK K
  repeat (first | refine W_seq ?_ | refine W_skip ?_ | refine W_block ?_ | refine W_inBlock ?_ | refine W_label ?_ | refine W_exit rfl ?_)
  first | refine W_retR hP hf hfn _ ([(b, [dint ((u + 1 + c1 : Nat) : Int), dint (most : Int)])]) (by first | (simp [go_sem, hP, hgl, hn]; done) | (simp [go_sem, hP, hgl, hn]; rfl)) (by simp [go_sem, hP, hgl, hn]) (by simp) ?_ hR.2 | refine W_endR hP hf hfn _ ([(b, [dint ((u + 1 + c1 : Nat) : Int), dint (most : Int)])]) (by first | (simp [go_sem, hP, hgl, hn]; done) | (simp [go_sem, hP, hgl, hn]; rfl)) (by simp [go_sem, hP, hgl, hn]) (by simp) ?_ hR.2
  rw [hR.1]
  refine ⟨?_, by simp⟩
  try simp
  try all_goals (simp [Ty.dv, Ty.cells_eq, Ty.kind_mk, Ty.args_mk, Tm.dv, Tm.cells_eq, Tm.kind_mk, Tm.index_mk, Tm.type_mk, Tm.args_mk, Val.dv, Val.cells_eq, Val.kind_mk, Val.num_mk, Val.list_mk, Val.args_mk, ints])

theorem evalM_k8 {most : Nat} (hm : most ≤ 1073741824) {ev : Evl} (H : WalkM Tryz.prog gl 75 most ev) (hN : NleM most ev) (t : Tm) {e : List MV} {u : Nat} (b M : Nat) (hu : u ≤ most) (hM : M + (most - u) ≤ 1073741824) (he : MV.nles M e)
    (h3 : t.args.length ≤ 3) (hk : t.kind = 8) {n : Nat} {l : List Nat} {c1 : Nat} (hall : allC ev t.args e = some ([.num n, .list l], c1)) (hf1 : u + 1 ≤ most) (hf2 : u + 1 + c1 ≤ most) :
    Con1 Tryz.prog gl 75 [ptr b, t.dv, MV.envM e] [(b, useM most u)] (.tup [(.iface 176 (cellM (n :: l))), dbool true]) [(b, [dint ((u + 1 + c1 : Nat) : Int), dint (most : Int)])] := by
  rw [useM_yes hu]
  have hum : ¬ (most : Int) ≤ (u : Int) := by omega
  have A1 := allM_ok hm H hN b (M + 1) hall h3 hf1 (by omega) (MV.nles_mono (by omega) _ he)
  have B1 := nle_all hN hall he
  have o6 : decide (u + 1 + c1 ≤ most) = true := decide_eq_true hf2
  unfold outA arr3 at A1
  rw [useM_yes hf1, useM_yes hf2, o6, preC_all hall hf2] at A1
  have z0 : at3 [.num n, .list l] 0 = (.iface 3 (dint (n : Int))) := by first | rfl | (simp only [at3]; rw [MV.thing]; done) | exact thing_num _
  have z1 : at3 [.num n, .list l] 1 = (.iface 176 (cellM l)) := by first | rfl | (simp only [at3]; rw [MV.thing]; done) | exact thing_list _
  have z2 : at3 [.num n, .list l] 2 = nilI := by first | rfl | (simp only [at3]; rw [MV.thing]; done) | exact rfl
  rw [z0, z1, z2] at A1
  refine t_in Tryz.func75 ?_
  intro X hP hgl hf hfn hn hR hids hfit
  refine t_g (j2 @hum @hk) ?_
  refine t_c1 trivial A1 ?_
  refine t_g @hk ?_
  refine W_regd (by rw [hP]; exact mixed) [93] fun K hK => ?_
  simp [go_sem, hP, hgl, hn]
  refine vcdC_boxR (cs := [dint (n : Int), cellM l]) (y := .ag [dint (n : Int), cellM l] []) (fun _ _ => vcd_sound) (by simp [go_sem, hP, hgl, hn]) (by simp [go_sem]) (by simp [go_sem]) (by rw [hn]; exact Nat.le_of_ble_eq_true rfl) (by rfl) ?_
  simp [go_sem, hP, hgl, hn]
  refine t_e ?_
  clear hK K
  repeat (first | refine W_seq ?_ | refine W_skip ?_ | refine W_block ?_ | refine W_inBlock ?_ | refine W_label ?_ | refine W_exit rfl ?_)
  first | refine W_retR hP hf hfn _ ([(b, [dint ((u + 1 + c1 : Nat) : Int), dint (most : Int)])]) (by first | (simp [go_sem, hP, hgl, hn, cellM_cons]; done) | (simp [go_sem, hP, hgl, hn, cellM_cons]; rfl)) (by simp [go_sem, hP, hgl, hn, cellM_cons]) (by simp) ?_ hR.2 | refine W_endR hP hf hfn _ ([(b, [dint ((u + 1 + c1 : Nat) : Int), dint (most : Int)])]) (by first | (simp [go_sem, hP, hgl, hn, cellM_cons]; done) | (simp [go_sem, hP, hgl, hn, cellM_cons]; rfl)) (by simp [go_sem, hP, hgl, hn, cellM_cons]) (by simp) ?_ hR.2
  rw [hR.1]
  refine ⟨?_, by simp [cellM_cons]⟩
  try simp [cellM_cons]
  try all_goals (simp [Ty.dv, Ty.cells_eq, Ty.kind_mk, Ty.args_mk, Tm.dv, Tm.cells_eq, Tm.kind_mk, Tm.index_mk, Tm.type_mk, Tm.args_mk, Val.dv, Val.cells_eq, Val.kind_mk, Val.num_mk, Val.list_mk, Val.args_mk, ints])

end Go.Proofs.YtcldnfbcbkaanaaGreatDoor.Lift

/-
  Package machine: eval as a whole, by the depth.
-/
namespace Go.Proofs.YtcldnfbcbkaanaaGreatDoor.Lift
set_option linter.unusedSimpArgs false
set_option linter.unusedVariables false
set_option linter.unnecessarySimpa false
open Go
variable {gl : Globs}

theorem evalM_step {most : Nat} (hm : most ≤ 1073741824) {d : Nat} (H : WalkM Tryz.prog gl 75 most (evS d)) (hFold : FoldM Tryz.prog gl 146 most (evS d)) :
    WalkM Tryz.prog gl 75 most (evS (d + 1)) := by
  intro t e u v c b M h hu hM he
  have hN := nle_evS most d
  have hpos := evS_pos h
  by_cases hf1 : u + 1 ≤ most
  rotate_left
  · have hbig : ¬ u + c ≤ most := by omega
    rw [outM_no hbig, useM_no hbig]
    exact evalM_0 hm t b hu hf1
  rw [evS] at h
  by_cases h1 : t.kind = 1
  · rw [if_pos h1] at h
    split at h
    · rename_i hi
      simp only [Option.some.injEq, Prod.mk.injEq] at h
      obtain ⟨rfl, rfl⟩ := h
      exact evalM_1 hm t b hu h1 hi
    · cases h
  rw [if_neg h1] at h
  by_cases h2 : t.kind = 2
  · rw [if_pos h2] at h
    split at h
    · cases h
    · rename_i ha
      simp only [Option.some.injEq, Prod.mk.injEq] at h
      obtain ⟨rfl, rfl⟩ := h
      cases hargs : t.args with
      | nil => rw [hargs] at ha; exact absurd rfl ha
      | cons body rest =>
        have : t.argN 0 = body := by simp [Tm.argN, hargs]
        rw [this]
        exact evalM_2 hm t b hu h2 hargs
  rw [if_neg h2] at h
  split at h
  · cases h
  rename_i h3
  have h3 : t.args.length ≤ 3 := by omega
  split at h
  · cases h
  rename_i vs c1 hall
  split at h
  · cases h
  rename_i w c2 hnode
  simp only [Option.some.injEq, Prod.mk.injEq] at h
  obtain ⟨rfl, rfl⟩ := h
  have e0 : u + (1 + c1 + c2) = u + 1 + c1 + c2 := by omega
  rw [e0]
  by_cases hf2 : u + 1 + c1 ≤ most
  rotate_left
  · have hbig : ¬ u + 1 + c1 + c2 ≤ most := by omega
    rw [outM_no hbig, useM_no hbig]
    exact evalM_all hm H hN t b M hu hM he h3 h1 h2 hall hf1 hf2
  unfold nodeS at hnode
  split at hnode
  rotate_left
  · cases hnode
  rename_i hk
  unfold nodeC at hnode
  by_cases k3 : t.kind = 3
  · rw [if_pos k3] at hnode
    split at hnode
    · exact evalM_k3 hm H hN t b M hu hM he h3 k3 hall hf1 hf2 hnode
    · cases hnode
  rw [if_neg k3] at hnode
  by_cases k4 : t.kind = 4
  · rw [if_pos k4] at hnode
    simp only [Option.some.injEq, Prod.mk.injEq] at hnode
    obtain ⟨rfl, rfl⟩ := hnode
    rw [Nat.add_zero, outM_yes hf2, useM_yes hf2, thing_num]
    exact evalM_k4 hm H hN t b M hu hM he h3 k4 hall hf1 hf2
  rw [if_neg k4] at hnode
  by_cases k5 : t.kind = 5
  · rw [if_pos k5] at hnode
    split at hnode
    · simp only [Option.some.injEq, Prod.mk.injEq] at hnode
      obtain ⟨rfl, rfl⟩ := hnode
      rw [Nat.add_zero, outM_yes hf2, useM_yes hf2, thing_num]
      exact evalM_k5 hm H hN t b M hu hM he h3 k5 hall hf1 hf2
    · cases hnode
  rw [if_neg k5] at hnode
  by_cases k6 : t.kind = 6
  · rw [if_pos k6] at hnode
    split at hnode
    · exact evalM_k6 hm H hN t b M hu hM he h3 k6 hall hf1 hf2 hnode
    · cases hnode
  rw [if_neg k6] at hnode
  by_cases k7 : t.kind = 7
  · rw [if_pos k7] at hnode
    simp only [Option.some.injEq, Prod.mk.injEq] at hnode
    obtain ⟨rfl, rfl⟩ := hnode
    rw [Nat.add_zero, outM_yes hf2, useM_yes hf2, thing_list]
    exact evalM_k7 hm H hN t b M hu hM he h3 k7 hall hf1 hf2
  rw [if_neg k7] at hnode
  by_cases k8 : t.kind = 8
  · rw [if_pos k8] at hnode
    split at hnode
    · simp only [Option.some.injEq, Prod.mk.injEq] at hnode
      obtain ⟨rfl, rfl⟩ := hnode
      rw [Nat.add_zero, outM_yes hf2, useM_yes hf2, thing_list]
      exact evalM_k8 hm H hN t b M hu hM he h3 k8 hall hf1 hf2
    · cases hnode
  rw [if_neg k8] at hnode
  by_cases k9 : t.kind = 9
  · rw [if_pos k9] at hnode
    split at hnode
    · exact evalM_k9 hm H hN hFold t b M hu hM he h3 k9 hall hf1 hf2 hnode
    · cases hnode
  rw [if_neg k9] at hnode
  by_cases k10 : t.kind = 10
  · rw [if_pos k10] at hnode
    split at hnode
    · simp only [Option.some.injEq, Prod.mk.injEq] at hnode
      obtain ⟨rfl, rfl⟩ := hnode
      rw [Nat.add_zero, outM_yes hf2, useM_yes hf2, thing_both]
      exact evalM_k10 hm H hN t b M hu hM he h3 k10 hall hf1 hf2
    · cases hnode
  rw [if_neg k10] at hnode
  by_cases k11 : t.kind = 11
  · rw [if_pos k11] at hnode
    split at hnode
    · simp only [Option.some.injEq, Prod.mk.injEq] at hnode
      obtain ⟨rfl, rfl⟩ := hnode
      rw [Nat.add_zero, outM_yes hf2, useM_yes hf2]
      exact evalM_k11 hm H hN t b M hu hM he h3 k11 hall hf1 hf2
    · cases hnode
  rw [if_neg k11] at hnode
  by_cases k12 : t.kind = 12
  · rw [if_pos k12] at hnode
    split at hnode
    · simp only [Option.some.injEq, Prod.mk.injEq] at hnode
      obtain ⟨rfl, rfl⟩ := hnode
      rw [Nat.add_zero, outM_yes hf2, useM_yes hf2]
      exact evalM_k12 hm H hN t b M hu hM he h3 k12 hall hf1 hf2
    · cases hnode
  rw [if_neg k12] at hnode
  have k13 : t.kind = 13 := by omega
  simp only [Option.some.injEq, Prod.mk.injEq] at hnode
  obtain ⟨rfl, rfl⟩ := hnode
  rw [Nat.add_zero, outM_yes hf2, useM_yes hf2, thing_unit]
  exact evalM_k13 hm H hN t b M hu hM he h3 k13 hall hf1 hf2

/-- the walk of a run, if that of a fold is known -/
theorem walkM_all {most : Nat} (hm : most ≤ 1073741824) (hFold : ∀ ev, WalkM Tryz.prog gl 75 most ev → NleM most ev → FoldM Tryz.prog gl 146 most ev) :
    ∀ d, WalkM Tryz.prog gl 75 most (evS d)
  | 0 => by intro t e u v c b M h; cases h
  | d + 1 => evalM_step hm (walkM_all hm hFold d) (hFold _ (walkM_all hm hFold d) (nle_evS most d))
end Go.Proofs.YtcldnfbcbkaanaaGreatDoor.Lift

