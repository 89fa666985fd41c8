import Derived.Test.YtiacandbafjlfaaGreatDoorQ3
namespace Go.Proofs.YtiacandbafjlfaaGreatDoor.Lift
set_option linter.unusedSimpArgs false
set_option linter.unusedVariables false
set_option linter.unnecessarySimpa false
open Go
variable {gl : Globs}

def lamsT (b : Tm) (l : List Ty) : Tm := l.foldr (fun s b => Tm.mk 2 0 s [b]) b
def appsT (f : Tm) (l : List Tm) : Tm := l.foldl appT f
theorem appsT_snoc (f : Tm) (l : List Tm) (x : Tm) : appsT f (l ++ [x]) = appT (appsT f l) x := by simp [appsT]
theorem appsT_nil (f : Tm) : appsT f [] = f := rfl
theorem lamsT_drop (b : Tm) (l : List Ty) (j : Nat) (s : Ty) (h : l[j]? = some s) : lamsT b (l.drop j) = Tm.mk 2 0 s [lamsT b (l.drop (j + 1))] := by
  obtain ⟨hj, hs⟩ := List.getElem?_eq_some_iff.1 h
  rw [List.drop_eq_getElem_cons hj, hs]
  rfl

theorem tree_var_ok (i : Int) : Con1 Tryz.prog gl 136 [dint i] [] (Tm.mk 1 i (Ty.mk 0 []) []).dv [] := by
  refine t_in Tryz.func136 ?_
  intro X hP hgl hf hfn hn hR hids hfit
  refine t_g0 ?_
  refine t_r ?_
  simp [go_sem, hP, hgl, hn] <;> (try omega)
  all_goals exact t_f

theorem tree_rec_ok (k : Int) (s : Ty) (a b c : Tm) : Con1 Tryz.prog gl 147 [dint k, s.dv, a.dv, b.dv, c.dv] [] (Tm.mk k 0 s [a, b, c]).dv [] := by
  refine t_in Tryz.func147 ?_
  intro X hP hgl hf hfn hn hR hids hfit
  refine t_g0 ?_
  refine t_r ?_
  simp [go_sem, hP, hgl, hn] <;> (try omega)
  all_goals exact t_f

theorem tree_lam_ok (b : Tm) (l : List Ty) : Con1 Tryz.prog gl 145 [b.dv, .sl (l.map Ty.cells)] [] (lamsT b l).dv [] := by
  refine t_in Tryz.func145 ?_
  intro X hP hgl hf hfn hn hR hids hfit
  have hlen := sl_len (hfit (.sl (l.map Ty.cells)) (by simp))
  simp only [List.length_map] at hlen
  have h0 : lamsT b [] = b := rfl
  refine t_g0 ?_
  refine t_a ?_
  refine t_sub [] @h0 (W_rounds (fun k : Nat => k ≤ l.length) (fun k : Nat => [(.slot 1, .one (.v (.sl (l.map Ty.cells)))), (.slot 5, .one (.v (dint ((k : Int) - 1)))), (.loc 2, .row ([.v (dint (lamsT b (l.drop k)).kind), .v (dint (lamsT b (l.drop k)).index), .v (dint (lamsT b (l.drop k)).type.kind), .v (.sl ((lamsT b (l.drop k)).type.args.map Ty.cells)), .v (.sl ((lamsT b (l.drop k)).args.map Tm.cells))])), (.slot 2, .one (.loc 2 0)), (.loc 4, .row ([.v (dint 0), .v (dint 0), .v (dint 0), .own 0 [], .own 0 []])), (.slot 4, .one (.loc 4 0))]) (fun k : Nat => k) l.length (Nat.le_refl _) ?_)
  intro k hk ih2
  cases k with
  | zero =>
    refine t_g0 ?_
    refine t_r ?_
    simp [go_sem, hP, hgl, hn] <;> (try omega)
    all_goals exact t_f
  | succ j =>
    have hj : l[j]? = some l[j] := List.getElem?_eq_getElem hk
    generalize l[j] = s at hj
    have hd := lamsT_drop b l j s hj
    have hj' : ((j + 1 : Nat) : Int) - 1 = j := by omega
    rw [hj']
    refine t_gt (wr []) (j2 @hd (j2 @Tm.kind_mk (j2 @Tm.index_mk (j2 @Tm.type_mk (j2 @Tm.args_mk (Tm.cells_eq (lamsT b (l.drop (j + 1))))))))) @hj (ih2 j (by omega) (by omega))

theorem tree_app_ok (f : Tm) (l : List Tm) : Con1 Tryz.prog gl 138 [f.dv, .sl (l.map Tm.cells)] [] (appsT f l).dv [] := by
  refine t_in Tryz.func138 ?_
  intro X hP hgl hf hfn hn hR hids hfit
  have hlen := sl_len (hfit (.sl (l.map Tm.cells)) (by simp))
  simp only [List.length_map] at hlen
  refine t_g0 ?_
  refine t_a ?_
  refine t_sub [] @appsT_nil (W_list (l) (fun done rest => [(.slot 9, .one (.v (dint done.length))), (.slot 8, .one (.v (dint l.length))), (.slot 7, .one (.v (.sl (l.map Tm.cells)))), (.loc 2, .row ([.v (dint (appsT f done).kind), .v (dint (appsT f done).index), .v (dint (appsT f done).type.kind), .v (.sl ((appsT f done).type.args.map Ty.cells)), .v (.sl ((appsT f done).args.map Tm.cells))])), (.slot 2, .one (.loc 2 0)), (.loc 4, .row ([.v (dint 0), .v (dint 0), .v (dint 0), .own 0 [], .own 0 []])), (.slot 4, .one (.loc 4 0))]) ?_ ?_)
  · intro done x rest hL hg0 hnext
    have hlt : done.length < l.length := by rw [hL]; simp
    refine t_rg0 ?_
    refine t_yes ?_
    refine t_g @hg0 ?_
    refine t_c1 @hg0 (of_ok 3 [appsT f done, x]) ?_
    repeat (first | (refine W_sub [] (by simp [go_sem]) (by simp [go_sem, appsT_snoc, appT, Tm.kind_mk, Tm.index_mk, Tm.type_mk, Tm.args_mk] <;> omega) (by simp [go_sem]) hnext) | refine W_seq ?_ | refine W_skip ?_ | refine W_block ?_ | refine W_inBlock ?_ | refine W_label ?_ | refine W_exit rfl ?_ | ((first | refine W_reg [] fun K hK => ?_ | refine W_regd (by rw [hP]; exact mixed) [] fun K hK => ?_); simp [go_sem, hP, hgl, hn]; (repeat (refine ⟨by omega, ?_⟩)); (first | refine hK _ ?_ | refine ⟨by rfl, hK _ ?_⟩); clear hK K) | refine W_cond rfl (fun _ => ?_) (fun hq => False.elim (by first | (simp; done) | (simp; omega) | (simp at hq; done) | (simp at hq; omega))) | refine W_cond rfl (fun hq => False.elim (by first | (simp; done) | (simp; omega) | (simp at hq; done) | (simp at hq; omega))) (fun _ => ?_))
  · refine t_rg0 ?_
    refine t_no ?_
    refine t_g0 ?_
    refine t_r ?_
    simp [go_sem, hP, hgl, hn] <;> (try omega)
    all_goals exact t_f

theorem mk_app_ok (f : Tm) (l : List Tm) : Con1 Tryz.prog gl 60 [f.dv, .sl (l.map Tm.cells)] [] (appsT f l).dv [] := by
  refine t_in Tryz.func60 ?_
  intro X hP hgl hf hfn hn hR hids hfit
  have hlen := sl_len (hfit (.sl (l.map Tm.cells)) (by simp))
  simp only [List.length_map] at hlen
  refine t_g0 ?_
  refine t_a ?_
  refine t_sub [] @appsT_nil (W_list (l) (fun done rest => [(.slot 9, .one (.v (dint done.length))), (.slot 8, .one (.v (dint l.length))), (.slot 7, .one (.v (.sl (l.map Tm.cells)))), (.loc 2, .row ([.v (dint (appsT f done).kind), .v (dint (appsT f done).index), .v (dint (appsT f done).type.kind), .v (.sl ((appsT f done).type.args.map Ty.cells)), .v (.sl ((appsT f done).args.map Tm.cells))])), (.slot 2, .one (.loc 2 0)), (.loc 4, .row ([.v (dint 0), .v (dint 0), .v (dint 0), .own 0 [], .own 0 []])), (.slot 4, .one (.loc 4 0))]) ?_ ?_)
  · intro done x rest hL hg0 hnext
    have hlt : done.length < l.length := by rw [hL]; simp
    refine t_rg0 ?_
    refine t_yes ?_
    refine t_g @hg0 ?_
    refine t_c1 @hg0 (ref02_n_ok 3 [appsT f done, x]) ?_
    repeat (first | (refine W_sub [] (by simp [go_sem]) (by simp [go_sem, appsT_snoc, appT, Tm.kind_mk, Tm.index_mk, Tm.type_mk, Tm.args_mk] <;> omega) (by simp [go_sem]) hnext) | refine W_seq ?_ | refine W_skip ?_ | refine W_block ?_ | refine W_inBlock ?_ | refine W_label ?_ | refine W_exit rfl ?_ | ((first | refine W_reg [] fun K hK => ?_ | refine W_regd (by rw [hP]; exact mixed) [] fun K hK => ?_); simp [go_sem, hP, hgl, hn]; (repeat (refine ⟨by omega, ?_⟩)); (first | refine hK _ ?_ | refine ⟨by rfl, hK _ ?_⟩); clear hK K) | refine W_cond rfl (fun _ => ?_) (fun hq => False.elim (by first | (simp; done) | (simp; omega) | (simp at hq; done) | (simp at hq; omega))) | refine W_cond rfl (fun hq => False.elim (by first | (simp; done) | (simp; omega) | (simp at hq; done) | (simp at hq; omega))) (fun _ => ?_))
  · refine t_rg0 ?_
    refine t_no ?_
    refine t_g0 ?_
    refine t_r ?_
    simp [go_sem, hP, hgl, hn] <;> (try omega)
    all_goals exact t_f

def vT (i : Int) : Tm := Tm.mk 1 i (Ty.mk 0 []) []
def nT (k : Int) (l : List Tm) : Tm := Tm.mk k 0 (Ty.mk 0 []) l
def recT (b s o : Tm) : Tm := Tm.mk 6 0 (Ty.mk 1 []) [b, lamsT s [Ty.mk 1 [], Ty.mk 1 []], o]
def twoT (b : Tm) : Tm := lamsT b [Ty.mk 1 [], Ty.mk 1 []]
def predT : Tm := lamsT (recT (nT 4 []) (vT 1) (vT 0)) [Ty.mk 1 []]
def plusT : Tm := twoT (recT (vT 1) (nT 5 [vT 0]) (vT 0))
def subT : Tm := twoT (recT (vT 1) (appsT predT [vT 0]) (vT 0))
theorem recursion_ok (a b c : Tm) : Con1 Tryz.prog gl 135 [a.dv, b.dv, c.dv] [] (recT a b c).dv [] := by
  refine t_in Tryz.func135 ?_
  intro X hP hgl hf hfn hn hR hids hfit
  refine t_g0 ?_
  refine t_c5 @nat_v nat_ok nat_ok nat_ok (tree_lam_ok b [Ty.mk 1 [], Ty.mk 1 []]) (tree_rec_ok 6 (Ty.mk 1 []) a (lamsT b [Ty.mk 1 [], Ty.mk 1 []]) c) ?_
  refine t_r ?_
  simp [go_sem, hP, hgl, hn, recT] <;> (try omega)
  all_goals exact t_f
theorem two_ok (b : Tm) : Con1 Tryz.prog gl 134 [b.dv] [] (twoT b).dv [] := by
  refine t_in Tryz.func134 ?_
  intro X hP hgl hf hfn hn hR hids hfit
  refine t_g0 ?_
  refine t_c3 @nat_v nat_ok nat_ok (tree_lam_ok b [Ty.mk 1 [], Ty.mk 1 []]) ?_
  refine t_r ?_
  simp [go_sem, hP, hgl, hn, twoT] <;> (try omega)
theorem pred_ok : Con1 Tryz.prog gl 139 [] [] predT.dv [] := by
  refine t_in Tryz.func139 ?_
  intro X hP hgl hf hfn hn hR hids hfit
  refine t_g0 ?_
  refine t_a ?_
  first | refine W_reg [] fun K hK => ?_ | refine W_regd (by rw [hP]; exact mixed) [] fun K hK => ?_
  simp [go_sem, hP, hgl, hn, nat_v, nT, vT]
  repeat (refine ⟨by omega, ?_⟩)
  first | refine vcK_call hP hgl (of_ok 4 []) (by simp [go_sem, hP, hgl, hn, nat_v, nT, vT]) rfl (by simp [go_sem]) (by simp) (by rw [hn]; exact Nat.le_of_ble_eq_true rfl) ?_ | refine vcdC_call (fun _ _ => vcd_sound) hP hgl (of_ok 4 []) (by simp [go_sem, hP, hgl, hn, nat_v, nT, vT]) rfl (by simp [go_sem]) (by simp) (by rw [hn]; exact Nat.le_of_ble_eq_true rfl) ?_ | refine vcK_callG hP hgl (of_ok 4 []) (by simp [go_sem, hP, hgl, hn, nat_v, nT, vT]) rfl (by simp [go_sem]) (by simp) (by rw [hn]; exact Nat.le_of_ble_eq_true rfl) (by simp [go_sem]; rfl) (by rw [hn]; exact Nat.le_of_ble_eq_true rfl) (by simp [go_sem]) ?_ | refine vcdC_callG (fun _ _ => vcd_sound) hP hgl (of_ok 4 []) (by simp [go_sem, hP, hgl, hn, nat_v, nT, vT]) rfl (by simp [go_sem]) (by simp) (by rw [hn]; exact Nat.le_of_ble_eq_true rfl) (by simp [go_sem]; rfl) (by rw [hn]; exact Nat.le_of_ble_eq_true rfl) (by simp [go_sem]) ?_
  simp [go_sem, hP, hgl, hn, nat_v, nT, vT]
  repeat (refine ⟨by omega, ?_⟩)
  first | refine vcK_call hP hgl (tree_var_ok 1) (by simp [go_sem, hP, hgl, hn, nat_v, nT, vT]) rfl (by simp [go_sem]) (by simp) (by rw [hn]; exact Nat.le_of_ble_eq_true rfl) ?_ | refine vcdC_call (fun _ _ => vcd_sound) hP hgl (tree_var_ok 1) (by simp [go_sem, hP, hgl, hn, nat_v, nT, vT]) rfl (by simp [go_sem]) (by simp) (by rw [hn]; exact Nat.le_of_ble_eq_true rfl) ?_ | refine vcK_callG hP hgl (tree_var_ok 1) (by simp [go_sem, hP, hgl, hn, nat_v, nT, vT]) rfl (by simp [go_sem]) (by simp) (by rw [hn]; exact Nat.le_of_ble_eq_true rfl) (by simp [go_sem]; rfl) (by rw [hn]; exact Nat.le_of_ble_eq_true rfl) (by simp [go_sem]) ?_ | refine vcdC_callG (fun _ _ => vcd_sound) hP hgl (tree_var_ok 1) (by simp [go_sem, hP, hgl, hn, nat_v, nT, vT]) rfl (by simp [go_sem]) (by simp) (by rw [hn]; exact Nat.le_of_ble_eq_true rfl) (by simp [go_sem]; rfl) (by rw [hn]; exact Nat.le_of_ble_eq_true rfl) (by simp [go_sem]) ?_
  simp [go_sem, hP, hgl, hn, nat_v, nT, vT]
  repeat (refine ⟨by omega, ?_⟩)
  first | refine vcK_call hP hgl (tree_var_ok 0) (by simp [go_sem, hP, hgl, hn, nat_v, nT, vT]) rfl (by simp [go_sem]) (by simp) (by rw [hn]; exact Nat.le_of_ble_eq_true rfl) ?_ | refine vcdC_call (fun _ _ => vcd_sound) hP hgl (tree_var_ok 0) (by simp [go_sem, hP, hgl, hn, nat_v, nT, vT]) rfl (by simp [go_sem]) (by simp) (by rw [hn]; exact Nat.le_of_ble_eq_true rfl) ?_ | refine vcK_callG hP hgl (tree_var_ok 0) (by simp [go_sem, hP, hgl, hn, nat_v, nT, vT]) rfl (by simp [go_sem]) (by simp) (by rw [hn]; exact Nat.le_of_ble_eq_true rfl) (by simp [go_sem]; rfl) (by rw [hn]; exact Nat.le_of_ble_eq_true rfl) (by simp [go_sem]) ?_ | refine vcdC_callG (fun _ _ => vcd_sound) hP hgl (tree_var_ok 0) (by simp [go_sem, hP, hgl, hn, nat_v, nT, vT]) rfl (by simp [go_sem]) (by simp) (by rw [hn]; exact Nat.le_of_ble_eq_true rfl) (by simp [go_sem]; rfl) (by rw [hn]; exact Nat.le_of_ble_eq_true rfl) (by simp [go_sem]) ?_
  simp [go_sem, hP, hgl, hn, nat_v, nT, vT]
  repeat (refine ⟨by omega, ?_⟩)
  first | refine vcK_call hP hgl (recursion_ok (nT 4 []) (vT 1) (vT 0)) (by simp [go_sem, hP, hgl, hn, nat_v, nT, vT]) rfl (by simp [go_sem]) (by simp) (by rw [hn]; exact Nat.le_of_ble_eq_true rfl) ?_ | refine vcdC_call (fun _ _ => vcd_sound) hP hgl (recursion_ok (nT 4 []) (vT 1) (vT 0)) (by simp [go_sem, hP, hgl, hn, nat_v, nT, vT]) rfl (by simp [go_sem]) (by simp) (by rw [hn]; exact Nat.le_of_ble_eq_true rfl) ?_ | refine vcK_callG hP hgl (recursion_ok (nT 4 []) (vT 1) (vT 0)) (by simp [go_sem, hP, hgl, hn, nat_v, nT, vT]) rfl (by simp [go_sem]) (by simp) (by rw [hn]; exact Nat.le_of_ble_eq_true rfl) (by simp [go_sem]; rfl) (by rw [hn]; exact Nat.le_of_ble_eq_true rfl) (by simp [go_sem]) ?_ | refine vcdC_callG (fun _ _ => vcd_sound) hP hgl (recursion_ok (nT 4 []) (vT 1) (vT 0)) (by simp [go_sem, hP, hgl, hn, nat_v, nT, vT]) rfl (by simp [go_sem]) (by simp) (by rw [hn]; exact Nat.le_of_ble_eq_true rfl) (by simp [go_sem]; rfl) (by rw [hn]; exact Nat.le_of_ble_eq_true rfl) (by simp [go_sem]) ?_
  simp [go_sem, hP, hgl, hn, nat_v, nT, vT]
  repeat (refine ⟨by omega, ?_⟩)
  first | refine vcK_call hP hgl (nat_ok) (by simp [go_sem, hP, hgl, hn, nat_v, nT, vT]) rfl (by simp [go_sem]) (by simp) (by rw [hn]; exact Nat.le_of_ble_eq_true rfl) ?_ | refine vcdC_call (fun _ _ => vcd_sound) hP hgl (nat_ok) (by simp [go_sem, hP, hgl, hn, nat_v, nT, vT]) rfl (by simp [go_sem]) (by simp) (by rw [hn]; exact Nat.le_of_ble_eq_true rfl) ?_ | refine vcK_callG hP hgl (nat_ok) (by simp [go_sem, hP, hgl, hn, nat_v, nT, vT]) rfl (by simp [go_sem]) (by simp) (by rw [hn]; exact Nat.le_of_ble_eq_true rfl) (by simp [go_sem]; rfl) (by rw [hn]; exact Nat.le_of_ble_eq_true rfl) (by simp [go_sem]) ?_ | refine vcdC_callG (fun _ _ => vcd_sound) hP hgl (nat_ok) (by simp [go_sem, hP, hgl, hn, nat_v, nT, vT]) rfl (by simp [go_sem]) (by simp) (by rw [hn]; exact Nat.le_of_ble_eq_true rfl) (by simp [go_sem]; rfl) (by rw [hn]; exact Nat.le_of_ble_eq_true rfl) (by simp [go_sem]) ?_
  simp [go_sem, hP, hgl, hn, nat_v, nT, vT]
  repeat (refine ⟨by omega, ?_⟩)
  first | refine vcK_call hP hgl (tree_lam_ok (recT (nT 4 []) (vT 1) (vT 0)) [Ty.mk 1 []]) (by simp [go_sem, hP, hgl, hn, nat_v, nT, vT]) rfl (by simp [go_sem]) (by simp) (by rw [hn]; exact Nat.le_of_ble_eq_true rfl) ?_ | refine vcdC_call (fun _ _ => vcd_sound) hP hgl (tree_lam_ok (recT (nT 4 []) (vT 1) (vT 0)) [Ty.mk 1 []]) (by simp [go_sem, hP, hgl, hn, nat_v, nT, vT]) rfl (by simp [go_sem]) (by simp) (by rw [hn]; exact Nat.le_of_ble_eq_true rfl) ?_ | refine vcK_callG hP hgl (tree_lam_ok (recT (nT 4 []) (vT 1) (vT 0)) [Ty.mk 1 []]) (by simp [go_sem, hP, hgl, hn, nat_v, nT, vT]) rfl (by simp [go_sem]) (by simp) (by rw [hn]; exact Nat.le_of_ble_eq_true rfl) (by simp [go_sem]; rfl) (by rw [hn]; exact Nat.le_of_ble_eq_true rfl) (by simp [go_sem]) ?_ | refine vcdC_callG (fun _ _ => vcd_sound) hP hgl (tree_lam_ok (recT (nT 4 []) (vT 1) (vT 0)) [Ty.mk 1 []]) (by simp [go_sem, hP, hgl, hn, nat_v, nT, vT]) rfl (by simp [go_sem]) (by simp) (by rw [hn]; exact Nat.le_of_ble_eq_true rfl) (by simp [go_sem]; rfl) (by rw [hn]; exact Nat.le_of_ble_eq_true rfl) (by simp [go_sem]) ?_
  simp [go_sem, hP, hgl, hn, nat_v, nT, vT]
  refine t_e ?_
  clear hK K
  refine t_r ?_
  simp [go_sem, hP, hgl, hn, predT, nT, vT] <;> (try omega)
theorem plus_ok : Con1 Tryz.prog gl 118 [] [] plusT.dv [] := by
  refine t_in Tryz.func118 ?_
  intro X hP hgl hf hfn hn hR hids hfit
  refine t_g0 ?_
  refine t_a ?_
  first | refine W_reg [] fun K hK => ?_ | refine W_regd (by rw [hP]; exact mixed) [] fun K hK => ?_
  simp [go_sem, hP, hgl, hn, nT, vT]
  repeat (refine ⟨by omega, ?_⟩)
  first | refine vcK_call hP hgl (tree_var_ok 1) (by simp [go_sem, hP, hgl, hn, nT, vT]) rfl (by simp [go_sem]) (by simp) (by rw [hn]; exact Nat.le_of_ble_eq_true rfl) ?_ | refine vcdC_call (fun _ _ => vcd_sound) hP hgl (tree_var_ok 1) (by simp [go_sem, hP, hgl, hn, nT, vT]) rfl (by simp [go_sem]) (by simp) (by rw [hn]; exact Nat.le_of_ble_eq_true rfl) ?_ | refine vcK_callG hP hgl (tree_var_ok 1) (by simp [go_sem, hP, hgl, hn, nT, vT]) rfl (by simp [go_sem]) (by simp) (by rw [hn]; exact Nat.le_of_ble_eq_true rfl) (by simp [go_sem]; rfl) (by rw [hn]; exact Nat.le_of_ble_eq_true rfl) (by simp [go_sem]) ?_ | refine vcdC_callG (fun _ _ => vcd_sound) hP hgl (tree_var_ok 1) (by simp [go_sem, hP, hgl, hn, nT, vT]) rfl (by simp [go_sem]) (by simp) (by rw [hn]; exact Nat.le_of_ble_eq_true rfl) (by simp [go_sem]; rfl) (by rw [hn]; exact Nat.le_of_ble_eq_true rfl) (by simp [go_sem]) ?_
  simp [go_sem, hP, hgl, hn, nT, vT]
  repeat (refine ⟨by omega, ?_⟩)
  first | refine vcK_call hP hgl (tree_var_ok 0) (by simp [go_sem, hP, hgl, hn, nT, vT]) rfl (by simp [go_sem]) (by simp) (by rw [hn]; exact Nat.le_of_ble_eq_true rfl) ?_ | refine vcdC_call (fun _ _ => vcd_sound) hP hgl (tree_var_ok 0) (by simp [go_sem, hP, hgl, hn, nT, vT]) rfl (by simp [go_sem]) (by simp) (by rw [hn]; exact Nat.le_of_ble_eq_true rfl) ?_ | refine vcK_callG hP hgl (tree_var_ok 0) (by simp [go_sem, hP, hgl, hn, nT, vT]) rfl (by simp [go_sem]) (by simp) (by rw [hn]; exact Nat.le_of_ble_eq_true rfl) (by simp [go_sem]; rfl) (by rw [hn]; exact Nat.le_of_ble_eq_true rfl) (by simp [go_sem]) ?_ | refine vcdC_callG (fun _ _ => vcd_sound) hP hgl (tree_var_ok 0) (by simp [go_sem, hP, hgl, hn, nT, vT]) rfl (by simp [go_sem]) (by simp) (by rw [hn]; exact Nat.le_of_ble_eq_true rfl) (by simp [go_sem]; rfl) (by rw [hn]; exact Nat.le_of_ble_eq_true rfl) (by simp [go_sem]) ?_
  simp [go_sem, hP, hgl, hn, nT, vT]
  repeat (refine ⟨by omega, ?_⟩)
  first | refine vcK_call hP hgl (of_ok 5 [vT 0]) (by simp [go_sem, hP, hgl, hn, nT, vT]) rfl (by simp [go_sem]) (by simp) (by rw [hn]; exact Nat.le_of_ble_eq_true rfl) ?_ | refine vcdC_call (fun _ _ => vcd_sound) hP hgl (of_ok 5 [vT 0]) (by simp [go_sem, hP, hgl, hn, nT, vT]) rfl (by simp [go_sem]) (by simp) (by rw [hn]; exact Nat.le_of_ble_eq_true rfl) ?_ | refine vcK_callG hP hgl (of_ok 5 [vT 0]) (by simp [go_sem, hP, hgl, hn, nT, vT]) rfl (by simp [go_sem]) (by simp) (by rw [hn]; exact Nat.le_of_ble_eq_true rfl) (by simp [go_sem]; rfl) (by rw [hn]; exact Nat.le_of_ble_eq_true rfl) (by simp [go_sem]) ?_ | refine vcdC_callG (fun _ _ => vcd_sound) hP hgl (of_ok 5 [vT 0]) (by simp [go_sem, hP, hgl, hn, nT, vT]) rfl (by simp [go_sem]) (by simp) (by rw [hn]; exact Nat.le_of_ble_eq_true rfl) (by simp [go_sem]; rfl) (by rw [hn]; exact Nat.le_of_ble_eq_true rfl) (by simp [go_sem]) ?_
  simp [go_sem, hP, hgl, hn, nT, vT]
  repeat (refine ⟨by omega, ?_⟩)
  first | refine vcK_call hP hgl (tree_var_ok 0) (by simp [go_sem, hP, hgl, hn, nT, vT]) rfl (by simp [go_sem]) (by simp) (by rw [hn]; exact Nat.le_of_ble_eq_true rfl) ?_ | refine vcdC_call (fun _ _ => vcd_sound) hP hgl (tree_var_ok 0) (by simp [go_sem, hP, hgl, hn, nT, vT]) rfl (by simp [go_sem]) (by simp) (by rw [hn]; exact Nat.le_of_ble_eq_true rfl) ?_ | refine vcK_callG hP hgl (tree_var_ok 0) (by simp [go_sem, hP, hgl, hn, nT, vT]) rfl (by simp [go_sem]) (by simp) (by rw [hn]; exact Nat.le_of_ble_eq_true rfl) (by simp [go_sem]; rfl) (by rw [hn]; exact Nat.le_of_ble_eq_true rfl) (by simp [go_sem]) ?_ | refine vcdC_callG (fun _ _ => vcd_sound) hP hgl (tree_var_ok 0) (by simp [go_sem, hP, hgl, hn, nT, vT]) rfl (by simp [go_sem]) (by simp) (by rw [hn]; exact Nat.le_of_ble_eq_true rfl) (by simp [go_sem]; rfl) (by rw [hn]; exact Nat.le_of_ble_eq_true rfl) (by simp [go_sem]) ?_
  simp [go_sem, hP, hgl, hn, nT, vT]
  repeat (refine ⟨by omega, ?_⟩)
  first | refine vcK_call hP hgl (recursion_ok (vT 1) (nT 5 [vT 0]) (vT 0)) (by simp [go_sem, hP, hgl, hn, nT, vT]) rfl (by simp [go_sem]) (by simp) (by rw [hn]; exact Nat.le_of_ble_eq_true rfl) ?_ | refine vcdC_call (fun _ _ => vcd_sound) hP hgl (recursion_ok (vT 1) (nT 5 [vT 0]) (vT 0)) (by simp [go_sem, hP, hgl, hn, nT, vT]) rfl (by simp [go_sem]) (by simp) (by rw [hn]; exact Nat.le_of_ble_eq_true rfl) ?_ | refine vcK_callG hP hgl (recursion_ok (vT 1) (nT 5 [vT 0]) (vT 0)) (by simp [go_sem, hP, hgl, hn, nT, vT]) rfl (by simp [go_sem]) (by simp) (by rw [hn]; exact Nat.le_of_ble_eq_true rfl) (by simp [go_sem]; rfl) (by rw [hn]; exact Nat.le_of_ble_eq_true rfl) (by simp [go_sem]) ?_ | refine vcdC_callG (fun _ _ => vcd_sound) hP hgl (recursion_ok (vT 1) (nT 5 [vT 0]) (vT 0)) (by simp [go_sem, hP, hgl, hn, nT, vT]) rfl (by simp [go_sem]) (by simp) (by rw [hn]; exact Nat.le_of_ble_eq_true rfl) (by simp [go_sem]; rfl) (by rw [hn]; exact Nat.le_of_ble_eq_true rfl) (by simp [go_sem]) ?_
  simp [go_sem, hP, hgl, hn, nT, vT]
  repeat (refine ⟨by omega, ?_⟩)
  first | refine vcK_call hP hgl (two_ok (recT (vT 1) (nT 5 [vT 0]) (vT 0))) (by simp [go_sem, hP, hgl, hn, nT, vT]) rfl (by simp [go_sem]) (by simp) (by rw [hn]; exact Nat.le_of_ble_eq_true rfl) ?_ | refine vcdC_call (fun _ _ => vcd_sound) hP hgl (two_ok (recT (vT 1) (nT 5 [vT 0]) (vT 0))) (by simp [go_sem, hP, hgl, hn, nT, vT]) rfl (by simp [go_sem]) (by simp) (by rw [hn]; exact Nat.le_of_ble_eq_true rfl) ?_ | refine vcK_callG hP hgl (two_ok (recT (vT 1) (nT 5 [vT 0]) (vT 0))) (by simp [go_sem, hP, hgl, hn, nT, vT]) rfl (by simp [go_sem]) (by simp) (by rw [hn]; exact Nat.le_of_ble_eq_true rfl) (by simp [go_sem]; rfl) (by rw [hn]; exact Nat.le_of_ble_eq_true rfl) (by simp [go_sem]) ?_ | refine vcdC_callG (fun _ _ => vcd_sound) hP hgl (two_ok (recT (vT 1) (nT 5 [vT 0]) (vT 0))) (by simp [go_sem, hP, hgl, hn, nT, vT]) rfl (by simp [go_sem]) (by simp) (by rw [hn]; exact Nat.le_of_ble_eq_true rfl) (by simp [go_sem]; rfl) (by rw [hn]; exact Nat.le_of_ble_eq_true rfl) (by simp [go_sem]) ?_
  simp [go_sem, hP, hgl, hn, nT, vT]
  refine t_e ?_
  clear hK K
  refine t_r ?_
  simp [go_sem, hP, hgl, hn, plusT, nT, vT] <;> (try omega)
theorem sub_ok : Con1 Tryz.prog gl 119 [] [] subT.dv [] := by
  refine t_in Tryz.func119 ?_
  intro X hP hgl hf hfn hn hR hids hfit
  refine t_g0 ?_
  refine t_a ?_
  first | refine W_reg [] fun K hK => ?_ | refine W_regd (by rw [hP]; exact mixed) [] fun K hK => ?_
  simp [go_sem, hP, hgl, hn, nT, vT]
  repeat (refine ⟨by omega, ?_⟩)
  first | refine vcK_call hP hgl (tree_var_ok 1) (by simp [go_sem, hP, hgl, hn, nT, vT]) rfl (by simp [go_sem]) (by simp) (by rw [hn]; exact Nat.le_of_ble_eq_true rfl) ?_ | refine vcdC_call (fun _ _ => vcd_sound) hP hgl (tree_var_ok 1) (by simp [go_sem, hP, hgl, hn, nT, vT]) rfl (by simp [go_sem]) (by simp) (by rw [hn]; exact Nat.le_of_ble_eq_true rfl) ?_ | refine vcK_callG hP hgl (tree_var_ok 1) (by simp [go_sem, hP, hgl, hn, nT, vT]) rfl (by simp [go_sem]) (by simp) (by rw [hn]; exact Nat.le_of_ble_eq_true rfl) (by simp [go_sem]; rfl) (by rw [hn]; exact Nat.le_of_ble_eq_true rfl) (by simp [go_sem]) ?_ | refine vcdC_callG (fun _ _ => vcd_sound) hP hgl (tree_var_ok 1) (by simp [go_sem, hP, hgl, hn, nT, vT]) rfl (by simp [go_sem]) (by simp) (by rw [hn]; exact Nat.le_of_ble_eq_true rfl) (by simp [go_sem]; rfl) (by rw [hn]; exact Nat.le_of_ble_eq_true rfl) (by simp [go_sem]) ?_
  simp [go_sem, hP, hgl, hn, nT, vT]
  repeat (refine ⟨by omega, ?_⟩)
  first | refine vcK_call hP hgl (pred_ok) (by simp [go_sem, hP, hgl, hn, nT, vT]) rfl (by simp [go_sem]) (by simp) (by rw [hn]; exact Nat.le_of_ble_eq_true rfl) ?_ | refine vcdC_call (fun _ _ => vcd_sound) hP hgl (pred_ok) (by simp [go_sem, hP, hgl, hn, nT, vT]) rfl (by simp [go_sem]) (by simp) (by rw [hn]; exact Nat.le_of_ble_eq_true rfl) ?_ | refine vcK_callG hP hgl (pred_ok) (by simp [go_sem, hP, hgl, hn, nT, vT]) rfl (by simp [go_sem]) (by simp) (by rw [hn]; exact Nat.le_of_ble_eq_true rfl) (by simp [go_sem]; rfl) (by rw [hn]; exact Nat.le_of_ble_eq_true rfl) (by simp [go_sem]) ?_ | refine vcdC_callG (fun _ _ => vcd_sound) hP hgl (pred_ok) (by simp [go_sem, hP, hgl, hn, nT, vT]) rfl (by simp [go_sem]) (by simp) (by rw [hn]; exact Nat.le_of_ble_eq_true rfl) (by simp [go_sem]; rfl) (by rw [hn]; exact Nat.le_of_ble_eq_true rfl) (by simp [go_sem]) ?_
  simp [go_sem, hP, hgl, hn, nT, vT]
  repeat (refine ⟨by omega, ?_⟩)
  first | refine vcK_call hP hgl (tree_var_ok 0) (by simp [go_sem, hP, hgl, hn, nT, vT]) rfl (by simp [go_sem]) (by simp) (by rw [hn]; exact Nat.le_of_ble_eq_true rfl) ?_ | refine vcdC_call (fun _ _ => vcd_sound) hP hgl (tree_var_ok 0) (by simp [go_sem, hP, hgl, hn, nT, vT]) rfl (by simp [go_sem]) (by simp) (by rw [hn]; exact Nat.le_of_ble_eq_true rfl) ?_ | refine vcK_callG hP hgl (tree_var_ok 0) (by simp [go_sem, hP, hgl, hn, nT, vT]) rfl (by simp [go_sem]) (by simp) (by rw [hn]; exact Nat.le_of_ble_eq_true rfl) (by simp [go_sem]; rfl) (by rw [hn]; exact Nat.le_of_ble_eq_true rfl) (by simp [go_sem]) ?_ | refine vcdC_callG (fun _ _ => vcd_sound) hP hgl (tree_var_ok 0) (by simp [go_sem, hP, hgl, hn, nT, vT]) rfl (by simp [go_sem]) (by simp) (by rw [hn]; exact Nat.le_of_ble_eq_true rfl) (by simp [go_sem]; rfl) (by rw [hn]; exact Nat.le_of_ble_eq_true rfl) (by simp [go_sem]) ?_
  simp [go_sem, hP, hgl, hn, nT, vT]
  repeat (refine ⟨by omega, ?_⟩)
  first | refine vcK_call hP hgl (tree_app_ok predT [vT 0]) (by simp [go_sem, hP, hgl, hn, nT, vT]) rfl (by simp [go_sem]) (by simp) (by rw [hn]; exact Nat.le_of_ble_eq_true rfl) ?_ | refine vcdC_call (fun _ _ => vcd_sound) hP hgl (tree_app_ok predT [vT 0]) (by simp [go_sem, hP, hgl, hn, nT, vT]) rfl (by simp [go_sem]) (by simp) (by rw [hn]; exact Nat.le_of_ble_eq_true rfl) ?_ | refine vcK_callG hP hgl (tree_app_ok predT [vT 0]) (by simp [go_sem, hP, hgl, hn, nT, vT]) rfl (by simp [go_sem]) (by simp) (by rw [hn]; exact Nat.le_of_ble_eq_true rfl) (by simp [go_sem]; rfl) (by rw [hn]; exact Nat.le_of_ble_eq_true rfl) (by simp [go_sem]) ?_ | refine vcdC_callG (fun _ _ => vcd_sound) hP hgl (tree_app_ok predT [vT 0]) (by simp [go_sem, hP, hgl, hn, nT, vT]) rfl (by simp [go_sem]) (by simp) (by rw [hn]; exact Nat.le_of_ble_eq_true rfl) (by simp [go_sem]; rfl) (by rw [hn]; exact Nat.le_of_ble_eq_true rfl) (by simp [go_sem]) ?_
  simp [go_sem, hP, hgl, hn, nT, vT]
  repeat (refine ⟨by omega, ?_⟩)
  first | refine vcK_call hP hgl (tree_var_ok 0) (by simp [go_sem, hP, hgl, hn, nT, vT]) rfl (by simp [go_sem]) (by simp) (by rw [hn]; exact Nat.le_of_ble_eq_true rfl) ?_ | refine vcdC_call (fun _ _ => vcd_sound) hP hgl (tree_var_ok 0) (by simp [go_sem, hP, hgl, hn, nT, vT]) rfl (by simp [go_sem]) (by simp) (by rw [hn]; exact Nat.le_of_ble_eq_true rfl) ?_ | refine vcK_callG hP hgl (tree_var_ok 0) (by simp [go_sem, hP, hgl, hn, nT, vT]) rfl (by simp [go_sem]) (by simp) (by rw [hn]; exact Nat.le_of_ble_eq_true rfl) (by simp [go_sem]; rfl) (by rw [hn]; exact Nat.le_of_ble_eq_true rfl) (by simp [go_sem]) ?_ | refine vcdC_callG (fun _ _ => vcd_sound) hP hgl (tree_var_ok 0) (by simp [go_sem, hP, hgl, hn, nT, vT]) rfl (by simp [go_sem]) (by simp) (by rw [hn]; exact Nat.le_of_ble_eq_true rfl) (by simp [go_sem]; rfl) (by rw [hn]; exact Nat.le_of_ble_eq_true rfl) (by simp [go_sem]) ?_
  simp [go_sem, hP, hgl, hn, nT, vT]
  repeat (refine ⟨by omega, ?_⟩)
  first | refine vcK_call hP hgl (recursion_ok (vT 1) (appsT predT [vT 0]) (vT 0)) (by simp [go_sem, hP, hgl, hn, nT, vT]) rfl (by simp [go_sem]) (by simp) (by rw [hn]; exact Nat.le_of_ble_eq_true rfl) ?_ | refine vcdC_call (fun _ _ => vcd_sound) hP hgl (recursion_ok (vT 1) (appsT predT [vT 0]) (vT 0)) (by simp [go_sem, hP, hgl, hn, nT, vT]) rfl (by simp [go_sem]) (by simp) (by rw [hn]; exact Nat.le_of_ble_eq_true rfl) ?_ | refine vcK_callG hP hgl (recursion_ok (vT 1) (appsT predT [vT 0]) (vT 0)) (by simp [go_sem, hP, hgl, hn, nT, vT]) rfl (by simp [go_sem]) (by simp) (by rw [hn]; exact Nat.le_of_ble_eq_true rfl) (by simp [go_sem]; rfl) (by rw [hn]; exact Nat.le_of_ble_eq_true rfl) (by simp [go_sem]) ?_ | refine vcdC_callG (fun _ _ => vcd_sound) hP hgl (recursion_ok (vT 1) (appsT predT [vT 0]) (vT 0)) (by simp [go_sem, hP, hgl, hn, nT, vT]) rfl (by simp [go_sem]) (by simp) (by rw [hn]; exact Nat.le_of_ble_eq_true rfl) (by simp [go_sem]; rfl) (by rw [hn]; exact Nat.le_of_ble_eq_true rfl) (by simp [go_sem]) ?_
  simp [go_sem, hP, hgl, hn, nT, vT]
  repeat (refine ⟨by omega, ?_⟩)
  first | refine vcK_call hP hgl (two_ok (recT (vT 1) (appsT predT [vT 0]) (vT 0))) (by simp [go_sem, hP, hgl, hn, nT, vT]) rfl (by simp [go_sem]) (by simp) (by rw [hn]; exact Nat.le_of_ble_eq_true rfl) ?_ | refine vcdC_call (fun _ _ => vcd_sound) hP hgl (two_ok (recT (vT 1) (appsT predT [vT 0]) (vT 0))) (by simp [go_sem, hP, hgl, hn, nT, vT]) rfl (by simp [go_sem]) (by simp) (by rw [hn]; exact Nat.le_of_ble_eq_true rfl) ?_ | refine vcK_callG hP hgl (two_ok (recT (vT 1) (appsT predT [vT 0]) (vT 0))) (by simp [go_sem, hP, hgl, hn, nT, vT]) rfl (by simp [go_sem]) (by simp) (by rw [hn]; exact Nat.le_of_ble_eq_true rfl) (by simp [go_sem]; rfl) (by rw [hn]; exact Nat.le_of_ble_eq_true rfl) (by simp [go_sem]) ?_ | refine vcdC_callG (fun _ _ => vcd_sound) hP hgl (two_ok (recT (vT 1) (appsT predT [vT 0]) (vT 0))) (by simp [go_sem, hP, hgl, hn, nT, vT]) rfl (by simp [go_sem]) (by simp) (by rw [hn]; exact Nat.le_of_ble_eq_true rfl) (by simp [go_sem]; rfl) (by rw [hn]; exact Nat.le_of_ble_eq_true rfl) (by simp [go_sem]) ?_
  simp [go_sem, hP, hgl, hn, nT, vT]
  refine t_e ?_
  clear hK K
  refine t_r ?_
  simp [go_sem, hP, hgl, hn, subT, nT, vT] <;> (try omega)
end Go.Proofs.YtiacandbafjlfaaGreatDoor.Lift

namespace Go.Proofs.YtiacandbafjlfaaGreatDoor.Lift
set_option linter.unusedSimpArgs false
set_option linter.unusedVariables false
set_option linter.unnecessarySimpa false
open Go
variable {gl : Globs}

theorem plainD_cases (l : List Int) (p : Nat) : (plainD l p).1 = Ty.mk 1 [] ∨ (plainD l p).1 = Ty.mk 2 [] ∨ (plainD l p).1 = Ty.mk 5 [] ∨ (plainD l p).1 = Ty.mk 3 [Ty.mk 1 [], Ty.mk 2 []] ∨ (plainD l p).1 = Ty.mk 3 [Ty.mk 1 [], Ty.mk 1 []] := by
  unfold plainD
  generalize nextD l p 6 = q
  obtain ⟨k, p'⟩ := q
  simp only
  by_cases h1 : k = 0 ∨ k = 1
  · rw [if_pos h1]; simp
  · rw [if_neg h1]
    by_cases h2 : k = 2
    · rw [if_pos h2]; simp
    · rw [if_neg h2]
      by_cases h3 : k = 3
      · rw [if_pos h3]; simp
      · rw [if_neg h3]
        by_cases h4 : k = 4
        · rw [if_pos h4]; simp
        · rw [if_neg h4]; simp
theorem plainD_plain (l : List Int) (p : Nat) : (plainD l p).1.plain := by
  rcases plainD_cases l p with h | h | h | h | h <;> rw [h] <;> simp [Ty.plain, Ty.plain.plains]

theorem numsD_len (l : List Int) : ∀ (n p : Nat), (numsD l p n).1.length = n
  | 0, _ => rfl
  | n + 1, _ => by simp [numsD, numsD_len l n]
theorem numsD_bd (l : List Int) : ∀ (n p : Nat), ∀ x ∈ (numsD l p n).1, 0 ≤ x ∧ x ≤ 3
  | 0, _, x, h => by simp [numsD] at h
  | n + 1, p, x, h => by
    simp only [numsD, List.mem_cons] at h
    rcases h with rfl | h
    · have := nextD_bd (l := l) (p := p) (n := 4) (by omega); omega
    · exact numsD_bd l n _ x h

/-- the value that is made of a flat type is flat -/
theorem mkVal_flat (l : List Int) (k : Int) (h : k ≠ 3) (p : Nat) : (mkVal l (Ty.mk k []) p).1.flat := by
  rw [mkVal_eq]
  by_cases h1 : k = 1
  · rw [if_pos (show (Ty.mk k []).kind = 1 from h1)]
    have := nextD_bd (l := l) (p := p) (n := 5) (by omega)
    exact ⟨rfl, .inl ⟨rfl, this.1, by simp [Val.num]; omega, rfl⟩⟩
  · rw [if_neg (show ¬(Ty.mk k []).kind = 1 from h1)]
    by_cases h2 : k = 2
    · rw [if_pos (show (Ty.mk k []).kind = 2 from h2)]
      have := nextD_bd (l := l) (p := p) (n := 4) (by omega)
      refine ⟨rfl, .inr (.inl ⟨rfl, rfl, ?_, ?_⟩)⟩
      · simp only [Val.list]; rw [numsD_len]; omega
      · simp only [Val.list]; exact numsD_bd _ _ _
    · rw [if_neg (show ¬(Ty.mk k []).kind = 2 from h2), if_neg (show ¬(Ty.mk k []).kind = 3 from h)]
      exact ⟨rfl, .inr (.inr ⟨rfl, rfl, rfl⟩)⟩

theorem mkVal_good (l : List Int) (q p : Nat) : (mkVal l (plainD l q).1 p).1.good := by
  have pair : ∀ k m : Int, k ≠ 3 → m ≠ 3 → (mkVal l (Ty.mk 3 [Ty.mk k [], Ty.mk m []]) p).1.good := by
    intro k m hk hm
    refine .inr ⟨(mkVal l (Ty.mk k []) p).1, (mkVal l (Ty.mk m []) (mkVal l (Ty.mk k []) p).2).1, ?_, mkVal_flat l k hk _, mkVal_flat l m hm _⟩
    rw [mkVal_eq]
    simp [mkVal.mkVals, Ty.kind, Ty.args]
  rcases plainD_cases l q with h | h | h | h | h <;> rw [h]
  · exact .inl (mkVal_flat l 1 (by decide) p)
  · exact .inl (mkVal_flat l 2 (by decide) p)
  · exact .inl (mkVal_flat l 5 (by decide) p)
  · exact pair 1 2 (by decide) (by decide)
  · exact pair 1 1 (by decide) (by decide)

theorem numTm_count : ∀ n : Nat, (numTm n).count = n + 1
  | 0 => rfl
  | n + 1 => by rw [numTm, Tm.count_eq]; simp [Tm.args, Tm.count.counts, numTm_count n]; omega
theorem listTm_count : ∀ l : List Int, (∀ x ∈ l, 0 ≤ x) → ((listTm l).count : Int) = 1 + sumL l
  | [], _ => by simp [listTm, sumL, Tm.count_eq, Tm.args, Tm.count.counts]
  | x :: r, h => by
    have h1 := h x (by simp)
    have h2 := listTm_count r fun y hy => h y (by simp [hy])
    have e : listTm (x :: r) = Tm.mk 8 0 (Ty.mk 0 []) [numTm x.toNat, listTm r] := rfl
    rw [e, Tm.count_eq]
    have : sumL (x :: r) = x + 2 + sumL r := by simp [sumL]
    simp only [Tm.args, Tm.count.counts, numTm_count]
    rw [this]
    omega

theorem lenL_small : ∀ (l : List Int) (n : Int), (∀ x ∈ l, 0 ≤ x ∧ x ≤ 3) → 0 ≤ n → n + 10 * l.length ≤ 4096 → (lenL l n).2 = false ∧ (lenL l n).1 ≤ n + 10 * l.length
  | [], n, _, _, _ => by simp [lenL]
  | x :: r, n, h, h0, hn => by
    have hx := h x (by simp)
    have hs : sizeI x = x + 1 := by unfold sizeI; omega
    simp only [List.length_cons] at hn
    unfold lenL
    rw [if_neg (by omega)]
    have := lenL_small r (n + (1 + sizeI x)) (fun y hy => h y (by simp [hy])) (by omega) (by omega)
    exact ⟨this.1, by simp only [List.length_cons]; omega⟩

theorem Val.flat_facts {v : Val} (h : v.flat) : v.nodesN = (1, true) ∧ v.lengthN ≤ 100 ∧ 0 ≤ v.lengthN ∧ (v.termN.count : Int) = v.flatSize ∧ v.count = 1 ∧ v.kind ≠ 3 := by
  obtain ⟨h0, h⟩ := h
  rcases h with ⟨h1, h2, h3, h4⟩ | ⟨h1, h2, h3, h4⟩ | ⟨h1, h2, h3⟩
  · have hs : sizeI v.num = v.num + 1 := by unfold sizeI; omega
    refine ⟨?_, ?_, ?_, ?_, ?_, by omega⟩
    · rw [nodesN_eq]; simp [h0, nodesN.nodesL, okB, h1, h2, h4]
    · rw [lengthN_eq]; simp [h0, h1, lengthN.lengths]; omega
    · rw [lengthN_eq]; simp [h0, h1, lengthN.lengths]; omega
    · rw [termN_eq]; simp [h1, flatSize, numTm_count]; omega
    · rw [count_eq, h0]; rfl
  · have hl := lenL_small v.list 1 h4 (by omega) (by omega)
    refine ⟨?_, ?_, ?_, ?_, ?_, by omega⟩
    · rw [nodesN_eq]; simp [h0, nodesN.nodesL, okB, h1, h2]
      intro x hx; exact (h4 x hx).1
    · rw [lengthN_eq]; simp [h0, h1, lengthN.lengths, hl.1]; omega
    · rw [lengthN_eq]; simp [h0, h1, lengthN.lengths, hl.1]
      have := lenL_bd v.list 1 (fun x hx => (h4 x hx).1) (by decide)
      omega
    · rw [termN_eq]; simp only [h1, if_true, flatSize]; rw [listTm_count _ fun x hx => (h4 x hx).1]; simp
    · rw [count_eq, h0]; rfl
  · refine ⟨?_, ?_, ?_, ?_, ?_, by omega⟩
    · rw [nodesN_eq]; simp [h0, nodesN.nodesL, okB, h1, h2, h3]
    · rw [lengthN_eq]; simp [h0, h1, lengthN.lengths]
    · rw [lengthN_eq]; simp [h0, h1, lengthN.lengths]
    · rw [termN_eq]; simp [h1, flatSize, Tm.count_eq, Tm.args, Tm.count.counts]
    · rw [count_eq, h0]; rfl

theorem Val.good_facts {v : Val} (h : v.good) : v.termE = (v.termN, 0) ∧ (v.termN.count : Int) = (if v.kind = 3 then 1 + ((v.args.map Val.flatSize).sum) else v.flatSize) ∧ v.count ≤ 3 ∧ v.termN.count ≤ 100 := by
  rcases h with h | ⟨a, b, rfl, ha, hb⟩
  · obtain ⟨h1, h2, h3, h4, h5, h6⟩ := flat_facts h
    have := flatSize_bd h
    refine ⟨?_, by rw [if_neg h6]; exact h4, by omega, by omega⟩
    have hc : v.checkN = 0 := by simp [checkN, h1]
    simp [termE, hc]; omega
  · obtain ⟨a1, a2, a3, a4, a5, a6⟩ := flat_facts ha
    obtain ⟨b1, b2, b3, b4, b5, b6⟩ := flat_facts hb
    have q1 := flatSize_bd ha
    have q2 := flatSize_bd hb
    have hn : (Val.mk 3 0 [] [a, b]).nodesN = (3, true) := by
      rw [nodesN_eq]; simp [args, nodesN.nodesL, okB, kind, num, list, a1, b1]
    have hc : (Val.mk 3 0 [] [a, b]).checkN = 0 := by simp [checkN, hn]
    have hl : (Val.mk 3 0 [] [a, b]).lengthN = 1 + a.lengthN + b.lengthN := by
      rw [lengthN_eq]; simp [args, kind, lengthN.lengths]
    have ht : (Val.mk 3 0 [] [a, b]).termN = Tm.mk 10 0 (Ty.mk 0 []) [a.termN, b.termN] := by
      rw [termN_eq]; simp [args, kind]
    have htc : (Val.mk 3 0 [] [a, b]).termN.count = 1 + (a.termN.count + (b.termN.count + 0)) := by
      rw [ht, Tm.count_eq]; rfl
    refine ⟨?_, ?_, ?_, ?_⟩
    · simp [termE, hc, hl]; omega
    · rw [htc]; simp [kind, args]; omega
    · rw [count_eq]; simp [args, count.counts, a5, b5]
    · rw [htc]; omega
end Go.Proofs.YtiacandbafjlfaaGreatDoor.Lift

/-
  Plain facts: the terms of small values.
-/
namespace Go.Proofs.YtiacandbafjlfaaGreatDoor.Lift
set_option linter.unusedSimpArgs false
set_option linter.unusedVariables false
set_option linter.unnecessarySimpa false
open Go

theorem num_shape : ∀ n : Nat, (numTm n).shape = true
  | 0 => rfl
  | n + 1 => by
    rw [numTm, Tm.shape_eq]
    simp [Tm.kind, Tm.index, Tm.type, Tm.args, Tm.shape.shapes, num_shape n, tmKind, tyOfKind, arityI, Ty.zero, Ty.kind, Ty.args]
end Go.Proofs.YtiacandbafjlfaaGreatDoor.Lift

/-
  Plain law: what typed terms denote.
-/
namespace Go.Proofs.YtiacandbafjlfaaGreatDoor.Lift
set_option linter.unusedSimpArgs false
set_option linter.unusedVariables false
set_option linter.unnecessarySimpa false
open Go

/-- simple types -/
inductive T where
  | nat | list | unit
  | pair (a b : T)
  | fn (a b : T)
  deriving DecidableEq
namespace T
set_option linter.unusedSimpArgs false
set_option linter.unusedVariables false
set_option linter.unnecessarySimpa false
def ty : T → Ty
  | nat => Ty.mk 1 []
  | list => Ty.mk 2 []
  | unit => Ty.mk 5 []
  | pair a b => Ty.mk 3 [a.ty, b.ty]
  | fn a b => Ty.mk 4 [a.ty, b.ty]
/-- the values of a type -/
def V : T → Type
  | nat => Nat
  | list => List Nat
  | unit => Unit
  | pair a b => a.V × b.V
  | fn a b => a.V → b.V
def size : T → Nat
  | nat => 1
  | list => 1
  | unit => 1
  | pair a b => 1 + a.size + b.size
  | fn a b => 1 + a.size + b.size
theorem ty_count (a : T) : a.ty.count = a.size := by
  induction a with
  | nat => rfl
  | list => rfl
  | unit => rfl
  | pair a b iha ihb => show 1 + (a.ty.count + (b.ty.count + 0)) = _; simp only [size]; omega
  | fn a b iha ihb => show 1 + (a.ty.count + (b.ty.count + 0)) = _; simp only [size]; omega
theorem ty_shape (a : T) : a.ty.shape = true := by
  induction a with
  | nat => rfl
  | list => rfl
  | unit => rfl
  | pair a b iha ihb => simp [ty, Ty.shape, Ty.shape.shapes, tyKind, iha, ihb]
  | fn a b iha ihb => simp [ty, Ty.shape, Ty.shape.shapes, tyKind, iha, ihb]
/-- small enough to be written -/
def ok (a : T) : Prop := a.size ≤ 64
theorem ok_ty {a : T} (h : a.ok) : a.ty.ok := ⟨a.ty_shape, by rw [ty_count]; exact h⟩
theorem ty_ok {a : T} (h : a.ty.ok) : a.ok := by have := h.2; rw [ty_count] at this; exact this
theorem of_shape (s : Ty) (h : s.shape = true) : ∃ a : T, a.ty = s := by
  induction s using Ty.ind with
  | h s ih =>
  cases s with
  | mk k ts =>
    have h1 := h
    rw [Ty.shape_eq, Bool.and_eq_true, Ty.shapes_iff] at h1
    obtain ⟨h2, h3⟩ := h1
    unfold tyKind at h2
    simp [Ty.kind, Ty.args] at h2
    rcases h2 with ⟨h2, rfl⟩ | ⟨h2, h4⟩
    · rcases of_decide_eq_true h2 with rfl | rfl | rfl
      · exact ⟨nat, rfl⟩
      · exact ⟨list, rfl⟩
      · exact ⟨unit, rfl⟩
    · match ts, h4, ih, h3 with
      | [x, y], _, ih, h3 =>
        obtain ⟨a, rfl⟩ := ih x (by simp [Ty.args]) (h3 x (by simp [Ty.args]))
        obtain ⟨b, rfl⟩ := ih y (by simp [Ty.args]) (h3 y (by simp [Ty.args]))
        rcases of_decide_eq_true h2 with rfl | rfl
        · exact ⟨pair a b, rfl⟩
        · exact ⟨fn a b, rfl⟩
/-- some value of each type -/
def dflt : (a : T) → a.V
  | nat => (0 : Nat)
  | list => ([] : List Nat)
  | unit => ()
  | pair a b => (a.dflt, b.dflt)
  | fn _ b => fun _ => b.dflt
end T

/-- values of variables: the last one first -/
def Env : List T → Type
  | [] => Unit
  | a :: Γ => a.V × Env Γ

/-- the variable i: its type and its value -/
inductive At : (Γ : List T) → Nat → (a : T) → (Env Γ → a.V) → Prop
  | zero {a : T} {Γ : List T} : At (a :: Γ) 0 a (fun e => e.1)
  | succ {a b : T} {Γ : List T} {i : Nat} {p : Env Γ → a.V} (h : At Γ i a p) : At (b :: Γ) (i + 1) a (fun e => p e.2)

theorem At.of : ∀ {Γ : List T} {i : Nat} {a : T}, Γ[i]? = some a → ∃ p, At Γ i a p
  | [], _, _, h => by simp at h
  | b :: Γ, 0, a, h => by simp at h; subst h; exact ⟨_, .zero⟩
  | b :: Γ, i + 1, a, h => by
    obtain ⟨p, hp⟩ := At.of (Γ := Γ) (i := i) (a := a) (by simpa using h)
    exact ⟨_, .succ hp⟩
theorem At.get {Γ : List T} {i : Nat} {a : T} {p : Env Γ → a.V} (h : At Γ i a p) : Γ[i]? = some a := by
  induction h with
  | zero => rfl
  | succ h ih => simpa using ih

def natRec {α : Type} (b : α) (f : Nat → α → α) : Nat → α
  | 0 => b
  | n + 1 => f n (natRec b f n)
def listRec {α : Type} (b : α) (f : Nat → List Nat → α → α) : List Nat → α
  | [] => b
  | x :: l => f x l (listRec b f l)

def lamT (a : T) (b : Tm) : Tm := Tm.mk 2 0 a.ty [b]

/-- a term has a type below some variables, and means a value for all of theirs -/
inductive Dn : (Γ : List T) → Tm → (a : T) → (Env Γ → a.V) → Prop
  | var {Γ : List T} {i : Nat} {a : T} {p : Env Γ → a.V} (h : At Γ i a p) : Dn Γ (vT i) a p
  | lam {Γ : List T} {a r : T} {b : Tm} {f : Env (a :: Γ) → r.V} (ha : a.ok) (h : Dn (a :: Γ) b r f) : Dn Γ (lamT a b) (.fn a r) (fun e v => f (v, e))
  | app {Γ : List T} {a b : T} {f x : Tm} {F : Env Γ → (T.fn a b).V} {X : Env Γ → a.V} (hf : Dn Γ f (.fn a b) F) (hx : Dn Γ x a X) : Dn Γ (nT 3 [f, x]) b (fun e => F e (X e))
  | zero {Γ : List T} : Dn Γ (nT 4 []) .nat (fun _ => (0 : Nat))
  | succ {Γ : List T} {x : Tm} {X : Env Γ → T.nat.V} (hx : Dn Γ x .nat X) : Dn Γ (nT 5 [x]) .nat (fun e => Nat.succ (X e))
  | rc {Γ : List T} {a : T} {b f n : Tm} {B : Env Γ → a.V} {F : Env Γ → (T.fn .nat (.fn a a)).V} {N : Env Γ → T.nat.V} (ha : a.ok) (hb : Dn Γ b a B) (hf : Dn Γ f (.fn .nat (.fn a a)) F) (hn : Dn Γ n .nat N) :
      Dn Γ (Tm.mk 6 0 a.ty [b, f, n]) a (fun e => natRec (B e) (F e) (N e))
  | nil {Γ : List T} : Dn Γ (nT 7 []) .list (fun _ => ([] : List Nat))
  | cons {Γ : List T} {x l : Tm} {X : Env Γ → T.nat.V} {L : Env Γ → T.list.V} (hx : Dn Γ x .nat X) (hl : Dn Γ l .list L) : Dn Γ (nT 8 [x, l]) .list (fun e => List.cons (X e) (L e))
  | fold {Γ : List T} {a : T} {b f n : Tm} {B : Env Γ → a.V} {F : Env Γ → (T.fn .nat (.fn .list (.fn a a))).V} {N : Env Γ → T.list.V} (ha : a.ok) (hb : Dn Γ b a B) (hf : Dn Γ f (.fn .nat (.fn .list (.fn a a))) F) (hn : Dn Γ n .list N) :
      Dn Γ (Tm.mk 9 0 a.ty [b, f, n]) a (fun e => listRec (B e) (F e) (N e))
  | pair {Γ : List T} {a b : T} {x y : Tm} {X : Env Γ → a.V} {Y : Env Γ → b.V} (hx : Dn Γ x a X) (hy : Dn Γ y b Y) : Dn Γ (nT 10 [x, y]) (.pair a b) (fun e => Prod.mk (X e) (Y e))
  | fst {Γ : List T} {a b : T} {x : Tm} {X : Env Γ → (T.pair a b).V} (hx : Dn Γ x (.pair a b) X) : Dn Γ (nT 11 [x]) a (fun e => Prod.fst (X e))
  | snd {Γ : List T} {a b : T} {x : Tm} {X : Env Γ → (T.pair a b).V} (hx : Dn Γ x (.pair a b) X) : Dn Γ (nT 12 [x]) b (fun e => Prod.snd (X e))
  | unit {Γ : List T} : Dn Γ (nT 13 []) .unit (fun _ => ())

end Go.Proofs.YtiacandbafjlfaaGreatDoor.Lift

/-
  Plain law: lifting and putting in keep what a term denotes.
-/
namespace Go.Proofs.YtiacandbafjlfaaGreatDoor.Lift
set_option linter.unusedSimpArgs false
set_option linter.unusedVariables false
set_option linter.unnecessarySimpa false
open Go

def Env.drop {Γ : List T} : (Ξ : List T) → Env (Ξ ++ Γ) → Env Γ
  | [], e => e
  | _ :: Ξ, e => Env.drop Ξ e.2
theorem At.drop {Γ : List T} {i : Nat} {a : T} {p : Env Γ → a.V} (h : At Γ i a p) : ∀ Ξ : List T, At (Ξ ++ Γ) (i + Ξ.length) a (fun e => p (Env.drop Ξ e))
  | [] => h
  | _ :: Ξ => .succ (At.drop h Ξ)
theorem up_zero (t : Tm) (f : Int) : t.upN f 0 = t := by
  induction t using Tm.ind generalizing f with
  | h t ih =>
  rw [Tm.upN_eq]
  have h1 : (if t.kind = 1 ∧ f ≤ t.index then t.index + 0 else t.index) = t.index := by split <;> omega
  have h2 : (t.args.map fun x => x.upN (f + bindI t.kind) 0) = t.args := by
    conv => rhs; rw [← List.map_id t.args]
    exact List.map_congr_left fun x hx => ih x hx _
  rw [h1, h2]
  exact Tm.eta t
/-- what is denoted may be told otherwise -/
theorem Dn.eq {Γ : List T} {t : Tm} {a : T} {F G : Env Γ → a.V} (h : Dn Γ t a F) (e : ∀ ρ, F ρ = G ρ) : Dn Γ t a G := by
  have : F = G := funext e
  rw [← this]; exact h
end Go.Proofs.YtiacandbafjlfaaGreatDoor.Lift

/-
  Plain law: the theorem of majorants, for what is denoted.
-/
namespace Go.Proofs.YtiacandbafjlfaaGreatDoor.Lift
set_option linter.unusedSimpArgs false
set_option linter.unusedVariables false
set_option linter.unnecessarySimpa false
open Go

/-- the majorant type -/
def T.maj : T → T
  | .nat => .nat
  | .list => .nat
  | .unit => .unit
  | .pair a b => .pair a.maj b.maj
  | .fn a b => .fn a.maj b.maj

/-- at least as great, in each part -/
def Ge : (b : T) → b.V → b.V → Prop
  | .nat, x, y => Nat.le y x
  | .list, x, y => x = y
  | .unit, _, _ => True
  | .pair a b, x, y => Ge a x.1 y.1 ∧ Ge b x.2 y.2
  | .fn a b, F, G => (∀ x y : a.V, Ge a x y → Ge b (F x) (G y)) ∧ ∀ x y : a.V, Ge a x y → Ge b (F x) (F y)
/-- a value bounds another one -/
def Mj : (a : T) → a.maj.V → a.V → Prop
  | .nat, m, n => Nat.le n m
  | .list, m, l => Nat.le (List.length l) m ∧ ∀ x : Nat, List.Mem x l → Nat.le x m
  | .unit, _, _ => True
  | .pair a b, x, y => Mj a x.1 y.1 ∧ Mj b x.2 y.2
  | .fn a b, F, f => (∀ (X : a.maj.V) (x : a.V), Mj a X x → Mj b (F X) (f x)) ∧ ∀ X Y : a.maj.V, Ge a.maj X Y → Ge b.maj (F X) (F Y)

theorem Ge.left : ∀ {b : T} {x y : b.V}, Ge b x y → Ge b x x
  | .nat, x, _, _ => Nat.le_refl x
  | .list, _, _, _ => rfl
  | .unit, _, _, _ => trivial
  | .pair _ _, _, _, h => ⟨Ge.left h.1, Ge.left h.2⟩
  | .fn _ _, _, _, h => ⟨h.2, h.2⟩
theorem Ge.trans : ∀ {b : T} {x y z : b.V}, Ge b x y → Ge b y z → Ge b x z
  | .nat, _, _, _, h, k => Nat.le_trans k h
  | .list, _, _, _, h, k => Eq.trans h k
  | .unit, _, _, _, _, _ => trivial
  | .pair _ _, _, _, _, h, k => ⟨Ge.trans h.1 k.1, Ge.trans h.2 k.2⟩
  | .fn _ _, _, _, _, h, k => ⟨fun x y hxy => Ge.trans (h.1 x x hxy.left) (k.1 x y hxy), h.2⟩
theorem Mj.left : ∀ {a : T} {X : a.maj.V} {x : a.V}, Mj a X x → Ge a.maj X X
  | .nat, X, _, _ => Nat.le_refl X
  | .list, X, _, _ => Nat.le_refl X
  | .unit, _, _, _ => trivial
  | .pair _ _, _, _, h => ⟨Mj.left h.1, Mj.left h.2⟩
  | .fn _ _, _, _, h => ⟨h.2, h.2⟩
/-- the greater one of two values, in each part -/
def maxD : (b : T) → b.V → b.V → b.V
  | .nat, x, y => Nat.add x (Nat.sub y x)
  | .list, x, _ => x
  | .unit, _, _ => ()
  | .pair a b, x, y => (maxD a x.1 y.1, maxD b x.2 y.2)
  | .fn _ b, F, G => fun x => maxD b (F x) (G x)

/-- a type without lists -/
def T.bare : T → Prop
  | .nat => True
  | .list => False
  | .unit => True
  | .pair a b => a.bare ∧ b.bare
  | .fn a b => a.bare ∧ b.bare
theorem T.maj_bare : ∀ a : T, a.maj.bare
  | .nat => trivial
  | .list => trivial
  | .unit => trivial
  | .pair a b => ⟨a.maj_bare, b.maj_bare⟩
  | .fn a b => ⟨a.maj_bare, b.maj_bare⟩

theorem nat_ok0 : T.nat.ok := by unfold T.ok; decide
/-- the values of variables, bounded -/
def MjE : (Γ : List T) → Env (Γ.map T.maj) → Env Γ → Prop
  | [], _, _ => True
  | a :: Γ, X, x => Mj a X.1 x.1 ∧ MjE Γ X.2 x.2
def GeE : (Γ : List T) → Env Γ → Env Γ → Prop
  | [], _, _ => True
  | a :: Γ, X, x => Ge a X.1 x.1 ∧ GeE Γ X.2 x.2
theorem GeE.drop {Γ : List T} : ∀ (Ξ : List T) {X Y : Env (Ξ ++ Γ)}, GeE (Ξ ++ Γ) X Y → GeE Γ (Env.drop Ξ X) (Env.drop Ξ Y)
  | [], _, _, h => h
  | _ :: Ξ, _, _, h => GeE.drop Ξ h.2

/-! the closed terms of chapter 5 -/
theorem dn_pred (Γ : List T) : Dn Γ predT (.fn .nat .nat) (fun _ (n : Nat) => Nat.pred n) := by
  have h : Dn Γ predT (.fn .nat .nat) _ := .lam nat_ok0 (.rc (a := .nat) nat_ok0 .zero (.lam nat_ok0 (.lam nat_ok0 (.var (.succ .zero)))) (.var .zero))
  refine h.eq fun ρ => funext fun n => ?_
  have key : ∀ n : Nat, natRec (0 : Nat) (fun k _ => k) n = Nat.pred n := by intro n; cases n <;> rfl
  exact key n
theorem dn_plus (Γ : List T) : Dn Γ plusT (.fn .nat (.fn .nat .nat)) (fun _ (m n : Nat) => Nat.add m n) := by
  have h : Dn Γ plusT (.fn .nat (.fn .nat .nat)) _ := .lam nat_ok0 (.lam nat_ok0 (.rc (a := .nat) nat_ok0 (.var (.succ .zero)) (.lam nat_ok0 (.lam nat_ok0 (.succ (.var .zero)))) (.var .zero)))
  refine h.eq fun ρ => funext fun m => funext fun n => ?_
  have key : ∀ n : Nat, natRec (α := Nat) m (fun _ r => Nat.succ r) n = Nat.add m n := by
    intro n
    induction n with
    | zero => rfl
    | succ n ih => simp only [natRec, ih]; rfl
  exact key n
theorem dn_sub (Γ : List T) : Dn Γ subT (.fn .nat (.fn .nat .nat)) (fun _ (m n : Nat) => Nat.sub m n) := by
  have h : Dn Γ subT (.fn .nat (.fn .nat .nat)) _ := .lam nat_ok0 (.lam nat_ok0 (.rc (a := .nat) nat_ok0 (.var (.succ .zero)) (.lam nat_ok0 (.lam nat_ok0 (.app (dn_pred _) (.var .zero)))) (.var .zero)))
  refine h.eq fun ρ => funext fun m => funext fun n => ?_
  have key : ∀ n : Nat, natRec (α := Nat) m (fun _ r => Nat.pred r) n = Nat.sub m n := by
    intro n
    induction n with
    | zero => rfl
    | succ n ih => simp only [natRec, ih]; rfl
  exact key n

/-- the function that returns the greater one of two numbers -/
def greatT : Tm := lamT .nat (lamT .nat (appsT plusT [vT 1, appsT subT [vT 0, vT 1]]))
theorem dn_great (Γ : List T) : Dn Γ greatT (.fn .nat (.fn .nat .nat)) (fun _ (m n : Nat) => maxD .nat m n) :=
  .lam nat_ok0 (.lam nat_ok0 (.app (.app (dn_plus _) (.var (.succ .zero))) (.app (.app (dn_sub _) (.var .zero)) (.var (.succ .zero)))))

/-- the greatest of two terms -/
def maxT : T → Tm → Tm → Tm
  | .nat, a, b => appsT greatT [a, b]
  | .list, _, _ => nT 13 []
  | .unit, _, _ => nT 13 []
  | .pair s t, a, b => nT 10 [maxT s (nT 11 [a]) (nT 11 [b]), maxT t (nT 12 [a]) (nT 12 [b])]
  | .fn s t, a, b => lamT s (maxT t (nT 3 [a.upN 0 1, vT 0]) (nT 3 [b.upN 0 1, vT 0]))
/-- numbers in place of lists -/
def bareN : Ty → Ty
  | .mk k a => if k = 2 then Ty.mk 1 [] else Ty.mk k (bares a)
where
  bares : List Ty → List Ty
    | [] => []
    | x :: r => bareN x :: bares r
theorem maj_ty (a : T) : a.maj.ty = bareN a.ty := by
  induction a with
  | nat => rfl
  | list => rfl
  | unit => rfl
  | pair a b iha ihb => show Ty.mk 3 [a.maj.ty, b.maj.ty] = Ty.mk 3 [bareN a.ty, bareN b.ty]; rw [iha, ihb]
  | fn a b iha ihb => show Ty.mk 4 [a.maj.ty, b.maj.ty] = Ty.mk 4 [bareN a.ty, bareN b.ty]; rw [iha, ihb]
theorem maj_size (a : T) : a.maj.size = a.size := by
  induction a with
  | nat => rfl
  | list => rfl
  | unit => rfl
  | pair a b iha ihb => show 1 + _ + _ = 1 + _ + _; rw [iha, ihb]
  | fn a b iha ihb => show 1 + _ + _ = 1 + _ + _; rw [iha, ihb]
theorem maj_ok {a : T} (h : a.ok) : a.maj.ok := by unfold T.ok; rw [maj_size]; exact h

theorem MjE.left : ∀ {Γ : List T} {X : Env (Γ.map T.maj)} {x : Env Γ}, MjE Γ X x → GeE (Γ.map T.maj) X X
  | [], _, _, _ => trivial
  | _ :: _, _, _, h => ⟨Mj.left h.1, MjE.left h.2⟩
theorem GeE.left : ∀ {Γ : List T} {X Y : Env Γ}, GeE Γ X Y → GeE Γ X X
  | [], _, _, _ => trivial
  | _ :: _, _, _, h => ⟨Ge.left h.1, GeE.left h.2⟩

end Go.Proofs.YtiacandbafjlfaaGreatDoor.Lift

namespace Go.Proofs.YtiacandbafjlfaaGreatDoor.Lift
set_option linter.unusedSimpArgs false
set_option linter.unusedVariables false
set_option linter.unnecessarySimpa false
open Go
variable {gl : Globs}

theorem Tm.idx_of (t : Tm) (m : Int) (h : t.shape = true) (hm : t.leastN m = true) : t.idx m := by
  induction t using Tm.ind with
  | h t ih =>
  have hs := Tm.shape_node h
  rw [leastN_eq, Bool.and_eq_true] at hm
  have key : ∀ l : List Tm, leastN.leasts l m = true → ∀ a ∈ l, a.leastN m = true := by
    intro l
    induction l with
    | nil => simp
    | cons a r ihr =>
      intro hl x hx
      simp only [leastN.leasts, Bool.and_eq_true] at hl
      rcases List.mem_cons.1 hx with rfl | hx
      · exact hl.1
      · exact ihr hl.2 x hx
  rw [idx_eq]
  refine ⟨⟨hs.2.1, ?_⟩, fun a ha => ih a ha (hs.2.2.2.2 a ha) (key _ hm.2 a ha)⟩
  have := hm.1
  simp at this
  exact this

end Go.Proofs.YtiacandbafjlfaaGreatDoor.Lift

/-
  Plain law: reducing keeps what a term denotes; normal closed terms of plain types are the terms of values.
-/
namespace Go.Proofs.YtiacandbafjlfaaGreatDoor.Lift
set_option linter.unusedSimpArgs false
set_option linter.unusedVariables false
set_option linter.unnecessarySimpa false
open Go

/-- types without functions -/
def T.plain : T → Prop
  | .nat => True
  | .list => True
  | .unit => True
  | .pair a b => a.plain ∧ b.plain
  | .fn _ _ => False
/-- the plain value of a value -/
def valOf : (a : T) → a.V → Val
  | .nat, n => Val.mk 1 (Int.ofNat n) [] []
  | .list, l => Val.mk 2 0 (List.map Int.ofNat l) []
  | .unit, _ => Val.mk 4 0 [] []
  | .pair a b, p => Val.mk 3 0 [] [valOf a p.1, valOf b p.2]
  | .fn _ _, _ => Val.mk 4 0 [] []

end Go.Proofs.YtiacandbafjlfaaGreatDoor.Lift

/-
  Plain facts: what is drawn out of a deck of numbers: types, contexts, terms; their forms.
-/
namespace Go.Proofs.YtiacandbafjlfaaGreatDoor.Lift
set_option linter.unusedSimpArgs false
set_option linter.unusedVariables false
set_option linter.unnecessarySimpa false
open Go

/-- a small type -/
def typeD (l : List Int) : Nat → Nat → Ty × Nat
  | 0, p =>
    if (nextD l p 7).1 = 3 then (Ty.mk 2 [], (nextD l p 7).2) else if (nextD l p 7).1 = 4 then (Ty.mk 5 [], (nextD l p 7).2) else (Ty.mk 1 [], (nextD l p 7).2)
  | n + 1, p =>
    if (nextD l p 7).1 = 3 then (Ty.mk 2 [], (nextD l p 7).2) else if (nextD l p 7).1 = 4 then (Ty.mk 5 [], (nextD l p 7).2)
    else if (nextD l p 7).1 = 5 then (Ty.mk 3 [(typeD l n (nextD l p 7).2).1, (typeD l n (typeD l n (nextD l p 7).2).2).1], (typeD l n (typeD l n (nextD l p 7).2).2).2)
    else if (nextD l p 7).1 = 6 then (Ty.mk 4 [(typeD l n (nextD l p 7).2).1, (typeD l n (typeD l n (nextD l p 7).2).2).1], (typeD l n (typeD l n (nextD l p 7).2).2).2)
    else (Ty.mk 1 [], (nextD l p 7).2)

/-- n small types -/
def typesD (l : List Int) : Nat → Nat → List Ty × Nat
  | 0, p => ([], p)
  | n + 1, p => ((typeD l 1 p).1 :: (typesD l n (typeD l 1 p).2).1, (typesD l n (typeD l 1 p).2).2)
def ctxD (l : List Int) (p : Nat) : List Ty × Nat := typesD l (nextD l p 4).1.toNat (nextD l p 4).2

/-- the variable i's type -/
def varTy (g : List Ty) (i : Nat) : Ty := g.getD (g.length - 1 - i) zeroTy
/-- the variables of a type -/
def varsN (g : List Ty) (t : Ty) : List Nat := (List.range g.length).filter fun i => (varTy g i).same t
/-- the first variable that is a function into a type -/
def funN (g : List Ty) (t : Ty) : Option Nat := (List.range g.length).find? fun i => decide ((varTy g i).kind = 4) && ((varTy g i).arg 1).same t

/-- a variable, if one is chosen -/
def pickD (l : List Int) (t : Ty) (g : List Ty) (p : Nat) : Option Tm × Nat :=
  if (varsN g t).length = 0 then (none, p)
  else if (nextD l p 3).1 = 0 then (none, (nextD l p 3).2)
  else (some (vT ((varsN g t).getD (nextD l (nextD l p 3).2 (varsN g t).length).1.toNat 0 : Nat)), (nextD l (nextD l p 3).2 (varsN g t).length).2)

def numD (l : List Int) (p : Nat) : Tm × Nat := (numTm (nextD l p 3).1.toNat, (nextD l p 3).2)

/-- a term of a type, without depth -/
def leafD (l : List Int) (t : Ty) (g : List Ty) (p : Nat) : Tm × Nat :=
  match pickD l t g p with
  | (some x, q) => (x, q)
  | (none, q) =>
    match t with
    | .mk k ts =>
      if k = 1 then numD l q
      else if k = 2 then (nT 7 [], q)
      else match ts with
        | [a, b] =>
          if k = 3 then (nT 10 [(leafD l a g q).1, (leafD l b g (leafD l a g q).2).1], (leafD l b g (leafD l a g q).2).2)
          else if k = 4 then (Tm.mk 2 0 a [(leafD l b (g ++ [a]) q).1], (leafD l b (g ++ [a]) q).2)
          else (nT 13 [], q)
        | _ => (nT 13 [], q)
termination_by SizeOf.sizeOf t

/-- the end of a draw: by the type -/
def endD (l : List Int) (F : Ty → List Ty → Nat → Tm × Nat) (t : Ty) (g : List Ty) (q : Nat) : Tm × Nat :=
  if t.kind = 1 then
    if (nextD l q 5).1 = 0 then (nT 5 [(F t g (nextD l q 5).2).1], (F t g (nextD l q 5).2).2)
    else if (nextD l q 5).1 = 1 then (appsT plusT [(F t g (nextD l q 5).2).1, (F t g (F t g (nextD l q 5).2).2).1], (F t g (F t g (nextD l q 5).2).2).2)
    else if (nextD l q 5).1 = 2 then (appsT subT [(F t g (nextD l q 5).2).1, (F t g (F t g (nextD l q 5).2).2).1], (F t g (F t g (nextD l q 5).2).2).2)
    else numD l (nextD l q 5).2
  else if t.kind = 2 then
    if (nextD l q 2).1 = 0 then (nT 8 [(F (Ty.mk 1 []) g (nextD l q 2).2).1, (F t g (F (Ty.mk 1 []) g (nextD l q 2).2).2).1], (F t g (F (Ty.mk 1 []) g (nextD l q 2).2).2).2)
    else (nT 7 [], (nextD l q 2).2)
  else if t.kind = 3 then (nT 10 [(F (t.arg 0) g q).1, (F (t.arg 1) g (F (t.arg 0) g q).2).1], (F (t.arg 1) g (F (t.arg 0) g q).2).2)
  else if t.kind = 4 then (Tm.mk 2 0 (t.arg 0) [(F (t.arg 1) (g ++ [t.arg 0]) q).1], (F (t.arg 1) (g ++ [t.arg 0]) q).2)
  else (nT 13 [], q)

/-- a draw with depth, without a variable: by the choice k -/
def stepD (l : List Int) (F : Ty → List Ty → Nat → Tm × Nat) (t : Ty) (g : List Ty) (k : Int) (q : Nat) : Tm × Nat :=
  if k = 0 then
    let s := typeD l 0 q
    let x := F t (g ++ [s.1]) s.2
    let y := F s.1 g x.2
    (nT 3 [Tm.mk 2 0 s.1 [x.1], y.1], y.2)
  else if k = 1 then
    let s := typeD l 0 q
    let x := F t g s.2
    let y := F s.1 g x.2
    (nT 11 [nT 10 [x.1, y.1]], y.2)
  else if k = 2 then
    let x := F t (g ++ [Ty.mk 1 [], t]) q
    let y := F t g x.2
    let z := numD l y.2
    (Tm.mk 6 0 t [y.1, Tm.mk 2 0 (Ty.mk 1 []) [Tm.mk 2 0 t [x.1]], z.1], z.2)
  else if k = 3 then
    let x := F t (g ++ [Ty.mk 1 [], Ty.mk 2 [], t]) q
    let y := F t g x.2
    let z := F (Ty.mk 2 []) g y.2
    (Tm.mk 9 0 t [y.1, Tm.mk 2 0 (Ty.mk 1 []) [Tm.mk 2 0 (Ty.mk 2 []) [Tm.mk 2 0 t [x.1]]], z.1], z.2)
  else if k = 4 then
    let s := typeD l 0 q
    let x := F s.1 g s.2
    let y := F t g x.2
    (nT 12 [nT 10 [x.1, y.1]], y.2)
  else if k = 5 then
    match funN g t with
    | some i => (nT 3 [vT i, (F ((varTy g i).arg 0) g q).1], (F ((varTy g i).arg 0) g q).2)
    | none => endD l F t g q
  else endD l F t g q

/-- a term of a type in a context -/
def termD (l : List Int) : Nat → Ty → List Ty → Nat → Tm × Nat
  | 0, t, g, p => leafD l t g p
  | n + 1, t, g, p =>
    match pickD l t g p with
    | (some x, q) => (x, q)
    | (none, q) => stepD l (termD l n) t g (nextD l q 8).1 (nextD l q 8).2

theorem leafD_eq (l : List Int) (t : Ty) (g : List Ty) (p : Nat) (ht : t.ok) : leafD l t g p =
    match pickD l t g p with
    | (some x, q) => (x, q)
    | (none, q) =>
      if t.kind = 1 then numD l q
      else if t.kind = 2 then (nT 7 [], q)
      else if t.kind = 3 then (nT 10 [(leafD l (t.arg 0) g q).1, (leafD l (t.arg 1) g (leafD l (t.arg 0) g q).2).1], (leafD l (t.arg 1) g (leafD l (t.arg 0) g q).2).2)
      else if t.kind = 4 then (Tm.mk 2 0 (t.arg 0) [(leafD l (t.arg 1) (g ++ [t.arg 0]) q).1], (leafD l (t.arg 1) (g ++ [t.arg 0]) q).2)
      else (nT 13 [], q) := by
  rw [leafD.eq_def]
  rcases pickD l t g p with ⟨_ | x, q⟩
  · cases t with
    | mk k ts =>
      simp only [Ty.kind]
      by_cases h1 : k = 1
      · simp [h1]
      by_cases h2 : k = 2
      · simp [h2]
      simp only [h1, h2, if_false]
      by_cases h34 : k = 3 ∨ k = 4
      · obtain ⟨a, b, e, -, -, e0, e1⟩ := Ty.ok_args ht h34
        simp only [Ty.args] at e
        subst e
        rw [e0, e1]
        rfl
      · have h3 : k ≠ 3 := fun e => h34 (.inl e)
        have h4 : k ≠ 4 := fun e => h34 (.inr e)
        simp only [h3, h4, if_false]
        match ts with
        | [a, b] => rfl
        | [] => rfl
        | [_] => rfl
        | _ :: _ :: _ :: _ => rfl
  · rfl

theorem ty_two {k : Int} {a b : Ty} (hk : k = 3 ∨ k = 4) (ha : a.shape = true) (hb : b.shape = true) : (Ty.mk k [a, b]).shape = true := by
  rcases hk with rfl | rfl <;> simp [Ty.shape, Ty.shape.shapes, tyKind, ha, hb]

theorem typeD_facts (l : List Int) : ∀ (n p : Nat), p ≤ l.length → (typeD l n p).2 ≤ l.length ∧ (typeD l n p).1.shape = true ∧ (typeD l n p).1.count + 1 ≤ 2 ^ (n + 1)
  | 0, p, hp => by
    have hq := nextD_le (n := 7) hp
    unfold typeD
    split
    · exact ⟨hq, rfl, Nat.le_refl 2⟩
    · split
      · exact ⟨hq, rfl, Nat.le_refl 2⟩
      · exact ⟨hq, rfl, Nat.le_refl 2⟩
  | n + 1, p, hp => by
    have hq := nextD_le (n := 7) hp
    obtain ⟨a1, a2, a3⟩ := typeD_facts l n _ hq
    obtain ⟨b1, b2, b3⟩ := typeD_facts l n _ a1
    have h2 : 2 ≤ 2 ^ (n + 1) := Nat.pow_le_pow_right (n := 2) (by decide) (show 1 ≤ n + 1 by omega)
    have h3 : 2 ^ (n + 1 + 1) = 2 ^ (n + 1) * 2 := Nat.pow_succ ..
    have hc : ∀ (k : Int) (a b : Ty), (Ty.mk k [a, b]).count = 1 + (a.count + (b.count + 0)) := fun _ _ _ => rfl
    unfold typeD
    split
    · exact ⟨hq, rfl, by show 1 + 0 + 1 ≤ _; omega⟩
    split
    · exact ⟨hq, rfl, by show 1 + 0 + 1 ≤ _; omega⟩
    split
    · exact ⟨b1, ty_two (.inl rfl) a2 b2, by rw [hc]; omega⟩
    split
    · exact ⟨b1, ty_two (.inr rfl) a2 b2, by rw [hc]; omega⟩
    · exact ⟨hq, rfl, by show 1 + 0 + 1 ≤ _; omega⟩

/-- a small type -/
def Ty.small (t : Ty) : Prop := t.shape = true ∧ t.count ≤ 15
theorem Ty.small.ok {t : Ty} (h : t.small) : t.ok := ⟨h.1, by have := h.2; omega⟩
theorem Ty.small.arg {t : Ty} (h : t.small) (hk : t.kind = 3 ∨ t.kind = 4) : (t.arg 0).small ∧ (t.arg 1).small ∧ (t.arg 0).count + (t.arg 1).count < t.count := by
  obtain ⟨a, b, e, oa, ob, e0, e1⟩ := Ty.ok_args h.ok hk
  have hc : t.count = 1 + (a.count + (b.count + 0)) := by rw [Ty.count_eq, e]; rfl
  have := h.2
  rw [e0, e1]
  exact ⟨⟨oa.1, by omega⟩, ⟨ob.1, by omega⟩, by omega⟩
theorem typeD_small (l : List Int) {n p : Nat} (hp : p ≤ l.length) (hn : n ≤ 3) : (typeD l n p).2 ≤ l.length ∧ (typeD l n p).1.small := by
  obtain ⟨h1, h2, h3⟩ := typeD_facts l n p hp
  have : 2 ^ (n + 1) ≤ 2 ^ 4 := Nat.pow_le_pow_right (by decide) (by omega)
  exact ⟨h1, h2, by omega⟩
theorem small_nat : (Ty.mk 1 []).small := ⟨rfl, by decide⟩
theorem small_list : (Ty.mk 2 []).small := ⟨rfl, by decide⟩
theorem typesD_facts (l : List Int) : ∀ (n p : Nat), p ≤ l.length → (typesD l n p).2 ≤ l.length ∧ (∀ t ∈ (typesD l n p).1, t.small) ∧ (typesD l n p).1.length = n
  | 0, p, hp => ⟨hp, by simp [typesD], rfl⟩
  | n + 1, p, hp => by
    obtain ⟨a1, a2⟩ := typeD_small l (n := 1) hp (by decide)
    obtain ⟨b1, b2, b3⟩ := typesD_facts l n _ a1
    refine ⟨b1, fun t ht => ?_, by simp [typesD, b3]⟩
    simp only [typesD, List.mem_cons] at ht
    rcases ht with rfl | ht
    · exact a2
    · exact b2 t ht
theorem ctxD_facts (l : List Int) {p : Nat} (hp : p ≤ l.length) : (ctxD l p).2 ≤ l.length ∧ (∀ t ∈ (ctxD l p).1, t.small) ∧ (ctxD l p).1.length ≤ 3 := by
  obtain ⟨h1, h2, h3⟩ := typesD_facts l (nextD l p 4).1.toNat _ (nextD_le (n := 4) hp)
  have := nextD_bd (l := l) (p := p) (n := 4) (by decide)
  exact ⟨h1, h2, by show (typesD _ _ _).1.length ≤ 3; omega⟩

theorem varTy_mem {g : List Ty} {i : Nat} (h : i < g.length) : varTy g i ∈ g ∧ g[g.length - 1 - i]? = some (varTy g i) := by
  have hl : g.length - 1 - i < g.length := by omega
  unfold varTy
  rw [List.getD_eq_getElem?_getD, List.getElem?_eq_getElem hl]
  exact ⟨List.getElem_mem _, rfl⟩
theorem varsN_mem {g : List Ty} {t : Ty} {i : Nat} (h : i ∈ varsN g t) : i < g.length ∧ varTy g i = t := by
  simp only [varsN, List.mem_filter, List.mem_range, Ty.same_iff] at h
  exact h
theorem funN_some {g : List Ty} {t : Ty} {i : Nat} (h : funN g t = some i) : i < g.length ∧ (varTy g i).kind = 4 ∧ (varTy g i).arg 1 = t := by
  have h1 := List.find?_some h
  have h2 := List.mem_of_find?_eq_some h
  simp only [Bool.and_eq_true, decide_eq_true_eq, Ty.same_iff] at h1
  exact ⟨List.mem_range.1 h2, h1.1, h1.2⟩

theorem pickD_le {l : List Int} {t : Ty} {g : List Ty} {p : Nat} (hp : p ≤ l.length) : (pickD l t g p).2 ≤ l.length := by
  unfold pickD
  split
  · exact hp
  · split
    · exact nextD_le hp
    · exact nextD_le (nextD_le hp)
theorem pickD_some {l : List Int} {t : Ty} {g : List Ty} {p q : Nat} {x : Tm} (h : pickD l t g p = (some x, q)) : ∃ i : Nat, x = vT i ∧ i < g.length ∧ varTy g i = t := by
  unfold pickD at h
  split at h
  · cases h
  · rename_i hne
    split at h
    · cases h
    · simp only [Prod.mk.injEq, Option.some.injEq] at h
      generalize hk : (nextD l (nextD l p 3).2 (varsN g t).length).1.toNat = k at h
      have hb := nextD_bd (l := l) (p := (nextD l p 3).2) (n := (varsN g t).length) (by omega)
      have hlt : k < (varsN g t).length := by omega
      refine ⟨(varsN g t)[k], ?_, varsN_mem (List.getElem_mem hlt)⟩
      rw [← h.1, List.getD_eq_getElem?_getD, List.getElem?_eq_getElem hlt, Option.getD_some]

theorem shape_v {i : Nat} : (vT i).shape = true := by
  unfold vT
  rw [Tm.shape_eq]
  simp [Tm.kind, Tm.index, Tm.type, Tm.args, Tm.shape.shapes, tmKind, tyOfKind, arityI, Ty.zero, Ty.kind, Ty.args]
theorem shape_n {k : Int} {a : List Tm} (h : (a.length : Int) = arityI k) (hk : ¬ (k = 2 ∨ k = 6 ∨ k = 9)) (ha : ∀ x ∈ a, x.shape = true) : (nT k a).shape = true := by
  unfold nT
  rw [Tm.shape_eq]
  have hz : tyOfKind k (Ty.mk 0 []) = true := by unfold tyOfKind; rw [if_neg hk]; rfl
  simp only [Tm.kind, Tm.index, Tm.type, Tm.args, (Tm.shapes_iff a).2 ha, tmKind, hz, h]
  simp
theorem shape_t {k : Int} {s : Ty} {a : List Tm} (h : (a.length : Int) = arityI k) (hk : k = 2 ∨ k = 6 ∨ k = 9) (hs : s.ok) (ha : ∀ x ∈ a, x.shape = true) : (Tm.mk k 0 s a).shape = true := by
  rw [Tm.shape_eq]
  simp only [Tm.kind, Tm.index, Tm.type, Tm.args, (Tm.shapes_iff a).2 ha, tmKind, tyOfKind, if_pos hk, h, (Ty.checkN_iff s).2 hs]
  simp

/-- what holds of all that F draws -/
def Draws (l : List Int) (F : Ty → List Ty → Nat → Tm × Nat) (Q : Ty → List Ty → Tm → Prop) : Prop :=
  ∀ t g p, t.small → (∀ x ∈ g, x.small) → p ≤ l.length → (F t g p).2 ≤ l.length ∧ Q t g (F t g p).1

/-- what a property of drawn terms must obey -/
structure DrawOK (Q : Ty → List Ty → Tm → Prop) : Prop where
  var : ∀ g i, i < g.length → Q (varTy g i) g (vT (i : Nat))
  num : ∀ g n, n < 3 → Q (Ty.mk 1 []) g (numTm n)
  app : ∀ g s t f x, s.small → t.small → Q (Ty.mk 4 [s, t]) g f → Q s g x → Q t g (nT 3 [f, x])
  lam : ∀ g s t x, s.small → t.small → Q t (g ++ [s]) x → Q (Ty.mk 4 [s, t]) g (Tm.mk 2 0 s [x])
  lam2 : ∀ g s t r x, s.small → t.small → r.small → Q r (g ++ [s, t]) x → Q (Ty.mk 4 [s, Ty.mk 4 [t, r]]) g (Tm.mk 2 0 s [Tm.mk 2 0 t [x]])
  lam3 : ∀ g s t u r x, s.small → t.small → u.small → r.small → Q r (g ++ [s, t, u]) x → Q (Ty.mk 4 [s, Ty.mk 4 [t, Ty.mk 4 [u, r]]]) g (Tm.mk 2 0 s [Tm.mk 2 0 t [Tm.mk 2 0 u [x]]])
  pair : ∀ g s t x y, s.small → t.small → Q s g x → Q t g y → Q (Ty.mk 3 [s, t]) g (nT 10 [x, y])
  fst : ∀ g s t x, s.small → t.small → Q (Ty.mk 3 [s, t]) g x → Q s g (nT 11 [x])
  snd : ∀ g s t x, s.small → t.small → Q (Ty.mk 3 [s, t]) g x → Q t g (nT 12 [x])
  rc : ∀ g t x f n, t.small → Q t g x → Q (Ty.mk 4 [Ty.mk 1 [], Ty.mk 4 [t, t]]) g f → Q (Ty.mk 1 []) g n → Q t g (Tm.mk 6 0 t [x, f, n])
  fold : ∀ g t x f n, t.small → Q t g x → Q (Ty.mk 4 [Ty.mk 1 [], Ty.mk 4 [Ty.mk 2 [], Ty.mk 4 [t, t]]]) g f → Q (Ty.mk 2 []) g n → Q t g (Tm.mk 9 0 t [x, f, n])
  succ : ∀ g x, Q (Ty.mk 1 []) g x → Q (Ty.mk 1 []) g (nT 5 [x])
  plus : ∀ g x y, Q (Ty.mk 1 []) g x → Q (Ty.mk 1 []) g y → Q (Ty.mk 1 []) g (appsT plusT [x, y])
  sub : ∀ g x y, Q (Ty.mk 1 []) g x → Q (Ty.mk 1 []) g y → Q (Ty.mk 1 []) g (appsT subT [x, y])
  nil : ∀ g, Q (Ty.mk 2 []) g (nT 7 [])
  cons : ∀ g x y, Q (Ty.mk 1 []) g x → Q (Ty.mk 2 []) g y → Q (Ty.mk 2 []) g (nT 8 [x, y])
  unit : ∀ g, Q (Ty.mk 5 []) g (nT 13 [])

theorem numD_facts {l : List Int} {Q : Ty → List Ty → Tm → Prop} (hQ : DrawOK Q) {p : Nat} (hp : p ≤ l.length) (g : List Ty) : (numD l p).2 ≤ l.length ∧ Q (Ty.mk 1 []) g (numD l p).1 := by
  have := nextD_bd (l := l) (p := p) (n := 3) (by decide)
  exact ⟨nextD_le hp, hQ.num g _ (by omega)⟩

theorem small_kinds {t : Ty} (h : t.small) : (t.kind = 1 ∧ t = Ty.mk 1 []) ∨ (t.kind = 2 ∧ t = Ty.mk 2 []) ∨ (t.kind = 5 ∧ t = Ty.mk 5 []) ∨ (t.kind = 3 ∧ t = Ty.mk 3 [t.arg 0, t.arg 1]) ∨ (t.kind = 4 ∧ t = Ty.mk 4 [t.arg 0, t.arg 1]) := by
  cases t with
  | mk k ts =>
    have h1 := h.1
    rw [Ty.shape_eq, Bool.and_eq_true] at h1
    have hk := h1.1
    unfold tyKind at hk
    simp [Ty.kind, Ty.args] at hk
    rcases hk with ⟨h2, rfl⟩ | ⟨h2, h3⟩
    · rcases of_decide_eq_true h2 with rfl | rfl | rfl <;> simp [Ty.kind]
    · match ts, h3 with
      | [a, b], _ => rcases of_decide_eq_true h2 with rfl | rfl <;> simp [Ty.kind, Ty.arg, Ty.args]

theorem endD_facts {l : List Int} {F : Ty → List Ty → Nat → Tm × Nat} {Q : Ty → List Ty → Tm → Prop} (hQ : DrawOK Q) (hF : Draws l F Q) : Draws l (endD l F) Q := by
  intro t g p ht hg hp
  unfold endD
  have h5 := nextD_le (n := 5) hp
  have h2 := nextD_le (n := 2) hp
  rcases small_kinds ht with ⟨h, e⟩ | ⟨h, e⟩ | ⟨h, e⟩ | ⟨h, e⟩ | ⟨h, e⟩
  · rw [if_pos h]
    obtain ⟨a1, a2⟩ := hF t g _ ht hg h5
    obtain ⟨b1, b2⟩ := hF t g _ ht hg a1
    rw [e] at a1 a2 b1 b2 ⊢
    split
    · exact ⟨a1, hQ.succ g _ a2⟩
    split
    · exact ⟨b1, hQ.plus g _ _ a2 b2⟩
    split
    · exact ⟨b1, hQ.sub g _ _ a2 b2⟩
    · exact numD_facts hQ h5 g
  · rw [if_neg (by omega), if_pos h]
    obtain ⟨a1, a2⟩ := hF _ g _ small_nat hg h2
    obtain ⟨b1, b2⟩ := hF t g _ ht hg a1
    rw [e] at b1 b2 ⊢
    split
    · exact ⟨b1, hQ.cons g _ _ a2 b2⟩
    · exact ⟨h2, hQ.nil g⟩
  · rw [if_neg (by omega), if_neg (by omega), if_neg (by omega), if_neg (by omega)]
    rw [e]
    exact ⟨hp, hQ.unit g⟩
  · rw [if_neg (by omega), if_neg (by omega), if_pos h]
    obtain ⟨s0, s1, _⟩ := ht.arg (.inl h)
    obtain ⟨a1, a2⟩ := hF _ g _ s0 hg hp
    obtain ⟨b1, b2⟩ := hF _ g _ s1 hg a1
    refine ⟨b1, ?_⟩
    rw [e]
    exact hQ.pair g _ _ _ _ s0 s1 a2 b2
  · rw [if_neg (by omega), if_neg (by omega), if_neg (by omega), if_pos h]
    obtain ⟨s0, s1, _⟩ := ht.arg (.inr h)
    obtain ⟨a1, a2⟩ := hF (t.arg 1) (g ++ [t.arg 0]) _ s1 (by intro x hx; rcases List.mem_append.1 hx with hx | hx; exact hg x hx; rw [List.mem_singleton.1 hx]; exact s0) hp
    refine ⟨a1, ?_⟩
    rw [e]
    exact hQ.lam g _ _ _ s0 s1 a2

theorem stepD_facts {l : List Int} {F : Ty → List Ty → Nat → Tm × Nat} {Q : Ty → List Ty → Tm → Prop} (hQ : DrawOK Q) (hF : Draws l F Q) (k : Int) : Draws l (fun t g p => stepD l F t g k p) Q := by
  intro t g p ht hg hp
  have hg1 : ∀ a : List Ty, (∀ x ∈ a, x.small) → ∀ x ∈ g ++ a, x.small := by
    intro a ha x hx
    rcases List.mem_append.1 hx with hx | hx
    · exact hg x hx
    · exact ha x hx
  have hg2 : ∀ s : Ty, s.small → ∀ x ∈ g ++ [s], x.small := fun s hs => hg1 [s] (by simpa using hs)
  obtain ⟨s1, s2⟩ := typeD_small l (n := 0) hp (by decide)
  show (stepD l F t g k p).2 ≤ l.length ∧ Q t g (stepD l F t g k p).1
  unfold stepD
  split
  · obtain ⟨a1, a2⟩ := hF t _ _ ht (hg2 _ s2) s1
    obtain ⟨b1, b2⟩ := hF _ g _ s2 hg a1
    exact ⟨b1, hQ.app g _ _ _ _ s2 ht (hQ.lam g _ _ _ s2 ht a2) b2⟩
  split
  · obtain ⟨a1, a2⟩ := hF t g _ ht hg s1
    obtain ⟨b1, b2⟩ := hF _ g _ s2 hg a1
    exact ⟨b1, hQ.fst g _ _ _ ht s2 (hQ.pair g _ _ _ _ ht s2 a2 b2)⟩
  split
  · obtain ⟨a1, a2⟩ := hF t _ _ ht (hg1 [Ty.mk 1 [], t] (by intro x hx; simp at hx; rcases hx with rfl | rfl; exact small_nat; exact ht)) hp
    obtain ⟨b1, b2⟩ := hF t g _ ht hg a1
    obtain ⟨c1, c2⟩ := numD_facts hQ b1 g
    exact ⟨c1, hQ.rc g _ _ _ _ ht b2 (hQ.lam2 g _ _ _ _ small_nat ht ht a2) c2⟩
  split
  · obtain ⟨a1, a2⟩ := hF t _ _ ht (hg1 [Ty.mk 1 [], Ty.mk 2 [], t] (by intro x hx; simp at hx; rcases hx with rfl | rfl | rfl; exact small_nat; exact small_list; exact ht)) hp
    obtain ⟨b1, b2⟩ := hF t g _ ht hg a1
    obtain ⟨c1, c2⟩ := hF _ g _ small_list hg b1
    exact ⟨c1, hQ.fold g _ _ _ _ ht b2 (hQ.lam3 g _ _ _ _ _ small_nat small_list ht ht a2) c2⟩
  split
  · obtain ⟨a1, a2⟩ := hF _ g _ s2 hg s1
    obtain ⟨b1, b2⟩ := hF t g _ ht hg a1
    exact ⟨b1, hQ.snd g _ _ _ s2 ht (hQ.pair g _ _ _ _ s2 ht a2 b2)⟩
  split
  · split
    · rename_i i hi
      obtain ⟨f1, f2, f3⟩ := funN_some hi
      have hfs := hg _ (varTy_mem f1).1
      obtain ⟨c0, c1, -⟩ := hfs.arg (.inr f2)
      obtain ⟨a1, a2⟩ := hF _ g _ c0 hg hp
      have hv := hQ.var g i f1
      rcases small_kinds hfs with ⟨h, e⟩ | ⟨h, e⟩ | ⟨h, e⟩ | ⟨h, e⟩ | ⟨h, e⟩
      · omega
      · omega
      · omega
      · omega
      · rw [e, f3] at hv
        exact ⟨a1, hQ.app g _ _ _ _ c0 ht hv a2⟩
    · exact endD_facts hQ hF t g p ht hg hp
  · exact endD_facts hQ hF t g p ht hg hp

theorem leafD_facts {l : List Int} {Q : Ty → List Ty → Tm → Prop} (hQ : DrawOK Q) : Draws l (leafD l) Q := by
  intro t
  generalize hn : t.count = n
  induction n using Nat.strongRecOn generalizing t with
  | _ n ih =>
  intro g p ht hg hp
  rw [leafD_eq l t g p ht.ok]
  have hq := pickD_le (t := t) (g := g) hp
  split
  · rename_i x q hx
    obtain ⟨i, rfl, h1, h2⟩ := pickD_some hx
    rw [hx] at hq
    have := hQ.var g i h1
    rw [h2] at this
    exact ⟨hq, this⟩
  · rename_i q hx
    rw [hx] at hq
    rcases small_kinds ht with ⟨h, e⟩ | ⟨h, e⟩ | ⟨h, e⟩ | ⟨h, e⟩ | ⟨h, e⟩
    · rw [if_pos h, e]; exact numD_facts hQ hq g
    · rw [if_neg (by omega), if_pos h, e]; exact ⟨hq, hQ.nil g⟩
    · rw [if_neg (by omega), if_neg (by omega), if_neg (by omega), if_neg (by omega), e]; exact ⟨hq, hQ.unit g⟩
    · rw [if_neg (by omega), if_neg (by omega), if_pos h]
      obtain ⟨s0, s1, hc⟩ := ht.arg (.inl h)
      have p0 := Ty.count_eq (t.arg 0)
      have p1 := Ty.count_eq (t.arg 1)
      obtain ⟨a1, a2⟩ := ih _ (by omega) (t.arg 0) rfl g _ s0 hg hq
      obtain ⟨b1, b2⟩ := ih _ (by omega) (t.arg 1) rfl g _ s1 hg a1
      refine ⟨b1, ?_⟩
      have := hQ.pair g _ _ _ _ s0 s1 a2 b2
      rw [← e] at this
      exact this
    · rw [if_neg (by omega), if_neg (by omega), if_neg (by omega), if_pos h]
      obtain ⟨s0, s1, hc⟩ := ht.arg (.inr h)
      have p0 := Ty.count_eq (t.arg 0)
      have p1 := Ty.count_eq (t.arg 1)
      obtain ⟨a1, a2⟩ := ih _ (by omega) (t.arg 1) rfl (g ++ [t.arg 0]) _ s1 (by intro x hx; rcases List.mem_append.1 hx with hx | hx; exact hg x hx; rw [List.mem_singleton.1 hx]; exact s0) hq
      refine ⟨a1, ?_⟩
      have := hQ.lam g _ _ _ s0 s1 a2
      rw [← e] at this
      exact this

theorem termD_facts {l : List Int} {Q : Ty → List Ty → Tm → Prop} (hQ : DrawOK Q) : ∀ n, Draws l (termD l n) Q
  | 0 => leafD_facts hQ
  | n + 1 => by
    intro t g p ht hg hp
    have hq := pickD_le (t := t) (g := g) hp
    unfold termD
    split
    · rename_i x q hx
      obtain ⟨i, rfl, h1, h2⟩ := pickD_some hx
      rw [hx] at hq
      have := hQ.var g i h1
      rw [h2] at this
      exact ⟨hq, this⟩
    · rename_i q hx
      rw [hx] at hq
      exact stepD_facts hQ (termD_facts hQ n) _ t g _ ht hg (nextD_le hq)

theorem app2_shape {f x y : Tm} (hf : f.shape = true) (hx : x.shape = true) (hy : y.shape = true) : (appsT f [x, y]).shape = true := by
  show (nT 3 [nT 3 [f, x], y]).shape = true
  exact shape_n rfl (by decide) (by intro z hz; simp at hz; rcases hz with rfl | rfl; exact shape_n rfl (by decide) (by intro z hz; simp at hz; rcases hz with rfl | rfl; exact hf; exact hx); exact hy)

theorem closed_shape : DrawOK (fun _ _ x => x.shape = true) where
  var _ _ _ := shape_v
  num _ n _ := num_shape n
  app _ _ _ _ _ _ _ hf hx := shape_n rfl (by decide) (by intro z hz; simp at hz; rcases hz with rfl | rfl; exact hf; exact hx)
  lam _ _ _ _ hs _ hx := shape_t rfl (.inl rfl) hs.ok (by intro z hz; simp at hz; rw [hz]; exact hx)
  lam2 _ _ _ _ _ hs ht _ hx := shape_t rfl (.inl rfl) hs.ok (by intro z hz; simp at hz; rw [hz]; exact shape_t rfl (.inl rfl) ht.ok (by intro z hz; simp at hz; rw [hz]; exact hx))
  lam3 _ _ _ _ _ _ hs ht hu _ hx := shape_t rfl (.inl rfl) hs.ok (by intro z hz; simp at hz; rw [hz]; exact shape_t rfl (.inl rfl) ht.ok (by intro z hz; simp at hz; rw [hz]; exact shape_t rfl (.inl rfl) hu.ok (by intro z hz; simp at hz; rw [hz]; exact hx)))
  pair _ _ _ _ _ _ _ hf hx := shape_n rfl (by decide) (by intro z hz; simp at hz; rcases hz with rfl | rfl; exact hf; exact hx)
  fst _ _ _ _ _ _ hx := shape_n rfl (by decide) (by intro z hz; simp at hz; rw [hz]; exact hx)
  snd _ _ _ _ _ _ hx := shape_n rfl (by decide) (by intro z hz; simp at hz; rw [hz]; exact hx)
  rc _ _ _ _ _ ht hx hf hn := shape_t rfl (.inr (.inl rfl)) ht.ok (by intro z hz; simp at hz; rcases hz with rfl | rfl | rfl; exact hx; exact hf; exact hn)
  fold _ _ _ _ _ ht hx hf hn := shape_t rfl (.inr (.inr rfl)) ht.ok (by intro z hz; simp at hz; rcases hz with rfl | rfl | rfl; exact hx; exact hf; exact hn)
  succ _ _ hx := shape_n rfl (by decide) (by intro z hz; simp at hz; rw [hz]; exact hx)
  plus _ _ _ hx hy := app2_shape (by decide) hx hy
  sub _ _ _ hx hy := app2_shape (by decide) hx hy
  nil _ := rfl
  cons _ _ _ hf hx := shape_n rfl (by decide) (by intro z hz; simp at hz; rcases hz with rfl | rfl; exact hf; exact hx)
  unit _ := rfl
end Go.Proofs.YtiacandbafjlfaaGreatDoor.Lift

namespace Go.Proofs.YtiacandbafjlfaaGreatDoor.Lift
set_option linter.unusedSimpArgs false
set_option linter.unusedVariables false
set_option linter.unnecessarySimpa false
open Go
variable {gl : Globs}

/-- the parts of a node, by its form -/
theorem Val.okB_kind {v : Val} (h : v.okB = true) : (v.kind = 1 ∧ 0 ≤ v.num ∧ v.list = [] ∧ v.args = []) ∨ (v.kind = 2 ∧ v.num = 0 ∧ (∀ n ∈ v.list, 0 ≤ n) ∧ v.args = []) ∨ (v.kind = 3 ∧ v.num = 0 ∧ v.list = [] ∧ ∃ a b, v.args = [a, b]) ∨ (v.kind = 4 ∧ v.num = 0 ∧ v.list = [] ∧ v.args = []) := by
  unfold Val.okB at h
  by_cases h1 : v.kind = 1
  · simp [h1] at h; exact .inl ⟨h1, h.1.1, h.1.2, h.2⟩
  by_cases h2 : v.kind = 2
  · simp [h2] at h; exact .inr (.inl ⟨h2, h.1.1, h.1.2, h.2⟩)
  by_cases h3 : v.kind = 3
  · simp [h3] at h
    refine .inr (.inr (.inl ⟨h3, h.1.1, h.1.2, ?_⟩))
    match hq : v.args, h.2 with
    | [a, b], _ => exact ⟨a, b, rfl⟩
  by_cases h4 : v.kind = 4
  · simp [h4] at h; exact .inr (.inr (.inr ⟨h4, h.1.1, h.1.2, h.2⟩))
  simp [h1, h2, h3, h4] at h

/-- whether all nodes have a form -/
theorem Val.nodes_flat {v : Val} (h : v.args = []) : v.nodesN.2 = v.okB := by rw [nodesN_eq, h]; rfl
theorem Val.nodes_pair {v a b : Val} (h : v.args = [a, b]) : v.nodesN.2 = (v.okB && (a.nodesN.2 && b.nodesN.2)) := by
  rw [nodesN_eq, h]
  cases ho : v.okB <;> simp [nodesN.nodesL]
  cases ha : a.nodesN.2 <;> simp
theorem Val.nodes_bad {v : Val} (h : v.okB = false) : v.nodesN.2 = false := by rw [nodesN_eq, h, nodesL_no]
theorem Val.nodes_count (v : Val) (h : v.nodesN.2 = true) : v.nodesN.1 = v.count := by
  induction v using Val.ind with
  | h v ih =>
  have key : ∀ l : List Val, (∀ a ∈ l, a.nodesN.2 = true → a.nodesN.1 = a.count) → ∀ (n : Int) (ok : Bool), (nodesN.nodesL l (n, ok)).2 = true → (nodesN.nodesL l (n, ok)).1 = n + count.counts l := by
    intro l
    induction l with
    | nil => intro _ n ok _; simp [nodesN.nodesL, count.counts]
    | cons a r ihr =>
      intro hl n ok hok
      cases ok with
      | false => rw [nodesL_no] at hok; cases hok
      | true =>
        simp only [nodesN.nodesL, if_true] at hok ⊢
        have ha : a.nodesN.2 = true := (nodesL_ok hok).1
        rw [ihr (fun b hb => hl b (List.mem_cons_of_mem _ hb)) _ _ hok, hl a (by simp) ha]
        simp only [count.counts]
        omega
  rw [nodesN_eq] at h ⊢
  rw [key v.args ih _ _ h, count_eq]
  omega

theorem snocI {l : List Int} {i : Nat} {Q : Int → Prop} (h : ∀ (j : Nat) (x : Int), j < i → l[j]? = some x → Q x) (h1 : ∀ x, l[i]? = some x → Q x) : ∀ (j : Nat) (x : Int), j < i + 1 → l[j]? = some x → Q x := by
  intro j x hj hx
  by_cases e : j = i
  · rw [e] at hx; exact h1 x hx
  · exact h j x (by omega) hx

set_option maxHeartbeats 2000000 in
theorem shape5_ok (v : Val) : Con1 Tryz.prog gl 105 [v.dv] [] (dbool v.nodesN.2) [] := by
  induction v using Val.ind with
  | h v ih =>
  refine t_in Tryz.func105 ?_
  intro X hP hgl hf hfn hn hR hids hfit
  have hl1 := Val.fit_args (hfit v.dv (by simp))
  have hl2 := Val.fit_list (hfit v.dv (by simp))
  by_cases h1 : v.kind = 1
  · have hv : v.nodesN.2 = v.okB := by
      by_cases ha : v.args = []
      · exact Val.nodes_flat ha
      · have : v.okB = false := by unfold Val.okB; simp [h1, ha]
        rw [Val.nodes_bad this, this]
    have hb : v.okB = (decide (0 ≤ v.num) && decide (v.list.length = 0) && decide (v.args.length = 0)) := by unfold Val.okB; simp [h1]
    rw [hv, hb] at hR
    by_cases q1 : 0 ≤ v.num
    · by_cases q2 : v.list.length = 0
      · by_cases q3 : v.args.length = 0
        · refine t_g (j2 @h1 (j2 @q1 (j2 @q2 @q3))) ?_
          refine t_r ?_
          simp [go_sem, hP, hgl, hn, q1, q2, q3] <;> (try omega)
        · refine t_g (j2 @h1 (j2 @q1 (j2 @q2 @q3))) ?_
          refine t_r ?_
          simp [go_sem, hP, hgl, hn, q1, q2, q3] <;> (try omega)
      · refine t_g (j2 @h1 (j2 @q1 @q2)) ?_
        refine t_r ?_
        simp [go_sem, hP, hgl, hn, q1, q2] <;> (try omega)
    · refine t_g (j2 @h1 @q1) ?_
      refine t_r ?_
      simp [go_sem, hP, hgl, hn, q1] <;> (try omega)
  by_cases h2 : v.kind = 2
  · have hv : v.nodesN.2 = v.okB := by
      by_cases ha : v.args = []
      · exact Val.nodes_flat ha
      · have : v.okB = false := by unfold Val.okB; simp [h2, ha]
        rw [Val.nodes_bad this, this]
    have hb : v.okB = (decide (v.num = 0) && !v.list.any (fun n => decide (n < 0)) && decide (v.args.length = 0)) := by unfold Val.okB; simp [h2]
    rw [hv, hb] at hR
    refine t_g @h2 ?_
    refine t_a ?_
    refine t_sub [] trivial (W_upto (v.list.length) (fun i => ∀ (j : Nat) (x : Int), j < i → v.list[j]? = some x → 0 ≤ x) (fun i => [(.slot 29, .one (.v (dint i))), (.slot 28, .one (.v (dint v.list.length))), (.slot 27, .one (.v (.sl (ints v.list)))), (.loc 1, .row ([.v (dint v.kind), .v (dint v.num), .v (.sl (ints v.list)), .v (.sl (v.args.map Val.cells))])), (.slot 1, .one (.loc 1 0))]) (by intro j x h; omega) ?_ ?_)
    · intro i hi hI hnext
      obtain ⟨x, hx⟩ : ∃ x, v.list[i]? = some x := ⟨_, List.getElem?_eq_getElem hi⟩
      have hgi := ints_get hx
      refine t_rg0 ?_
      refine t_yes ?_
      by_cases hneg : x < 0
      · have hany : v.list.any (fun n => decide (n < 0)) = true := List.any_eq_true.2 ⟨x, List.mem_of_getElem? hx, by simpa using hneg⟩
        refine t_g (j2 @hgi @hneg) ?_
        refine t_r ?_
        simp [go_sem, hP, hgl, hn, hany] <;> (try omega)
      · refine t_gt (wr []) trivial (j2 @hgi @hneg) (hnext (snocI hI fun y hy => by rw [hx] at hy; cases hy; omega))
    · intro hI
      have hany : v.list.any (fun n => decide (n < 0)) = false := by
        rw [List.any_eq_false]
        intro x hx
        obtain ⟨j, hj, rfl⟩ := List.mem_iff_getElem.1 hx
        have := hI j _ hj (List.getElem?_eq_getElem hj)
        simpa using this
      refine t_rg0 ?_
      refine t_no ?_
      by_cases q1 : v.num = 0
      · by_cases q3 : v.args.length = 0
        · refine t_g (j2 @q1 @q3) ?_
          refine t_r ?_
          simp [go_sem, hP, hgl, hn, hany, q1, q3] <;> (try omega)
        · refine t_g (j2 @q1 @q3) ?_
          refine t_r ?_
          simp [go_sem, hP, hgl, hn, hany, q1, q3] <;> (try omega)
      · refine t_g @q1 ?_
        refine t_r ?_
        simp [go_sem, hP, hgl, hn, hany, q1] <;> (try omega)
  by_cases h4 : v.kind = 4
  · have hv : v.nodesN.2 = v.okB := by
      by_cases ha : v.args = []
      · exact Val.nodes_flat ha
      · have : v.okB = false := by unfold Val.okB; simp [h4, ha]
        rw [Val.nodes_bad this, this]
    have hb : v.okB = (decide (v.num = 0) && decide (v.list.length = 0) && decide (v.args.length = 0)) := by unfold Val.okB; simp [h4]
    rw [hv, hb] at hR
    by_cases q1 : v.num = 0
    · by_cases q2 : v.list.length = 0
      · by_cases q3 : v.args.length = 0
        · refine t_g (j2 @h4 (j2 @q1 (j2 @q2 @q3))) ?_
          refine t_r ?_
          simp [go_sem, hP, hgl, hn, q1, q2, q3] <;> (try omega)
        · refine t_g (j2 @h4 (j2 @q1 (j2 @q2 @q3))) ?_
          refine t_r ?_
          simp [go_sem, hP, hgl, hn, q1, q2, q3] <;> (try omega)
      · refine t_g (j2 @h4 (j2 @q1 @q2)) ?_
        refine t_r ?_
        simp [go_sem, hP, hgl, hn, q1, q2] <;> (try omega)
    · refine t_g (j2 @h4 @q1) ?_
      refine t_r ?_
      simp [go_sem, hP, hgl, hn, q1] <;> (try omega)
  by_cases h3 : v.kind = 3
  · have hb : v.okB = (decide (v.num = 0) && decide (v.list.length = 0) && decide (v.args.length = 2)) := by unfold Val.okB; simp [h3]
    by_cases q1 : v.num = 0
    · by_cases q2 : v.list.length = 0
      · by_cases q3 : v.args.length = 2
        · obtain ⟨a, b, hab⟩ : ∃ a b, v.args = [a, b] := by
            match hq : v.args, q3 with
            | [a, b], _ => exact ⟨a, b, rfl⟩
          have hv := Val.nodes_pair hab
          rw [hv, hb] at hR
          by_cases ha : a.nodesN.2 = true
          · refine t_g @h3 ?_
            refine t_c2 (j2 @h3 (j2 @q1 (j2 @q2 (j2 @hab @ha)))) (ih a (by rw [hab]; simp)) (ih b (by rw [hab]; simp)) ?_
            refine t_r ?_
            simp [go_sem, hP, hgl, hn, q1, q2, q3, ha] <;> (try omega)
          · have ha' : a.nodesN.2 = false := by simpa using ha
            refine t_g @h3 ?_
            refine t_c1 (j2 @h3 (j2 @q1 (j2 @q2 (j2 @hab @ha')))) (ih a (by rw [hab]; simp)) ?_
            refine t_r ?_
            simp [go_sem, hP, hgl, hn, q1, q2, q3, ha'] <;> (try omega)
        · rw [Val.nodes_bad (by rw [hb]; simp [q3])] at hR
          have q4 : ¬ (v.args.length : Int) = 2 := by omega
          refine t_g (j2 @h3 (j2 @q1 (j2 @q2 @q4))) ?_
          refine t_r ?_
          simp [go_sem, hP, hgl, hn] <;> (try omega)
      · rw [Val.nodes_bad (by rw [hb]; simp [q2])] at hR
        refine t_g (j2 @h3 (j2 @q1 @q2)) ?_
        refine t_r ?_
        simp [go_sem, hP, hgl, hn] <;> (try omega)
    · rw [Val.nodes_bad (by rw [hb]; simp [q1])] at hR
      refine t_g (j2 @h3 @q1) ?_
      refine t_r ?_
      simp [go_sem, hP, hgl, hn] <;> (try omega)
  rw [Val.nodes_bad (by unfold Val.okB; simp [h1, h2, h3, h4])] at hR
  refine t_g (j2 @h1 (j2 @h2 (j2 @h3 @h4))) ?_
  refine t_r ?_
  simp [go_sem, hP, hgl, hn] <;> (try omega)

theorem nodes5_ok (v : Val) (hc : v.count ≤ 1073741824) : Con1 Tryz.prog gl 106 [v.dv] [] (dint v.count) [] := by
  induction v using Val.ind with
  | h v ih =>
  refine t_in Tryz.func106 ?_
  intro X hP hgl hf hfn hn hR hids hfit
  have hl1 := Val.fit_args (hfit v.dv (by simp))
  have hcv := Val.count_eq v
  refine t_g0 ?_
  refine t_a ?_
  refine W_sub [] (by simp [go_sem]) (by simp [go_sem, Val.count.counts] <;> omega) (by simp [go_sem]) (W_list (v.args) (fun done rest => [(.slot 9, .one (.v (dint done.length))), (.slot 8, .one (.v (dint v.args.length))), (.slot 7, .one (.v (.sl (v.args.map Val.cells)))), (.slot 3, .one (.v (dint (1 + Val.count.counts done : Nat)))), (.slot 2, .one (.v (dint 0)))]) ?_ ?_)
  · intro done x rest hL hg0 hnext
    have hlt : done.length < v.args.length := by rw [hL]; simp
    have hxm := List.mem_of_getElem? hg0
    have hca := Val.counts_append done (x :: rest)
    have hcs := Val.counts_append done [x]
    rw [← hL] at hca
    simp only [Val.count.counts] at hca hcs
    refine t_rg0 ?_
    refine t_yes ?_
    refine t_g @hg0 ?_
    refine t_c1 @hg0 (ih x hxm (by omega)) ?_
    refine t_gt (wr []) @hcs trivial hnext
  · refine t_rg0 ?_
    refine t_no ?_
    refine t_g0 ?_
    refine t_r ?_
    simp [go_sem, hP, hgl, hn, hcv] <;> (try omega)

theorem Val.checkN_eq (v : Val) : v.checkN = if v.nodesN.2 = true then if 64 < v.count then 4 else 0 else 2 := by
  unfold Val.checkN
  by_cases h : v.nodesN.2 = true
  · rw [if_pos h, if_pos h, Val.nodes_count v h]
    by_cases h2 : 64 < v.count
    · rw [if_pos (by omega), if_pos h2]
    · rw [if_neg (by omega), if_neg h2]
  · rw [if_neg h, if_neg h]

theorem check5_ok (v : Val) (hc : v.count ≤ 1073741824) : Con1 Tryz.prog gl 66 [v.dv] [] (dint v.checkN) [] := by
  refine t_in Tryz.func66 ?_
  intro X hP hgl hf hfn hn hR hids hfit
  rw [Val.checkN_eq] at hR
  refine t_g0 ?_
  refine t_c1 trivial (shape5_ok v) ?_
  by_cases h : v.nodesN.2 = true
  · rw [if_pos h] at hR
    refine t_g @h ?_
    refine t_c1 trivial (nodes5_ok v hc) ?_
    by_cases h2 : 64 < v.count
    · refine t_g @h2 ?_
      refine t_r ?_
      simp [go_sem, hP, hgl, hn, h2] <;> (try omega)
    · refine t_g @h2 ?_
      refine t_r ?_
      simp [go_sem, hP, hgl, hn, h2] <;> (try omega)
  · rw [if_neg h] at hR
    refine t_g @h ?_
    refine t_r ?_
    simp [go_sem, hP, hgl, hn] <;> (try omega)

theorem typed5_ok (v : Val) (ht : v.nodesN.2 = true) : Con1 Tryz.prog gl 129 [v.dv] [] v.tyN.dv [] := by
  induction v using Val.ind with
  | h v ih =>
  refine t_in Tryz.func129 ?_
  intro X hP hgl hf hfn hn hR hids hfit
  have hok : v.okB = true := by
    cases hq : v.okB with
    | true => rfl
    | false => rw [Val.nodes_bad hq] at ht; cases ht
  rw [Val.tyN_eq] at hR
  rcases Val.okB_kind hok with ⟨h, -⟩ | ⟨h, -⟩ | ⟨h, -, -, a, b, hab⟩ | ⟨h, -⟩
  · refine t_g @h ?_
    refine t_c1 trivial ref01_nat_ok ?_
    refine t_r ?_
    simp [go_sem, hP, hgl, hn, h] <;> (try omega)
    all_goals exact t_f
  · refine t_g @h ?_
    refine t_c1 trivial ref01_list_ok ?_
    refine t_r ?_
    simp [go_sem, hP, hgl, hn, h] <;> (try omega)
    all_goals exact t_f
  · have hv := Val.nodes_pair hab
    rw [ht, hok] at hv
    simp at hv
    refine t_g @h ?_
    refine t_c3 (j2 @h @hab) (ih a (by rw [hab]; simp) hv.1) (ih b (by rw [hab]; simp) hv.2) (ref01_two_ok a.tyN b.tyN) ?_
    refine t_r ?_
    simp [go_sem, hP, hgl, hn, h, hab] <;> (try omega)
    all_goals exact t_f
  · refine t_g @h ?_
    refine t_c1 trivial ref01_unit_ok ?_
    refine t_r ?_
    simp [go_sem, hP, hgl, hn, h] <;> (try omega)
    all_goals exact t_f

theorem typeE5_ok (v : Val) (hc : v.count ≤ 1073741824) : Con1 Tryz.prog gl 109 [v.dv] [] (.tup [v.typeE.1.dv, dint v.typeE.2]) [] := by
  refine t_in Tryz.func109 ?_
  intro X hP hgl hf hfn hn hR hids hfit
  refine t_g0 ?_
  refine t_c1 trivial (check5_ok v hc) ?_
  by_cases h : v.checkN = 0
  · have hok : v.nodesN.2 = true := by
      unfold Val.checkN at h
      split at h
      · assumption
      · cases h
    refine t_g @h ?_
    refine t_c1 trivial (typed5_ok v hok) ?_
    refine t_r ?_
    simp [go_sem, hP, hgl, hn, Val.typeE, h] <;> (try omega)
    all_goals exact t_f
  · refine t_g @h ?_
    refine t_r ?_
    simp [go_sem, hP, hgl, hn, Val.typeE, h, zeroTy] <;> (try omega)
    all_goals exact t_f
end Go.Proofs.YtiacandbafjlfaaGreatDoor.Lift

/-
  Plain law: the rounds of reduction on closed typed terms.
-/
namespace Go.Proofs.YtiacandbafjlfaaGreatDoor.Lift
set_option linter.unusedSimpArgs false
set_option linter.unusedVariables false
set_option linter.unnecessarySimpa false
open Go

theorem dn_shape {Γ : List T} {t : Tm} {a : T} {F : Env Γ → a.V} (h : Dn Γ t a F) : t.shape = true := by
  have one : ∀ {x : Tm}, x.shape = true → ∀ z ∈ [x], z.shape = true := by intro x hx z hz; rw [List.mem_singleton.1 hz]; exact hx
  have two : ∀ {x y : Tm}, x.shape = true → y.shape = true → ∀ z ∈ [x, y], z.shape = true := by
    intro x y hx hy z hz; simp at hz; rcases hz with rfl | rfl; exact hx; exact hy
  have three : ∀ {x y w : Tm}, x.shape = true → y.shape = true → w.shape = true → ∀ z ∈ [x, y, w], z.shape = true := by
    intro x y w hx hy hw z hz; simp at hz; rcases hz with rfl | rfl | rfl; exact hx; exact hy; exact hw
  induction h with
  | var h => exact shape_v
  | lam ha hb ih => exact shape_t rfl (.inl rfl) (T.ok_ty ha) (one ih)
  | app hf hx ihf ihx => exact shape_n rfl (by decide) (two ihf ihx)
  | zero => rfl
  | succ hx ih => exact shape_n rfl (by decide) (one ih)
  | rc ha hb hf hn ihb ihf ihn => exact shape_t rfl (.inr (.inl rfl)) (T.ok_ty ha) (three ihb ihf ihn)
  | nil => rfl
  | cons hx hl ihx ihl => exact shape_n rfl (by decide) (two ihx ihl)
  | fold ha hb hf hn ihb ihf ihn => exact shape_t rfl (.inr (.inr rfl)) (T.ok_ty ha) (three ihb ihf ihn)
  | pair hx hy ihx ihy => exact shape_n rfl (by decide) (two ihx ihy)
  | fst hx ih => exact shape_n rfl (by decide) (one ih)
  | snd hx ih => exact shape_n rfl (by decide) (one ih)
  | unit => rfl

theorem At.lt {Γ : List T} {i : Nat} {a : T} {p : Env Γ → a.V} (h : At Γ i a p) : i < Γ.length := by
  have := h.get
  exact (List.getElem?_eq_some_iff.1 this).1

theorem up_count (t : Tm) (f b : Int) : (t.upN f b).count = t.count := by
  induction t using Tm.ind generalizing f with
  | h t ih =>
  rw [Tm.upN_eq, Tm.count_eq, Tm.count_eq t, Tm.args_mk]
  have key : ∀ l : List Tm, (∀ a ∈ l, a ∈ t.args) → Tm.count.counts (l.map fun x => x.upN (f + bindI t.kind) b) = Tm.count.counts l := by
    intro l
    induction l with
    | nil => intro _; rfl
    | cons a r ihr => intro h; simp only [List.map_cons, Tm.count.counts, ih a (h a (by simp)), ihr fun b hb => h b (by simp [hb])]
  rw [key t.args fun _ h => h]

/-- plain values have a form, and as many nodes as their types at most -/
theorem valOf_nodes : ∀ (a : T) (v : a.V), a.plain → (valOf a v).nodesN.2 = true ∧ (valOf a v).count ≤ a.size
  | .nat, n, _ => ⟨by rw [Val.nodes_flat rfl]; simp [valOf, Val.okB, Val.kind, Val.num, Val.list, Val.args]; exact decide_eq_true (Int.natCast_nonneg _), Nat.le_refl _⟩
  | .list, l, _ => ⟨by rw [Val.nodes_flat rfl]; simp [valOf, Val.okB, Val.kind, Val.num, Val.list, Val.args]; intro x hx; obtain ⟨n, _, rfl⟩ := List.mem_map.1 hx; exact Int.natCast_nonneg _, Nat.le_refl _⟩
  | .unit, _, _ => ⟨rfl, Nat.le_refl _⟩
  | .pair a b, p, h => by
    obtain ⟨a1, a2⟩ := valOf_nodes a p.1 h.1
    obtain ⟨b1, b2⟩ := valOf_nodes b p.2 h.2
    refine ⟨?_, ?_⟩
    · rw [Val.nodes_pair (v := valOf (.pair a b) p) rfl, a1, b1]; rfl
    · show 1 + ((valOf a p.1).count + ((valOf b p.2).count + 0)) ≤ 1 + a.size + b.size
      omega
  | .fn _ _, _, h => h.elim

end Go.Proofs.YtiacandbafjlfaaGreatDoor.Lift

/-
  Plain facts: majorants as the program makes them: with an error where a node is too large.
-/
namespace Go.Proofs.YtiacandbafjlfaaGreatDoor.Lift
set_option linter.unusedSimpArgs false
set_option linter.unusedVariables false
set_option linter.unnecessarySimpa false
open Go

abbrev natY : Ty := Ty.mk 1 []
abbrev zY : Ty := Ty.mk 0 []
/-- a node, or none if it is too large -/
def buildN (k : Int) (s : Ty) (l : List Tm) : Tm × Int := if 4096 < (Tm.mk k 0 s l).count then (zeroTm, 4) else (Tm.mk k 0 s l, 0)
def nodeE (e k : Int) (s : Ty) (l : List Tm) : Tm × Int := if e = 0 then buildN k s l else (zeroTm, e)
def callE (e : Int) (f : Tm) : List Tm → Tm × Int
  | [] => (f, e)
  | a :: r => callE (nodeE e 3 zY [f, a]).2 (nodeE e 3 zY [f, a]).1 r
def maxE (y : Ty) (a b : Tm) (e : Int) : Tm × Int :=
  match y with
  | .mk k ts =>
    if e = 0 then
      if k = 1 then callE 0 greatT [a, b]
      else match ts with
        | [s, t] =>
          if k = 3 then
            let p := nodeE 0 11 zY [a]
            let q := nodeE p.2 11 zY [b]
            let l := maxE s p.1 q.1 q.2
            let p' := nodeE l.2 12 zY [a]
            let q' := nodeE p'.2 12 zY [b]
            let r := maxE t p'.1 q'.1 q'.2
            nodeE r.2 10 zY [l.1, r.1]
          else if k = 4 then
            let p := callE 0 (a.upN 0 1) [vT 0]
            let q := callE p.2 (b.upN 0 1) [vT 0]
            let r := maxE t p.1 q.1 q.2
            nodeE r.2 2 s [r.1]
          else (nT 13 [], 0)
        | _ => (nT 13 [], 0)
    else (zeroTm, e)
termination_by SizeOf.sizeOf y
theorem maxE_eq (y : Ty) (hy : y.ok) (a b : Tm) (e : Int) : maxE y a b e =
    if e = 0 then
      if y.kind = 1 then callE 0 greatT [a, b]
      else if y.kind = 3 then
        let p := nodeE 0 11 zY [a]
        let q := nodeE p.2 11 zY [b]
        let l := maxE (y.arg 0) p.1 q.1 q.2
        let p' := nodeE l.2 12 zY [a]
        let q' := nodeE p'.2 12 zY [b]
        let r := maxE (y.arg 1) p'.1 q'.1 q'.2
        nodeE r.2 10 zY [l.1, r.1]
      else if y.kind = 4 then
        let p := callE 0 (a.upN 0 1) [vT 0]
        let q := callE p.2 (b.upN 0 1) [vT 0]
        let r := maxE (y.arg 1) p.1 q.1 q.2
        nodeE r.2 2 (y.arg 0) [r.1]
      else (nT 13 [], 0)
    else (zeroTm, e) := by
  rw [maxE.eq_def]
  cases y with
  | mk k ts =>
    simp only [Ty.kind]
    by_cases he : e = 0
    · simp only [he, if_true]
      by_cases h1 : k = 1
      · simp [h1]
      simp only [h1, if_false]
      by_cases h34 : k = 3 ∨ k = 4
      · obtain ⟨s, t, hq, -, -, e0, e1⟩ := Ty.ok_args hy h34
        simp only [Ty.args] at hq
        subst hq
        rw [e0, e1]
        rfl
      · have h3 : k ≠ 3 := fun e => h34 (.inl e)
        have h4 : k ≠ 4 := fun e => h34 (.inr e)
        simp only [h3, h4, if_false]
        match ts with
        | [s, t] => rfl
        | [] => rfl
        | [_] => rfl
        | _ :: _ :: _ :: _ => rfl
    · simp only [he, if_false]

def stepE (s : Ty) (next : Tm) (e : Int) : Tm × Int :=
  let b := maxE s (vT 0) next e
  let i := nodeE b.2 2 s [b.1]
  nodeE i.2 2 natY [i.1]
def majNodeE (k i : Int) (y : Ty) (a l : List Tm) : Tm × Int :=
  if k = 7 then (nT 4 [], 0)
  else if k = 8 then
    let p := nodeE 0 5 zY [l.getD 1 zeroTm]
    maxE natY (l.getD 0 zeroTm) p.1 p.2
  else if k = 2 then nodeE 0 2 (bareN y) l
  else if k = 6 then
    let c := callE 0 ((l.getD 1 zeroTm).upN 0 2) [vT 1, vT 0]
    let st := stepE (bareN y) c.1 c.2
    nodeE st.2 6 (bareN y) [l.getD 0 zeroTm, st.1, l.getD 2 zeroTm]
  else if k = 9 then
    let c := callE 0 ((l.getD 1 zeroTm).upN 0 3) [vT 2, vT 2, vT 0]
    let st := stepE (bareN y) c.1 c.2
    let r := nodeE st.2 6 (bareN y) [(l.getD 0 zeroTm).upN 0 1, st.1, vT 0]
    let la := nodeE r.2 2 natY [r.1]
    callE la.2 la.1 [l.getD 2 zeroTm]
  else if k = 1 then (Tm.mk k i y a, 0)
  else nodeE 0 k zY l
def majE : Tm → Tm × Int
  | .mk k i y a => if (majsE a).2 = 0 then majNodeE k i y a (majsE a).1 else (zeroTm, (majsE a).2)
where
  majsE : List Tm → List Tm × Int
    | [] => ([], 0)
    | x :: r => if (majE x).2 = 0 then if (majsE r).2 = 0 then ((majE x).1 :: (majsE r).1, 0) else ([], (majsE r).2) else ([], (majE x).2)
theorem majE_eq (t : Tm) : majE t = if (majE.majsE t.args).2 = 0 then majNodeE t.kind t.index t.type t.args (majE.majsE t.args).1 else (zeroTm, (majE.majsE t.args).2) := by
  cases t; rw [majE]; rfl

theorem build_ok {k : Int} {s : Ty} {l : List Tm} (h : (buildN k s l).2 = 0) : (buildN k s l).1 = Tm.mk k 0 s l ∧ (Tm.mk k 0 s l).count ≤ 4096 := by
  unfold buildN at h ⊢
  split at h
  · cases h
  · rename_i hc; rw [if_neg hc]; exact ⟨rfl, by omega⟩
theorem node_ok {e k : Int} {s : Ty} {l : List Tm} (h : (nodeE e k s l).2 = 0) : e = 0 ∧ (nodeE e k s l).1 = Tm.mk k 0 s l ∧ (Tm.mk k 0 s l).count ≤ 4096 := by
  unfold nodeE at h ⊢
  by_cases he : e = 0
  · rw [if_pos he] at h ⊢; exact ⟨he, build_ok h⟩
  · rw [if_neg he] at h; exact absurd h he
theorem call_ok : ∀ {l : List Tm} {e : Int} {f : Tm}, (callE e f l).2 = 0 → e = 0 ∧ (callE e f l).1 = appsT f l
  | [], e, f, h => ⟨h, rfl⟩
  | a :: r, e, f, h => by
    rw [callE] at h ⊢
    obtain ⟨h1, h2⟩ := call_ok h
    obtain ⟨k1, k2, -⟩ := node_ok h1
    refine ⟨k1, ?_⟩
    rw [h2, k2]
    rfl
theorem no31 : ¬ (3 : Int) = 1 := by decide
theorem no41 : ¬ (4 : Int) = 1 := by decide
theorem no43 : ¬ (4 : Int) = 3 := by decide
theorem maxE_nat (x y : Tm) : maxE (T.ty .nat) x y 0 = callE 0 greatT [x, y] := by rw [maxE_eq _ (T.ok_ty nat_ok0)]; rfl
theorem maxE_list (x y : Tm) : maxE (T.ty .list) x y 0 = (nT 13 [], 0) := by rw [maxE_eq _ (T.ok_ty (a := .list) (by unfold T.ok; decide))]; rfl
theorem maxE_unit (x y : Tm) : maxE (T.ty .unit) x y 0 = (nT 13 [], 0) := by rw [maxE_eq _ (T.ok_ty (a := .unit) (by unfold T.ok; decide))]; rfl
theorem maxE_pair {s t : T} (ho : (T.pair s t).ok) (x y : Tm) : maxE (T.pair s t).ty x y 0 =
    (let p := nodeE 0 11 zY [x]
     let q := nodeE p.2 11 zY [y]
     let l := maxE s.ty p.1 q.1 q.2
     let p' := nodeE l.2 12 zY [x]
     let q' := nodeE p'.2 12 zY [y]
     let r := maxE t.ty p'.1 q'.1 q'.2
     nodeE r.2 10 zY [l.1, r.1]) := by
  rw [maxE_eq _ (T.ok_ty ho), if_pos rfl, if_neg (show ¬ (T.pair s t).ty.kind = 1 from no31), if_pos (show (T.pair s t).ty.kind = 3 from rfl)]
  rfl
theorem maxE_fn {s t : T} (ho : (T.fn s t).ok) (x y : Tm) : maxE (T.fn s t).ty x y 0 =
    (let p := callE 0 (x.upN 0 1) [vT 0]
     let q := callE p.2 (y.upN 0 1) [vT 0]
     let r := maxE t.ty p.1 q.1 q.2
     nodeE r.2 2 s.ty [r.1]) := by
  rw [maxE_eq _ (T.ok_ty ho), if_pos rfl, if_neg (show ¬ (T.fn s t).ty.kind = 1 from no41), if_neg (show ¬ (T.fn s t).ty.kind = 3 from no43), if_pos (show (T.fn s t).ty.kind = 4 from rfl)]
  rfl
theorem maxE_no {a : T} (ho : a.ok) {e : Int} (he : e ≠ 0) (x y : Tm) : maxE a.ty x y e = (zeroTm, e) := by rw [maxE_eq _ (T.ok_ty ho), if_neg he]

theorem maxE_ok : ∀ (a : T) {x y : Tm} {e : Int}, a.ok → (maxE a.ty x y e).2 = 0 → e = 0 ∧ (maxE a.ty x y e).1 = maxT a x y
  | a, x, y, e, ho, h => by
    by_cases h0 : e = 0
    · subst h0
      refine ⟨rfl, ?_⟩
      cases a with
      | nat => rw [maxE_nat] at h ⊢; exact (call_ok h).2
      | list => rw [maxE_list]; rfl
      | unit => rw [maxE_unit]; rfl
      | pair s t =>
        rw [maxE_pair ho] at h ⊢
        simp only [T.ok, T.size] at ho
        obtain ⟨e1, r1, -⟩ := node_ok h
        obtain ⟨e2, r2⟩ := maxE_ok t (by unfold T.ok; omega) e1
        obtain ⟨e3, r3, -⟩ := node_ok e2
        obtain ⟨e4, r4, -⟩ := node_ok e3
        obtain ⟨e5, r5⟩ := maxE_ok s (by unfold T.ok; omega) e4
        obtain ⟨e6, r6, -⟩ := node_ok e5
        obtain ⟨-, r7, -⟩ := node_ok e6
        refine r1.trans ?_
        rw [r5, r2, r3, r4, r6, r7]
        rfl
      | fn s t =>
        rw [maxE_fn ho] at h ⊢
        simp only [T.ok, T.size] at ho
        obtain ⟨e1, r1, -⟩ := node_ok h
        obtain ⟨e2, r2⟩ := maxE_ok t (by unfold T.ok; omega) e1
        obtain ⟨e3, r3⟩ := call_ok e2
        obtain ⟨-, r4⟩ := call_ok e3
        refine r1.trans ?_
        rw [r2, r3, r4]
        rfl
    · rw [maxE_no ho h0] at h; exact absurd h h0

end Go.Proofs.YtiacandbafjlfaaGreatDoor.Lift

namespace Go.Proofs.YtiacandbafjlfaaGreatDoor.Lift
set_option linter.unusedSimpArgs false
set_option linter.unusedVariables false
set_option linter.unnecessarySimpa false
open Go
variable {gl : Globs}

theorem numeral_ok (n : Nat) : Con1 Tryz.prog gl 124 [dint n] [] (numTm n).dv [] := by
  refine t_in Tryz.func124 ?_
  intro X hP hgl hf hfn hn hR hids hfit
  have hn1 : intOK .i64 n := hfit (dint n) (by simp)
  rw [intOK_i64] at hn1
  refine t_g0 ?_
  refine t_c1 trivial (ref02_n_ok 4 []) ?_
  refine t_a ?_
  refine W_sub [] (by simp [go_sem]) (by simp [go_sem, numTm] <;> omega) (by simp [go_sem]) (W_rounds (fun x : Nat => x ≤ n) (fun x : Nat => [(.slot 0, .one (.v (dint x))), (.loc 3, .row ((numTm (n - x)).cells.map .v)), (.slot 3, .one (.loc 3 0)), (.loc 2, .row ([.v (dint 0), .v (dint 0), .v (dint 0), .own 0 [], .own 0 []])), (.slot 2, .one (.loc 2 0))]) (fun x : Nat => x) n (Nat.le_refl n) ?_)
  intro x hx ih
  cases x with
  | zero =>
    refine t_rg0 ?_
    refine t_no ?_
    refine t_g0 ?_
    refine t_r ?_
    simp [go_sem, hP, hgl, hn] <;> (try omega)
  | succ x =>
    have hs : n - x = (n - (x + 1)) + 1 := by omega
    refine t_rg0 ?_
    refine t_yes ?_
    refine t_rg0 ?_
    refine t_rg0 ?_
    repeat (first | refine W_inBlock ?_ | refine W_skip ?_ | refine W_label ?_ | refine W_exit rfl ?_)
    refine W_sub [] (by simp [go_sem]) (by simp [go_sem, hs, numTm] <;> omega) (by simp [go_sem]) (ih x (by omega) (by omega))

theorem ref05_number_ok (n : Nat) (hn4 : n < 4096) : Con1 Tryz.prog gl 100 [dint n] [] (.tup [(numTm n).dv, dint 0]) [] := by
  refine t_in Tryz.func100 ?_
  intro X hP hgl hf hfn hn hR hids hfit
  have h1 : ¬ (n : Int) < 0 := by omega
  have h2 : ¬ (4096 : Int) ≤ n := by omega
  refine t_g (j2 @h1 @h2) ?_
  refine t_c1 trivial (numeral_ok n) ?_
  refine t_r ?_
  simp [go_sem, hP, hgl, hn] <;> (try omega)

theorem mk_num_ok (n : Nat) (hn4 : n < 4096) : Con1 Tryz.prog gl 59 [dint n] [] (numTm n).dv [] := by
  refine t_in Tryz.func59 ?_
  intro X hP hgl hf hfn hn hR hids hfit
  refine t_g0 ?_
  refine t_c1 trivial (ref05_number_ok n hn4) ?_
  refine t_g0 ?_
  refine t_r ?_
  simp [go_sem, hP, hgl, hn] <;> (try omega)
  all_goals exact t_f

theorem lam5_ok (t : Tm) : Con1 Tryz.prog gl 101 [t.dv] [] (Tm.mk 2 0 (Ty.mk 1 []) [t]).dv [] := by
  refine t_in Tryz.func101 ?_
  intro X hP hgl hf hfn hn hR hids hfit
  refine t_g0 ?_
  refine t_c2 @nat_v ref01_nat_ok (ref02_t_ok 2 (Ty.mk 1 []) [t]) ?_
  refine t_r ?_
  simp [go_sem, hP, hgl, hn] <;> (try omega)
  all_goals exact t_f
theorem rec5_ok (a b c : Tm) : Con1 Tryz.prog gl 102 [a.dv, b.dv, c.dv] [] (Tm.mk 6 0 (Ty.mk 1 []) [a, b, c]).dv [] := by
  refine t_in Tryz.func102 ?_
  intro X hP hgl hf hfn hn hR hids hfit
  refine t_g0 ?_
  refine t_c2 @nat_v ref01_nat_ok (ref02_t_ok 6 (Ty.mk 1 []) [a, b, c]) ?_
  refine t_r ?_
  simp [go_sem, hP, hgl, hn] <;> (try omega)
  all_goals exact t_f
def lamN (t : Tm) : Tm := Tm.mk 2 0 (Ty.mk 1 []) [t]
def recN (a b c : Tm) : Tm := Tm.mk 6 0 (Ty.mk 1 []) [a, b, c]
theorem lam5' (t : Tm) : Con1 Tryz.prog gl 101 [t.dv] [] (lamN t).dv [] := lam5_ok t
theorem rec5' (a b c : Tm) : Con1 Tryz.prog gl 102 [a.dv, b.dv, c.dv] [] (recN a b c).dv [] := rec5_ok a b c
theorem var5 (i : Int) : Con1 Tryz.prog gl 55 [dint i] [] (vT i).dv [] := ref02_var_ok i
theorem n5 (k : Int) (l : List Tm) : Con1 Tryz.prog gl 56 [dint k, .sl (l.map Tm.cells)] [] (nT k l).dv [] := ref02_n_ok k l

theorem pred_eq : lamN (recN (nT 4 []) (lamN (lamN (vT 1))) (vT 0)) = predT := rfl
theorem plus_eq : lamN (lamN (recN (vT 1) (lamN (lamN (nT 5 [vT 0]))) (vT 0))) = plusT := rfl
theorem sub_eq : lamN (lamN (recN (vT 1) (lamN (lamN (nT 3 [predT, vT 0]))) (vT 0))) = subT := rfl
theorem ref05_pred_ok : Con1 Tryz.prog gl 103 [] [] predT.dv [] := by
  refine t_in Tryz.func103 ?_
  intro X hP hgl hf hfn hn hR hids hfit
  refine t_g0 ?_
  refine t_c7 trivial (n5 4 []) (var5 1) (lam5' (vT 1)) (lam5' (lamN (vT 1))) (var5 0) (rec5' (nT 4 []) (lamN (lamN (vT 1))) (vT 0)) (lam5' (recN (nT 4 []) (lamN (lamN (vT 1))) (vT 0))) ?_
  refine t_r ?_
  simp [go_sem, hP, hgl, hn, pred_eq] <;> (try omega)
theorem ref05_plus_ok : Con1 Tryz.prog gl 61 [] [] plusT.dv [] := by
  refine t_in Tryz.func61 ?_
  intro X hP hgl hf hfn hn hR hids hfit
  refine t_g0 ?_
  refine t_c9 trivial (var5 1) (var5 0) (n5 5 [vT 0]) (lam5' (nT 5 [vT 0])) (lam5' (lamN (nT 5 [vT 0]))) (var5 0) (rec5' (vT 1) (lamN (lamN (nT 5 [vT 0]))) (vT 0)) (lam5' (recN (vT 1) (lamN (lamN (nT 5 [vT 0]))) (vT 0))) (lam5' (lamN (recN (vT 1) (lamN (lamN (nT 5 [vT 0]))) (vT 0)))) ?_
  refine t_r ?_
  simp [go_sem, hP, hgl, hn, plus_eq] <;> (try omega)
theorem ref05_sub_ok : Con1 Tryz.prog gl 62 [] [] subT.dv [] := by
  refine t_in Tryz.func62 ?_
  intro X hP hgl hf hfn hn hR hids hfit
  refine t_g0 ?_
  refine t_c10 trivial (var5 1) ref05_pred_ok (var5 0) (n5 3 [predT, vT 0]) (lam5' (nT 3 [predT, vT 0])) (lam5' (lamN (nT 3 [predT, vT 0]))) (var5 0) (rec5' (vT 1) (lamN (lamN (nT 3 [predT, vT 0]))) (vT 0)) (lam5' (recN (vT 1) (lamN (lamN (nT 3 [predT, vT 0]))) (vT 0))) (lam5' (lamN (recN (vT 1) (lamN (lamN (nT 3 [predT, vT 0]))) (vT 0)))) ?_
  refine t_r ?_
  simp [go_sem, hP, hgl, hn, sub_eq] <;> (try omega)
end Go.Proofs.YtiacandbafjlfaaGreatDoor.Lift

namespace Go.Proofs.YtiacandbafjlfaaGreatDoor.Lift
set_option linter.unusedSimpArgs false
set_option linter.unusedVariables false
set_option linter.unnecessarySimpa false
open Go
variable {gl : Globs}

theorem mk_type_ok (n : Nat) (b : Nat) (l : List Int) (p : Nat) (hl : l.length ≤ 500) (hp : p ≤ l.length) (hn3 : n ≤ 3) :
    Con1 Tryz.prog gl 13 [ptr b, dint n] [(b, deck l p)] (typeD l n p).1.dv [(b, deck l (typeD l n p).2)] := by
  induction n generalizing p with
  | zero =>
    refine t_in Tryz.func13 ?_
    intro X hP hgl hf hfn hn hR hids hfit
    rw [typeD] at hR
    have hkb := nextD_bd (l := l) (p := p) (n := 7) (by decide)
    refine t_g0 ?_
    refine t_c1 trivial (next_ok b l p 7 (by decide) (by omega)) ?_
    generalize hd : nextD l p 7 = d at *
    obtain ⟨k, q⟩ := d
    simp only at hkb hR
    by_cases h3 : k = 3
    · refine t_g @h3 ?_
      refine t_c1 trivial ref01_list_ok ?_
      repeat (first | refine W_seq ?_ | refine W_skip ?_ | refine W_block ?_ | refine W_inBlock ?_ | refine W_label ?_ | refine W_exit rfl ?_)
      first | refine W_retR hP hf hfn _ ([(b, deck l q)]) (by first | (simp [go_sem, hP, hgl, hn, h3]; done) | (simp [go_sem, hP, hgl, hn, h3]; rfl)) (by simp [go_sem, hP, hgl, hn, h3]) (by simp) ?_ hR.2 | refine W_endR hP hf hfn _ ([(b, deck l q)]) (by first | (simp [go_sem, hP, hgl, hn, h3]; done) | (simp [go_sem, hP, hgl, hn, h3]; rfl)) (by simp [go_sem, hP, hgl, hn, h3]) (by simp) ?_ hR.2
      rw [hR.1]
      refine ⟨?_, by simp [h3]⟩
      try simp [h3]
      try all_goals (simp [Ty.dv, Ty.cells_eq, Ty.kind_mk, Ty.args_mk, Tm.dv, Tm.cells_eq, Tm.kind_mk, Tm.index_mk, Tm.type_mk, Tm.args_mk, Val.dv, Val.cells_eq, Val.kind_mk, Val.num_mk, Val.list_mk, Val.args_mk, ints])
    by_cases h4 : k = 4
    · refine t_g @h4 ?_
      refine t_c1 trivial ref01_unit_ok ?_
      repeat (first | refine W_seq ?_ | refine W_skip ?_ | refine W_block ?_ | refine W_inBlock ?_ | refine W_label ?_ | refine W_exit rfl ?_)
      first | refine W_retR hP hf hfn _ ([(b, deck l q)]) (by first | (simp [go_sem, hP, hgl, hn, h4]; done) | (simp [go_sem, hP, hgl, hn, h4]; rfl)) (by simp [go_sem, hP, hgl, hn, h4]) (by simp) ?_ hR.2 | refine W_endR hP hf hfn _ ([(b, deck l q)]) (by first | (simp [go_sem, hP, hgl, hn, h4]; done) | (simp [go_sem, hP, hgl, hn, h4]; rfl)) (by simp [go_sem, hP, hgl, hn, h4]) (by simp) ?_ hR.2
      rw [hR.1]
      refine ⟨?_, by simp [h4]⟩
      try simp [h4]
      try all_goals (simp [Ty.dv, Ty.cells_eq, Ty.kind_mk, Ty.args_mk, Tm.dv, Tm.cells_eq, Tm.kind_mk, Tm.index_mk, Tm.type_mk, Tm.args_mk, Val.dv, Val.cells_eq, Val.kind_mk, Val.num_mk, Val.list_mk, Val.args_mk, ints])
    by_cases h0 : k = 0
    · refine t_g @h0 ?_
      refine t_c1 trivial ref01_nat_ok ?_
      repeat (first | refine W_seq ?_ | refine W_skip ?_ | refine W_block ?_ | refine W_inBlock ?_ | refine W_label ?_ | refine W_exit rfl ?_)
      first | refine W_retR hP hf hfn _ ([(b, deck l q)]) (by first | (simp [go_sem, hP, hgl, hn, h0]; done) | (simp [go_sem, hP, hgl, hn, h0]; rfl)) (by simp [go_sem, hP, hgl, hn, h0]) (by simp) ?_ hR.2 | refine W_endR hP hf hfn _ ([(b, deck l q)]) (by first | (simp [go_sem, hP, hgl, hn, h0]; done) | (simp [go_sem, hP, hgl, hn, h0]; rfl)) (by simp [go_sem, hP, hgl, hn, h0]) (by simp) ?_ hR.2
      rw [hR.1]
      refine ⟨?_, by simp [h0]⟩
      try simp [h0]
      try all_goals (simp [Ty.dv, Ty.cells_eq, Ty.kind_mk, Ty.args_mk, Tm.dv, Tm.cells_eq, Tm.kind_mk, Tm.index_mk, Tm.type_mk, Tm.args_mk, Val.dv, Val.cells_eq, Val.kind_mk, Val.num_mk, Val.list_mk, Val.args_mk, ints])
    by_cases h1 : k = 1
    · refine t_g @h1 ?_
      refine t_c1 trivial ref01_nat_ok ?_
      repeat (first | refine W_seq ?_ | refine W_skip ?_ | refine W_block ?_ | refine W_inBlock ?_ | refine W_label ?_ | refine W_exit rfl ?_)
      first | refine W_retR hP hf hfn _ ([(b, deck l q)]) (by first | (simp [go_sem, hP, hgl, hn, h1]; done) | (simp [go_sem, hP, hgl, hn, h1]; rfl)) (by simp [go_sem, hP, hgl, hn, h1]) (by simp) ?_ hR.2 | refine W_endR hP hf hfn _ ([(b, deck l q)]) (by first | (simp [go_sem, hP, hgl, hn, h1]; done) | (simp [go_sem, hP, hgl, hn, h1]; rfl)) (by simp [go_sem, hP, hgl, hn, h1]) (by simp) ?_ hR.2
      rw [hR.1]
      refine ⟨?_, by simp [h1]⟩
      try simp [h1]
      try all_goals (simp [Ty.dv, Ty.cells_eq, Ty.kind_mk, Ty.args_mk, Tm.dv, Tm.cells_eq, Tm.kind_mk, Tm.index_mk, Tm.type_mk, Tm.args_mk, Val.dv, Val.cells_eq, Val.kind_mk, Val.num_mk, Val.list_mk, Val.args_mk, ints])
    by_cases h2 : k = 2
    · refine t_g @h2 ?_
      refine t_c1 trivial ref01_nat_ok ?_
      repeat (first | refine W_seq ?_ | refine W_skip ?_ | refine W_block ?_ | refine W_inBlock ?_ | refine W_label ?_ | refine W_exit rfl ?_)
      first | refine W_retR hP hf hfn _ ([(b, deck l q)]) (by first | (simp [go_sem, hP, hgl, hn, h2]; done) | (simp [go_sem, hP, hgl, hn, h2]; rfl)) (by simp [go_sem, hP, hgl, hn, h2]) (by simp) ?_ hR.2 | refine W_endR hP hf hfn _ ([(b, deck l q)]) (by first | (simp [go_sem, hP, hgl, hn, h2]; done) | (simp [go_sem, hP, hgl, hn, h2]; rfl)) (by simp [go_sem, hP, hgl, hn, h2]) (by simp) ?_ hR.2
      rw [hR.1]
      refine ⟨?_, by simp [h2]⟩
      try simp [h2]
      try all_goals (simp [Ty.dv, Ty.cells_eq, Ty.kind_mk, Ty.args_mk, Tm.dv, Tm.cells_eq, Tm.kind_mk, Tm.index_mk, Tm.type_mk, Tm.args_mk, Val.dv, Val.cells_eq, Val.kind_mk, Val.num_mk, Val.list_mk, Val.args_mk, ints])
    by_cases h5 : k = 5
    · refine t_g @h5 ?_
      refine t_c1 trivial ref01_nat_ok ?_
      repeat (first | refine W_seq ?_ | refine W_skip ?_ | refine W_block ?_ | refine W_inBlock ?_ | refine W_label ?_ | refine W_exit rfl ?_)
      first | refine W_retR hP hf hfn _ ([(b, deck l q)]) (by first | (simp [go_sem, hP, hgl, hn, h5]; done) | (simp [go_sem, hP, hgl, hn, h5]; rfl)) (by simp [go_sem, hP, hgl, hn, h5]) (by simp) ?_ hR.2 | refine W_endR hP hf hfn _ ([(b, deck l q)]) (by first | (simp [go_sem, hP, hgl, hn, h5]; done) | (simp [go_sem, hP, hgl, hn, h5]; rfl)) (by simp [go_sem, hP, hgl, hn, h5]) (by simp) ?_ hR.2
      rw [hR.1]
      refine ⟨?_, by simp [h5]⟩
      try simp [h5]
      try all_goals (simp [Ty.dv, Ty.cells_eq, Ty.kind_mk, Ty.args_mk, Tm.dv, Tm.cells_eq, Tm.kind_mk, Tm.index_mk, Tm.type_mk, Tm.args_mk, Val.dv, Val.cells_eq, Val.kind_mk, Val.num_mk, Val.list_mk, Val.args_mk, ints])
    have h6 : k = 6 := by omega
    refine t_g @h6 ?_
    refine t_c1 trivial ref01_nat_ok ?_
    repeat (first | refine W_seq ?_ | refine W_skip ?_ | refine W_block ?_ | refine W_inBlock ?_ | refine W_label ?_ | refine W_exit rfl ?_)
    first | refine W_retR hP hf hfn _ ([(b, deck l q)]) (by first | (simp [go_sem, hP, hgl, hn, h6]; done) | (simp [go_sem, hP, hgl, hn, h6]; rfl)) (by simp [go_sem, hP, hgl, hn, h6]) (by simp) ?_ hR.2 | refine W_endR hP hf hfn _ ([(b, deck l q)]) (by first | (simp [go_sem, hP, hgl, hn, h6]; done) | (simp [go_sem, hP, hgl, hn, h6]; rfl)) (by simp [go_sem, hP, hgl, hn, h6]) (by simp) ?_ hR.2
    rw [hR.1]
    refine ⟨?_, by simp [h6]⟩
    try simp [h6]
    try all_goals (simp [Ty.dv, Ty.cells_eq, Ty.kind_mk, Ty.args_mk, Tm.dv, Tm.cells_eq, Tm.kind_mk, Tm.index_mk, Tm.type_mk, Tm.args_mk, Val.dv, Val.cells_eq, Val.kind_mk, Val.num_mk, Val.list_mk, Val.args_mk, ints])
  | succ n ih =>
    refine t_in Tryz.func13 ?_
    intro X hP hgl hf hfn hn hR hids hfit
    rw [typeD] at hR
    have hkb := nextD_bd (l := l) (p := p) (n := 7) (by decide)
    have hq := nextD_le (n := 7) hp
    refine t_g0 ?_
    refine t_c1 trivial (next_ok b l p 7 (by decide) (by omega)) ?_
    generalize hd : nextD l p 7 = d at *
    obtain ⟨k, q⟩ := d
    simp only at hkb hR hq
    have hpos : (0 : Int) < ((n + 1 : Nat) : Int) := by omega
    have hsub : ((n + 1 : Nat) : Int) - 1 = (n : Int) := by omega
    obtain ⟨a1, -⟩ := typeD_facts l n q hq
    by_cases h3 : k = 3
    · refine t_g @h3 ?_
      refine t_c1 trivial ref01_list_ok ?_
      repeat (first | refine W_seq ?_ | refine W_skip ?_ | refine W_block ?_ | refine W_inBlock ?_ | refine W_label ?_ | refine W_exit rfl ?_)
      first | refine W_retR hP hf hfn _ ([(b, deck l q)]) (by first | (simp [go_sem, hP, hgl, hn, h3]; done) | (simp [go_sem, hP, hgl, hn, h3]; rfl)) (by simp [go_sem, hP, hgl, hn, h3]) (by simp) ?_ hR.2 | refine W_endR hP hf hfn _ ([(b, deck l q)]) (by first | (simp [go_sem, hP, hgl, hn, h3]; done) | (simp [go_sem, hP, hgl, hn, h3]; rfl)) (by simp [go_sem, hP, hgl, hn, h3]) (by simp) ?_ hR.2
      rw [hR.1]
      refine ⟨?_, by simp [h3]⟩
      try simp [h3]
      try all_goals (simp [Ty.dv, Ty.cells_eq, Ty.kind_mk, Ty.args_mk, Tm.dv, Tm.cells_eq, Tm.kind_mk, Tm.index_mk, Tm.type_mk, Tm.args_mk, Val.dv, Val.cells_eq, Val.kind_mk, Val.num_mk, Val.list_mk, Val.args_mk, ints])
    by_cases h4 : k = 4
    · refine t_g @h4 ?_
      refine t_c1 trivial ref01_unit_ok ?_
      repeat (first | refine W_seq ?_ | refine W_skip ?_ | refine W_block ?_ | refine W_inBlock ?_ | refine W_label ?_ | refine W_exit rfl ?_)
      first | refine W_retR hP hf hfn _ ([(b, deck l q)]) (by first | (simp [go_sem, hP, hgl, hn, h4]; done) | (simp [go_sem, hP, hgl, hn, h4]; rfl)) (by simp [go_sem, hP, hgl, hn, h4]) (by simp) ?_ hR.2 | refine W_endR hP hf hfn _ ([(b, deck l q)]) (by first | (simp [go_sem, hP, hgl, hn, h4]; done) | (simp [go_sem, hP, hgl, hn, h4]; rfl)) (by simp [go_sem, hP, hgl, hn, h4]) (by simp) ?_ hR.2
      rw [hR.1]
      refine ⟨?_, by simp [h4]⟩
      try simp [h4]
      try all_goals (simp [Ty.dv, Ty.cells_eq, Ty.kind_mk, Ty.args_mk, Tm.dv, Tm.cells_eq, Tm.kind_mk, Tm.index_mk, Tm.type_mk, Tm.args_mk, Val.dv, Val.cells_eq, Val.kind_mk, Val.num_mk, Val.list_mk, Val.args_mk, ints])
    by_cases h0 : k = 0
    · refine t_g @h0 ?_
      refine t_c1 trivial ref01_nat_ok ?_
      repeat (first | refine W_seq ?_ | refine W_skip ?_ | refine W_block ?_ | refine W_inBlock ?_ | refine W_label ?_ | refine W_exit rfl ?_)
      first | refine W_retR hP hf hfn _ ([(b, deck l q)]) (by first | (simp [go_sem, hP, hgl, hn, h0]; done) | (simp [go_sem, hP, hgl, hn, h0]; rfl)) (by simp [go_sem, hP, hgl, hn, h0]) (by simp) ?_ hR.2 | refine W_endR hP hf hfn _ ([(b, deck l q)]) (by first | (simp [go_sem, hP, hgl, hn, h0]; done) | (simp [go_sem, hP, hgl, hn, h0]; rfl)) (by simp [go_sem, hP, hgl, hn, h0]) (by simp) ?_ hR.2
      rw [hR.1]
      refine ⟨?_, by simp [h0]⟩
      try simp [h0]
      try all_goals (simp [Ty.dv, Ty.cells_eq, Ty.kind_mk, Ty.args_mk, Tm.dv, Tm.cells_eq, Tm.kind_mk, Tm.index_mk, Tm.type_mk, Tm.args_mk, Val.dv, Val.cells_eq, Val.kind_mk, Val.num_mk, Val.list_mk, Val.args_mk, ints])
    by_cases h1 : k = 1
    · refine t_g @h1 ?_
      refine t_c1 trivial ref01_nat_ok ?_
      repeat (first | refine W_seq ?_ | refine W_skip ?_ | refine W_block ?_ | refine W_inBlock ?_ | refine W_label ?_ | refine W_exit rfl ?_)
      first | refine W_retR hP hf hfn _ ([(b, deck l q)]) (by first | (simp [go_sem, hP, hgl, hn, h1]; done) | (simp [go_sem, hP, hgl, hn, h1]; rfl)) (by simp [go_sem, hP, hgl, hn, h1]) (by simp) ?_ hR.2 | refine W_endR hP hf hfn _ ([(b, deck l q)]) (by first | (simp [go_sem, hP, hgl, hn, h1]; done) | (simp [go_sem, hP, hgl, hn, h1]; rfl)) (by simp [go_sem, hP, hgl, hn, h1]) (by simp) ?_ hR.2
      rw [hR.1]
      refine ⟨?_, by simp [h1]⟩
      try simp [h1]
      try all_goals (simp [Ty.dv, Ty.cells_eq, Ty.kind_mk, Ty.args_mk, Tm.dv, Tm.cells_eq, Tm.kind_mk, Tm.index_mk, Tm.type_mk, Tm.args_mk, Val.dv, Val.cells_eq, Val.kind_mk, Val.num_mk, Val.list_mk, Val.args_mk, ints])
    by_cases h2 : k = 2
    · refine t_g @h2 ?_
      refine t_c1 trivial ref01_nat_ok ?_
      repeat (first | refine W_seq ?_ | refine W_skip ?_ | refine W_block ?_ | refine W_inBlock ?_ | refine W_label ?_ | refine W_exit rfl ?_)
      first | refine W_retR hP hf hfn _ ([(b, deck l q)]) (by first | (simp [go_sem, hP, hgl, hn, h2]; done) | (simp [go_sem, hP, hgl, hn, h2]; rfl)) (by simp [go_sem, hP, hgl, hn, h2]) (by simp) ?_ hR.2 | refine W_endR hP hf hfn _ ([(b, deck l q)]) (by first | (simp [go_sem, hP, hgl, hn, h2]; done) | (simp [go_sem, hP, hgl, hn, h2]; rfl)) (by simp [go_sem, hP, hgl, hn, h2]) (by simp) ?_ hR.2
      rw [hR.1]
      refine ⟨?_, by simp [h2]⟩
      try simp [h2]
      try all_goals (simp [Ty.dv, Ty.cells_eq, Ty.kind_mk, Ty.args_mk, Tm.dv, Tm.cells_eq, Tm.kind_mk, Tm.index_mk, Tm.type_mk, Tm.args_mk, Val.dv, Val.cells_eq, Val.kind_mk, Val.num_mk, Val.list_mk, Val.args_mk, ints])
    by_cases h5 : k = 5
    · refine t_g (j2 @h5 @hpos) ?_
      refine t_c3 @hsub (ih q hq (by omega)) (ih _ a1 (by omega)) (ref01_two_ok (typeD l n q).1 (typeD l n (typeD l n q).2).1) ?_
      repeat (first | refine W_seq ?_ | refine W_skip ?_ | refine W_block ?_ | refine W_inBlock ?_ | refine W_label ?_ | refine W_exit rfl ?_)
      first | refine W_retR hP hf hfn _ ([(b, deck l (typeD l n (typeD l n q).2).2)]) (by first | (simp [go_sem, hP, hgl, hn, h5]; done) | (simp [go_sem, hP, hgl, hn, h5]; rfl)) (by simp [go_sem, hP, hgl, hn, h5]) (by simp) ?_ hR.2 | refine W_endR hP hf hfn _ ([(b, deck l (typeD l n (typeD l n q).2).2)]) (by first | (simp [go_sem, hP, hgl, hn, h5]; done) | (simp [go_sem, hP, hgl, hn, h5]; rfl)) (by simp [go_sem, hP, hgl, hn, h5]) (by simp) ?_ hR.2
      rw [hR.1]
      refine ⟨?_, by simp [h5]⟩
      try simp [h5]
      try all_goals (simp [Ty.dv, Ty.cells_eq, Ty.kind_mk, Ty.args_mk, Tm.dv, Tm.cells_eq, Tm.kind_mk, Tm.index_mk, Tm.type_mk, Tm.args_mk, Val.dv, Val.cells_eq, Val.kind_mk, Val.num_mk, Val.list_mk, Val.args_mk, ints])
    have h6 : k = 6 := by omega
    refine t_g (j2 @h6 @hpos) ?_
    refine t_c3 @hsub (ih q hq (by omega)) (ih _ a1 (by omega)) (ref01_fun_ok (typeD l n q).1 (typeD l n (typeD l n q).2).1) ?_
    repeat (first | refine W_seq ?_ | refine W_skip ?_ | refine W_block ?_ | refine W_inBlock ?_ | refine W_label ?_ | refine W_exit rfl ?_)
    first | refine W_retR hP hf hfn _ ([(b, deck l (typeD l n (typeD l n q).2).2)]) (by first | (simp [go_sem, hP, hgl, hn, h6]; done) | (simp [go_sem, hP, hgl, hn, h6]; rfl)) (by simp [go_sem, hP, hgl, hn, h6]) (by simp) ?_ hR.2 | refine W_endR hP hf hfn _ ([(b, deck l (typeD l n (typeD l n q).2).2)]) (by first | (simp [go_sem, hP, hgl, hn, h6]; done) | (simp [go_sem, hP, hgl, hn, h6]; rfl)) (by simp [go_sem, hP, hgl, hn, h6]) (by simp) ?_ hR.2
    rw [hR.1]
    refine ⟨?_, by simp [h6]⟩
    try simp [h6]
    try all_goals (simp [Ty.dv, Ty.cells_eq, Ty.kind_mk, Ty.args_mk, Tm.dv, Tm.cells_eq, Tm.kind_mk, Tm.index_mk, Tm.type_mk, Tm.args_mk, Val.dv, Val.cells_eq, Val.kind_mk, Val.num_mk, Val.list_mk, Val.args_mk, ints])

theorem mk_context_ok (b : Nat) (l : List Int) (p : Nat) (hl : l.length ≤ 500) (hp : p ≤ l.length) :
    Con1 Tryz.prog gl 12 [ptr b] [(b, deck l p)] (.sl ((ctxD l p).1.map Ty.cells)) [(b, deck l (ctxD l p).2)] := by
  refine t_in Tryz.func12 ?_
  intro X hP hgl hf hfn hn hR hids hfit
  have hq := nextD_le (n := 4) hp
  have hkb := nextD_bd (l := l) (p := p) (n := 4) (by decide)
  obtain ⟨k0, hk0⟩ : ∃ k0 : Nat, (nextD l p 4).1 = k0 := ⟨(nextD l p 4).1.toNat, by omega⟩
  unfold ctxD at hR
  rw [hk0, Int.toNat_natCast] at hR
  rw [hk0] at hkb
  refine t_g0 ?_
  refine t_c1 trivial (next_ok b l p 4 (by decide) (by omega)) ?_
  refine t_a ?_
  refine t_sub [(1003, 0)] @hk0 (W_rounds (fun x : List Ty × Nat × Nat => x.2.1 ≤ l.length ∧ (x.1 ++ (typesD l x.2.2 x.2.1).1, (typesD l x.2.2 x.2.1).2) = typesD l k0 (nextD l p 4).2 ∧ x.1.length + x.2.2 ≤ 3) (fun x : List Ty × Nat × Nat => [(.slot 4, .one (.v (dint x.2.2))), (.heap  b, .row ([.v (.sl (ints l)), .v (dint x.2.1)])), (.slot 3, .one (.own 1003 (x.1.map Ty.cells))), (.tok 1003, .tk 2 x.1.length), (.slot 0, .one (.v (ptr b))), (.slot 2, .one (.own 0 []))]) (fun x : List Ty × Nat × Nat => x.2.2) (([] : List Ty), (nextD l p 4).2, k0) (⟨hq, by simp, by simp; omega⟩) ?_)
  rintro ⟨acc, q, r⟩ ⟨i1, i2, i3⟩ ihr
  simp only at i1 i2 i3
  cases r with
  | zero =>
    simp only [typesD, List.append_nil] at i2
    refine t_rg0 ?_
    refine t_a ?_
    refine W_cond rfl ?_ ?_
    · intro h; simp at h
    intro _
    refine t_g0 ?_
    repeat (first | refine W_seq ?_ | refine W_skip ?_ | refine W_block ?_ | refine W_inBlock ?_ | refine W_label ?_ | refine W_exit rfl ?_)
    first | refine W_retR hP hf hfn _ ([(b, deck l q)]) (by first | (simp [go_sem, hP, hgl, hn, ← i2]; done) | (simp [go_sem, hP, hgl, hn, ← i2]; rfl)) (by simp [go_sem, hP, hgl, hn, ← i2]) (by simp) ?_ hR.2 | refine W_endR hP hf hfn _ ([(b, deck l q)]) (by first | (simp [go_sem, hP, hgl, hn, ← i2]; done) | (simp [go_sem, hP, hgl, hn, ← i2]; rfl)) (by simp [go_sem, hP, hgl, hn, ← i2]) (by simp) ?_ hR.2
    rw [hR.1]
    refine ⟨?_, by simp [← i2]⟩
    try simp [← i2]
    try all_goals (simp [Ty.dv, Ty.cells_eq, Ty.kind_mk, Ty.args_mk, Tm.dv, Tm.cells_eq, Tm.kind_mk, Tm.index_mk, Tm.type_mk, Tm.args_mk, Val.dv, Val.cells_eq, Val.kind_mk, Val.num_mk, Val.list_mk, Val.args_mk, ints])
  | succ r =>
    obtain ⟨a1, -⟩ := typeD_facts l 1 q i1
    refine t_rg0 ?_
    refine t_yes ?_
    refine t_g0 ?_
    refine t_c1 (Ty.cells_eq (typeD l 1 q).1) (mk_type_ok 1 b l q hl i1 (by decide)) ?_
    refine t_gt (wr [(1003, 15)]) (Ty.cells_eq (typeD l 1 q).1) trivial (ihr (acc ++ [(typeD l 1 q).1], (typeD l 1 q).2, r) ⟨a1, by rw [← i2]; simp [typesD], by simp; omega⟩ (by simp))

def varsP (g : List Ty) (t : Ty) (n : Nat) : List Nat := (List.range n).filter fun i => (varTy g i).same t
theorem varsP_succ (g : List Ty) (t : Ty) (n : Nat) : varsP g t (n + 1) = if (varTy g n).same t = true then varsP g t n ++ [n] else varsP g t n := by
  unfold varsP
  rw [List.range_succ, List.filter_append]
  split <;> simp_all
theorem varsP_le (g : List Ty) (t : Ty) (n : Nat) : (varsP g t n).length ≤ n := by
  have := List.length_filter_le (fun i => (varTy g i).same t) (List.range n)
  simpa [varsP] using this
def natI (l : List Nat) : List Int := l.map Int.ofNat
theorem natI_len (l : List Nat) : (natI l).length = l.length := by simp [natI]
theorem natI_snoc (l : List Nat) (n : Nat) : natI (l ++ [n]) = natI l ++ [(n : Int)] := by simp [natI]

theorem mk_vars_ok (g : List Ty) (t : Ty) (hlg : g.length ≤ 1000000) :
    Con1 Tryz.prog gl 54 [.sl (g.map Ty.cells), t.dv] [] (.sl (ints (natI (varsN g t)))) [] := by
  refine t_in Tryz.func54 ?_
  intro X hP hgl hf hfn hn hR hids hfit
  refine t_g0 ?_
  refine t_a ?_
  refine W_sub [(1005, 0)] (by simp [go_sem]) (by simp [go_sem, natI, varsP, ints_nil] <;> omega) (by simp [go_sem]) (W_upto (g.length) (fun i => True) (fun i => [(.slot 9, .one (.v (dint i))), (.slot 8, .one (.v (dint g.length))), (.slot 5, .one (.own 1005 (ints (natI (varsP g t i))))), (.tok 1005, .tk 1 (varsP g t i).length), (.slot 0, .one (.v (.sl (g.map Ty.cells)))), (.loc 3, .row ([.v (dint t.kind), .v (.sl (t.args.map Ty.cells))])), (.slot 3, .one (.loc 3 0)), (.slot 4, .one (.own 0 []))]) (trivial) ?_ ?_)
  · intro i hi _ hnext
    have hli := varsP_le g t i
    have hvt := (varTy_mem hi).2
    have hix : (g.length : Int) - 1 - i = ((g.length - 1 - i : Nat) : Int) := by omega
    refine t_rg0 ?_
    refine t_yes ?_
    refine t_g0 ?_
    refine t_c1 (j2 @hix @hvt) (ref01_same_ok (varTy g i) t) ?_
    have hsu := varsP_succ g t i
    by_cases hs : (varTy g i).same t = true
    · rw [if_pos hs] at hsu
      rw [hsu] at hnext
      refine t_gt (wr [(1005, 25)]) (j2 @natI_len (j2 @natI_snoc (j2 @ints_cons @ints_nil))) (j2 @hs @natI_len) (hnext trivial)
    · rw [if_neg hs] at hsu
      rw [hsu] at hnext
      refine t_gt (wr []) trivial @hs (hnext trivial)
  · intro _
    refine t_rg0 ?_
    refine t_no ?_
    refine t_g0 ?_
    refine t_r ?_
    simp [go_sem, hP, hgl, hn, varsN, varsP] <;> (try omega)

theorem mk_longer_ok (g h : List Ty) (hlg : g.length + h.length ≤ 1000000) :
    Con1 Tryz.prog gl 58 [.sl (g.map Ty.cells), .sl (h.map Ty.cells)] [] (.sl ((g ++ h).map Ty.cells)) [] := by
  refine t_in Tryz.func58 ?_
  intro X hP hgl hf hfn hn hR hids hfit
  have hl1 : g.length ≤ 1000000 := by omega
  refine t_g0 ?_
  refine t_r ?_
  simp [go_sem, hP, hgl, hn] <;> (try omega)
end Go.Proofs.YtiacandbafjlfaaGreatDoor.Lift

namespace Go.Proofs.YtiacandbafjlfaaGreatDoor.Lift
set_option linter.unusedSimpArgs false
set_option linter.unusedVariables false
set_option linter.unnecessarySimpa false
open Go
variable {gl : Globs}

theorem pickD_none {l : List Int} {t : Ty} {g : List Ty} {p q : Nat} (h : pickD l t g p = (none, q)) : ((varsN g t).length = 0 ∧ q = p) ∨ ((varsN g t).length ≠ 0 ∧ (nextD l p 3).1 = 0 ∧ q = (nextD l p 3).2) := by
  unfold pickD at h
  split at h
  · rename_i h0; cases h; exact .inl ⟨h0, rfl⟩
  · rename_i h0
    split at h
    · rename_i h1; cases h; exact .inr ⟨h0, h1, rfl⟩
    · cases h
theorem pickD_some' {l : List Int} {t : Ty} {g : List Ty} {p q : Nat} {x : Tm} (h : pickD l t g p = (some x, q)) : (varsN g t).length ≠ 0 ∧ (nextD l p 3).1 ≠ 0 ∧ ∃ k i : Nat, (nextD l (nextD l p 3).2 (varsN g t).length).1 = k ∧ (varsN g t)[k]? = some i ∧ x = vT i ∧ q = (nextD l (nextD l p 3).2 (varsN g t).length).2 := by
  unfold pickD at h
  split at h
  · cases h
  · rename_i h0
    split at h
    · cases h
    · rename_i h1
      have hb := nextD_bd (l := l) (p := (nextD l p 3).2) (n := (varsN g t).length) (by omega)
      cases h
      obtain ⟨k, hk⟩ : ∃ k : Nat, (nextD l (nextD l p 3).2 (varsN g t).length).1 = k := ⟨_, (Int.toNat_of_nonneg hb.1).symm⟩
      rw [hk] at hb
      have hlt : k < (varsN g t).length := by omega
      refine ⟨h0, h1, k, (varsN g t)[k], hk, List.getElem?_eq_getElem hlt, ?_, rfl⟩
      rw [hk, Int.toNat_natCast, List.getD_eq_getElem?_getD, List.getElem?_eq_getElem hlt, Option.getD_some]

set_option maxHeartbeats 1000000 in
theorem mk_term_leaf (b : Nat) (l : List Int) (hl : l.length ≤ 500) (t : Ty) : ∀ (z : Int) (g : List Ty) (p : Nat), z ≤ 0 → t.count ≤ z + 1000 → t.small → (∀ x ∈ g, x.small) → g.length + t.count ≤ 1000000 → p ≤ l.length →
    Con1 Tryz.prog gl 19 [ptr b, .sl (g.map Ty.cells), t.dv, dint z] [(b, deck l p)] (leafD l t g p).1.dv [(b, deck l (leafD l t g p).2)] := by
  induction t using Ty.ind with
  | h t ih =>
  intro z g p hz hz1 ht hg hgl1 hp
  refine t_in Tryz.func19 ?_
  intro X hP hgl hf hfn hn hR hids hfit
  rw [leafD_eq l t g p ht.ok] at hR
  have hvl : (varsN g t).length ≤ g.length := varsP_le g t g.length
  have hq3 := nextD_le (n := 3) hp
  have hb3 := nextD_bd (l := l) (p := p) (n := 3) (by decide)
  rcases hpk : pickD l t g p with ⟨_ | x, q⟩
  · rw [hpk] at hR
    simp only at hR
    have hq : q ≤ l.length := by have := pickD_le (t := t) (g := g) hp; rw [hpk] at this; exact this
    apply W_cutX [(.slot 215, .one (.v (dbool (decide (t.kind = 1))))), (.slot 214, .one (.v (dint t.kind))), (.slot 0, .one (.v (ptr b))), (.slot 1, .one (.v (.sl (g.map Ty.cells)))), (.slot 3, .one (.v (dint z))), (.slot 6, .one (.loc 6 0)), (.loc 6, .row ([.v (dint t.kind), .v (.sl (t.args.map Ty.cells))])), (.slot 8, .one (.loc 8 0)), (.loc 8, .row ([.v (dint 0), .v (dint 0), .v (dint 0), .own 0 [], .own 0 []])), (.heap  b, .row ([.v (.sl (ints l)), .v (dint q)]))]
    · intro hrest
      refine t_g0 ?_
      refine t_c1 trivial (mk_vars_ok g t (by omega)) ?_
      rcases pickD_none hpk with ⟨h0, rfl⟩ | ⟨h0, h1, rfl⟩
      · refine t_g (j2 @natI_len @h0) ?_
        refine t_b ?_
        refine t_sub [] trivial hrest
      · have hpos : 0 < (varsN g t).length := by omega
        refine t_g0 ?_
        refine t_c1 (j2 @natI_len (j2 @hpos @h1)) (next_ok b l p 3 (by decide) (by omega)) ?_
        refine t_g @h1 ?_
        refine t_b ?_
        refine t_sub [] trivial hrest
    · have hz2 : ¬ 0 < z := by omega
      rcases small_kinds ht with ⟨h, e⟩ | ⟨h, e⟩ | ⟨h, e⟩ | ⟨h, e⟩ | ⟨h, e⟩
      · rw [if_pos h] at hR
        have hb := nextD_bd (l := l) (p := q) (n := 3) (by decide)
        obtain ⟨k, hk⟩ : ∃ k : Nat, (nextD l q 3).1 = k := ⟨_, (Int.toNat_of_nonneg hb.1).symm⟩
        rw [hk] at hb
        refine t_g (j2 @hz2 @h) ?_
        refine t_c2 @hk (next_ok b l q 3 (by decide) (by omega)) (mk_num_ok k (by omega)) ?_
        repeat (first | refine W_seq ?_ | refine W_skip ?_ | refine W_block ?_ | refine W_inBlock ?_ | refine W_label ?_ | refine W_exit rfl ?_)
        first | refine W_retR hP hf hfn _ ([(b, deck l (nextD l q 3).2)]) (by first | (simp [go_sem, hP, hgl, hn, numD, hk]; done) | (simp [go_sem, hP, hgl, hn, numD, hk]; rfl)) (by simp [go_sem, hP, hgl, hn, numD, hk]) (by simp) ?_ hR.2 | refine W_endR hP hf hfn _ ([(b, deck l (nextD l q 3).2)]) (by first | (simp [go_sem, hP, hgl, hn, numD, hk]; done) | (simp [go_sem, hP, hgl, hn, numD, hk]; rfl)) (by simp [go_sem, hP, hgl, hn, numD, hk]) (by simp) ?_ hR.2
        rw [hR.1]
        refine ⟨?_, by simp [numD, hk]⟩
        try simp [numD, hk]
        try all_goals (simp [Ty.dv, Ty.cells_eq, Ty.kind_mk, Ty.args_mk, Tm.dv, Tm.cells_eq, Tm.kind_mk, Tm.index_mk, Tm.type_mk, Tm.args_mk, Val.dv, Val.cells_eq, Val.kind_mk, Val.num_mk, Val.list_mk, Val.args_mk, ints])
      · rw [if_neg (by omega), if_pos h] at hR
        refine t_g (j2 @hz2 @h) ?_
        refine t_c1 trivial (ref02_n_ok 7 []) ?_
        repeat (first | refine W_seq ?_ | refine W_skip ?_ | refine W_block ?_ | refine W_inBlock ?_ | refine W_label ?_ | refine W_exit rfl ?_)
        first | refine W_retR hP hf hfn _ ([(b, deck l q)]) (by first | (simp [go_sem, hP, hgl, hn, nT]; done) | (simp [go_sem, hP, hgl, hn, nT]; rfl)) (by simp [go_sem, hP, hgl, hn, nT]) (by simp) ?_ hR.2 | refine W_endR hP hf hfn _ ([(b, deck l q)]) (by first | (simp [go_sem, hP, hgl, hn, nT]; done) | (simp [go_sem, hP, hgl, hn, nT]; rfl)) (by simp [go_sem, hP, hgl, hn, nT]) (by simp) ?_ hR.2
        rw [hR.1]
        refine ⟨?_, by simp [nT]⟩
        try simp [nT]
        try all_goals (simp [Ty.dv, Ty.cells_eq, Ty.kind_mk, Ty.args_mk, Tm.dv, Tm.cells_eq, Tm.kind_mk, Tm.index_mk, Tm.type_mk, Tm.args_mk, Val.dv, Val.cells_eq, Val.kind_mk, Val.num_mk, Val.list_mk, Val.args_mk, ints])
      · rw [if_neg (by omega), if_neg (by omega), if_neg (by omega), if_neg (by omega)] at hR
        refine t_g (j2 @hz2 @h) ?_
        refine t_c1 trivial (ref02_n_ok 13 []) ?_
        repeat (first | refine W_seq ?_ | refine W_skip ?_ | refine W_block ?_ | refine W_inBlock ?_ | refine W_label ?_ | refine W_exit rfl ?_)
        first | refine W_retR hP hf hfn _ ([(b, deck l q)]) (by first | (simp [go_sem, hP, hgl, hn, nT]; done) | (simp [go_sem, hP, hgl, hn, nT]; rfl)) (by simp [go_sem, hP, hgl, hn, nT]) (by simp) ?_ hR.2 | refine W_endR hP hf hfn _ ([(b, deck l q)]) (by first | (simp [go_sem, hP, hgl, hn, nT]; done) | (simp [go_sem, hP, hgl, hn, nT]; rfl)) (by simp [go_sem, hP, hgl, hn, nT]) (by simp) ?_ hR.2
        rw [hR.1]
        refine ⟨?_, by simp [nT]⟩
        try simp [nT]
        try all_goals (simp [Ty.dv, Ty.cells_eq, Ty.kind_mk, Ty.args_mk, Tm.dv, Tm.cells_eq, Tm.kind_mk, Tm.index_mk, Tm.type_mk, Tm.args_mk, Val.dv, Val.cells_eq, Val.kind_mk, Val.num_mk, Val.list_mk, Val.args_mk, ints])
      · rw [if_neg (by omega), if_neg (by omega), if_pos h] at hR
        obtain ⟨s0, s1, hc⟩ := ht.arg (.inl h)
        have p0 := Ty.count_eq (t.arg 0)
        have p1 := Ty.count_eq (t.arg 1)
        have ha : t.args = [t.arg 0, t.arg 1] := by rw [e]; rfl
        obtain ⟨a1, -⟩ := leafD_facts closed_shape (t.arg 0) g q s0 hg hq
        refine t_g (j2 @hz2 @h) ?_
        refine t_c3 @ha (ih (t.arg 0) (by rw [ha]; simp) (z - 1) g q (by omega) (by omega) s0 hg (by omega) hq) (ih (t.arg 1) (by rw [ha]; simp) (z - 1) g (leafD l (t.arg 0) g q).2 (by omega) (by omega) s1 hg (by omega) a1) (ref02_n_ok 10 [(leafD l (t.arg 0) g q).1, (leafD l (t.arg 1) g (leafD l (t.arg 0) g q).2).1]) ?_
        repeat (first | refine W_seq ?_ | refine W_skip ?_ | refine W_block ?_ | refine W_inBlock ?_ | refine W_label ?_ | refine W_exit rfl ?_)
        first | refine W_retR hP hf hfn _ ([(b, deck l (leafD l (t.arg 1) g (leafD l (t.arg 0) g q).2).2)]) (by first | (simp [go_sem, hP, hgl, hn, nT]; done) | (simp [go_sem, hP, hgl, hn, nT]; rfl)) (by simp [go_sem, hP, hgl, hn, nT]) (by simp) ?_ hR.2 | refine W_endR hP hf hfn _ ([(b, deck l (leafD l (t.arg 1) g (leafD l (t.arg 0) g q).2).2)]) (by first | (simp [go_sem, hP, hgl, hn, nT]; done) | (simp [go_sem, hP, hgl, hn, nT]; rfl)) (by simp [go_sem, hP, hgl, hn, nT]) (by simp) ?_ hR.2
        rw [hR.1]
        refine ⟨?_, by simp [nT]⟩
        try simp [nT]
        try all_goals (simp [Ty.dv, Ty.cells_eq, Ty.kind_mk, Ty.args_mk, Tm.dv, Tm.cells_eq, Tm.kind_mk, Tm.index_mk, Tm.type_mk, Tm.args_mk, Val.dv, Val.cells_eq, Val.kind_mk, Val.num_mk, Val.list_mk, Val.args_mk, ints])
      · rw [if_neg (by omega), if_neg (by omega), if_neg (by omega), if_pos h] at hR
        obtain ⟨s0, s1, hc⟩ := ht.arg (.inr h)
        have p0 := Ty.count_eq (t.arg 0)
        have p1 := Ty.count_eq (t.arg 1)
        have ha : t.args = [t.arg 0, t.arg 1] := by rw [e]; rfl
        have hgs : ∀ x ∈ g ++ [t.arg 0], x.small := by intro x hx; rcases List.mem_append.1 hx with hx | hx; exact hg x hx; rw [List.mem_singleton.1 hx]; exact s0
        refine t_g (j2 @hz2 @h) ?_
        refine t_c3 @ha (mk_longer_ok g [t.arg 0] (by simp; omega)) (ih (t.arg 1) (by rw [ha]; simp) (z - 1) (g ++ [t.arg 0]) q (by omega) (by omega) s1 hgs (by simp; omega) hq) (ref02_t_ok 2 (t.arg 0) [(leafD l (t.arg 1) (g ++ [t.arg 0]) q).1]) ?_
        repeat (first | refine W_seq ?_ | refine W_skip ?_ | refine W_block ?_ | refine W_inBlock ?_ | refine W_label ?_ | refine W_exit rfl ?_)
        first | refine W_retR hP hf hfn _ ([(b, deck l (leafD l (t.arg 1) (g ++ [t.arg 0]) q).2)]) (by first | (simp [go_sem, hP, hgl, hn]; done) | (simp [go_sem, hP, hgl, hn]; rfl)) (by simp [go_sem, hP, hgl, hn]) (by simp) ?_ hR.2 | refine W_endR hP hf hfn _ ([(b, deck l (leafD l (t.arg 1) (g ++ [t.arg 0]) q).2)]) (by first | (simp [go_sem, hP, hgl, hn]; done) | (simp [go_sem, hP, hgl, hn]; rfl)) (by simp [go_sem, hP, hgl, hn]) (by simp) ?_ hR.2
        rw [hR.1]
        refine ⟨?_, by simp⟩
        try simp
        try all_goals (simp [Ty.dv, Ty.cells_eq, Ty.kind_mk, Ty.args_mk, Tm.dv, Tm.cells_eq, Tm.kind_mk, Tm.index_mk, Tm.type_mk, Tm.args_mk, Val.dv, Val.cells_eq, Val.kind_mk, Val.num_mk, Val.list_mk, Val.args_mk, ints])
  · rw [hpk] at hR
    simp only at hR
    obtain ⟨h0, h1, k, i, hk, hi, rfl, rfl⟩ := pickD_some' hpk
    have hpos : 0 < (varsN g t).length := by omega
    have hpos3 : 0 < (nextD l p 3).1 := by omega
    have hgi := ints_get (l := natI (varsN g t)) (i := k) (n := i) (by simp [natI, hi])
    have hkl := (List.getElem?_eq_some_iff.1 hi).1
    refine t_g0 ?_
    refine t_c1 trivial (mk_vars_ok g t (by omega)) ?_
    refine t_g0 ?_
    refine t_c1 (j2 @natI_len (j2 @hpos @hpos3)) (next_ok b l p 3 (by decide) (by omega)) ?_
    refine t_g @hpos3 ?_
    refine t_c2 (j2 @natI_len (j2 @hk @hgi)) (next_ok b l (nextD l p 3).2 (varsN g t).length (by omega) (by omega)) (ref02_var_ok i) ?_
    repeat (first | refine W_seq ?_ | refine W_skip ?_ | refine W_block ?_ | refine W_inBlock ?_ | refine W_label ?_ | refine W_exit rfl ?_)
    first | refine W_retR hP hf hfn _ ([(b, deck l (nextD l (nextD l p 3).2 (varsN g t).length).2)]) (by first | (simp [go_sem, hP, hgl, hn, vT]; done) | (simp [go_sem, hP, hgl, hn, vT]; rfl)) (by simp [go_sem, hP, hgl, hn, vT]) (by simp) ?_ hR.2 | refine W_endR hP hf hfn _ ([(b, deck l (nextD l (nextD l p 3).2 (varsN g t).length).2)]) (by first | (simp [go_sem, hP, hgl, hn, vT]; done) | (simp [go_sem, hP, hgl, hn, vT]; rfl)) (by simp [go_sem, hP, hgl, hn, vT]) (by simp) ?_ hR.2
    rw [hR.1]
    refine ⟨?_, by simp [vT]⟩
    try simp [vT]
    try all_goals (simp [Ty.dv, Ty.cells_eq, Ty.kind_mk, Ty.args_mk, Tm.dv, Tm.cells_eq, Tm.kind_mk, Tm.index_mk, Tm.type_mk, Tm.args_mk, Val.dv, Val.cells_eq, Val.kind_mk, Val.num_mk, Val.list_mk, Val.args_mk, ints])
end Go.Proofs.YtiacandbafjlfaaGreatDoor.Lift

namespace Go.Proofs.YtiacandbafjlfaaGreatDoor.Lift
set_option linter.unusedSimpArgs false
set_option linter.unusedVariables false
set_option linter.unnecessarySimpa false
open Go
variable {gl : Globs}

def funP (g : List Ty) (t : Ty) (i : Nat) : Bool := decide ((varTy g i).kind = 4) && ((varTy g i).arg 1).same t
theorem upto_snoc {Q : Nat → Prop} {i : Nat} (h : ∀ j, j < i → Q j) (hi : Q i) : ∀ j, j < i + 1 → Q j := by
  intro j hj
  by_cases e : j = i
  · rw [e]; exact hi
  · exact h j (by omega)
theorem funN_found {g : List Ty} {t : Ty} {i : Nat} (hi : i < g.length) (h : ∀ j, j < i → funP g t j = false) (hp : funP g t i = true) : funN g t = some i := by
  unfold funN
  rw [List.find?_range_eq_some]
  exact ⟨hp, List.mem_range.2 hi, fun j hj => by show (!funP g t j) = true; rw [h j hj]; rfl⟩
theorem funN_none {g : List Ty} {t : Ty} (h : ∀ j, j < g.length → funP g t j = false) : funN g t = none := by
  unfold funN
  rw [List.find?_eq_none]
  intro j hj
  show ¬ funP g t j = true
  rw [h j (List.mem_range.1 hj)]
  decide

theorem W_cutXP {X : Ctx} {k kk : List Item} {s : St} (E : Prop) (S : St) (h1 : (E → W X kk S) → W X k s) (h2 : E → W X kk S) : W X k s := h1 h2

set_option maxHeartbeats 4000000 in
theorem mk_term_ok (b : Nat) (l : List Int) (hl : l.length ≤ 500) (n : Nat) (hn9 : n ≤ 9) : ∀ (t : Ty) (g : List Ty) (p : Nat), t.small → (∀ x ∈ g, x.small) → g.length + 3 * n + 15 ≤ 1000000 → p ≤ l.length →
    Con1 Tryz.prog gl 19 [ptr b, .sl (g.map Ty.cells), t.dv, dint n] [(b, deck l p)] (termD l n t g p).1.dv [(b, deck l (termD l n t g p).2)] := by
  induction n with
  | zero =>
    intro t g p ht hg hgl1 hp
    exact mk_term_leaf b l hl t 0 g p (by omega) (by have := ht.2; omega) ht hg (by have := ht.2; omega) hp
  | succ n ihn0 =>
  intro t g p ht hg hgl1 hp
  have ihn := ihn0 (by omega)
  have hD := termD_facts (l := l) closed_shape n
  have hg1 : ∀ a : List Ty, (∀ x ∈ a, x.small) → ∀ x ∈ g ++ a, x.small := by
    intro a ha x hx
    rcases List.mem_append.1 hx with hx | hx
    · exact hg x hx
    · exact ha x hx
  have hz2 : (0 : Int) < ((n + 1 : Nat) : Int) := by omega
  have hsub : ((n + 1 : Nat) : Int) - 1 = (n : Int) := by omega
  refine t_in Tryz.func19 ?_
  intro X hP hgl hf hfn hn hR hids hfit
  rw [termD] at hR
  have hvl : (varsN g t).length ≤ g.length := varsP_le g t g.length
  have hq3 := nextD_le (n := 3) hp
  have hb3 := nextD_bd (l := l) (p := p) (n := 3) (by decide)
  rcases hpk : pickD l t g p with ⟨_ | x, q⟩
  · rw [hpk] at hR
    simp only at hR
    have hq : q ≤ l.length := by have := pickD_le (t := t) (g := g) hp; rw [hpk] at this; exact this
    apply W_cutX [(.slot 0, .one (.v (ptr b))), (.slot 1, .one (.v (.sl (g.map Ty.cells)))), (.slot 3, .one (.v (dint ((n + 1 : Nat) : Int)))), (.slot 6, .one (.loc 6 0)), (.loc 6, .row ([.v (dint t.kind), .v (.sl (t.args.map Ty.cells))])), (.slot 8, .one (.loc 8 0)), (.loc 8, .row ([.v (dint 0), .v (dint 0), .v (dint 0), .own 0 [], .own 0 []])), (.heap  b, .row ([.v (.sl (ints l)), .v (dint q)]))]
    · intro hrest
      refine t_g0 ?_
      refine t_c1 trivial (mk_vars_ok g t (by omega)) ?_
      rcases pickD_none hpk with ⟨h0, rfl⟩ | ⟨h0, h1, rfl⟩
      · refine t_g (j2 @natI_len @h0) ?_
        refine t_b ?_
        refine t_sub [] trivial hrest
      · have hpos : 0 < (varsN g t).length := by omega
        refine t_g0 ?_
        refine t_c1 (j2 @natI_len (j2 @hpos @h1)) (next_ok b l p 3 (by decide) (by omega)) ?_
        refine t_g @h1 ?_
        refine t_b ?_
        refine t_sub [] trivial hrest
    · have hq8 := nextD_le (n := 8) hq
      have hb8 := nextD_bd (l := l) (p := q) (n := 8) (by decide)
      refine t_g @hz2 ?_
      refine t_c1 trivial (next_ok b l q 8 (by decide) (by omega)) ?_
      generalize hd : nextD l q 8 = d at *
      obtain ⟨k, r⟩ := d
      simp only at hR hb8 hq8
      have hr : r ≤ l.length := hq8
      by_cases h0 : k = 0
      · rw [stepD, if_pos h0] at hR
        have cs := mk_type_ok (gl := gl) 0 b l r hl hr (by decide)
        obtain ⟨fs, ss⟩ := typeD_small l (n := 0) hr (by decide)
        generalize hes : typeD l 0 r = rs at cs fs ss hR
        obtain ⟨s, qs⟩ := rs
        simp only at cs fs ss hR
        have cx := ihn (t) (g ++ [s]) qs ht (hg1 [s] (by simpa using ss)) (by simp; omega) fs
        have fx := (hD (t) (g ++ [s]) qs ht (hg1 [s] (by simpa using ss)) fs).1
        generalize hex : termD l n (t) (g ++ [s]) qs = rx at cx fx hR
        obtain ⟨x, qx⟩ := rx
        simp only at cx fx hR
        have cy := ihn (s) (g) qx ss hg (by omega) fx
        have fy := (hD (s) (g) qx ss hg fx).1
        generalize hey : termD l n (s) (g) qx = ry at cy fy hR
        obtain ⟨y, qy⟩ := ry
        simp only at cy fy hR
        refine t_g @h0 ?_
        refine t_c1 trivial cs ?_
        refine t_c5 @hsub (mk_longer_ok g [s] (by simp; omega)) cx (ref02_t_ok 2 s [x]) cy (ref02_n_ok 3 [Tm.mk 2 0 s [x], y]) ?_
        repeat (first | refine W_seq ?_ | refine W_skip ?_ | refine W_block ?_ | refine W_inBlock ?_ | refine W_label ?_ | refine W_exit rfl ?_)
        first | refine W_retR hP hf hfn _ ([(b, deck l qy)]) (by first | (simp [go_sem, hP, hgl, hn, nT]; done) | (simp [go_sem, hP, hgl, hn, nT]; rfl)) (by simp [go_sem, hP, hgl, hn, nT]) (by simp) ?_ hR.2 | refine W_endR hP hf hfn _ ([(b, deck l qy)]) (by first | (simp [go_sem, hP, hgl, hn, nT]; done) | (simp [go_sem, hP, hgl, hn, nT]; rfl)) (by simp [go_sem, hP, hgl, hn, nT]) (by simp) ?_ hR.2
        rw [hR.1]
        refine ⟨?_, by simp [nT]⟩
        try simp [nT]
        try all_goals (simp [Ty.dv, Ty.cells_eq, Ty.kind_mk, Ty.args_mk, Tm.dv, Tm.cells_eq, Tm.kind_mk, Tm.index_mk, Tm.type_mk, Tm.args_mk, Val.dv, Val.cells_eq, Val.kind_mk, Val.num_mk, Val.list_mk, Val.args_mk, ints])
      by_cases h1 : k = 1
      · rw [stepD, if_neg h0, if_pos h1] at hR
        have cs := mk_type_ok (gl := gl) 0 b l r hl hr (by decide)
        obtain ⟨fs, ss⟩ := typeD_small l (n := 0) hr (by decide)
        generalize hes : typeD l 0 r = rs at cs fs ss hR
        obtain ⟨s, qs⟩ := rs
        simp only at cs fs ss hR
        have cx := ihn (t) (g) qs ht hg (by omega) fs
        have fx := (hD (t) (g) qs ht hg fs).1
        generalize hex : termD l n (t) (g) qs = rx at cx fx hR
        obtain ⟨x, qx⟩ := rx
        simp only at cx fx hR
        have cy := ihn (s) (g) qx ss hg (by omega) fx
        have fy := (hD (s) (g) qx ss hg fx).1
        generalize hey : termD l n (s) (g) qx = ry at cy fy hR
        obtain ⟨y, qy⟩ := ry
        simp only at cy fy hR
        refine t_g @h1 ?_
        refine t_c1 trivial cs ?_
        refine t_c4 @hsub cx cy (ref02_n_ok 10 [x, y]) (ref02_n_ok 11 [Tm.mk 10 0 (Ty.mk 0 []) [x, y]]) ?_
        repeat (first | refine W_seq ?_ | refine W_skip ?_ | refine W_block ?_ | refine W_inBlock ?_ | refine W_label ?_ | refine W_exit rfl ?_)
        first | refine W_retR hP hf hfn _ ([(b, deck l qy)]) (by first | (simp [go_sem, hP, hgl, hn, nT]; done) | (simp [go_sem, hP, hgl, hn, nT]; rfl)) (by simp [go_sem, hP, hgl, hn, nT]) (by simp) ?_ hR.2 | refine W_endR hP hf hfn _ ([(b, deck l qy)]) (by first | (simp [go_sem, hP, hgl, hn, nT]; done) | (simp [go_sem, hP, hgl, hn, nT]; rfl)) (by simp [go_sem, hP, hgl, hn, nT]) (by simp) ?_ hR.2
        rw [hR.1]
        refine ⟨?_, by simp [nT]⟩
        try simp [nT]
        try all_goals (simp [Ty.dv, Ty.cells_eq, Ty.kind_mk, Ty.args_mk, Tm.dv, Tm.cells_eq, Tm.kind_mk, Tm.index_mk, Tm.type_mk, Tm.args_mk, Val.dv, Val.cells_eq, Val.kind_mk, Val.num_mk, Val.list_mk, Val.args_mk, ints])
      by_cases h2 : k = 2
      · rw [stepD, if_neg h0, if_neg h1, if_pos h2] at hR
        have cx := ihn (t) (g ++ [Ty.mk 1 [], t]) r ht (hg1 [Ty.mk 1 [], t] (by intro x hx; simp at hx; rcases hx with rfl | rfl; exact small_nat; exact ht)) (by simp; omega) hr
        have fx := (hD (t) (g ++ [Ty.mk 1 [], t]) r ht (hg1 [Ty.mk 1 [], t] (by intro x hx; simp at hx; rcases hx with rfl | rfl; exact small_nat; exact ht)) hr).1
        generalize hex : termD l n (t) (g ++ [Ty.mk 1 [], t]) r = rx at cx fx hR
        obtain ⟨x, qx⟩ := rx
        simp only at cx fx hR
        have cy := ihn (t) (g) qx ht hg (by omega) fx
        have fy := (hD (t) (g) qx ht hg fx).1
        generalize hey : termD l n (t) (g) qx = ry at cy fy hR
        obtain ⟨y, qy⟩ := ry
        simp only at cy fy hR
        have hqy := nextD_le (n := 3) fy
        have hby := nextD_bd (l := l) (p := qy) (n := 3) (by decide)
        obtain ⟨m, hm⟩ : ∃ m : Nat, (nextD l qy 3).1 = m := ⟨_, (Int.toNat_of_nonneg hby.1).symm⟩
        rw [hm] at hby
        refine t_g @h2 ?_
        refine t_c6 (j2 @hsub @nat_v) ref01_nat_ok ref01_nat_ok (mk_longer_ok g [Ty.mk 1 [], t] (by simp; omega)) cx (ref02_t_ok 2 t [x]) (ref02_t_ok 2 (Ty.mk 1 []) [Tm.mk 2 0 t [x]]) ?_
        refine t_c4 (j2 @hsub @hm) cy (next_ok b l qy 3 (by decide) (by omega)) (mk_num_ok m (by omega)) (ref02_t_ok 6 t [y, Tm.mk 2 0 (Ty.mk 1 []) [Tm.mk 2 0 t [x]], numTm m]) ?_
        repeat (first | refine W_seq ?_ | refine W_skip ?_ | refine W_block ?_ | refine W_inBlock ?_ | refine W_label ?_ | refine W_exit rfl ?_)
        first | refine W_retR hP hf hfn _ ([(b, deck l (nextD l qy 3).2)]) (by first | (simp [go_sem, hP, hgl, hn, numD, hm]; done) | (simp [go_sem, hP, hgl, hn, numD, hm]; rfl)) (by simp [go_sem, hP, hgl, hn, numD, hm]) (by simp) ?_ hR.2 | refine W_endR hP hf hfn _ ([(b, deck l (nextD l qy 3).2)]) (by first | (simp [go_sem, hP, hgl, hn, numD, hm]; done) | (simp [go_sem, hP, hgl, hn, numD, hm]; rfl)) (by simp [go_sem, hP, hgl, hn, numD, hm]) (by simp) ?_ hR.2
        rw [hR.1]
        refine ⟨?_, by simp [numD, hm]⟩
        try simp [numD, hm]
        try all_goals (simp [Ty.dv, Ty.cells_eq, Ty.kind_mk, Ty.args_mk, Tm.dv, Tm.cells_eq, Tm.kind_mk, Tm.index_mk, Tm.type_mk, Tm.args_mk, Val.dv, Val.cells_eq, Val.kind_mk, Val.num_mk, Val.list_mk, Val.args_mk, ints])
      by_cases h3 : k = 3
      · rw [stepD, if_neg h0, if_neg h1, if_neg h2, if_pos h3] at hR
        have cx := ihn (t) (g ++ [Ty.mk 1 [], Ty.mk 2 [], t]) r ht (hg1 [Ty.mk 1 [], Ty.mk 2 [], t] (by intro x hx; simp at hx; rcases hx with rfl | rfl | rfl; exact small_nat; exact small_list; exact ht)) (by simp; omega) hr
        have fx := (hD (t) (g ++ [Ty.mk 1 [], Ty.mk 2 [], t]) r ht (hg1 [Ty.mk 1 [], Ty.mk 2 [], t] (by intro x hx; simp at hx; rcases hx with rfl | rfl | rfl; exact small_nat; exact small_list; exact ht)) hr).1
        generalize hex : termD l n (t) (g ++ [Ty.mk 1 [], Ty.mk 2 [], t]) r = rx at cx fx hR
        obtain ⟨x, qx⟩ := rx
        simp only at cx fx hR
        have cy := ihn (t) (g) qx ht hg (by omega) fx
        have fy := (hD (t) (g) qx ht hg fx).1
        generalize hey : termD l n (t) (g) qx = ry at cy fy hR
        obtain ⟨y, qy⟩ := ry
        simp only at cy fy hR
        have cz := ihn (Ty.mk 2 []) (g) qy small_list hg (by omega) fy
        have fz := (hD (Ty.mk 2 []) (g) qy small_list hg fy).1
        generalize hez : termD l n (Ty.mk 2 []) (g) qy = rz at cz fz hR
        obtain ⟨z, qz⟩ := rz
        simp only at cz fz hR
        refine t_g @h3 ?_
        refine t_c9 (j2 @hsub (j2 @nat_v @list_v)) ref01_nat_ok ref01_list_ok ref01_nat_ok ref01_list_ok (mk_longer_ok g [Ty.mk 1 [], Ty.mk 2 [], t] (by simp; omega)) cx (ref02_t_ok 2 t [x]) (ref02_t_ok 2 (Ty.mk 2 []) [Tm.mk 2 0 t [x]]) (ref02_t_ok 2 (Ty.mk 1 []) [Tm.mk 2 0 (Ty.mk 2 []) [Tm.mk 2 0 t [x]]]) ?_
        refine t_c4 (j2 @hsub @list_v) cy ref01_list_ok cz (ref02_t_ok 9 t [y, Tm.mk 2 0 (Ty.mk 1 []) [Tm.mk 2 0 (Ty.mk 2 []) [Tm.mk 2 0 t [x]]], z]) ?_
        repeat (first | refine W_seq ?_ | refine W_skip ?_ | refine W_block ?_ | refine W_inBlock ?_ | refine W_label ?_ | refine W_exit rfl ?_)
        first | refine W_retR hP hf hfn _ ([(b, deck l qz)]) (by first | (simp [go_sem, hP, hgl, hn]; done) | (simp [go_sem, hP, hgl, hn]; rfl)) (by simp [go_sem, hP, hgl, hn]) (by simp) ?_ hR.2 | refine W_endR hP hf hfn _ ([(b, deck l qz)]) (by first | (simp [go_sem, hP, hgl, hn]; done) | (simp [go_sem, hP, hgl, hn]; rfl)) (by simp [go_sem, hP, hgl, hn]) (by simp) ?_ hR.2
        rw [hR.1]
        refine ⟨?_, by simp⟩
        try simp
        try all_goals (simp [Ty.dv, Ty.cells_eq, Ty.kind_mk, Ty.args_mk, Tm.dv, Tm.cells_eq, Tm.kind_mk, Tm.index_mk, Tm.type_mk, Tm.args_mk, Val.dv, Val.cells_eq, Val.kind_mk, Val.num_mk, Val.list_mk, Val.args_mk, ints])
      by_cases h4 : k = 4
      · rw [stepD, if_neg h0, if_neg h1, if_neg h2, if_neg h3, if_pos h4] at hR
        have cs := mk_type_ok (gl := gl) 0 b l r hl hr (by decide)
        obtain ⟨fs, ss⟩ := typeD_small l (n := 0) hr (by decide)
        generalize hes : typeD l 0 r = rs at cs fs ss hR
        obtain ⟨s, qs⟩ := rs
        simp only at cs fs ss hR
        have cx := ihn (s) (g) qs ss hg (by omega) fs
        have fx := (hD (s) (g) qs ss hg fs).1
        generalize hex : termD l n (s) (g) qs = rx at cx fx hR
        obtain ⟨x, qx⟩ := rx
        simp only at cx fx hR
        have cy := ihn (t) (g) qx ht hg (by omega) fx
        have fy := (hD (t) (g) qx ht hg fx).1
        generalize hey : termD l n (t) (g) qx = ry at cy fy hR
        obtain ⟨y, qy⟩ := ry
        simp only at cy fy hR
        refine t_g @h4 ?_
        refine t_c1 trivial cs ?_
        refine t_c4 @hsub cx cy (ref02_n_ok 10 [x, y]) (ref02_n_ok 12 [Tm.mk 10 0 (Ty.mk 0 []) [x, y]]) ?_
        repeat (first | refine W_seq ?_ | refine W_skip ?_ | refine W_block ?_ | refine W_inBlock ?_ | refine W_label ?_ | refine W_exit rfl ?_)
        first | refine W_retR hP hf hfn _ ([(b, deck l qy)]) (by first | (simp [go_sem, hP, hgl, hn, nT]; done) | (simp [go_sem, hP, hgl, hn, nT]; rfl)) (by simp [go_sem, hP, hgl, hn, nT]) (by simp) ?_ hR.2 | refine W_endR hP hf hfn _ ([(b, deck l qy)]) (by first | (simp [go_sem, hP, hgl, hn, nT]; done) | (simp [go_sem, hP, hgl, hn, nT]; rfl)) (by simp [go_sem, hP, hgl, hn, nT]) (by simp) ?_ hR.2
        rw [hR.1]
        refine ⟨?_, by simp [nT]⟩
        try simp [nT]
        try all_goals (simp [Ty.dv, Ty.cells_eq, Ty.kind_mk, Ty.args_mk, Tm.dv, Tm.cells_eq, Tm.kind_mk, Tm.index_mk, Tm.type_mk, Tm.args_mk, Val.dv, Val.cells_eq, Val.kind_mk, Val.num_mk, Val.list_mk, Val.args_mk, ints])
      apply W_cutXP (stepD l (termD l n) t g k r = endD l (termD l n) t g r) [(.slot 215, .one (.v (dbool (decide (t.kind = 1))))), (.slot 214, .one (.v (dint t.kind))), (.slot 0, .one (.v (ptr b))), (.slot 1, .one (.v (.sl (g.map Ty.cells)))), (.slot 3, .one (.v (dint ((n + 1 : Nat) : Int)))), (.slot 6, .one (.loc 6 0)), (.loc 6, .row ([.v (dint t.kind), .v (.sl (t.args.map Ty.cells))])), (.slot 8, .one (.loc 8 0)), (.loc 8, .row ([.v (dint 0), .v (dint 0), .v (dint 0), .own 0 [], .own 0 []])), (.heap  b, .row ([.v (.sl (ints l)), .v (dint r)]))]
      · intro hrest
        by_cases h5 : k = 5
        · refine t_g @h5 ?_
          refine t_a ?_
          refine t_sub [] trivial (W_upto (g.length) (fun i => ∀ j, j < i → funP g t j = false) (fun i => [(.slot 177, .one (.v (dint i))), (.slot 176, .one (.v (dint g.length))), (.slot 0, .one (.v (ptr b))), (.slot 1, .one (.v (.sl (g.map Ty.cells)))), (.slot 3, .one (.v (dint ((n + 1 : Nat) : Int)))), (.slot 6, .one (.loc 6 0)), (.loc 6, .row ([.v (dint t.kind), .v (.sl (t.args.map Ty.cells))])), (.slot 8, .one (.loc 8 0)), (.loc 8, .row ([.v (dint 0), .v (dint 0), .v (dint 0), .own 0 [], .own 0 []])), (.heap  b, .row ([.v (.sl (ints l)), .v (dint r)]))]) (by intro j hj; omega) ?_ ?_)
          · intro i hi hI hnext
            have hvt := (varTy_mem hi).2
            have hix : (g.length : Int) - 1 - i = ((g.length - 1 - i : Nat) : Int) := by omega
            refine t_rg0 ?_
            refine t_yes ?_
            refine t_g (j2 @hix @hvt) ?_
            by_cases hk4 : (varTy g i).kind = 4
            · have hfs := hg _ (varTy_mem hi).1
              obtain ⟨c0, c1, -⟩ := hfs.arg (.inr hk4)
              obtain ⟨a0, a1, ha, -, -, e0, e1⟩ := Ty.ok_args hfs.ok (.inr hk4)
              rw [e0] at c0
              refine t_c1 (j2 @hix (j2 @hvt (j2 @hk4 @ha))) (ref01_same_ok a1 t) ?_
              by_cases hs : a1.same t = true
              · have hfi : funN g t = some i := funN_found hi hI (by simp [funP, hk4, e1, hs])
                rw [stepD, if_neg h0, if_neg h1, if_neg h2, if_neg h3, if_neg h4, if_pos h5, hfi] at hR
                simp only at hR
                rw [e0] at hR
                have cx := ihn (a0) (g) r c0 hg (by omega) hr
                have fx := (hD (a0) (g) r c0 hg hr).1
                generalize hex : termD l n (a0) (g) r = rx at cx fx hR
                obtain ⟨x, qx⟩ := rx
                simp only at cx fx hR
                refine t_g @hs ?_
                refine t_a ?_
                first | refine W_reg [] fun K hK => ?_ | refine W_regd (by rw [hP]; exact mixed) [] fun K hK => ?_
                simp [go_sem, hP, hgl, hn, hsub, ha, vT]
                repeat (refine ⟨by omega, ?_⟩)
                first | refine vcK_call hP hgl (ref02_var_ok i) (by simp [go_sem, hP, hgl, hn, hsub, ha, vT]) rfl (by simp [go_sem]) (by simp) (by rw [hn]; exact Nat.le_of_ble_eq_true rfl) ?_ | refine vcdC_call (fun _ _ => vcd_sound) hP hgl (ref02_var_ok i) (by simp [go_sem, hP, hgl, hn, hsub, ha, vT]) rfl (by simp [go_sem]) (by simp) (by rw [hn]; exact Nat.le_of_ble_eq_true rfl) ?_ | refine vcK_callG hP hgl (ref02_var_ok i) (by simp [go_sem, hP, hgl, hn, hsub, ha, vT]) rfl (by simp [go_sem]) (by simp) (by rw [hn]; exact Nat.le_of_ble_eq_true rfl) (by simp [go_sem]; rfl) (by rw [hn]; exact Nat.le_of_ble_eq_true rfl) (by simp [go_sem]) ?_ | refine vcdC_callG (fun _ _ => vcd_sound) hP hgl (ref02_var_ok i) (by simp [go_sem, hP, hgl, hn, hsub, ha, vT]) rfl (by simp [go_sem]) (by simp) (by rw [hn]; exact Nat.le_of_ble_eq_true rfl) (by simp [go_sem]; rfl) (by rw [hn]; exact Nat.le_of_ble_eq_true rfl) (by simp [go_sem]) ?_
                simp [go_sem, hP, hgl, hn, hsub, ha, vT]
                repeat (refine ⟨by omega, ?_⟩)
                first | refine vcK_call hP hgl (cx) (by simp [go_sem, hP, hgl, hn, hsub, ha, vT]) rfl (by simp [go_sem]) (by simp) (by rw [hn]; exact Nat.le_of_ble_eq_true rfl) ?_ | refine vcdC_call (fun _ _ => vcd_sound) hP hgl (cx) (by simp [go_sem, hP, hgl, hn, hsub, ha, vT]) rfl (by simp [go_sem]) (by simp) (by rw [hn]; exact Nat.le_of_ble_eq_true rfl) ?_ | refine vcK_callG hP hgl (cx) (by simp [go_sem, hP, hgl, hn, hsub, ha, vT]) rfl (by simp [go_sem]) (by simp) (by rw [hn]; exact Nat.le_of_ble_eq_true rfl) (by simp [go_sem]; rfl) (by rw [hn]; exact Nat.le_of_ble_eq_true rfl) (by simp [go_sem]) ?_ | refine vcdC_callG (fun _ _ => vcd_sound) hP hgl (cx) (by simp [go_sem, hP, hgl, hn, hsub, ha, vT]) rfl (by simp [go_sem]) (by simp) (by rw [hn]; exact Nat.le_of_ble_eq_true rfl) (by simp [go_sem]; rfl) (by rw [hn]; exact Nat.le_of_ble_eq_true rfl) (by simp [go_sem]) ?_
                simp [go_sem, hP, hgl, hn, hsub, ha, vT]
                repeat (refine ⟨by omega, ?_⟩)
                first | refine vcK_call hP hgl (ref02_n_ok 3 [vT i, x]) (by simp [go_sem, hP, hgl, hn, hsub, ha, vT]) rfl (by simp [go_sem]) (by simp) (by rw [hn]; exact Nat.le_of_ble_eq_true rfl) ?_ | refine vcdC_call (fun _ _ => vcd_sound) hP hgl (ref02_n_ok 3 [vT i, x]) (by simp [go_sem, hP, hgl, hn, hsub, ha, vT]) rfl (by simp [go_sem]) (by simp) (by rw [hn]; exact Nat.le_of_ble_eq_true rfl) ?_ | refine vcK_callG hP hgl (ref02_n_ok 3 [vT i, x]) (by simp [go_sem, hP, hgl, hn, hsub, ha, vT]) rfl (by simp [go_sem]) (by simp) (by rw [hn]; exact Nat.le_of_ble_eq_true rfl) (by simp [go_sem]; rfl) (by rw [hn]; exact Nat.le_of_ble_eq_true rfl) (by simp [go_sem]) ?_ | refine vcdC_callG (fun _ _ => vcd_sound) hP hgl (ref02_n_ok 3 [vT i, x]) (by simp [go_sem, hP, hgl, hn, hsub, ha, vT]) rfl (by simp [go_sem]) (by simp) (by rw [hn]; exact Nat.le_of_ble_eq_true rfl) (by simp [go_sem]; rfl) (by rw [hn]; exact Nat.le_of_ble_eq_true rfl) (by simp [go_sem]) ?_
                simp [go_sem, hP, hgl, hn, hsub, ha, vT]
                refine t_e ?_
                clear hK K
                repeat (first | refine W_seq ?_ | refine W_skip ?_ | refine W_block ?_ | refine W_inBlock ?_ | refine W_label ?_ | refine W_exit rfl ?_)
                first | refine W_retR hP hf hfn _ ([(b, deck l qx)]) (by first | (simp [go_sem, hP, hgl, hn, nT, vT]; done) | (simp [go_sem, hP, hgl, hn, nT, vT]; rfl)) (by simp [go_sem, hP, hgl, hn, nT, vT]) (by simp) ?_ hR.2 | refine W_endR hP hf hfn _ ([(b, deck l qx)]) (by first | (simp [go_sem, hP, hgl, hn, nT, vT]; done) | (simp [go_sem, hP, hgl, hn, nT, vT]; rfl)) (by simp [go_sem, hP, hgl, hn, nT, vT]) (by simp) ?_ hR.2
                rw [hR.1]
                refine ⟨?_, by simp [nT, vT]⟩
                try simp [nT, vT]
                try all_goals (simp [Ty.dv, Ty.cells_eq, Ty.kind_mk, Ty.args_mk, Tm.dv, Tm.cells_eq, Tm.kind_mk, Tm.index_mk, Tm.type_mk, Tm.args_mk, Val.dv, Val.cells_eq, Val.kind_mk, Val.num_mk, Val.list_mk, Val.args_mk, ints])
              · refine t_gt (wr []) trivial @hs (hnext (upto_snoc hI (by simp [funP, hk4, e1, hs])))
            · refine t_gt (wr []) trivial @hk4 (hnext (upto_snoc hI (by simp [funP, hk4])))
          · intro hI
            refine t_rg0 ?_
            refine t_no ?_
            refine t_g0 ?_
            refine t_b ?_
            refine t_sub [] trivial (hrest (by rw [stepD, if_neg h0, if_neg h1, if_neg h2, if_neg h3, if_neg h4, if_pos h5, funN_none hI]))
        · have hE : stepD l (termD l n) t g k r = endD l (termD l n) t g r := by rw [stepD, if_neg h0, if_neg h1, if_neg h2, if_neg h3, if_neg h4, if_neg h5]
          by_cases h6 : k = 6
          · refine t_g @h6 ?_
            refine t_b ?_
            refine t_sub [] trivial (hrest hE)
          · have h7 : k = 7 := by omega
            refine t_g @h7 ?_
            refine t_b ?_
            refine t_sub [] trivial (hrest hE)
      · intro hE
        rw [hE, endD] at hR
        have h5q := nextD_le (n := 5) hr
        have h2q := nextD_le (n := 2) hr
        have hfd := Ty.fold t
        rcases small_kinds ht with ⟨h, e⟩ | ⟨h, e⟩ | ⟨h, e⟩ | ⟨h, e⟩ | ⟨h, e⟩
        · rw [if_pos h] at hR
          rw [h] at hfd
          have hb5 := nextD_bd (l := l) (p := r) (n := 5) (by decide)
          refine t_g (j2 @h @hz2) ?_
          refine t_c1 trivial (next_ok b l r 5 (by decide) (by omega)) ?_
          generalize hd5 : nextD l r 5 = d at *
          obtain ⟨c, q5⟩ := d
          simp only at hR hb5 h5q
          by_cases c0 : c = 0
          · rw [if_pos c0] at hR
            have cx := ihn (t) (g) q5 ht hg (by omega) h5q
            have fx := (hD (t) (g) q5 ht hg h5q).1
            generalize hex : termD l n (t) (g) q5 = rx at cx fx hR
            obtain ⟨x, qx⟩ := rx
            simp only at cx fx hR
            refine t_g @c0 ?_
            refine t_c2 (j2 @hsub @hfd) cx (ref02_n_ok 5 [x]) ?_
            repeat (first | refine W_seq ?_ | refine W_skip ?_ | refine W_block ?_ | refine W_inBlock ?_ | refine W_label ?_ | refine W_exit rfl ?_)
            first | refine W_retR hP hf hfn _ ([(b, deck l qx)]) (by first | (simp [go_sem, hP, hgl, hn, nT]; done) | (simp [go_sem, hP, hgl, hn, nT]; rfl)) (by simp [go_sem, hP, hgl, hn, nT]) (by simp) ?_ hR.2 | refine W_endR hP hf hfn _ ([(b, deck l qx)]) (by first | (simp [go_sem, hP, hgl, hn, nT]; done) | (simp [go_sem, hP, hgl, hn, nT]; rfl)) (by simp [go_sem, hP, hgl, hn, nT]) (by simp) ?_ hR.2
            rw [hR.1]
            refine ⟨?_, by simp [nT]⟩
            try simp [nT]
            try all_goals (simp [Ty.dv, Ty.cells_eq, Ty.kind_mk, Ty.args_mk, Tm.dv, Tm.cells_eq, Tm.kind_mk, Tm.index_mk, Tm.type_mk, Tm.args_mk, Val.dv, Val.cells_eq, Val.kind_mk, Val.num_mk, Val.list_mk, Val.args_mk, ints])
          rw [if_neg c0] at hR
          by_cases c1 : c = 1
          · rw [if_pos c1] at hR
            have cx := ihn (t) (g) q5 ht hg (by omega) h5q
            have fx := (hD (t) (g) q5 ht hg h5q).1
            generalize hex : termD l n (t) (g) q5 = rx at cx fx hR
            obtain ⟨x, qx⟩ := rx
            simp only at cx fx hR
            have cy := ihn (t) (g) qx ht hg (by omega) fx
            have fy := (hD (t) (g) qx ht hg fx).1
            generalize hey : termD l n (t) (g) qx = ry at cy fy hR
            obtain ⟨y, qy⟩ := ry
            simp only at cy fy hR
            refine t_g @c1 ?_
            refine t_c4 (j2 @hsub @hfd) ref05_plus_ok cx cy (mk_app_ok plusT [x, y]) ?_
            repeat (first | refine W_seq ?_ | refine W_skip ?_ | refine W_block ?_ | refine W_inBlock ?_ | refine W_label ?_ | refine W_exit rfl ?_)
            first | refine W_retR hP hf hfn _ ([(b, deck l qy)]) (by first | (simp [go_sem, hP, hgl, hn]; done) | (simp [go_sem, hP, hgl, hn]; rfl)) (by simp [go_sem, hP, hgl, hn]) (by simp) ?_ hR.2 | refine W_endR hP hf hfn _ ([(b, deck l qy)]) (by first | (simp [go_sem, hP, hgl, hn]; done) | (simp [go_sem, hP, hgl, hn]; rfl)) (by simp [go_sem, hP, hgl, hn]) (by simp) ?_ hR.2
            rw [hR.1]
            refine ⟨?_, by simp⟩
            try simp
            try all_goals (simp [Ty.dv, Ty.cells_eq, Ty.kind_mk, Ty.args_mk, Tm.dv, Tm.cells_eq, Tm.kind_mk, Tm.index_mk, Tm.type_mk, Tm.args_mk, Val.dv, Val.cells_eq, Val.kind_mk, Val.num_mk, Val.list_mk, Val.args_mk, ints])
          rw [if_neg c1] at hR
          by_cases c2 : c = 2
          · rw [if_pos c2] at hR
            have cx := ihn (t) (g) q5 ht hg (by omega) h5q
            have fx := (hD (t) (g) q5 ht hg h5q).1
            generalize hex : termD l n (t) (g) q5 = rx at cx fx hR
            obtain ⟨x, qx⟩ := rx
            simp only at cx fx hR
            have cy := ihn (t) (g) qx ht hg (by omega) fx
            have fy := (hD (t) (g) qx ht hg fx).1
            generalize hey : termD l n (t) (g) qx = ry at cy fy hR
            obtain ⟨y, qy⟩ := ry
            simp only at cy fy hR
            refine t_g @c2 ?_
            refine t_c4 (j2 @hsub @hfd) ref05_sub_ok cx cy (mk_app_ok subT [x, y]) ?_
            repeat (first | refine W_seq ?_ | refine W_skip ?_ | refine W_block ?_ | refine W_inBlock ?_ | refine W_label ?_ | refine W_exit rfl ?_)
            first | refine W_retR hP hf hfn _ ([(b, deck l qy)]) (by first | (simp [go_sem, hP, hgl, hn]; done) | (simp [go_sem, hP, hgl, hn]; rfl)) (by simp [go_sem, hP, hgl, hn]) (by simp) ?_ hR.2 | refine W_endR hP hf hfn _ ([(b, deck l qy)]) (by first | (simp [go_sem, hP, hgl, hn]; done) | (simp [go_sem, hP, hgl, hn]; rfl)) (by simp [go_sem, hP, hgl, hn]) (by simp) ?_ hR.2
            rw [hR.1]
            refine ⟨?_, by simp⟩
            try simp
            try all_goals (simp [Ty.dv, Ty.cells_eq, Ty.kind_mk, Ty.args_mk, Tm.dv, Tm.cells_eq, Tm.kind_mk, Tm.index_mk, Tm.type_mk, Tm.args_mk, Val.dv, Val.cells_eq, Val.kind_mk, Val.num_mk, Val.list_mk, Val.args_mk, ints])
          rw [if_neg c2] at hR
          have hb3 := nextD_bd (l := l) (p := q5) (n := 3) (by decide)
          obtain ⟨m, hm⟩ : ∃ m : Nat, (nextD l q5 3).1 = m := ⟨_, (Int.toNat_of_nonneg hb3.1).symm⟩
          rw [hm] at hb3
          by_cases c3 : c = 3
          · refine t_g @c3 ?_
            refine t_c2 @hm (next_ok b l q5 3 (by decide) (by omega)) (mk_num_ok m (by omega)) ?_
            repeat (first | refine W_seq ?_ | refine W_skip ?_ | refine W_block ?_ | refine W_inBlock ?_ | refine W_label ?_ | refine W_exit rfl ?_)
            first | refine W_retR hP hf hfn _ ([(b, deck l (nextD l q5 3).2)]) (by first | (simp [go_sem, hP, hgl, hn, numD, hm]; done) | (simp [go_sem, hP, hgl, hn, numD, hm]; rfl)) (by simp [go_sem, hP, hgl, hn, numD, hm]) (by simp) ?_ hR.2 | refine W_endR hP hf hfn _ ([(b, deck l (nextD l q5 3).2)]) (by first | (simp [go_sem, hP, hgl, hn, numD, hm]; done) | (simp [go_sem, hP, hgl, hn, numD, hm]; rfl)) (by simp [go_sem, hP, hgl, hn, numD, hm]) (by simp) ?_ hR.2
            rw [hR.1]
            refine ⟨?_, by simp [numD, hm]⟩
            try simp [numD, hm]
            try all_goals (simp [Ty.dv, Ty.cells_eq, Ty.kind_mk, Ty.args_mk, Tm.dv, Tm.cells_eq, Tm.kind_mk, Tm.index_mk, Tm.type_mk, Tm.args_mk, Val.dv, Val.cells_eq, Val.kind_mk, Val.num_mk, Val.list_mk, Val.args_mk, ints])
          · have c4 : c = 4 := by omega
            refine t_g @c4 ?_
            refine t_c2 @hm (next_ok b l q5 3 (by decide) (by omega)) (mk_num_ok m (by omega)) ?_
            repeat (first | refine W_seq ?_ | refine W_skip ?_ | refine W_block ?_ | refine W_inBlock ?_ | refine W_label ?_ | refine W_exit rfl ?_)
            first | refine W_retR hP hf hfn _ ([(b, deck l (nextD l q5 3).2)]) (by first | (simp [go_sem, hP, hgl, hn, numD, hm]; done) | (simp [go_sem, hP, hgl, hn, numD, hm]; rfl)) (by simp [go_sem, hP, hgl, hn, numD, hm]) (by simp) ?_ hR.2 | refine W_endR hP hf hfn _ ([(b, deck l (nextD l q5 3).2)]) (by first | (simp [go_sem, hP, hgl, hn, numD, hm]; done) | (simp [go_sem, hP, hgl, hn, numD, hm]; rfl)) (by simp [go_sem, hP, hgl, hn, numD, hm]) (by simp) ?_ hR.2
            rw [hR.1]
            refine ⟨?_, by simp [numD, hm]⟩
            try simp [numD, hm]
            try all_goals (simp [Ty.dv, Ty.cells_eq, Ty.kind_mk, Ty.args_mk, Tm.dv, Tm.cells_eq, Tm.kind_mk, Tm.index_mk, Tm.type_mk, Tm.args_mk, Val.dv, Val.cells_eq, Val.kind_mk, Val.num_mk, Val.list_mk, Val.args_mk, ints])
        · rw [if_neg (by omega), if_pos h] at hR
          rw [h] at hfd
          have hb2 := nextD_bd (l := l) (p := r) (n := 2) (by decide)
          refine t_g @h ?_
          generalize hd2 : nextD l r 2 = d at *
          obtain ⟨c, q2⟩ := d
          have cn := next_ok (gl := gl) b l r 2 (by decide) (by omega)
          rw [hd2] at cn
          simp only at hR hb2 h2q cn
          by_cases c0 : c = 0
          · rw [if_pos c0] at hR
            have cx := ihn (Ty.mk 1 []) (g) q2 small_nat hg (by omega) h2q
            have fx := (hD (Ty.mk 1 []) (g) q2 small_nat hg h2q).1
            generalize hex : termD l n (Ty.mk 1 []) (g) q2 = rx at cx fx hR
            obtain ⟨x, qx⟩ := rx
            simp only at cx fx hR
            have cy := ihn (t) (g) qx ht hg (by omega) fx
            have fy := (hD (t) (g) qx ht hg fx).1
            generalize hey : termD l n (t) (g) qx = ry at cy fy hR
            obtain ⟨y, qy⟩ := ry
            simp only at cy fy hR
            refine t_c1 (j2 @hz2 @c0) cn ?_
            refine t_g @c0 ?_
            refine t_c4 (j2 @hsub (j2 @nat_v @hfd)) ref01_nat_ok cx cy (ref02_n_ok 8 [x, y]) ?_
            repeat (first | refine W_seq ?_ | refine W_skip ?_ | refine W_block ?_ | refine W_inBlock ?_ | refine W_label ?_ | refine W_exit rfl ?_)
            first | refine W_retR hP hf hfn _ ([(b, deck l qy)]) (by first | (simp [go_sem, hP, hgl, hn, nT]; done) | (simp [go_sem, hP, hgl, hn, nT]; rfl)) (by simp [go_sem, hP, hgl, hn, nT]) (by simp) ?_ hR.2 | refine W_endR hP hf hfn _ ([(b, deck l qy)]) (by first | (simp [go_sem, hP, hgl, hn, nT]; done) | (simp [go_sem, hP, hgl, hn, nT]; rfl)) (by simp [go_sem, hP, hgl, hn, nT]) (by simp) ?_ hR.2
            rw [hR.1]
            refine ⟨?_, by simp [nT]⟩
            try simp [nT]
            try all_goals (simp [Ty.dv, Ty.cells_eq, Ty.kind_mk, Ty.args_mk, Tm.dv, Tm.cells_eq, Tm.kind_mk, Tm.index_mk, Tm.type_mk, Tm.args_mk, Val.dv, Val.cells_eq, Val.kind_mk, Val.num_mk, Val.list_mk, Val.args_mk, ints])
          · rw [if_neg c0] at hR
            refine t_c1 (j2 @hz2 @c0) cn ?_
            refine t_g @c0 ?_
            refine t_c1 trivial (ref02_n_ok 7 []) ?_
            repeat (first | refine W_seq ?_ | refine W_skip ?_ | refine W_block ?_ | refine W_inBlock ?_ | refine W_label ?_ | refine W_exit rfl ?_)
            first | refine W_retR hP hf hfn _ ([(b, deck l q2)]) (by first | (simp [go_sem, hP, hgl, hn, nT]; done) | (simp [go_sem, hP, hgl, hn, nT]; rfl)) (by simp [go_sem, hP, hgl, hn, nT]) (by simp) ?_ hR.2 | refine W_endR hP hf hfn _ ([(b, deck l q2)]) (by first | (simp [go_sem, hP, hgl, hn, nT]; done) | (simp [go_sem, hP, hgl, hn, nT]; rfl)) (by simp [go_sem, hP, hgl, hn, nT]) (by simp) ?_ hR.2
            rw [hR.1]
            refine ⟨?_, by simp [nT]⟩
            try simp [nT]
            try all_goals (simp [Ty.dv, Ty.cells_eq, Ty.kind_mk, Ty.args_mk, Tm.dv, Tm.cells_eq, Tm.kind_mk, Tm.index_mk, Tm.type_mk, Tm.args_mk, Val.dv, Val.cells_eq, Val.kind_mk, Val.num_mk, Val.list_mk, Val.args_mk, ints])
        · rw [if_neg (by omega), if_neg (by omega), if_neg (by omega), if_neg (by omega)] at hR
          refine t_g @h ?_
          refine t_c1 trivial (ref02_n_ok 13 []) ?_
          repeat (first | refine W_seq ?_ | refine W_skip ?_ | refine W_block ?_ | refine W_inBlock ?_ | refine W_label ?_ | refine W_exit rfl ?_)
          first | refine W_retR hP hf hfn _ ([(b, deck l r)]) (by first | (simp [go_sem, hP, hgl, hn, nT]; done) | (simp [go_sem, hP, hgl, hn, nT]; rfl)) (by simp [go_sem, hP, hgl, hn, nT]) (by simp) ?_ hR.2 | refine W_endR hP hf hfn _ ([(b, deck l r)]) (by first | (simp [go_sem, hP, hgl, hn, nT]; done) | (simp [go_sem, hP, hgl, hn, nT]; rfl)) (by simp [go_sem, hP, hgl, hn, nT]) (by simp) ?_ hR.2
          rw [hR.1]
          refine ⟨?_, by simp [nT]⟩
          try simp [nT]
          try all_goals (simp [Ty.dv, Ty.cells_eq, Ty.kind_mk, Ty.args_mk, Tm.dv, Tm.cells_eq, Tm.kind_mk, Tm.index_mk, Tm.type_mk, Tm.args_mk, Val.dv, Val.cells_eq, Val.kind_mk, Val.num_mk, Val.list_mk, Val.args_mk, ints])
        · rw [if_neg (by omega), if_neg (by omega), if_pos h] at hR
          obtain ⟨s0, s1, hc⟩ := ht.arg (.inl h)
          have ha : t.args = [t.arg 0, t.arg 1] := by rw [e]; rfl
          have cx := ihn (t.arg 0) (g) r s0 hg (by omega) hr
          have fx := (hD (t.arg 0) (g) r s0 hg hr).1
          generalize hex : termD l n (t.arg 0) (g) r = rx at cx fx hR
          obtain ⟨x, qx⟩ := rx
          simp only at cx fx hR
          have cy := ihn (t.arg 1) (g) qx s1 hg (by omega) fx
          have fy := (hD (t.arg 1) (g) qx s1 hg fx).1
          generalize hey : termD l n (t.arg 1) (g) qx = ry at cy fy hR
          obtain ⟨y, qy⟩ := ry
          simp only at cy fy hR
          refine t_g @h ?_
          refine t_c3 (j2 @hsub @ha) cx cy (ref02_n_ok 10 [x, y]) ?_
          repeat (first | refine W_seq ?_ | refine W_skip ?_ | refine W_block ?_ | refine W_inBlock ?_ | refine W_label ?_ | refine W_exit rfl ?_)
          first | refine W_retR hP hf hfn _ ([(b, deck l qy)]) (by first | (simp [go_sem, hP, hgl, hn, nT]; done) | (simp [go_sem, hP, hgl, hn, nT]; rfl)) (by simp [go_sem, hP, hgl, hn, nT]) (by simp) ?_ hR.2 | refine W_endR hP hf hfn _ ([(b, deck l qy)]) (by first | (simp [go_sem, hP, hgl, hn, nT]; done) | (simp [go_sem, hP, hgl, hn, nT]; rfl)) (by simp [go_sem, hP, hgl, hn, nT]) (by simp) ?_ hR.2
          rw [hR.1]
          refine ⟨?_, by simp [nT]⟩
          try simp [nT]
          try all_goals (simp [Ty.dv, Ty.cells_eq, Ty.kind_mk, Ty.args_mk, Tm.dv, Tm.cells_eq, Tm.kind_mk, Tm.index_mk, Tm.type_mk, Tm.args_mk, Val.dv, Val.cells_eq, Val.kind_mk, Val.num_mk, Val.list_mk, Val.args_mk, ints])
        · rw [if_neg (by omega), if_neg (by omega), if_neg (by omega), if_pos h] at hR
          obtain ⟨s0, s1, hc⟩ := ht.arg (.inr h)
          have ha : t.args = [t.arg 0, t.arg 1] := by rw [e]; rfl
          have cx := ihn (t.arg 1) (g ++ [t.arg 0]) r s1 (hg1 [t.arg 0] (by simpa using s0)) (by simp; omega) hr
          have fx := (hD (t.arg 1) (g ++ [t.arg 0]) r s1 (hg1 [t.arg 0] (by simpa using s0)) hr).1
          generalize hex : termD l n (t.arg 1) (g ++ [t.arg 0]) r = rx at cx fx hR
          obtain ⟨x, qx⟩ := rx
          simp only at cx fx hR
          refine t_g @h ?_
          refine t_c3 (j2 @hsub @ha) (mk_longer_ok g [t.arg 0] (by simp; omega)) cx (ref02_t_ok 2 (t.arg 0) [x]) ?_
          repeat (first | refine W_seq ?_ | refine W_skip ?_ | refine W_block ?_ | refine W_inBlock ?_ | refine W_label ?_ | refine W_exit rfl ?_)
          first | refine W_retR hP hf hfn _ ([(b, deck l qx)]) (by first | (simp [go_sem, hP, hgl, hn]; done) | (simp [go_sem, hP, hgl, hn]; rfl)) (by simp [go_sem, hP, hgl, hn]) (by simp) ?_ hR.2 | refine W_endR hP hf hfn _ ([(b, deck l qx)]) (by first | (simp [go_sem, hP, hgl, hn]; done) | (simp [go_sem, hP, hgl, hn]; rfl)) (by simp [go_sem, hP, hgl, hn]) (by simp) ?_ hR.2
          rw [hR.1]
          refine ⟨?_, by simp⟩
          try simp
          try all_goals (simp [Ty.dv, Ty.cells_eq, Ty.kind_mk, Ty.args_mk, Tm.dv, Tm.cells_eq, Tm.kind_mk, Tm.index_mk, Tm.type_mk, Tm.args_mk, Val.dv, Val.cells_eq, Val.kind_mk, Val.num_mk, Val.list_mk, Val.args_mk, ints])
  · rw [hpk] at hR
    simp only at hR
    obtain ⟨h0, h1, k, i, hk, hi, rfl, rfl⟩ := pickD_some' hpk
    have hpos : 0 < (varsN g t).length := by omega
    have hpos3 : 0 < (nextD l p 3).1 := by omega
    have hgi := ints_get (l := natI (varsN g t)) (i := k) (n := i) (by simp [natI, hi])
    have hkl := (List.getElem?_eq_some_iff.1 hi).1
    refine t_g0 ?_
    refine t_c1 trivial (mk_vars_ok g t (by omega)) ?_
    refine t_g0 ?_
    refine t_c1 (j2 @natI_len (j2 @hpos @hpos3)) (next_ok b l p 3 (by decide) (by omega)) ?_
    refine t_g @hpos3 ?_
    refine t_c2 (j2 @natI_len (j2 @hk @hgi)) (next_ok b l (nextD l p 3).2 (varsN g t).length (by omega) (by omega)) (ref02_var_ok i) ?_
    repeat (first | refine W_seq ?_ | refine W_skip ?_ | refine W_block ?_ | refine W_inBlock ?_ | refine W_label ?_ | refine W_exit rfl ?_)
    first | refine W_retR hP hf hfn _ ([(b, deck l (nextD l (nextD l p 3).2 (varsN g t).length).2)]) (by first | (simp [go_sem, hP, hgl, hn, vT]; done) | (simp [go_sem, hP, hgl, hn, vT]; rfl)) (by simp [go_sem, hP, hgl, hn, vT]) (by simp) ?_ hR.2 | refine W_endR hP hf hfn _ ([(b, deck l (nextD l (nextD l p 3).2 (varsN g t).length).2)]) (by first | (simp [go_sem, hP, hgl, hn, vT]; done) | (simp [go_sem, hP, hgl, hn, vT]; rfl)) (by simp [go_sem, hP, hgl, hn, vT]) (by simp) ?_ hR.2
    rw [hR.1]
    refine ⟨?_, by simp [vT]⟩
    try simp [vT]
    try all_goals (simp [Ty.dv, Ty.cells_eq, Ty.kind_mk, Ty.args_mk, Tm.dv, Tm.cells_eq, Tm.kind_mk, Tm.index_mk, Tm.type_mk, Tm.args_mk, Val.dv, Val.cells_eq, Val.kind_mk, Val.num_mk, Val.list_mk, Val.args_mk, ints])
end Go.Proofs.YtiacandbafjlfaaGreatDoor.Lift

namespace Go.Proofs.YtiacandbafjlfaaGreatDoor.Lift
set_option linter.unusedSimpArgs false
set_option linter.unusedVariables false
set_option linter.unnecessarySimpa false
open Go
variable {gl : Globs}

theorem sc_var_ok (i : Int) : Con1 Tryz.prog gl 85 [dint i] [] (vT i).dv [] := by
  refine t_in Tryz.func85 ?_
  intro X hP hgl hf hfn hn hR hids hfit
  refine t_g0 ?_
  refine t_r ?_
  simp [go_sem, hP, hgl, hn, vT] <;> (try omega)
  all_goals exact t_f
theorem sc_nat_ok : Con1 Tryz.prog gl 77 [] [] natY.dv [] := by
  refine t_in Tryz.func77 ?_
  intro X hP hgl hf hfn hn hR hids hfit
  refine t_g0 ?_
  refine t_r ?_
  simp [go_sem, hP, hgl, hn, natY] <;> (try omega)
  all_goals exact t_f
theorem sc_unit_ok : Con1 Tryz.prog gl 88 [] [] (nT 13 []).dv [] := by
  refine t_in Tryz.func88 ?_
  intro X hP hgl hf hfn hn hR hids hfit
  refine t_g0 ?_
  refine t_r ?_
  simp [go_sem, hP, hgl, hn, nT] <;> (try omega)
  all_goals exact t_f
theorem types_check_ok (t : Ty) (hc : t.count ≤ 2147483648) : Con1 Tryz.prog gl 40 [t.dv] [] (dint t.checkN) [] := by
  refine t_in Tryz.func40 ?_
  intro X hP hgl hf hfn hn hR hids hfit
  refine t_g0 ?_
  refine t_c1 trivial (checktype_ok t hc) ?_
  refine t_g0 ?_
  refine t_r ?_
  simp [go_sem, hP, hgl, hn] <;> (try omega)

theorem sc_nodes_ok (t : Tm) (hc : t.count ≤ 1073741824) : Con1 Tryz.prog gl 140 [t.dv] [] (dint t.count) [] := by
  induction t using Tm.ind with
  | h t ih =>
  refine t_in Tryz.func140 ?_
  intro X hP hgl hf hfn hn hR hids hfit
  have hl1 := Tm.fit_len (hfit t.dv (by simp))
  have hcv := Tm.count_eq t
  refine t_g0 ?_
  refine t_a ?_
  refine W_sub [] (by simp [go_sem]) (by simp [go_sem, Tm.count.counts] <;> omega) (by simp [go_sem]) (W_list (t.args) (fun done rest => [(.slot 9, .one (.v (dint done.length))), (.slot 8, .one (.v (dint t.args.length))), (.slot 7, .one (.v (.sl (t.args.map Tm.cells)))), (.slot 3, .one (.v (dint (1 + Tm.count.counts done : Nat)))), (.slot 2, .one (.v (dint 0)))]) ?_ ?_)
  · intro done x rest hL hg0 hnext
    have hlt : done.length < t.args.length := by rw [hL]; simp
    have hxm := List.mem_of_getElem? hg0
    have hca := Tm.counts_append done (x :: rest)
    have hcs := Tm.counts_append done [x]
    rw [← hL] at hca
    simp only [Tm.count.counts] at hca hcs
    refine t_rg0 ?_
    refine t_yes ?_
    refine t_g @hg0 ?_
    refine t_c1 @hg0 (ih x hxm (by omega)) ?_
    refine t_gt (wr []) @hcs trivial hnext
  · refine t_rg0 ?_
    refine t_no ?_
    refine t_g0 ?_
    refine t_r ?_
    simp [go_sem, hP, hgl, hn, hcv] <;> (try omega)

/-- no index is greater than 2^28 -/
theorem sc_far_ok (t : Tm) : Con1 Tryz.prog gl 46 [t.dv] [] (dbool (!t.leastN 268435456)) [] := by
  induction t using Tm.ind with
  | h t ih =>
  refine t_in Tryz.func46 ?_
  intro X hP hgl hf hfn hn hR hids hfit
  have hl1 := Tm.fit_len (hfit t.dv (by simp))
  rw [Tm.leastN_eq] at hR
  by_cases h : 268435456 < t.index
  · refine t_g @h ?_
    refine t_r ?_
    simp [go_sem, hP, hgl, hn, h] <;> (try omega)
  · refine t_g @h ?_
    refine t_a ?_
    refine t_sub [] trivial (W_listI (t.args) (fun done => Tm.leastN.leasts done 268435456 = true) (fun done rest => [(.slot 11, .one (.v (dint done.length))), (.slot 10, .one (.v (dint t.args.length))), (.slot 9, .one (.v (.sl (t.args.map Tm.cells))))]) (rfl) ?_ ?_)
    · intro done x rest hL hg0 hI hnext
      have hlt : done.length < t.args.length := by rw [hL]; simp
      have hxm := List.mem_of_getElem? hg0
      refine t_rg0 ?_
      refine t_yes ?_
      refine t_g @hg0 ?_
      refine t_c1 @hg0 (ih x hxm) ?_
      by_cases hx : x.leastN 268435456 = true
      · refine t_gt (wr []) trivial @hx (hnext (by rw [Tm.leasts_append, hI]; simp [Tm.leastN.leasts, hx]))
      · have hx' : x.leastN 268435456 = false := by simpa using hx
        have hall : Tm.leastN.leasts t.args 268435456 = false := by rw [hL, Tm.leasts_append]; simp [Tm.leastN.leasts, hx']
        refine t_g @hx' ?_
        refine t_r ?_
        simp [go_sem, hP, hgl, hn, hall] <;> (try omega)
    · intro hI
      refine t_rg0 ?_
      refine t_no ?_
      refine t_g0 ?_
      refine t_r ?_
      simp [go_sem, hP, hgl, hn, hI, h] <;> (try omega)

theorem sc_build_ok (k : Int) (s : Ty) (l : List Tm) (hc : (Tm.mk k 0 s l).count ≤ 1073741824) : Con1 Tryz.prog gl 120 [dint k, s.dv, .sl (l.map Tm.cells)] [] (.tup [(buildN k s l).1.dv, dint (buildN k s l).2]) [] := by
  refine t_in Tryz.func120 ?_
  intro X hP hgl hf hfn hn hR hids hfit
  have hfm := Tm.fold_mk k 0 s l
  refine t_g0 ?_
  refine t_c1 @hfm (sc_nodes_ok (Tm.mk k 0 s l) hc) ?_
  by_cases h : 4096 < (Tm.mk k 0 s l).count
  · refine t_g @h ?_
    refine t_r ?_
    simp [go_sem, hP, hgl, hn, buildN, h, zeroTm] <;> (try omega)
    all_goals exact t_f
  · refine t_g @h ?_
    refine t_r ?_
    simp [go_sem, hP, hgl, hn, buildN, h] <;> (try omega)
    all_goals exact t_f

theorem sc_lift_ok (t : Tm) (f b : Int) (hs : t.shape = true) (hi : t.idx 549755813888) (hb1 : 0 ≤ b) (hb2 : b ≤ 1048576) (hf0 : 0 ≤ f) (hfc : f + t.count ≤ 549755813888) : Con1 Tryz.prog gl 86 [t.dv, dint f, dint b] [] (t.upN f b).dv [] := by
  induction t using Tm.ind generalizing f with
  | h t ih =>
  have hct := Tm.count_eq t
  have hbd := bindI_le t.kind
  have hix := (Tm.idx_eq t _).1 hi
  obtain ⟨hlen0, -, -, -, hsa⟩ := Tm.shape_node hs
  refine t_in Tryz.func86 ?_
  intro X hP hgl hf hfn hn hR hids hfit
  have hlen := Tm.fit_len (hfit t.dv (by simp))
  have hfd := Tm.fold t
  by_cases h0 : b = 0
  · rw [h0, up_zero] at hR
    refine t_g @h0 ?_
    refine t_r ?_
    simp [go_sem, hP, hgl, hn] <;> (try omega)
    all_goals exact t_f
  by_cases h1 : t.kind = 1
  · have ha : t.args = [] := by rw [h1] at hlen0; simp [arityI] at hlen0; exact hlen0
    rw [Tm.upN_eq, ha] at hR
    by_cases h2 : f ≤ t.index
    · refine t_g (j2 @h0 (j2 @h1 @h2)) ?_
      refine t_r ?_
      simp [go_sem, hP, hgl, hn, h1, h2, ha] <;> (try omega)
      all_goals (simp [Ty.dv, Ty.cells_eq, Ty.kind_mk, Ty.args_mk, Tm.dv, Tm.cells_eq, Tm.kind_mk, Tm.index_mk, Tm.type_mk, Tm.args_mk, Val.dv, Val.cells_eq, Val.kind_mk, Val.num_mk, Val.list_mk, Val.args_mk, ints])
    · refine t_g (j2 @h0 (j2 @h1 @h2)) ?_
      refine t_r ?_
      simp [go_sem, hP, hgl, hn, h1, h2, ha] <;> (try omega)
      all_goals (simp [Ty.dv, Ty.cells_eq, Ty.kind_mk, Ty.args_mk, Tm.dv, Tm.cells_eq, Tm.kind_mk, Tm.index_mk, Tm.type_mk, Tm.args_mk, Val.dv, Val.cells_eq, Val.kind_mk, Val.num_mk, Val.list_mk, Val.args_mk, ints])
  rw [Tm.upN_eq, if_neg (fun h => h1 h.1)] at hR
  apply W_cutX [(.slot 36, .one (.v (dint 0))), (.slot 35, .one (.v (dint t.args.length))), (.slot 34, .one (.v (.sl (t.args.map Tm.cells)))), (.loc 7, .row ([.v (dint t.kind), .v (dint t.index), .v (dint t.type.kind), .v (.sl (t.type.args.map Ty.cells)), .own 0 []])), (.slot 7, .one (.loc 7 0)), (.slot 1, .one (.v (dint (f + bindI t.kind)))), (.slot 2, .one (.v (dint b))), (.loc 6, .row ([.v (dint 0), .v (dint 0), .v (dint 0), .own 0 [], .own 0 []])), (.slot 6, .one (.loc 6 0))]
  · intro hrest
    by_cases h2 : t.kind = 2
    · have hbi : bindI 2 = 1 := rfl
      refine t_g (j2 @h0 (j2 @h1 @h2)) ?_
      refine t_b ?_
      refine t_sub [] (j2 @hbi @h2) hrest
    · have hbi : bindI t.kind = 0 := by simp [bindI, h2]
      refine t_g (j2 @h0 (j2 @h1 @h2)) ?_
      refine t_b ?_
      refine t_sub [] (j2 @hbi @h2) hrest
  · refine t_a ?_
    refine t_sub [(1007, 0)] trivial (W_list (t.args) (fun done rest => [(.slot 36, .one (.v (dint done.length))), (.slot 35, .one (.v (dint t.args.length))), (.slot 34, .one (.v (.sl (t.args.map Tm.cells)))), (.loc 7, .row ([.v (dint t.kind), .v (dint t.index), .v (dint t.type.kind), .v (.sl (t.type.args.map Ty.cells)), .own 1007 (done.map fun x => (x.upN (f + bindI t.kind) b).cells)])), (.slot 7, .one (.loc 7 0)), (.tok 1007, .tk 5 done.length), (.slot 1, .one (.v (dint (f + bindI t.kind)))), (.slot 2, .one (.v (dint b))), (.loc 6, .row ([.v (dint 0), .v (dint 0), .v (dint 0), .own 0 [], .own 0 []])), (.slot 6, .one (.loc 6 0))]) ?_ ?_)
    · intro done x rest hL hg0 hnext
      have hlt : done.length < t.args.length := by rw [hL]; simp
      have hxm := List.mem_of_getElem? hg0
      have hcs := Tm.count_mem hxm
      refine t_rg0 ?_
      refine t_yes ?_
      refine t_g @hg0 ?_
      refine t_c1 @hg0 (ih x hxm (f + bindI t.kind) (hsa x hxm) (hix.2 x hxm) (by omega) (by omega)) ?_
      refine t_gt (wr [(1007, 47)]) (Tm.cells_eq (x.upN (f + bindI t.kind) b)) trivial hnext
    · refine t_rg0 ?_
      refine t_no ?_
      refine t_g0 ?_
      refine t_r ?_
      simp [go_sem, hP, hgl, hn] <;> (try omega)
      simp [Tm.dv, Tm.cells_eq, Tm.kind_mk, Tm.index_mk, Tm.type_mk, Tm.args_mk]

/-! the maker: an object that holds its error -/
abbrev mk1 (e : Int) : List DV := [dint e]

theorem node_walk (b : Nat) (e k : Int) (s : Ty) (l : List Tm) (hc : (Tm.mk k 0 s l).count ≤ 1073741824) :
    Con1 Tryz.prog gl 87 [ptr b, dint k, s.dv, .sl (l.map Tm.cells)] [(b, mk1 e)] (nodeE e k s l).1.dv [(b, mk1 (nodeE e k s l).2)] := by
  refine t_in Tryz.func87 ?_
  intro X hP hgl hf hfn hn hR hids hfit
  by_cases h : e = 0
  · have hne : nodeE e k s l = buildN k s l := by unfold nodeE; rw [if_pos h]
    rw [hne] at hR
    refine t_g @h ?_
    refine t_c1 @h (sc_build_ok k s l hc) ?_
    by_cases h2 : (buildN k s l).2 = 0
    · refine t_g @h2 ?_
      repeat (first | refine W_seq ?_ | refine W_skip ?_ | refine W_block ?_ | refine W_inBlock ?_ | refine W_label ?_ | refine W_exit rfl ?_)
      first | refine W_retR hP hf hfn _ ([(b, mk1 0)]) (by first | (simp [go_sem, hP, hgl, hn, h2]; done) | (simp [go_sem, hP, hgl, hn, h2]; rfl)) (by simp [go_sem, hP, hgl, hn, h2]) (by simp) ?_ hR.2 | refine W_endR hP hf hfn _ ([(b, mk1 0)]) (by first | (simp [go_sem, hP, hgl, hn, h2]; done) | (simp [go_sem, hP, hgl, hn, h2]; rfl)) (by simp [go_sem, hP, hgl, hn, h2]) (by simp) ?_ hR.2
      rw [hR.1]
      refine ⟨?_, by simp [h2]⟩
      try simp [h2]
      try all_goals (simp [Ty.dv, Ty.cells_eq, Ty.kind_mk, Ty.args_mk, Tm.dv, Tm.cells_eq, Tm.kind_mk, Tm.index_mk, Tm.type_mk, Tm.args_mk, Val.dv, Val.cells_eq, Val.kind_mk, Val.num_mk, Val.list_mk, Val.args_mk, ints])
    · refine t_g @h2 ?_
      repeat (first | refine W_seq ?_ | refine W_skip ?_ | refine W_block ?_ | refine W_inBlock ?_ | refine W_label ?_ | refine W_exit rfl ?_)
      first | refine W_retR hP hf hfn _ ([(b, mk1 (buildN k s l).2)]) (by first | (simp [go_sem, hP, hgl, hn]; done) | (simp [go_sem, hP, hgl, hn]; rfl)) (by simp [go_sem, hP, hgl, hn]) (by simp) ?_ hR.2 | refine W_endR hP hf hfn _ ([(b, mk1 (buildN k s l).2)]) (by first | (simp [go_sem, hP, hgl, hn]; done) | (simp [go_sem, hP, hgl, hn]; rfl)) (by simp [go_sem, hP, hgl, hn]) (by simp) ?_ hR.2
      rw [hR.1]
      refine ⟨?_, by simp⟩
      try simp
      try all_goals (simp [Ty.dv, Ty.cells_eq, Ty.kind_mk, Ty.args_mk, Tm.dv, Tm.cells_eq, Tm.kind_mk, Tm.index_mk, Tm.type_mk, Tm.args_mk, Val.dv, Val.cells_eq, Val.kind_mk, Val.num_mk, Val.list_mk, Val.args_mk, ints])
  · have hne : nodeE e k s l = (zeroTm, e) := by unfold nodeE; rw [if_neg h]
    rw [hne] at hR
    refine t_g @h ?_
    repeat (first | refine W_seq ?_ | refine W_skip ?_ | refine W_block ?_ | refine W_inBlock ?_ | refine W_label ?_ | refine W_exit rfl ?_)
    first | refine W_retR hP hf hfn _ ([(b, mk1 e)]) (by first | (simp [go_sem, hP, hgl, hn, zeroTm]; done) | (simp [go_sem, hP, hgl, hn, zeroTm]; rfl)) (by simp [go_sem, hP, hgl, hn, zeroTm]) (by simp) ?_ hR.2 | refine W_endR hP hf hfn _ ([(b, mk1 e)]) (by first | (simp [go_sem, hP, hgl, hn, zeroTm]; done) | (simp [go_sem, hP, hgl, hn, zeroTm]; rfl)) (by simp [go_sem, hP, hgl, hn, zeroTm]) (by simp) ?_ hR.2
    rw [hR.1]
    refine ⟨?_, by simp [zeroTm]⟩
    try simp [zeroTm]
    try all_goals (simp [Ty.dv, Ty.cells_eq, Ty.kind_mk, Ty.args_mk, Tm.dv, Tm.cells_eq, Tm.kind_mk, Tm.index_mk, Tm.type_mk, Tm.args_mk, Val.dv, Val.cells_eq, Val.kind_mk, Val.num_mk, Val.list_mk, Val.args_mk, ints])

theorem plain_walk (b : Nat) (e k : Int) (l : List Tm) (hc : (Tm.mk k 0 zY l).count ≤ 1073741824) :
    Con1 Tryz.prog gl 84 [ptr b, dint k, .sl (l.map Tm.cells)] [(b, mk1 e)] (nodeE e k zY l).1.dv [(b, mk1 (nodeE e k zY l).2)] := by
  refine t_in Tryz.func84 ?_
  intro X hP hgl hf hfn hn hR hids hfit
  have hz0 : DV.agg [dint 0, DV.sl []] = zY.dv := rfl
  refine t_g0 ?_
  refine t_c1 @hz0 (node_walk b e k zY l hc) ?_
  repeat (first | refine W_seq ?_ | refine W_skip ?_ | refine W_block ?_ | refine W_inBlock ?_ | refine W_label ?_ | refine W_exit rfl ?_)
  first | refine W_retR hP hf hfn _ ([(b, mk1 (nodeE e k zY l).2)]) (by first | (simp [go_sem, hP, hgl, hn]; done) | (simp [go_sem, hP, hgl, hn]; rfl)) (by simp [go_sem, hP, hgl, hn]) (by simp) ?_ hR.2 | refine W_endR hP hf hfn _ ([(b, mk1 (nodeE e k zY l).2)]) (by first | (simp [go_sem, hP, hgl, hn]; done) | (simp [go_sem, hP, hgl, hn]; rfl)) (by simp [go_sem, hP, hgl, hn]) (by simp) ?_ hR.2
  rw [hR.1]
  refine ⟨?_, by simp⟩
  try simp
  try all_goals (simp [Ty.dv, Ty.cells_eq, Ty.kind_mk, Ty.args_mk, Tm.dv, Tm.cells_eq, Tm.kind_mk, Tm.index_mk, Tm.type_mk, Tm.args_mk, Val.dv, Val.cells_eq, Val.kind_mk, Val.num_mk, Val.list_mk, Val.args_mk, ints])

theorem node_count (e k : Int) (s : Ty) (l : List Tm) : (nodeE e k s l).1.count ≤ 4096 := by
  unfold nodeE buildN
  split
  · split
    · show 1 + 0 ≤ 4096; omega
    · simp only; omega
  · show 1 + 0 ≤ 4096; omega

theorem callE_snoc (e : Int) (f : Tm) (l : List Tm) (x : Tm) : callE e f (l ++ [x]) = nodeE (callE e f l).2 3 zY [(callE e f l).1, x] := by
  induction l generalizing e f with
  | nil => rfl
  | cons a r ih => simp only [List.cons_append, callE, ih]
theorem callE_count (e : Int) (f : Tm) (l : List Tm) (hf : f.count ≤ 268435456) : (callE e f l).1.count ≤ 268435456 := by
  induction l generalizing e f with
  | nil => exact hf
  | cons a r ih =>
    have := node_count e 3 zY [f, a]
    exact ih _ _ (by omega)

theorem call_walk (b : Nat) (e : Int) (f : Tm) (l : List Tm) (hfc0 : f.count ≤ 268435456) (hl : ∀ x ∈ l, x.count ≤ 268435456) :
    Con1 Tryz.prog gl 82 [ptr b, f.dv, .sl (l.map Tm.cells)] [(b, mk1 e)] (callE e f l).1.dv [(b, mk1 (callE e f l).2)] := by
  refine t_in Tryz.func82 ?_
  intro X hP hgl hf hfn hn hR hids hfit
  have hlen := sl_len (hfit (.sl (l.map Tm.cells)) (by simp))
  simp only [List.length_map] at hlen
  refine t_g0 ?_
  refine t_a ?_
  refine W_sub [] (by simp [go_sem]) (by simp [go_sem, callE] <;> omega) (by simp [go_sem]) (W_list (l) (fun done rest => [(.slot 11, .one (.v (dint done.length))), (.slot 10, .one (.v (dint l.length))), (.slot 9, .one (.v (.sl (l.map Tm.cells)))), (.slot 0, .one (.v (ptr b))), (.slot 4, .one (.loc 4 0)), (.loc 4, .row ([.v (dint (callE e f done).1.kind), .v (dint (callE e f done).1.index), .v (dint (callE e f done).1.type.kind), .v (.sl ((callE e f done).1.type.args.map Ty.cells)), .v (.sl ((callE e f done).1.args.map Tm.cells))])), (.slot 6, .one (.loc 6 0)), (.loc 6, .row ([.v (dint 0), .v (dint 0), .v (dint 0), .own 0 [], .own 0 []])), (.heap  b, .row ([.v (dint (callE e f done).2)]))]) ?_ ?_)
  · intro done x rest hL hg0 hnext
    have hlt : done.length < l.length := by rw [hL]; simp
    have hxc := hl x (List.mem_of_getElem? hg0)
    have hfc := callE_count e f done hfc0
    have hsn := callE_snoc e f done x
    have hcc : (Tm.mk 3 0 zY [(callE e f done).1, x]).count = 1 + ((callE e f done).1.count + (x.count + 0)) := rfl
    generalize hg : callE e f done = g at *
    have hfx := Tm.fold x
    refine t_rg0 ?_
    refine t_yes ?_
    refine t_g @hg0 ?_
    refine t_c1 (j2 @hg0 @hfx) (plain_walk b g.2 3 [g.1, x] (by omega)) ?_
    refine t_gt (wr []) @hsn trivial hnext
  · refine t_rg0 ?_
    refine t_no ?_
    refine t_g0 ?_
    repeat (first | refine W_seq ?_ | refine W_skip ?_ | refine W_block ?_ | refine W_inBlock ?_ | refine W_label ?_ | refine W_exit rfl ?_)
    first | refine W_retR hP hf hfn _ ([(b, mk1 (callE e f l).2)]) (by first | (simp [go_sem, hP, hgl, hn]; done) | (simp [go_sem, hP, hgl, hn]; rfl)) (by simp [go_sem, hP, hgl, hn]) (by simp) ?_ hR.2 | refine W_endR hP hf hfn _ ([(b, mk1 (callE e f l).2)]) (by first | (simp [go_sem, hP, hgl, hn]; done) | (simp [go_sem, hP, hgl, hn]; rfl)) (by simp [go_sem, hP, hgl, hn]) (by simp) ?_ hR.2
    rw [hR.1]
    refine ⟨?_, by simp⟩
    try simp
    try all_goals (simp [Ty.dv, Ty.cells_eq, Ty.kind_mk, Ty.args_mk, Tm.dv, Tm.cells_eq, Tm.kind_mk, Tm.index_mk, Tm.type_mk, Tm.args_mk, Val.dv, Val.cells_eq, Val.kind_mk, Val.num_mk, Val.list_mk, Val.args_mk, ints])

theorem great1_ok (f x y : Tm) : Con1 Tryz.prog gl 117 [f.dv, x.dv, y.dv] [] (appsT f [x, y]).dv [] := by
  refine t_in Tryz.func117 ?_
  intro X hP hgl hf hfn hn hR hids hfit
  refine t_g0 ?_
  refine t_r ?_
  simp [go_sem, hP, hgl, hn, appsT, appT] <;> (try omega)
  all_goals exact t_f
def wrapT : Nat → Tm → Tm
  | 0, t => t
  | n + 1, t => Tm.mk 2 0 natY [wrapT n t]
theorem great_walk : Con1 Tryz.prog gl 83 [] [] greatT.dv [] := by
  refine t_in Tryz.func83 ?_
  intro X hP hgl hf hfn hn hR hids hfit
  refine t_g0 ?_
  refine t_a ?_
  first | refine W_reg [] fun K hK => ?_ | refine W_regd (by rw [hP]; exact mixed) [] fun K hK => ?_
  refine t_s0 ?_
  refine t_c trivial (plus_ok) ?_
  refine t_c trivial (sc_var_ok 1) ?_
  refine t_c trivial (sub_ok) ?_
  refine t_c trivial (sc_var_ok 0) ?_
  refine t_c trivial (sc_var_ok 1) ?_
  repeat (refine ⟨by omega, ?_⟩)
  refine vcK_callF hP hgl (great1_ok subT (vT 0) (vT 1)) (by simp [go_sem]) (by simp [go_sem, hP, hgl, hn]) rfl (by simp [go_sem]) (by simp) (by rw [hn]; exact Nat.le_of_ble_eq_true rfl) ?_
  simp [go_sem, hP, hgl, hn]
  repeat (refine ⟨by omega, ?_⟩)
  refine vcK_callF hP hgl (great1_ok plusT (vT 1) (appsT subT [vT 0, vT 1])) (by simp [go_sem]) (by simp [go_sem, hP, hgl, hn]) rfl (by simp [go_sem]) (by simp) (by rw [hn]; exact Nat.le_of_ble_eq_true rfl) ?_
  simp [go_sem, hP, hgl, hn]
  refine t_e ?_
  clear hK K
  obtain ⟨bd, hbd⟩ : ∃ bd, bd = appsT plusT [vT 1, appsT subT [vT 0, vT 1]] := ⟨_, rfl⟩
  rw [← hbd]
  refine t_g0 ?_
  refine t_a ?_
  refine W_sub [] (by simp [go_sem]) (by simp [go_sem, wrapT] <;> omega) (by simp [go_sem]) (W_upto (2) (fun i => True) (fun i => [(.slot 12, .one (.v (dint i))), (.loc 2, .row ((wrapT i bd).cells.map .v)), (.slot 2, .one (.loc 2 0)), (.loc 0, .row ([.v (dint 0), .v (dint 0), .v (dint 0), .own 0 [], .own 0 []])), (.slot 0, .one (.loc 0 0))]) (trivial) ?_ ?_)
  · intro i hi _ hnext
    have hfw := Tm.fold (wrapT i bd)
    refine t_rg0 ?_
    refine t_yes ?_
    refine t_g0 ?_
    refine t_c1 @hfw sc_nat_ok ?_
    repeat (first | (refine W_sub [] (by simp [go_sem]) (by simp [go_sem, wrapT, natY] <;> omega) (by simp [go_sem]) (hnext trivial)) | refine W_seq ?_ | refine W_skip ?_ | refine W_block ?_ | refine W_inBlock ?_ | refine W_label ?_ | refine W_exit rfl ?_ | ((first | refine W_reg [] fun K hK => ?_ | refine W_regd (by rw [hP]; exact mixed) [] fun K hK => ?_); simp [go_sem, hP, hgl, hn]; (repeat (refine ⟨by omega, ?_⟩)); (first | refine hK _ ?_ | refine ⟨by rfl, hK _ ?_⟩); clear hK K) | refine W_cond rfl (fun _ => ?_) (fun hq => False.elim (by first | (simp; done) | (simp; omega) | (simp at hq; done) | (simp at hq; omega))) | refine W_cond rfl (fun hq => False.elim (by first | (simp; done) | (simp; omega) | (simp at hq; done) | (simp at hq; omega))) (fun _ => ?_))
  · intro _
    have he : wrapT 2 bd = greatT := by rw [hbd]; rfl
    refine t_rg0 ?_
    refine t_no ?_
    refine t_g0 ?_
    refine t_r ?_
    simp [go_sem, hP, hgl, hn, he] <;> (try omega)
    all_goals exact t_f
end Go.Proofs.YtiacandbafjlfaaGreatDoor.Lift

namespace Go.Proofs.YtiacandbafjlfaaGreatDoor.Lift
set_option linter.unusedSimpArgs false
set_option linter.unusedVariables false
set_option linter.unnecessarySimpa false
open Go
variable {gl : Globs}

theorem maxE_count (y : Ty) (hy : y.ok) (a b : Tm) (e : Int) : (maxE y a b e).1.count ≤ 4096 := by
  rw [maxE_eq y hy]
  have hz : zeroTm.count ≤ 4096 := by decide
  have hu : (nT 13 []).count ≤ 4096 := by decide
  split
  · split
    · exact node_count _ _ _ _
    · split
      · exact node_count _ _ _ _
      · split
        · exact node_count _ _ _ _
        · exact hu
  · exact hz
theorem idx_up {t : Tm} {f b m : Int} (hb : 0 ≤ b) (h : t.idx m) : (t.upN f b).idx (m + b) := by
  induction t using Tm.ind generalizing f with
  | h t ih =>
  rw [Tm.idx_eq] at h
  rw [Tm.upN_eq, Tm.idx_eq, Tm.index_mk, Tm.args_mk]
  refine ⟨?_, ?_⟩
  · split <;> omega
  · intro x hx
    obtain ⟨y, hy, rfl⟩ := List.mem_map.1 hx
    exact ih y hy (h.2 y hy)
theorem shape_up {t : Tm} {f b : Int} (hb : 0 ≤ b) (h : t.shape = true) : (t.upN f b).shape = true := by
  induction t using Tm.ind generalizing f with
  | h t ih =>
  have h0 := h
  rw [Tm.shape_eq, Bool.and_eq_true, Tm.shapes_iff] at h
  rw [Tm.upN_eq, Tm.shape_eq, Bool.and_eq_true, Tm.shapes_iff, Tm.kind_mk, Tm.index_mk, Tm.type_mk, Tm.args_mk, List.length_map]
  refine ⟨?_, ?_⟩
  · have h1 := h.1
    simp only [tmKind, Bool.and_eq_true, Bool.or_eq_true] at h1 ⊢
    obtain ⟨⟨⟨a1, a2⟩, a3⟩, a4⟩ := h1
    have a2 := of_decide_eq_true a2
    refine ⟨⟨⟨a1, ?_⟩, ?_⟩, a4⟩
    · apply decide_eq_true; split <;> omega
    · rcases a3 with a3 | a3
      · exact .inl a3
      · have a3 := of_decide_eq_true a3
        by_cases hk : t.kind = 1
        · exact .inl (decide_eq_true hk)
        · exact .inr (decide_eq_true (by rw [if_neg (fun h => hk h.1)]; exact a3))
  · intro x hx
    obtain ⟨y, hy, rfl⟩ := List.mem_map.1 hx
    exact ih y hy (h.2 y hy)
theorem idx_node {k : Int} {s : Ty} {l : List Tm} {m : Int} (hm : 0 ≤ m) (h : ∀ x ∈ l, x.idx m) : (Tm.mk k 0 s l).idx m := by
  rw [Tm.idx_eq]; exact ⟨⟨Int.le_refl _, hm⟩, h⟩
theorem idx_v {i m : Int} (h0 : 0 ≤ i) (h : i ≤ m) : (vT i).idx m := by
  unfold vT; rw [Tm.idx_eq]; exact ⟨⟨h0, h⟩, fun x hx => by cases hx⟩

/-- a term is as good as it needs be where there is no error -/
def Fine (e : Int) (M : Int) (t : Tm) : Prop := t.count ≤ 268435456 ∧ (e = 0 → t.shape = true ∧ t.idx M)
theorem Fine.mono {e M M' : Int} {t : Tm} (h : Fine e M t) (hM : M ≤ M') : Fine e M' t := ⟨h.1, fun he => ⟨(h.2 he).1, Tm.idx_mono hM (h.2 he).2⟩⟩
theorem fine_node {e k M : Int} {s : Ty} {l : List Tm} (hM : 0 ≤ M) (hs : e = 0 → (Tm.mk k 0 s l).shape = true) (hl : e = 0 → ∀ x ∈ l, x.idx M) : Fine (nodeE e k s l).2 M (nodeE e k s l).1 := by
  refine ⟨by have := node_count e k s l; omega, fun h => ?_⟩
  obtain ⟨h1, h2, -⟩ := node_ok h
  rw [h2]
  exact ⟨hs h1, idx_node hM (hl h1)⟩

theorem Fine.later {e e' M : Int} {t : Tm} (h : Fine e M t) (he : e' = 0 → e = 0) : Fine e' M t := ⟨h.1, fun h' => h.2 (he h')⟩
theorem Fine.beside {e e' M M' : Int} {t u : Tm} (_ : Fine e' M' u) (h : Fine e M t) (he : e' = 0 → e = 0) : Fine e' M t := h.later he
theorem fine_call {M : Int} (hM : 0 ≤ M) : ∀ (l : List Tm) {e : Int} {f : Tm}, Fine e M f → (e = 0 → ∀ x ∈ l, x.shape = true ∧ x.idx M) → Fine (callE e f l).2 M (callE e f l).1
  | [], e, f, hf, _ => hf
  | a :: r, e, f, hf, hl => by
    rw [callE]
    refine fine_call hM r (fine_node hM (fun he => shape_n rfl (by decide) ?_) (fun he => ?_)) fun he x hx => hl (node_ok he).1 x (by simp [hx])
    · intro z hz; simp at hz; rcases hz with rfl | rfl; exact (hf.2 he).1; exact (hl he _ (by simp)).1
    · intro z hz; simp at hz; rcases hz with rfl | rfl; exact (hf.2 he).2; exact (hl he _ (by simp)).2
theorem fine_great {M : Int} (hM : 10 ≤ M) : Fine 0 M greatT := by
  refine ⟨by decide, fun _ => ⟨by decide, Tm.idx_mono hM ?_⟩⟩
  have : ∀ t : Tm, t = greatT → t.idx 10 := by
    rintro t rfl
    simp [greatT, lamT, appsT, appT, plusT, subT, predT, twoT, recT, lamsT, nT, vT, Tm.idx, Tm.idx.idxs]
  exact this _ rfl
theorem fine_v {M : Int} {e i : Int} (h0 : 0 ≤ i) (hM : i ≤ M) : Fine e M (vT i) := by
  refine ⟨by show 1 + 0 ≤ 268435456; omega, fun _ => ⟨?_, idx_v h0 hM⟩⟩
  obtain ⟨n, rfl⟩ : ∃ n : Nat, i = n := ⟨i.toNat, by omega⟩
  exact shape_v
theorem fine_up {e M f b : Int} {t : Tm} (hb : 0 ≤ b) (h : Fine e M t) : Fine e (M + b) (t.upN f b) :=
  ⟨by rw [up_count]; exact h.1, fun he => ⟨shape_up hb (h.2 he).1, idx_up hb (h.2 he).2⟩⟩

theorem fine_n1 {e k M : Int} {x : Tm} (hM : 0 ≤ M) (hk : k = 5 ∨ k = 11 ∨ k = 12) (hx : Fine e M x) : Fine (nodeE e k zY [x]).2 M (nodeE e k zY [x]).1 :=
  fine_node hM (fun he => shape_n (by rcases hk with rfl | rfl | rfl <;> rfl) (by rcases hk with rfl | rfl | rfl <;> decide) (by intro z hz; simp at hz; rw [hz]; exact (hx.2 he).1)) fun he z hz => by simp at hz; rw [hz]; exact (hx.2 he).2
theorem fine_lam {e M : Int} {s : T} {x : Tm} (hs : s.ok) (hM : 0 ≤ M) (hx : Fine e M x) : Fine (nodeE e 2 s.ty [x]).2 M (nodeE e 2 s.ty [x]).1 :=
  fine_node hM (fun he => shape_t rfl (.inl rfl) (T.ok_ty hs) (by intro z hz; simp at hz; rw [hz]; exact (hx.2 he).1)) fun he z hz => by simp at hz; rw [hz]; exact (hx.2 he).2

theorem fine_max : ∀ (a : T) {x y : Tm} {e M : Int}, a.ok → 10 ≤ M → Fine e M x → Fine e M y → Fine (maxE a.ty x y e).2 (M + a.size) (maxE a.ty x y e).1
  | a, x, y, e, M, ho, hM, hx, hy => by
    by_cases h0 : e = 0
    · subst h0
      cases a with
      | nat =>
        rw [maxE_nat]
        exact (fine_call (by omega) _ (fine_great hM) fun _ z hz => by simp at hz; rcases hz with rfl | rfl; exact hx.2 rfl; exact hy.2 rfl).mono (by simp only [T.size]; omega)
      | list => rw [maxE_list]; exact ⟨by show 1 + 0 ≤ 268435456; omega, fun _ => ⟨rfl, idx_node (by simp only [T.size]; omega) (fun z hz => by cases hz)⟩⟩
      | unit => rw [maxE_unit]; exact ⟨by show 1 + 0 ≤ 268435456; omega, fun _ => ⟨rfl, idx_node (by simp only [T.size]; omega) (fun z hz => by cases hz)⟩⟩
      | pair s t =>
        rw [maxE_pair ho]
        simp only [T.ok, T.size] at ho
        have p := fine_n1 (k := 11) (by omega) (.inr (.inl rfl)) hx
        have q := fine_n1 (k := 11) (e := (nodeE 0 11 zY [x]).2) (by omega) (.inr (.inl rfl)) (hy.later fun h => rfl)
        have l := fine_max s (by unfold T.ok; omega) hM (p.later fun h => (node_ok h).1) q
        have p' := fine_n1 (k := 12) (e := (maxE s.ty (nodeE 0 11 zY [x]).1 (nodeE (nodeE 0 11 zY [x]).2 11 zY [y]).1 (nodeE (nodeE 0 11 zY [x]).2 11 zY [y]).2).2) (by omega) (.inr (.inr rfl)) (hx.later fun h => rfl)
        have q' := fine_n1 (k := 12) (e := (nodeE (maxE s.ty (nodeE 0 11 zY [x]).1 (nodeE (nodeE 0 11 zY [x]).2 11 zY [y]).1 (nodeE (nodeE 0 11 zY [x]).2 11 zY [y]).2).2 12 zY [x]).2) (by omega) (.inr (.inr rfl)) (hy.later fun h => rfl)
        have r := fine_max t (by unfold T.ok; omega) hM (p'.later fun h => (node_ok h).1) q'
        have l' := Fine.beside r l fun h => (node_ok (node_ok (maxE_ok t (by unfold T.ok; omega) h).1).1).1
        refine fine_node (by simp only [T.size]; omega) (fun he => shape_n rfl (by decide) ?_) (fun he => ?_)
        · intro z hz; simp at hz; rcases hz with rfl | rfl; exact (l'.2 he).1; exact (r.2 he).1
        · intro z hz; simp at hz; rcases hz with rfl | rfl; exact Tm.idx_mono (by simp only [T.size]; omega) (l'.2 he).2; exact Tm.idx_mono (by simp only [T.size]; omega) (r.2 he).2
      | fn s t =>
        rw [maxE_fn ho]
        simp only [T.ok, T.size] at ho
        have p := fine_call (M := M + 1) (by omega) [vT 0] (fine_up (f := 0) (b := 1) (by decide) hx) fun he z hz => by simp at hz; rw [hz]; exact ⟨shape_v (i := 0), idx_v (by decide) (by omega)⟩
        have q := fine_call (M := M + 1) (by omega) [vT 0] (fine_up (f := 0) (b := 1) (by decide) (hy.later (e' := (callE 0 (x.upN 0 1) [vT 0]).2) fun h => rfl)) fun he z hz => by simp at hz; rw [hz]; exact ⟨shape_v (i := 0), idx_v (by decide) (by omega)⟩
        have r := fine_max t (M := M + 1) (by unfold T.ok; omega) (by omega) (p.later fun h => (call_ok h).1) q
        exact (fine_lam (by unfold T.ok; omega) (by omega) r).mono (by simp only [T.size]; omega)
    · rw [maxE_no ho h0]
      exact ⟨by show 1 + 0 ≤ 268435456; omega, fun h => absurd h h0⟩

theorem max_nat (b : Nat) : ∀ (x y : Tm) (e M : Int), T.nat.ok → 10 ≤ M → M + T.nat.size ≤ 274877906944 → Fine e M x → Fine e M y →
    Con1 Tryz.prog gl 49 [ptr b, T.nat.ty.dv, x.dv, y.dv] [(b, mk1 e)] (maxE T.nat.ty x y e).1.dv [(b, mk1 (maxE T.nat.ty x y e).2)] := by
  intro x y e M ho hM hM2 hx hy
  refine t_in Tryz.func49 ?_
  intro X hP hgl hf hfn hn hR hids hfit
  by_cases h : e = 0
  · subst h
    rw [maxE_nat] at hR
    have wc := call_walk (gl := gl) b 0 greatT [x, y] (by decide) (by intro z hz; simp at hz; rcases hz with rfl | rfl; exact hx.1; exact hy.1)
    have hty : T.nat.ty = Ty.mk 1 [] := rfl
    refine t_g @hty ?_
    refine t_c2 @hty great_walk wc ?_
    repeat (first | refine W_seq ?_ | refine W_skip ?_ | refine W_block ?_ | refine W_inBlock ?_ | refine W_label ?_ | refine W_exit rfl ?_)
    first | refine W_retR hP hf hfn _ ([(b, mk1 (callE 0 greatT [x, y]).2)]) (by first | (simp [go_sem, hP, hgl, hn]; done) | (simp [go_sem, hP, hgl, hn]; rfl)) (by simp [go_sem, hP, hgl, hn]) (by simp) ?_ hR.2 | refine W_endR hP hf hfn _ ([(b, mk1 (callE 0 greatT [x, y]).2)]) (by first | (simp [go_sem, hP, hgl, hn]; done) | (simp [go_sem, hP, hgl, hn]; rfl)) (by simp [go_sem, hP, hgl, hn]) (by simp) ?_ hR.2
    rw [hR.1]
    refine ⟨?_, by simp⟩
    try simp
    try all_goals (simp [Ty.dv, Ty.cells_eq, Ty.kind_mk, Ty.args_mk, Tm.dv, Tm.cells_eq, Tm.kind_mk, Tm.index_mk, Tm.type_mk, Tm.args_mk, Val.dv, Val.cells_eq, Val.kind_mk, Val.num_mk, Val.list_mk, Val.args_mk, ints])
  · rw [maxE_no ho h] at hR
    refine t_g @h ?_
    repeat (first | refine W_seq ?_ | refine W_skip ?_ | refine W_block ?_ | refine W_inBlock ?_ | refine W_label ?_ | refine W_exit rfl ?_)
    first | refine W_retR hP hf hfn _ ([(b, mk1 e)]) (by first | (simp [go_sem, hP, hgl, hn, zeroTm]; done) | (simp [go_sem, hP, hgl, hn, zeroTm]; rfl)) (by simp [go_sem, hP, hgl, hn, zeroTm]) (by simp) ?_ hR.2 | refine W_endR hP hf hfn _ ([(b, mk1 e)]) (by first | (simp [go_sem, hP, hgl, hn, zeroTm]; done) | (simp [go_sem, hP, hgl, hn, zeroTm]; rfl)) (by simp [go_sem, hP, hgl, hn, zeroTm]) (by simp) ?_ hR.2
    rw [hR.1]
    refine ⟨?_, by simp [zeroTm]⟩
    try simp [zeroTm]
    try all_goals (simp [Ty.dv, Ty.cells_eq, Ty.kind_mk, Ty.args_mk, Tm.dv, Tm.cells_eq, Tm.kind_mk, Tm.index_mk, Tm.type_mk, Tm.args_mk, Val.dv, Val.cells_eq, Val.kind_mk, Val.num_mk, Val.list_mk, Val.args_mk, ints])
theorem max_list (b : Nat) : ∀ (x y : Tm) (e M : Int), T.list.ok → 10 ≤ M → M + T.list.size ≤ 274877906944 → Fine e M x → Fine e M y →
    Con1 Tryz.prog gl 49 [ptr b, T.list.ty.dv, x.dv, y.dv] [(b, mk1 e)] (maxE T.list.ty x y e).1.dv [(b, mk1 (maxE T.list.ty x y e).2)] := by
  intro x y e M ho hM hM2 hx hy
  refine t_in Tryz.func49 ?_
  intro X hP hgl hf hfn hn hR hids hfit
  by_cases h : e = 0
  · subst h
    rw [maxE_list] at hR
    have hty : T.list.ty = Ty.mk 2 [] := rfl
    refine t_g @hty ?_
    refine t_c1 @hty sc_unit_ok ?_
    repeat (first | refine W_seq ?_ | refine W_skip ?_ | refine W_block ?_ | refine W_inBlock ?_ | refine W_label ?_ | refine W_exit rfl ?_)
    first | refine W_retR hP hf hfn _ ([(b, mk1 0)]) (by first | (simp [go_sem, hP, hgl, hn]; done) | (simp [go_sem, hP, hgl, hn]; rfl)) (by simp [go_sem, hP, hgl, hn]) (by simp) ?_ hR.2 | refine W_endR hP hf hfn _ ([(b, mk1 0)]) (by first | (simp [go_sem, hP, hgl, hn]; done) | (simp [go_sem, hP, hgl, hn]; rfl)) (by simp [go_sem, hP, hgl, hn]) (by simp) ?_ hR.2
    rw [hR.1]
    refine ⟨?_, by simp⟩
    try simp
    try all_goals (simp [Ty.dv, Ty.cells_eq, Ty.kind_mk, Ty.args_mk, Tm.dv, Tm.cells_eq, Tm.kind_mk, Tm.index_mk, Tm.type_mk, Tm.args_mk, Val.dv, Val.cells_eq, Val.kind_mk, Val.num_mk, Val.list_mk, Val.args_mk, ints])
  · rw [maxE_no ho h] at hR
    refine t_g @h ?_
    repeat (first | refine W_seq ?_ | refine W_skip ?_ | refine W_block ?_ | refine W_inBlock ?_ | refine W_label ?_ | refine W_exit rfl ?_)
    first | refine W_retR hP hf hfn _ ([(b, mk1 e)]) (by first | (simp [go_sem, hP, hgl, hn, zeroTm]; done) | (simp [go_sem, hP, hgl, hn, zeroTm]; rfl)) (by simp [go_sem, hP, hgl, hn, zeroTm]) (by simp) ?_ hR.2 | refine W_endR hP hf hfn _ ([(b, mk1 e)]) (by first | (simp [go_sem, hP, hgl, hn, zeroTm]; done) | (simp [go_sem, hP, hgl, hn, zeroTm]; rfl)) (by simp [go_sem, hP, hgl, hn, zeroTm]) (by simp) ?_ hR.2
    rw [hR.1]
    refine ⟨?_, by simp [zeroTm]⟩
    try simp [zeroTm]
    try all_goals (simp [Ty.dv, Ty.cells_eq, Ty.kind_mk, Ty.args_mk, Tm.dv, Tm.cells_eq, Tm.kind_mk, Tm.index_mk, Tm.type_mk, Tm.args_mk, Val.dv, Val.cells_eq, Val.kind_mk, Val.num_mk, Val.list_mk, Val.args_mk, ints])
theorem max_unit (b : Nat) : ∀ (x y : Tm) (e M : Int), T.unit.ok → 10 ≤ M → M + T.unit.size ≤ 274877906944 → Fine e M x → Fine e M y →
    Con1 Tryz.prog gl 49 [ptr b, T.unit.ty.dv, x.dv, y.dv] [(b, mk1 e)] (maxE T.unit.ty x y e).1.dv [(b, mk1 (maxE T.unit.ty x y e).2)] := by
  intro x y e M ho hM hM2 hx hy
  refine t_in Tryz.func49 ?_
  intro X hP hgl hf hfn hn hR hids hfit
  by_cases h : e = 0
  · subst h
    rw [maxE_unit] at hR
    have hty : T.unit.ty = Ty.mk 5 [] := rfl
    refine t_g @hty ?_
    refine t_c1 @hty sc_unit_ok ?_
    repeat (first | refine W_seq ?_ | refine W_skip ?_ | refine W_block ?_ | refine W_inBlock ?_ | refine W_label ?_ | refine W_exit rfl ?_)
    first | refine W_retR hP hf hfn _ ([(b, mk1 0)]) (by first | (simp [go_sem, hP, hgl, hn]; done) | (simp [go_sem, hP, hgl, hn]; rfl)) (by simp [go_sem, hP, hgl, hn]) (by simp) ?_ hR.2 | refine W_endR hP hf hfn _ ([(b, mk1 0)]) (by first | (simp [go_sem, hP, hgl, hn]; done) | (simp [go_sem, hP, hgl, hn]; rfl)) (by simp [go_sem, hP, hgl, hn]) (by simp) ?_ hR.2
    rw [hR.1]
    refine ⟨?_, by simp⟩
    try simp
    try all_goals (simp [Ty.dv, Ty.cells_eq, Ty.kind_mk, Ty.args_mk, Tm.dv, Tm.cells_eq, Tm.kind_mk, Tm.index_mk, Tm.type_mk, Tm.args_mk, Val.dv, Val.cells_eq, Val.kind_mk, Val.num_mk, Val.list_mk, Val.args_mk, ints])
  · rw [maxE_no ho h] at hR
    refine t_g @h ?_
    repeat (first | refine W_seq ?_ | refine W_skip ?_ | refine W_block ?_ | refine W_inBlock ?_ | refine W_label ?_ | refine W_exit rfl ?_)
    first | refine W_retR hP hf hfn _ ([(b, mk1 e)]) (by first | (simp [go_sem, hP, hgl, hn, zeroTm]; done) | (simp [go_sem, hP, hgl, hn, zeroTm]; rfl)) (by simp [go_sem, hP, hgl, hn, zeroTm]) (by simp) ?_ hR.2 | refine W_endR hP hf hfn _ ([(b, mk1 e)]) (by first | (simp [go_sem, hP, hgl, hn, zeroTm]; done) | (simp [go_sem, hP, hgl, hn, zeroTm]; rfl)) (by simp [go_sem, hP, hgl, hn, zeroTm]) (by simp) ?_ hR.2
    rw [hR.1]
    refine ⟨?_, by simp [zeroTm]⟩
    try simp [zeroTm]
    try all_goals (simp [Ty.dv, Ty.cells_eq, Ty.kind_mk, Ty.args_mk, Tm.dv, Tm.cells_eq, Tm.kind_mk, Tm.index_mk, Tm.type_mk, Tm.args_mk, Val.dv, Val.cells_eq, Val.kind_mk, Val.num_mk, Val.list_mk, Val.args_mk, ints])
theorem max_pair (b : Nat) (s t : T) (ihs : ∀ (x y : Tm) (e M : Int), (s).ok → 10 ≤ M → M + (s).size ≤ 274877906944 → Fine e M x → Fine e M y →
    Con1 Tryz.prog gl 49 [ptr b, (s).ty.dv, x.dv, y.dv] [(b, mk1 e)] (maxE (s).ty x y e).1.dv [(b, mk1 (maxE (s).ty x y e).2)]) (iht : ∀ (x y : Tm) (e M : Int), (t).ok → 10 ≤ M → M + (t).size ≤ 274877906944 → Fine e M x → Fine e M y →
    Con1 Tryz.prog gl 49 [ptr b, (t).ty.dv, x.dv, y.dv] [(b, mk1 e)] (maxE (t).ty x y e).1.dv [(b, mk1 (maxE (t).ty x y e).2)]) : ∀ (x y : Tm) (e M : Int), (T.pair s t).ok → 10 ≤ M → M + (T.pair s t).size ≤ 274877906944 → Fine e M x → Fine e M y →
    Con1 Tryz.prog gl 49 [ptr b, (T.pair s t).ty.dv, x.dv, y.dv] [(b, mk1 e)] (maxE (T.pair s t).ty x y e).1.dv [(b, mk1 (maxE (T.pair s t).ty x y e).2)] := by
  intro x y e M ho hM hM2 hx hy
  refine t_in Tryz.func49 ?_
  intro X hP hgl hf hfn hn hR hids hfit
  by_cases h : e = 0
  · subst h
    rw [maxE_pair ho] at hR
    simp only [T.ok, T.size] at ho hM2
    have cx := hx.1
    have cy := hy.1
    have w1 := plain_walk (gl := gl) b 0 11 [x] (by show 1 + (x.count + 0) ≤ 1073741824; omega)
    have p := fine_n1 (k := 11) (by omega) (.inr (.inl rfl)) hx
    have o1 : (nodeE 0 11 zY [x]).2 = 0 → (0 : Int) = 0 := fun _ => rfl
    generalize he1 : nodeE 0 11 zY [x] = r1 at *
    obtain ⟨x1, e1⟩ := r1
    simp only at hR w1 p
    have w2 := plain_walk (gl := gl) b e1 11 [y] (by show 1 + (y.count + 0) ≤ 1073741824; omega)
    have q := fine_n1 (k := 11) (e := e1) (by omega) (.inr (.inl rfl)) (hy.later fun h => rfl)
    have o2 : (nodeE e1 11 zY [y]).2 = 0 → e1 = 0 := fun h => (node_ok h).1
    generalize he2 : nodeE e1 11 zY [y] = r2 at *
    obtain ⟨y1, e2⟩ := r2
    simp only at hR w2 q o2
    have w3 := ihs x1 y1 e2 M (by unfold T.ok; omega) hM (by omega) (p.later o2) q
    generalize he3 : maxE s.ty x1 y1 e2 = r3 at *
    obtain ⟨l, e3⟩ := r3
    simp only at hR w3
    have cl : l.count ≤ 4096 := by have := maxE_count s.ty (T.ok_ty (by unfold T.ok; omega)) x1 y1 e2; rw [he3] at this; exact this
    have w4 := plain_walk (gl := gl) b e3 12 [x] (by show 1 + (x.count + 0) ≤ 1073741824; omega)
    have p' := fine_n1 (k := 12) (e := e3) (by omega) (.inr (.inr rfl)) (hx.later fun h => rfl)
    have o4 : (nodeE e3 12 zY [x]).2 = 0 → e3 = 0 := fun h => (node_ok h).1
    generalize he4 : nodeE e3 12 zY [x] = r4 at *
    obtain ⟨x2, e4⟩ := r4
    simp only at hR w4 p' o4
    have w5 := plain_walk (gl := gl) b e4 12 [y] (by show 1 + (y.count + 0) ≤ 1073741824; omega)
    have q' := fine_n1 (k := 12) (e := e4) (by omega) (.inr (.inr rfl)) (hy.later fun h => rfl)
    have o5 : (nodeE e4 12 zY [y]).2 = 0 → e4 = 0 := fun h => (node_ok h).1
    generalize he5 : nodeE e4 12 zY [y] = r5 at *
    obtain ⟨y2, e5⟩ := r5
    simp only at hR w5 q' o5
    have w6 := iht x2 y2 e5 M (by unfold T.ok; omega) hM (by omega) (p'.later o5) q'
    generalize he6 : maxE t.ty x2 y2 e5 = r6 at *
    obtain ⟨r, e6⟩ := r6
    simp only at hR w6
    have cr : r.count ≤ 4096 := by have := maxE_count t.ty (T.ok_ty (by unfold T.ok; omega)) x2 y2 e5; rw [he6] at this; exact this
    have w7 := plain_walk (gl := gl) b e6 10 [l, r] (by show 1 + (l.count + (r.count + 0)) ≤ 1073741824; omega)
    have hty : (T.pair s t).ty = Ty.mk 3 [s.ty, t.ty] := rfl
    refine t_g @hty ?_
    refine t_c3 @hty w1 w2 w3 ?_
    refine t_c3 @hty w4 w5 w6 ?_
    refine t_c1 @hty w7 ?_
    repeat (first | refine W_seq ?_ | refine W_skip ?_ | refine W_block ?_ | refine W_inBlock ?_ | refine W_label ?_ | refine W_exit rfl ?_)
    first | refine W_retR hP hf hfn _ ([(b, mk1 (nodeE e6 10 zY [l, r]).2)]) (by first | (simp [go_sem, hP, hgl, hn]; done) | (simp [go_sem, hP, hgl, hn]; rfl)) (by simp [go_sem, hP, hgl, hn]) (by simp) ?_ hR.2 | refine W_endR hP hf hfn _ ([(b, mk1 (nodeE e6 10 zY [l, r]).2)]) (by first | (simp [go_sem, hP, hgl, hn]; done) | (simp [go_sem, hP, hgl, hn]; rfl)) (by simp [go_sem, hP, hgl, hn]) (by simp) ?_ hR.2
    rw [hR.1]
    refine ⟨?_, by simp⟩
    try simp
    try all_goals (simp [Ty.dv, Ty.cells_eq, Ty.kind_mk, Ty.args_mk, Tm.dv, Tm.cells_eq, Tm.kind_mk, Tm.index_mk, Tm.type_mk, Tm.args_mk, Val.dv, Val.cells_eq, Val.kind_mk, Val.num_mk, Val.list_mk, Val.args_mk, ints])
  · rw [maxE_no ho h] at hR
    refine t_g @h ?_
    repeat (first | refine W_seq ?_ | refine W_skip ?_ | refine W_block ?_ | refine W_inBlock ?_ | refine W_label ?_ | refine W_exit rfl ?_)
    first | refine W_retR hP hf hfn _ ([(b, mk1 e)]) (by first | (simp [go_sem, hP, hgl, hn, zeroTm]; done) | (simp [go_sem, hP, hgl, hn, zeroTm]; rfl)) (by simp [go_sem, hP, hgl, hn, zeroTm]) (by simp) ?_ hR.2 | refine W_endR hP hf hfn _ ([(b, mk1 e)]) (by first | (simp [go_sem, hP, hgl, hn, zeroTm]; done) | (simp [go_sem, hP, hgl, hn, zeroTm]; rfl)) (by simp [go_sem, hP, hgl, hn, zeroTm]) (by simp) ?_ hR.2
    rw [hR.1]
    refine ⟨?_, by simp [zeroTm]⟩
    try simp [zeroTm]
    try all_goals (simp [Ty.dv, Ty.cells_eq, Ty.kind_mk, Ty.args_mk, Tm.dv, Tm.cells_eq, Tm.kind_mk, Tm.index_mk, Tm.type_mk, Tm.args_mk, Val.dv, Val.cells_eq, Val.kind_mk, Val.num_mk, Val.list_mk, Val.args_mk, ints])
theorem max_fn (b : Nat) (s t : T) (ihs : ∀ (x y : Tm) (e M : Int), (s).ok → 10 ≤ M → M + (s).size ≤ 274877906944 → Fine e M x → Fine e M y →
    Con1 Tryz.prog gl 49 [ptr b, (s).ty.dv, x.dv, y.dv] [(b, mk1 e)] (maxE (s).ty x y e).1.dv [(b, mk1 (maxE (s).ty x y e).2)]) (iht : ∀ (x y : Tm) (e M : Int), (t).ok → 10 ≤ M → M + (t).size ≤ 274877906944 → Fine e M x → Fine e M y →
    Con1 Tryz.prog gl 49 [ptr b, (t).ty.dv, x.dv, y.dv] [(b, mk1 e)] (maxE (t).ty x y e).1.dv [(b, mk1 (maxE (t).ty x y e).2)]) : ∀ (x y : Tm) (e M : Int), (T.fn s t).ok → 10 ≤ M → M + (T.fn s t).size ≤ 274877906944 → Fine e M x → Fine e M y →
    Con1 Tryz.prog gl 49 [ptr b, (T.fn s t).ty.dv, x.dv, y.dv] [(b, mk1 e)] (maxE (T.fn s t).ty x y e).1.dv [(b, mk1 (maxE (T.fn s t).ty x y e).2)] := by
  intro x y e M ho hM hM2 hx hy
  refine t_in Tryz.func49 ?_
  intro X hP hgl hf hfn hn hR hids hfit
  by_cases h : e = 0
  · subst h
    rw [maxE_fn ho] at hR
    simp only [T.ok, T.size] at ho hM2
    have cx := hx.1
    have cy := hy.1
    have l1 := sc_lift_ok (gl := gl) x 0 1 (hx.2 rfl).1 (Tm.idx_mono (by omega) (hx.2 rfl).2) (by decide) (by decide) (by decide) (by omega)
    have l2 := sc_lift_ok (gl := gl) y 0 1 (hy.2 rfl).1 (Tm.idx_mono (by omega) (hy.2 rfl).2) (by decide) (by decide) (by decide) (by omega)
    have u1 := up_count x 0 1
    have u2 := up_count y 0 1
    have v1 : (vT 0).count ≤ 268435456 := by decide
    have w1 := call_walk (gl := gl) b 0 (x.upN 0 1) [vT 0] (by omega) (by intro z hz; simp at hz; rw [hz]; exact v1)
    have p := fine_call (M := M + 1) (by omega) [vT 0] (fine_up (f := 0) (b := 1) (by decide) hx) fun he z hz => by simp at hz; rw [hz]; exact ⟨shape_v (i := 0), idx_v (by decide) (by omega)⟩
    generalize he1 : callE 0 (x.upN 0 1) [vT 0] = r1 at *
    obtain ⟨x1, e1⟩ := r1
    simp only at hR w1 p
    have w2 := call_walk (gl := gl) b e1 (y.upN 0 1) [vT 0] (by omega) (by intro z hz; simp at hz; rw [hz]; exact v1)
    have q := fine_call (M := M + 1) (by omega) [vT 0] (fine_up (f := 0) (b := 1) (by decide) (hy.later (e' := e1) fun h => rfl)) fun he z hz => by simp at hz; rw [hz]; exact ⟨shape_v (i := 0), idx_v (by decide) (by omega)⟩
    have o2 : (callE e1 (y.upN 0 1) [vT 0]).2 = 0 → e1 = 0 := fun h => (call_ok h).1
    generalize he2 : callE e1 (y.upN 0 1) [vT 0] = r2 at *
    obtain ⟨y1, e2⟩ := r2
    simp only at hR w2 q o2
    have w3 := iht x1 y1 e2 (M + 1) (by unfold T.ok; omega) (by omega) (by omega) (p.later o2) q
    generalize he3 : maxE t.ty x1 y1 e2 = r3 at *
    obtain ⟨r, e3⟩ := r3
    simp only at hR w3
    have cr : r.count ≤ 4096 := by have := maxE_count t.ty (T.ok_ty (by unfold T.ok; omega)) x1 y1 e2; rw [he3] at this; exact this
    have w4 := node_walk (gl := gl) b e3 2 s.ty [r] (by show 1 + (r.count + 0) ≤ 1073741824; omega)
    have hty : (T.fn s t).ty = Ty.mk 4 [s.ty, t.ty] := rfl
    refine t_g @hty ?_
    refine t_c1 @hty (sc_var_ok 0) ?_
    refine t_c5 @hty l1 w1 l2 w2 w3 ?_
    refine t_c1 @hty w4 ?_
    repeat (first | refine W_seq ?_ | refine W_skip ?_ | refine W_block ?_ | refine W_inBlock ?_ | refine W_label ?_ | refine W_exit rfl ?_)
    first | refine W_retR hP hf hfn _ ([(b, mk1 (nodeE e3 2 s.ty [r]).2)]) (by first | (simp [go_sem, hP, hgl, hn]; done) | (simp [go_sem, hP, hgl, hn]; rfl)) (by simp [go_sem, hP, hgl, hn]) (by simp) ?_ hR.2 | refine W_endR hP hf hfn _ ([(b, mk1 (nodeE e3 2 s.ty [r]).2)]) (by first | (simp [go_sem, hP, hgl, hn]; done) | (simp [go_sem, hP, hgl, hn]; rfl)) (by simp [go_sem, hP, hgl, hn]) (by simp) ?_ hR.2
    rw [hR.1]
    refine ⟨?_, by simp⟩
    try simp
    try all_goals (simp [Ty.dv, Ty.cells_eq, Ty.kind_mk, Ty.args_mk, Tm.dv, Tm.cells_eq, Tm.kind_mk, Tm.index_mk, Tm.type_mk, Tm.args_mk, Val.dv, Val.cells_eq, Val.kind_mk, Val.num_mk, Val.list_mk, Val.args_mk, ints])
  · rw [maxE_no ho h] at hR
    refine t_g @h ?_
    repeat (first | refine W_seq ?_ | refine W_skip ?_ | refine W_block ?_ | refine W_inBlock ?_ | refine W_label ?_ | refine W_exit rfl ?_)
    first | refine W_retR hP hf hfn _ ([(b, mk1 e)]) (by first | (simp [go_sem, hP, hgl, hn, zeroTm]; done) | (simp [go_sem, hP, hgl, hn, zeroTm]; rfl)) (by simp [go_sem, hP, hgl, hn, zeroTm]) (by simp) ?_ hR.2 | refine W_endR hP hf hfn _ ([(b, mk1 e)]) (by first | (simp [go_sem, hP, hgl, hn, zeroTm]; done) | (simp [go_sem, hP, hgl, hn, zeroTm]; rfl)) (by simp [go_sem, hP, hgl, hn, zeroTm]) (by simp) ?_ hR.2
    rw [hR.1]
    refine ⟨?_, by simp [zeroTm]⟩
    try simp [zeroTm]
    try all_goals (simp [Ty.dv, Ty.cells_eq, Ty.kind_mk, Ty.args_mk, Tm.dv, Tm.cells_eq, Tm.kind_mk, Tm.index_mk, Tm.type_mk, Tm.args_mk, Val.dv, Val.cells_eq, Val.kind_mk, Val.num_mk, Val.list_mk, Val.args_mk, ints])
theorem max_walk (b : Nat) (a : T) : ∀ (x y : Tm) (e M : Int), (a).ok → 10 ≤ M → M + (a).size ≤ 274877906944 → Fine e M x → Fine e M y →
    Con1 Tryz.prog gl 49 [ptr b, (a).ty.dv, x.dv, y.dv] [(b, mk1 e)] (maxE (a).ty x y e).1.dv [(b, mk1 (maxE (a).ty x y e).2)] := by
  induction a with
  | nat => exact max_nat b
  | list => exact max_list b
  | unit => exact max_unit b
  | pair s t ihs iht => exact max_pair b s t ihs iht
  | fn s t ihs iht => exact max_fn b s t ihs iht
end Go.Proofs.YtiacandbafjlfaaGreatDoor.Lift

namespace Go.Proofs.YtiacandbafjlfaaGreatDoor.Lift
set_option linter.unusedSimpArgs false
set_option linter.unusedVariables false
set_option linter.unnecessarySimpa false
open Go
variable {gl : Globs}

theorem bares_map (l : List Ty) : bareN.bares l = l.map bareN := by
  induction l with
  | nil => rfl
  | cons a r ih => simp [bareN.bares, ih]
theorem bareN_eq (t : Ty) : bareN t = if t.kind = 2 then Ty.mk 1 [] else Ty.mk t.kind (t.args.map bareN) := by
  cases t; rw [bareN, bares_map]; rfl

theorem bare_walk (t : Ty) : Con1 Tryz.prog gl 41 [t.dv] [] (bareN t).dv [] := by
  induction t using Ty.ind with
  | h t ih =>
  refine t_in Tryz.func41 ?_
  intro X hP hgl hf hfn hn hR hids hfit
  have hlen := Ty.fit_len (hfit t.dv (by simp))
  rw [bareN_eq] at hR
  by_cases h : t.kind = 2
  · refine t_g @h ?_
    refine t_c1 trivial sc_nat_ok ?_
    refine t_r ?_
    simp [go_sem, hP, hgl, hn, h, natY] <;> (try omega)
    all_goals exact t_f
  · refine t_g @h ?_
    refine t_a ?_
    refine t_sub [(1003, 0)] trivial (W_list (t.args) (fun done rest => [(.slot 16, .one (.v (dint done.length))), (.slot 15, .one (.v (dint t.args.length))), (.slot 14, .one (.v (.sl (t.args.map Ty.cells)))), (.loc 3, .row ([.v (dint t.kind), .own 1003 (done.map fun x => (bareN x).cells)])), (.slot 3, .one (.loc 3 0)), (.tok 1003, .tk 2 done.length), (.loc 2, .row ([.v (dint 0), .own 0 []])), (.slot 2, .one (.loc 2 0))]) ?_ ?_)
    · intro done x rest hL hg0 hnext
      have hlt : done.length < t.args.length := by rw [hL]; simp
      have hxm := List.mem_of_getElem? hg0
      refine t_rg0 ?_
      refine t_yes ?_
      refine t_g @hg0 ?_
      refine t_c1 @hg0 (ih x hxm) ?_
      refine t_gt (wr [(1003, 25)]) (Ty.cells_eq (bareN x)) trivial hnext
    · refine t_rg0 ?_
      refine t_no ?_
      refine t_g0 ?_
      refine t_r ?_
      simp [go_sem, hP, hgl, hn, h] <;> (try omega)
      simp [Ty.dv, Ty.cells_eq, Ty.kind_mk, Ty.args_mk]

theorem step_walk (b : Nat) (s : T) (next : Tm) (e M : Int) (ho : s.ok) (hM : 10 ≤ M) (hM2 : M + s.size ≤ 274877906944) (hx : Fine e M next) :
    Con1 Tryz.prog gl 104 [ptr b, s.ty.dv, next.dv] [(b, mk1 e)] (stepE s.ty next e).1.dv [(b, mk1 (stepE s.ty next e).2)] := by
  refine t_in Tryz.func104 ?_
  intro X hP hgl hf hfn hn hR hids hfit
  unfold stepE at hR
  have w1 := max_walk (gl := gl) b s (vT 0) next e M ho hM hM2 (fine_v (by decide) (by omega)) hx
  have c1 := maxE_count s.ty (T.ok_ty ho) (vT 0) next e
  generalize maxE s.ty (vT 0) next e = r1 at *
  obtain ⟨y, e1⟩ := r1
  simp only at hR w1 c1
  have w2 := node_walk (gl := gl) b e1 2 s.ty [y] (by show 1 + (y.count + 0) ≤ 1073741824; omega)
  have c2 := node_count e1 2 s.ty [y]
  generalize nodeE e1 2 s.ty [y] = r2 at *
  obtain ⟨z, e2⟩ := r2
  simp only at hR w2 c2
  have w3 := node_walk (gl := gl) b e2 2 natY [z] (by show 1 + (z.count + 0) ≤ 1073741824; omega)
  refine t_g0 ?_
  refine t_c2 trivial (sc_var_ok 0) w1 ?_
  refine t_c3 trivial sc_nat_ok w2 w3 ?_
  repeat (first | refine W_seq ?_ | refine W_skip ?_ | refine W_block ?_ | refine W_inBlock ?_ | refine W_label ?_ | refine W_exit rfl ?_)
  first | refine W_retR hP hf hfn _ ([(b, mk1 (nodeE e2 2 natY [z]).2)]) (by first | (simp [go_sem, hP, hgl, hn]; done) | (simp [go_sem, hP, hgl, hn]; rfl)) (by simp [go_sem, hP, hgl, hn]) (by simp) ?_ hR.2 | refine W_endR hP hf hfn _ ([(b, mk1 (nodeE e2 2 natY [z]).2)]) (by first | (simp [go_sem, hP, hgl, hn]; done) | (simp [go_sem, hP, hgl, hn]; rfl)) (by simp [go_sem, hP, hgl, hn]) (by simp) ?_ hR.2
  rw [hR.1]
  refine ⟨?_, by simp⟩
  try simp
  try all_goals (simp [Ty.dv, Ty.cells_eq, Ty.kind_mk, Ty.args_mk, Tm.dv, Tm.cells_eq, Tm.kind_mk, Tm.index_mk, Tm.type_mk, Tm.args_mk, Val.dv, Val.cells_eq, Val.kind_mk, Val.num_mk, Val.list_mk, Val.args_mk, ints])

theorem majs_all (l : List Tm) (h : (majE.majsE l).2 = 0) : (majE.majsE l).1.length = l.length ∧ ∀ (i : Nat) (x : Tm), l[i]? = some x → (majE x).2 = 0 ∧ (majE.majsE l).1[i]? = some (majE x).1 := by
  induction l with
  | nil => simp [majE.majsE]
  | cons a r ih =>
    simp only [majE.majsE] at h ⊢
    by_cases ha : (majE a).2 = 0
    · by_cases hr : (majE.majsE r).2 = 0
      · simp only [ha, hr, if_true]
        obtain ⟨h1, h2⟩ := ih hr
        refine ⟨by simp [h1], ?_⟩
        intro i x hx
        cases i with
        | zero => simp at hx; subst hx; exact ⟨ha, by simp⟩
        | succ i => simp at hx; simpa using h2 i x hx
      · simp [ha, hr] at h
    · simp [ha] at h
theorem majs_snoc (l : List Tm) (x : Tm) (h : (majE.majsE l).2 = 0) (hx : (majE x).2 = 0) : majE.majsE (l ++ [x]) = ((majE.majsE l).1 ++ [(majE x).1], 0) := by
  induction l with
  | nil => simp [majE.majsE, hx]
  | cons a r ih =>
    simp only [majE.majsE] at h
    by_cases ha : (majE a).2 = 0
    · by_cases hr : (majE.majsE r).2 = 0
      · simp [majE.majsE, ha, hr, ih hr]
      · simp [ha, hr] at h
    · simp [ha] at h
theorem majs_stop (l : List Tm) (x : Tm) (m : List Tm) (h : (majE.majsE l).2 = 0) (hx : ¬ (majE x).2 = 0) : majE.majsE (l ++ x :: m) = ([], (majE x).2) := by
  induction l with
  | nil => simp [majE.majsE, hx]
  | cons a r ih =>
    simp only [majE.majsE] at h
    by_cases ha : (majE a).2 = 0
    · by_cases hr : (majE.majsE r).2 = 0
      · simp [majE.majsE, ha, ih hr, hx]
      · simp [ha, hr] at h
    · simp [ha] at h

theorem fine_step {s : T} {next : Tm} {e M : Int} (ho : s.ok) (hM : 10 ≤ M) (hx : Fine e M next) : Fine (stepE s.ty next e).2 (M + s.size) (stepE s.ty next e).1 := by
  unfold stepE
  have h1 := fine_max s ho hM (fine_v (e := e) (i := 0) (by decide) (by omega)) hx
  exact fine_lam (s := .nat) nat_ok0 (by omega) (fine_lam ho (by omega) h1)

theorem arg_ty {t : Tm} (hs : t.shape = true) (hk : t.kind = 2 ∨ t.kind = 6 ∨ t.kind = 9) : ∃ a : T, a.ty = t.type ∧ a.ok ∧ bareN t.type = a.maj.ty ∧ a.maj.ok ∧ a.maj.size ≤ 64 := by
  have h := (Tm.shape_node hs).2.2.2.1
  rw [if_pos hk] at h
  obtain ⟨a, ha⟩ := T.of_shape t.type h.1
  have hok : a.ok := T.ty_ok (by rw [ha]; exact h)
  exact ⟨a, ha, hok, by rw [← ha, maj_ty], maj_ok hok, maj_ok hok⟩

theorem fine_maj (t : Tm) : ∀ {M : Int}, t.shape = true → t.idx M → 10 ≤ M → Fine (majE t).2 (M + 100 * t.count) (majE t).1 := by
  induction t using Tm.ind with
  | h t ih =>
  intro M hs hi hM
  obtain ⟨hlen, hi0, hv, hty, hsa⟩ := Tm.shape_node hs
  have hix := (Tm.idx_eq t _).1 hi
  have hct := Tm.count_eq t
  rw [majE_eq]
  by_cases h0 : (majE.majsE t.args).2 = 0
  rotate_left
  · rw [if_neg h0]; exact ⟨by show 1 + 0 ≤ 268435456; omega, fun h => absurd h h0⟩
  rw [if_pos h0]
  obtain ⟨hl, hx⟩ := majs_all t.args h0
  have get : ∀ (i : Nat) (x : Tm), t.args[i]? = some x → ∃ y, (majE.majsE t.args).1[i]? = some y ∧ Fine 0 (M + 100 * (t.count - 1)) y := by
    intro i x hix2
    obtain ⟨x1, x2⟩ := hx i x hix2
    have hm := List.mem_of_getElem? hix2
    have hc := Tm.count_mem hm
    have := ih x hm (hsa x hm) (hix.2 x hm) hM
    exact ⟨_, x2, (this.later fun _ => x1).mono (by omega)⟩
  generalize (majE.majsE t.args).1 = l at get hl ⊢
  have hc1 : 1 ≤ t.count := Tm.count_pos t
  generalize hM1 : M + 100 * ((t.count : Int) - 1) = M1 at get
  have hMt : M + 100 * t.count = M1 + 100 := by omega
  rw [hMt]
  have hM2 : 10 ≤ M1 := by omega
  have all : ∀ z ∈ l, Fine 0 M1 z := by
    intro z hz
    obtain ⟨i, hi⟩ := List.getElem?_of_mem hz
    have hil := (List.getElem?_eq_some_iff.1 hi).1
    obtain ⟨y, hy, fy⟩ := get i t.args[i] (List.getElem?_eq_getElem (by omega))
    rw [hi] at hy; cases hy
    exact fy
  clear get
  unfold majNodeE
  by_cases h7 : t.kind = 7
  · rw [if_pos h7]; exact ⟨by show 1 + 0 ≤ 268435456; omega, fun _ => ⟨rfl, idx_node (by omega) (fun z hz => by cases hz)⟩⟩
  rw [if_neg h7]
  by_cases h8 : t.kind = 8
  · rw [if_pos h8]
    have h2 : l.length = 2 := by rw [h8] at hlen; simp [arityI] at hlen; omega
    match l, h2, all with
    | [y, z], _, all =>
      have fz := fine_n1 (k := 5) (by omega) (.inl rfl) (all z (by simp))
      exact (fine_max .nat nat_ok0 hM2 ((all y (by simp)).later fun h => rfl) fz).mono (by simp only [T.size]; omega)
  rw [if_neg h8]
  by_cases h2 : t.kind = 2
  · rw [if_pos h2]
    obtain ⟨a, -, -, hb, ho, -⟩ := arg_ty hs (.inl h2)
    have h1 : l.length = 1 := by rw [h2] at hlen; simp [arityI] at hlen; omega
    match l, h1, all with
    | [y], _, all =>
      rw [hb]
      exact (fine_lam ho (by omega) (all y (by simp))).mono (by omega)
  rw [if_neg h2]
  by_cases h6 : t.kind = 6
  · rw [if_pos h6]
    obtain ⟨a, -, -, hb, ho, hsz⟩ := arg_ty hs (.inr (.inl h6))
    have h1 : l.length = 3 := by rw [h6] at hlen; simp [arityI] at hlen; omega
    match l, h1, all with
    | [x, f, n], _, all =>
      rw [hb]
      have c := fine_call (M := M1 + 2) (by omega) [vT 1, vT 0] (fine_up (f := 0) (b := 2) (by decide) (all f (by simp))) fun _ z hz => by simp at hz; rcases hz with rfl | rfl; exact ⟨shape_v (i := 1), idx_v (by decide) (by omega)⟩; exact ⟨shape_v (i := 0), idx_v (by decide) (by omega)⟩
      have st := fine_step ho (by omega) c
      refine (fine_node (M := M1 + 2 + a.maj.size) (by omega) (fun he => shape_t rfl (.inr (.inl rfl)) (T.ok_ty ho) ?_) (fun he => ?_)).mono (by omega)
      · intro z hz; simp at hz; rcases hz with rfl | rfl | rfl; exact ((all _ (by simp)).2 rfl).1; exact (st.2 he).1; exact ((all _ (by simp)).2 rfl).1
      · intro z hz; simp at hz; rcases hz with rfl | rfl | rfl; exact Tm.idx_mono (by omega) ((all _ (by simp)).2 rfl).2; exact (st.2 he).2; exact Tm.idx_mono (by omega) ((all _ (by simp)).2 rfl).2
  rw [if_neg h6]
  by_cases h9 : t.kind = 9
  · rw [if_pos h9]
    obtain ⟨a, -, -, hb, ho, hsz⟩ := arg_ty hs (.inr (.inr h9))
    have h1 : l.length = 3 := by rw [h9] at hlen; simp [arityI] at hlen; omega
    match l, h1, all with
    | [x, f, n], _, all =>
      rw [hb]
      have c := fine_call (M := M1 + 3) (by omega) [vT 2, vT 2, vT 0] (fine_up (f := 0) (b := 3) (by decide) (all f (by simp))) fun _ z hz => by simp at hz; rcases hz with rfl | rfl; exact ⟨shape_v (i := 2), idx_v (by decide) (by omega)⟩; exact ⟨shape_v (i := 0), idx_v (by decide) (by omega)⟩
      have st := fine_step ho (by omega) c
      have x1 := fine_up (f := 0) (b := 1) (by decide) (all x (by simp))
      have r := fine_node (e := (stepE a.maj.ty (callE 0 (f.upN 0 3) [vT 2, vT 2, vT 0]).1 (callE 0 (f.upN 0 3) [vT 2, vT 2, vT 0]).2).2) (k := 6) (s := a.maj.ty) (l := [x.upN 0 1, (stepE a.maj.ty (callE 0 (f.upN 0 3) [vT 2, vT 2, vT 0]).1 (callE 0 (f.upN 0 3) [vT 2, vT 2, vT 0]).2).1, vT 0]) (M := M1 + 3 + a.maj.size) (by omega) (fun he => shape_t rfl (.inr (.inl rfl)) (T.ok_ty ho) (by
          intro z hz; simp at hz; rcases hz with rfl | rfl | rfl; exact (x1.2 rfl).1; exact (st.2 he).1; exact shape_v (i := 0))) (fun he => by
          intro z hz; simp at hz; rcases hz with rfl | rfl | rfl; exact Tm.idx_mono (by omega) (x1.2 rfl).2; exact (st.2 he).2; exact idx_v (by decide) (by omega))
      have la := fine_lam (s := .nat) nat_ok0 (by omega) r
      exact (fine_call (by omega) [n] la fun he z hz => by simp at hz; rw [hz]; exact ⟨((all n (by simp)).2 rfl).1, Tm.idx_mono (by omega) ((all n (by simp)).2 rfl).2⟩).mono (by omega)
  rw [if_neg h9]
  by_cases h1 : t.kind = 1
  · rw [if_pos h1]
    have ha : t.args = [] := by rw [h1] at hlen; simp [arityI] at hlen; exact hlen
    have hc : t.count = 1 := by rw [Tm.count_eq, ha]; rfl
    rw [Tm.eta]
    exact ⟨by rw [hc]; decide, fun _ => ⟨hs, Tm.idx_mono (by omega) hi⟩⟩
  rw [if_neg h1]
  refine (fine_node (M := M1) (by omega) (fun he => shape_n (by rw [hl]; exact hlen) (by omega) fun z hz => ((all z hz).2 rfl).1) fun he z hz => ((all z hz).2 rfl).2).mono (by omega)
end Go.Proofs.YtiacandbafjlfaaGreatDoor.Lift

namespace Go.Proofs.YtiacandbafjlfaaGreatDoor.Lift
set_option linter.unusedSimpArgs false
set_option linter.unusedVariables false
set_option linter.unnecessarySimpa false
open Go
variable {gl : Globs}

theorem arityI_le (k : Int) : arityI k ≤ 3 := by
  unfold arityI
  repeat' split
  all_goals decide

set_option maxHeartbeats 4000000 in
theorem of_walk (b : Nat) (t : Tm) : ∀ {M : Int}, t.shape = true → t.idx M → 10 ≤ M → M + 100 * t.count ≤ 137438953472 →
    Con1 Tryz.prog gl 64 [ptr b, t.dv] [(b, mk1 0)] (majE t).1.dv [(b, mk1 (majE t).2)] := by
  induction t using Tm.ind with
  | h t ih =>
  intro M hs hi hM hMc
  obtain ⟨hlen, hi0, hv, hty, hsa⟩ := Tm.shape_node hs
  have hix := (Tm.idx_eq t _).1 hi
  have hct := Tm.count_eq t
  have hc1 : 1 ≤ t.count := Tm.count_pos t
  refine t_in Tryz.func64 ?_
  intro X hP hgl hf hfn hn hR hids hfit
  have hlen2 := Tm.fit_len (hfit t.dv (by simp))
  rw [majE_eq] at hR
  refine t_g0 ?_
  refine t_a ?_
  refine W_sub [(1005, 0)] (by simp [go_sem]) (by simp [go_sem, majE.majsE] <;> omega) (by simp [go_sem]) (W_listI (t.args) (fun done => (majE.majsE done).2 = 0) (fun done rest => [(.slot 18, .one (.v (dint done.length))), (.slot 17, .one (.v (dint t.args.length))), (.slot 16, .one (.v (.sl (t.args.map Tm.cells)))), (.slot 0, .one (.v (ptr b))), (.slot 3, .one (.loc 3 0)), (.loc 3, .row ([.v (dint t.kind), .v (dint t.index), .v (dint t.type.kind), .v (.sl (t.type.args.map Ty.cells)), .v (.sl (t.args.map Tm.cells))])), (.slot 4, .one (.loc 4 0)), (.loc 4, .row ([.v (dint 0), .v (dint 0), .v (dint 0), .own 0 [], .own 0 []])), (.slot 5, .one (.own 1005 ((majE.majsE done).1.map Tm.cells))), (.tok 1005, .tk 5 (majE.majsE done).1.length), (.heap  b, .row ([.v (dint 0)]))]) (rfl) ?_ ?_)
  · intro done x rest hL hg0 hI hnext
    have hlt : done.length < t.args.length := by rw [hL]; simp
    have hxm := List.mem_of_getElem? hg0
    have hcx := Tm.count_mem hxm
    have w := ih x hxm (hsa x hxm) (hix.2 x hxm) hM (by omega)
    have hdl := (majs_all done hI).1
    have hfx := Tm.fold x
    refine t_rg0 ?_
    refine t_yes ?_
    refine t_g @hg0 ?_
    refine t_c1 (j2 @hg0 @hfx) w ?_
    by_cases he : (majE x).2 = 0
    · have hsn := majs_snoc done x hI he
      refine t_gt (wr [(1005, 34)]) (j2 @hsn (j2 @hdl (Tm.cells_eq (majE x).1))) (j2 @he @hdl) (hnext (by rw [hsn]))
    · have hst := majs_stop done x rest hI he
      rw [← hL] at hst
      rw [hst, if_neg he] at hR
      refine t_g @he ?_
      repeat (first | refine W_seq ?_ | refine W_skip ?_ | refine W_block ?_ | refine W_inBlock ?_ | refine W_label ?_ | refine W_exit rfl ?_)
      first | refine W_retR hP hf hfn _ ([(b, mk1 (majE x).2)]) (by first | (simp [go_sem, hP, hgl, hn, zeroTm]; done) | (simp [go_sem, hP, hgl, hn, zeroTm]; rfl)) (by simp [go_sem, hP, hgl, hn, zeroTm]) (by simp) ?_ hR.2 | refine W_endR hP hf hfn _ ([(b, mk1 (majE x).2)]) (by first | (simp [go_sem, hP, hgl, hn, zeroTm]; done) | (simp [go_sem, hP, hgl, hn, zeroTm]; rfl)) (by simp [go_sem, hP, hgl, hn, zeroTm]) (by simp) ?_ hR.2
      rw [hR.1]
      refine ⟨?_, by simp [zeroTm]⟩
      try simp [zeroTm]
      try all_goals (simp [Ty.dv, Ty.cells_eq, Ty.kind_mk, Ty.args_mk, Tm.dv, Tm.cells_eq, Tm.kind_mk, Tm.index_mk, Tm.type_mk, Tm.args_mk, Val.dv, Val.cells_eq, Val.kind_mk, Val.num_mk, Val.list_mk, Val.args_mk, ints])
  · intro h0
    obtain ⟨hl, hx⟩ := majs_all t.args h0
    rw [if_pos h0] at hR
    have all : ∀ z ∈ (majE.majsE t.args).1, Fine 0 (M + 100 * ((t.count : Int) - 1)) z := by
      intro z hz
      obtain ⟨i, hi⟩ := List.getElem?_of_mem hz
      have hil := (List.getElem?_eq_some_iff.1 hi).1
      have hxi : t.args[i]? = some t.args[i] := List.getElem?_eq_getElem (by omega)
      obtain ⟨x1, x2⟩ := hx i _ hxi
      have hm := List.getElem_mem (l := t.args) (n := i) (by omega)
      have hc := Tm.count_mem hm
      have := fine_maj _ (hsa _ hm) (hix.2 _ hm) hM
      rw [hi] at x2; cases x2
      exact (this.later fun _ => x1).mono (by omega)
    clear hx
    obtain ⟨l, hle⟩ : ∃ l, l = (majE.majsE t.args).1 := ⟨_, rfl⟩
    rw [← hle] at hR hl all ⊢
    generalize hM1 : M + 100 * ((t.count : Int) - 1) = M1 at all
    have hM2 : 10 ≤ M1 := by omega
    have hM3 : M1 + 200 ≤ 274877906944 := by omega
    have hlb : l.length ≤ 3 := by
      have := arityI_le t.kind
      omega
    refine t_rg0 ?_
    refine t_no ?_
    unfold majNodeE at hR
    by_cases h7 : t.kind = 7
    · rw [if_pos h7] at hR
      refine t_g @h7 ?_
      repeat (first | refine W_seq ?_ | refine W_skip ?_ | refine W_block ?_ | refine W_inBlock ?_ | refine W_label ?_ | refine W_exit rfl ?_)
      first | refine W_retR hP hf hfn _ ([(b, mk1 0)]) (by first | (simp [go_sem, hP, hgl, hn, nT]; done) | (simp [go_sem, hP, hgl, hn, nT]; rfl)) (by simp [go_sem, hP, hgl, hn, nT]) (by simp) ?_ hR.2 | refine W_endR hP hf hfn _ ([(b, mk1 0)]) (by first | (simp [go_sem, hP, hgl, hn, nT]; done) | (simp [go_sem, hP, hgl, hn, nT]; rfl)) (by simp [go_sem, hP, hgl, hn, nT]) (by simp) ?_ hR.2
      rw [hR.1]
      refine ⟨?_, by simp [nT]⟩
      try simp [nT]
      try all_goals (simp [Ty.dv, Ty.cells_eq, Ty.kind_mk, Ty.args_mk, Tm.dv, Tm.cells_eq, Tm.kind_mk, Tm.index_mk, Tm.type_mk, Tm.args_mk, Val.dv, Val.cells_eq, Val.kind_mk, Val.num_mk, Val.list_mk, Val.args_mk, ints])
    rw [if_neg h7] at hR
    by_cases h8 : t.kind = 8
    · rw [if_pos h8] at hR
      have h2 : l.length = 2 := by rw [h8] at hlen; simp [arityI] at hlen; omega
      match l, h2, all, hR with
      | [y, z], _, all, hR =>
        have fy := all y (by simp)
        have fz := all z (by simp)
        have cz := fz.1
        have w1 := plain_walk (gl := gl) b 0 5 [z] (by show 1 + (z.count + 0) ≤ 1073741824; omega)
        have f1 := fine_n1 (k := 5) (by omega) (.inl rfl) fz
        have hR : X.R = (fun r ψ => r = (maxE natY y (nodeE 0 5 zY [z]).1 (nodeE 0 5 zY [z]).2).1.dv ∧ ψ = [(b, mk1 (maxE natY y (nodeE 0 5 zY [z]).1 (nodeE 0 5 zY [z]).2).2)]) ∧ X.md = .fn := hR
        generalize nodeE 0 5 zY [z] = r1 at *
        obtain ⟨z1, e1⟩ := r1
        simp only at hR w1 f1
        have w2 := max_walk (gl := gl) b .nat y z1 e1 M1 nat_ok0 hM2 (by simp only [T.size]; omega) (fy.later fun h => rfl) f1
        have hnt : (T.ty .nat) = natY := rfl
        rw [hnt] at w2
        refine t_g @h8 ?_
        refine t_c3 @h8 sc_nat_ok w1 w2 ?_
        repeat (first | refine W_seq ?_ | refine W_skip ?_ | refine W_block ?_ | refine W_inBlock ?_ | refine W_label ?_ | refine W_exit rfl ?_)
        first | refine W_retR hP hf hfn _ ([(b, mk1 (maxE natY y z1 e1).2)]) (by first | (simp [go_sem, hP, hgl, hn]; done) | (simp [go_sem, hP, hgl, hn]; rfl)) (by simp [go_sem, hP, hgl, hn]) (by simp) ?_ hR.2 | refine W_endR hP hf hfn _ ([(b, mk1 (maxE natY y z1 e1).2)]) (by first | (simp [go_sem, hP, hgl, hn]; done) | (simp [go_sem, hP, hgl, hn]; rfl)) (by simp [go_sem, hP, hgl, hn]) (by simp) ?_ hR.2
        rw [hR.1]
        refine ⟨?_, by simp⟩
        try simp
        try all_goals (simp [Ty.dv, Ty.cells_eq, Ty.kind_mk, Ty.args_mk, Tm.dv, Tm.cells_eq, Tm.kind_mk, Tm.index_mk, Tm.type_mk, Tm.args_mk, Val.dv, Val.cells_eq, Val.kind_mk, Val.num_mk, Val.list_mk, Val.args_mk, ints])
    rw [if_neg h8] at hR
    by_cases h2 : t.kind = 2
    · rw [if_pos h2] at hR
      have h1 : l.length = 1 := by rw [h2] at hlen; simp [arityI] at hlen; omega
      match l, h1, all, hR with
      | [y], _, all, hR =>
        have cy := (all y (by simp)).1
        refine t_g @h2 ?_
        refine t_c2 @h2 (bare_walk t.type) (node_walk b 0 2 (bareN t.type) [y] (by show 1 + (y.count + 0) ≤ 1073741824; omega)) ?_
        repeat (first | refine W_seq ?_ | refine W_skip ?_ | refine W_block ?_ | refine W_inBlock ?_ | refine W_label ?_ | refine W_exit rfl ?_)
        first | refine W_retR hP hf hfn _ ([(b, mk1 (nodeE 0 2 (bareN t.type) [y]).2)]) (by first | (simp [go_sem, hP, hgl, hn]; done) | (simp [go_sem, hP, hgl, hn]; rfl)) (by simp [go_sem, hP, hgl, hn]) (by simp) ?_ hR.2 | refine W_endR hP hf hfn _ ([(b, mk1 (nodeE 0 2 (bareN t.type) [y]).2)]) (by first | (simp [go_sem, hP, hgl, hn]; done) | (simp [go_sem, hP, hgl, hn]; rfl)) (by simp [go_sem, hP, hgl, hn]) (by simp) ?_ hR.2
        rw [hR.1]
        refine ⟨?_, by simp⟩
        try simp
        try all_goals (simp [Ty.dv, Ty.cells_eq, Ty.kind_mk, Ty.args_mk, Tm.dv, Tm.cells_eq, Tm.kind_mk, Tm.index_mk, Tm.type_mk, Tm.args_mk, Val.dv, Val.cells_eq, Val.kind_mk, Val.num_mk, Val.list_mk, Val.args_mk, ints])
    rw [if_neg h2] at hR
    by_cases h6 : t.kind = 6
    · rw [if_pos h6] at hR
      obtain ⟨a, -, -, hb, ho, hsz⟩ := arg_ty hs (.inr (.inl h6))
      have h1 : l.length = 3 := by rw [h6] at hlen; simp [arityI] at hlen; omega
      match l, h1, all, hR with
      | [x, f, n], _, all, hR =>
        have fx := all x (by simp)
        have ff := all f (by simp)
        have fn' := all n (by simp)
        have cx := fx.1
        have cf := ff.1
        have cn := fn'.1
        have l1 := sc_lift_ok (gl := gl) f 0 2 (ff.2 rfl).1 (Tm.idx_mono (by omega) (ff.2 rfl).2) (by decide) (by decide) (by decide) (by omega)
        have u1 := up_count f 0 2
        have v1 : (vT 1).count ≤ 268435456 := by decide
        have v0 : (vT 0).count ≤ 268435456 := by decide
        have w1 := call_walk (gl := gl) b 0 (f.upN 0 2) [vT 1, vT 0] (by omega) (by intro z hz; simp at hz; rcases hz with rfl | rfl; exact v1; exact v0)
        have c := fine_call (M := M1 + 2) (by omega) [vT 1, vT 0] (fine_up (f := 0) (b := 2) (by decide) ff) fun _ z hz => by simp at hz; rcases hz with rfl | rfl; exact ⟨shape_v (i := 1), idx_v (by decide) (by omega)⟩; exact ⟨shape_v (i := 0), idx_v (by decide) (by omega)⟩
        have hR : X.R = (fun r ψ => r = (nodeE (stepE (bareN t.type) (callE 0 (f.upN 0 2) [vT 1, vT 0]).1 (callE 0 (f.upN 0 2) [vT 1, vT 0]).2).2 6 (bareN t.type) [x, (stepE (bareN t.type) (callE 0 (f.upN 0 2) [vT 1, vT 0]).1 (callE 0 (f.upN 0 2) [vT 1, vT 0]).2).1, n]).1.dv ∧ ψ = [(b, mk1 (nodeE (stepE (bareN t.type) (callE 0 (f.upN 0 2) [vT 1, vT 0]).1 (callE 0 (f.upN 0 2) [vT 1, vT 0]).2).2 6 (bareN t.type) [x, (stepE (bareN t.type) (callE 0 (f.upN 0 2) [vT 1, vT 0]).1 (callE 0 (f.upN 0 2) [vT 1, vT 0]).2).1, n]).2)]) ∧ X.md = .fn := hR
        generalize callE 0 (f.upN 0 2) [vT 1, vT 0] = r1 at *
        obtain ⟨g1, e1⟩ := r1
        simp only at hR w1 c
        have wb := bare_walk (gl := gl) t.type
        rw [hb] at wb hR
        have w2 := step_walk (gl := gl) b a.maj g1 e1 (M1 + 2) ho (by omega) (by omega) c
        have c2 : (stepE a.maj.ty g1 e1).1.count ≤ 4096 := node_count _ _ _ _
        generalize stepE a.maj.ty g1 e1 = r2 at *
        obtain ⟨g2, e2⟩ := r2
        simp only at hR w2 c2
        have w3 := node_walk (gl := gl) b e2 6 a.maj.ty [x, g2, n] (by show 1 + (x.count + (g2.count + (n.count + 0))) ≤ 1073741824; omega)
        refine t_g @h6 ?_
        refine t_c1 @h6 wb ?_
        refine t_c1 @h6 l1 ?_
        refine t_c5 @h6 (sc_var_ok 1) (sc_var_ok 0) w1 w2 w3 ?_
        repeat (first | refine W_seq ?_ | refine W_skip ?_ | refine W_block ?_ | refine W_inBlock ?_ | refine W_label ?_ | refine W_exit rfl ?_)
        first | refine W_retR hP hf hfn _ ([(b, mk1 (nodeE e2 6 a.maj.ty [x, g2, n]).2)]) (by first | (simp [go_sem, hP, hgl, hn]; done) | (simp [go_sem, hP, hgl, hn]; rfl)) (by simp [go_sem, hP, hgl, hn]) (by simp) ?_ hR.2 | refine W_endR hP hf hfn _ ([(b, mk1 (nodeE e2 6 a.maj.ty [x, g2, n]).2)]) (by first | (simp [go_sem, hP, hgl, hn]; done) | (simp [go_sem, hP, hgl, hn]; rfl)) (by simp [go_sem, hP, hgl, hn]) (by simp) ?_ hR.2
        rw [hR.1]
        refine ⟨?_, by simp⟩
        try simp
        try all_goals (simp [Ty.dv, Ty.cells_eq, Ty.kind_mk, Ty.args_mk, Tm.dv, Tm.cells_eq, Tm.kind_mk, Tm.index_mk, Tm.type_mk, Tm.args_mk, Val.dv, Val.cells_eq, Val.kind_mk, Val.num_mk, Val.list_mk, Val.args_mk, ints])
    rw [if_neg h6] at hR
    by_cases h9 : t.kind = 9
    · rw [if_pos h9] at hR
      obtain ⟨a, -, -, hb, ho, hsz⟩ := arg_ty hs (.inr (.inr h9))
      have h1 : l.length = 3 := by rw [h9] at hlen; simp [arityI] at hlen; omega
      match l, h1, all, hR with
      | [x, f, n], _, all, hR =>
        have fx := all x (by simp)
        have ff := all f (by simp)
        have fn' := all n (by simp)
        have cx := fx.1
        have cf := ff.1
        have cn := fn'.1
        have l1 := sc_lift_ok (gl := gl) f 0 3 (ff.2 rfl).1 (Tm.idx_mono (by omega) (ff.2 rfl).2) (by decide) (by decide) (by decide) (by omega)
        have l2 := sc_lift_ok (gl := gl) x 0 1 (fx.2 rfl).1 (Tm.idx_mono (by omega) (fx.2 rfl).2) (by decide) (by decide) (by decide) (by omega)
        have u1 := up_count f 0 3
        have u2 := up_count x 0 1
        have v2 : (vT 2).count ≤ 268435456 := by decide
        have v0 : (vT 0).count ≤ 268435456 := by decide
        have v00 : (vT 0).count = 1 := by decide
        have w1 := call_walk (gl := gl) b 0 (f.upN 0 3) [vT 2, vT 2, vT 0] (by omega) (by intro z hz; simp at hz; rcases hz with rfl | rfl; exact v2; exact v0)
        have c := fine_call (M := M1 + 3) (by omega) [vT 2, vT 2, vT 0] (fine_up (f := 0) (b := 3) (by decide) ff) fun _ z hz => by simp at hz; rcases hz with rfl | rfl; exact ⟨shape_v (i := 2), idx_v (by decide) (by omega)⟩; exact ⟨shape_v (i := 0), idx_v (by decide) (by omega)⟩
        have hR : ∃ c1 : Tm × Int, c1 = callE 0 (f.upN 0 3) [vT 2, vT 2, vT 0] ∧ ∃ st, st = stepE (bareN t.type) c1.1 c1.2 ∧ ∃ r, r = nodeE st.2 6 (bareN t.type) [x.upN 0 1, st.1, vT 0] ∧ ∃ la, la = nodeE r.2 2 natY [r.1] ∧ X.R = (fun q ψ => q = (callE la.2 la.1 [n]).1.dv ∧ ψ = [(b, mk1 (callE la.2 la.1 [n]).2)]) ∧ X.md = .fn := ⟨_, rfl, _, rfl, _, rfl, _, rfl, hR⟩
        obtain ⟨r1, q1, r2, q2, r3, q3, r4, q4, hR⟩ := hR
        rw [← q1] at w1 c
        obtain ⟨g1, e1⟩ := r1
        simp only at q2 w1 c
        have wb := bare_walk (gl := gl) t.type
        rw [hb] at wb q2 q3
        have w2 := step_walk (gl := gl) b a.maj g1 e1 (M1 + 3) ho (by omega) (by omega) c
        have c2 : (stepE a.maj.ty g1 e1).1.count ≤ 4096 := node_count _ _ _ _
        rw [← q2] at w2 c2
        obtain ⟨g2, e2⟩ := r2
        simp only at q3 w2 c2
        have w3 := node_walk (gl := gl) b e2 6 a.maj.ty [x.upN 0 1, g2, vT 0] (by show 1 + ((x.upN 0 1).count + (g2.count + ((vT 0).count + 0))) ≤ 1073741824; omega)
        have c3 := node_count e2 6 a.maj.ty [x.upN 0 1, g2, vT 0]
        rw [← q3] at w3 c3
        obtain ⟨g3, e3⟩ := r3
        simp only at q4 w3 c3
        have w4 := node_walk (gl := gl) b e3 2 natY [g3] (by show 1 + (g3.count + 0) ≤ 1073741824; omega)
        have c4 := node_count e3 2 natY [g3]
        rw [← q4] at w4 c4
        obtain ⟨g4, e4⟩ := r4
        simp only at hR w4 c4
        have w5 := call_walk (gl := gl) b e4 g4 [n] (by omega) (by intro z hz; simp at hz; rw [hz]; exact cn)
        refine t_g @h9 ?_
        refine t_c1 @h9 wb ?_
        refine t_c2 @h9 l1 (sc_var_ok 2) ?_
        refine t_c6 @h9 l2 (sc_var_ok 0) w1 w2 (sc_var_ok 0) w3 ?_
        refine t_c3 @h9 sc_nat_ok w4 w5 ?_
        repeat (first | refine W_seq ?_ | refine W_skip ?_ | refine W_block ?_ | refine W_inBlock ?_ | refine W_label ?_ | refine W_exit rfl ?_)
        first | refine W_retR hP hf hfn _ ([(b, mk1 (callE e4 g4 [n]).2)]) (by first | (simp [go_sem, hP, hgl, hn]; done) | (simp [go_sem, hP, hgl, hn]; rfl)) (by simp [go_sem, hP, hgl, hn]) (by simp) ?_ hR.2 | refine W_endR hP hf hfn _ ([(b, mk1 (callE e4 g4 [n]).2)]) (by first | (simp [go_sem, hP, hgl, hn]; done) | (simp [go_sem, hP, hgl, hn]; rfl)) (by simp [go_sem, hP, hgl, hn]) (by simp) ?_ hR.2
        rw [hR.1]
        refine ⟨?_, by simp⟩
        try simp
        try all_goals (simp [Ty.dv, Ty.cells_eq, Ty.kind_mk, Ty.args_mk, Tm.dv, Tm.cells_eq, Tm.kind_mk, Tm.index_mk, Tm.type_mk, Tm.args_mk, Val.dv, Val.cells_eq, Val.kind_mk, Val.num_mk, Val.list_mk, Val.args_mk, ints])
    rw [if_neg h9] at hR
    by_cases h1 : t.kind = 1
    · rw [if_pos h1] at hR
      have he : Tm.mk t.kind t.index t.type t.args = t := Tm.eta t
      rw [he] at hR
      have hfd := Tm.fold t
      rw [h1] at hfd
      refine t_g @h1 ?_
      repeat (first | refine W_seq ?_ | refine W_skip ?_ | refine W_block ?_ | refine W_inBlock ?_ | refine W_label ?_ | refine W_exit rfl ?_)
      first | refine W_retR hP hf hfn _ ([(b, mk1 0)]) (by first | (simp [go_sem, hP, hgl, hn, h1, hfd]; done) | (simp [go_sem, hP, hgl, hn, h1, hfd]; rfl)) (by simp [go_sem, hP, hgl, hn, h1, hfd]) (by simp) ?_ hR.2 | refine W_endR hP hf hfn _ ([(b, mk1 0)]) (by first | (simp [go_sem, hP, hgl, hn, h1, hfd]; done) | (simp [go_sem, hP, hgl, hn, h1, hfd]; rfl)) (by simp [go_sem, hP, hgl, hn, h1, hfd]) (by simp) ?_ hR.2
      rw [hR.1]
      refine ⟨?_, by simp [h1, hfd]⟩
      try simp [h1, hfd]
      try all_goals (simp [Ty.dv, Ty.cells_eq, Ty.kind_mk, Ty.args_mk, Tm.dv, Tm.cells_eq, Tm.kind_mk, Tm.index_mk, Tm.type_mk, Tm.args_mk, Val.dv, Val.cells_eq, Val.kind_mk, Val.num_mk, Val.list_mk, Val.args_mk, ints])
    rw [if_neg h1] at hR
    have hcl : (Tm.mk t.kind 0 zY l).count ≤ 1073741824 := by
      rw [Tm.count_eq, Tm.args_mk]
      match l, hlb, all with
      | [], _, _ => decide
      | [x], _, all => have := (all x (by simp)).1; show 1 + (x.count + 0) ≤ _; omega
      | [x, y], _, all => have := (all x (by simp)).1; have := (all y (by simp)).1; show 1 + (x.count + (y.count + 0)) ≤ _; omega
      | [x, y, z], _, all => have := (all x (by simp)).1; have := (all y (by simp)).1; have := (all z (by simp)).1; show 1 + (x.count + (y.count + (z.count + 0))) ≤ _; omega
    refine t_g (j2 @h1 (j2 @h2 (j2 @h6 (j2 @h7 (j2 @h8 @h9))))) ?_
    refine t_c1 trivial (plain_walk b 0 t.kind l hcl) ?_
    repeat (first | refine W_seq ?_ | refine W_skip ?_ | refine W_block ?_ | refine W_inBlock ?_ | refine W_label ?_ | refine W_exit rfl ?_)
    first | refine W_retR hP hf hfn _ ([(b, mk1 (nodeE 0 t.kind zY l).2)]) (by first | (simp [go_sem, hP, hgl, hn]; done) | (simp [go_sem, hP, hgl, hn]; rfl)) (by simp [go_sem, hP, hgl, hn]) (by simp) ?_ hR.2 | refine W_endR hP hf hfn _ ([(b, mk1 (nodeE 0 t.kind zY l).2)]) (by first | (simp [go_sem, hP, hgl, hn]; done) | (simp [go_sem, hP, hgl, hn]; rfl)) (by simp [go_sem, hP, hgl, hn]) (by simp) ?_ hR.2
    rw [hR.1]
    refine ⟨?_, by simp⟩
    try simp
    try all_goals (simp [Ty.dv, Ty.cells_eq, Ty.kind_mk, Ty.args_mk, Tm.dv, Tm.cells_eq, Tm.kind_mk, Tm.index_mk, Tm.type_mk, Tm.args_mk, Val.dv, Val.cells_eq, Val.kind_mk, Val.num_mk, Val.list_mk, Val.args_mk, ints])
end Go.Proofs.YtiacandbafjlfaaGreatDoor.Lift

