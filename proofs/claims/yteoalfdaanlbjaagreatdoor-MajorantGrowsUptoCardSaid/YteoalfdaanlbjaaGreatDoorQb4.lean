import Derived.Test.YteoalfdaanlbjaaGreatDoorQb3
namespace Go.Proofs.YteoalfdaanlbjaaGreatDoor.Lift
set_option linter.unusedSimpArgs false
set_option linter.unusedVariables false
set_option linter.unnecessarySimpa false
open Go
variable {gl : Globs}

def lamsT (b : Tm) (l : List Ty) : Tm := l.foldr (fun s b => Tm.mk 2 0 s [b]) b
def appsT (f : Tm) (l : List Tm) : Tm := l.foldl appT f
theorem appsT_snoc (f : Tm) (l : List Tm) (x : Tm) : appsT f (l ++ [x]) = appT (appsT f l) x := by simp [appsT]
theorem appsT_nil (f : Tm) : appsT f [] = f := rfl
theorem lamsT_drop (b : Tm) (l : List Ty) (j : Nat) (s : Ty) (h : l[j]? = some s) : lamsT b (l.drop j) = Tm.mk 2 0 s [lamsT b (l.drop (j + 1))] := by
  obtain ⟨hj, hs⟩ := List.getElem?_eq_some_iff.1 h
  rw [List.drop_eq_getElem_cons hj, hs]
  rfl

theorem tree_var_ok (i : Int) : Con1 Tryz.prog gl 189 [dint i] [] (Tm.mk 1 i (Ty.mk 0 []) []).dv [] := by
  refine t_in Tryz.func189 ?_
  intro X hP hgl hf hfn hn hR hids hfit
  refine t_g0 ?_
  refine t_r ?_
  simp [go_sem, hP, hgl, hn] <;> (try omega)
  all_goals exact t_f

theorem tree_rec_ok (k : Int) (s : Ty) (a b c : Tm) : Con1 Tryz.prog gl 202 [dint k, s.dv, a.dv, b.dv, c.dv] [] (Tm.mk k 0 s [a, b, c]).dv [] := by
  refine t_in Tryz.func202 ?_
  intro X hP hgl hf hfn hn hR hids hfit
  refine t_g0 ?_
  refine t_r ?_
  simp [go_sem, hP, hgl, hn] <;> (try omega)
  all_goals exact t_f

theorem tree_lam_ok (b : Tm) (l : List Ty) : Con1 Tryz.prog gl 201 [b.dv, .sl (l.map Ty.cells)] [] (lamsT b l).dv [] := by
  refine t_in Tryz.func201 ?_
  intro X hP hgl hf hfn hn hR hids hfit
  have hlen := sl_len (hfit (.sl (l.map Ty.cells)) (by simp))
  simp only [List.length_map] at hlen
  have h0 : lamsT b [] = b := rfl
  refine t_g0 ?_
  refine t_a ?_
  refine t_sub [] @h0 (W_rounds (fun k : Nat => k ≤ l.length) (fun k : Nat => [(.slot 1, .one (.v (.sl (l.map Ty.cells)))), (.slot 5, .one (.v (dint ((k : Int) - 1)))), (.loc 2, .row ([.v (dint (lamsT b (l.drop k)).kind), .v (dint (lamsT b (l.drop k)).index), .v (dint (lamsT b (l.drop k)).type.kind), .v (.sl ((lamsT b (l.drop k)).type.args.map Ty.cells)), .v (.sl ((lamsT b (l.drop k)).args.map Tm.cells))])), (.slot 2, .one (.loc 2 0)), (.loc 4, .row ([.v (dint 0), .v (dint 0), .v (dint 0), .own 0 [], .own 0 []])), (.slot 4, .one (.loc 4 0))]) (fun k : Nat => k) l.length (Nat.le_refl _) ?_)
  intro k hk ih2
  cases k with
  | zero =>
    refine t_g0 ?_
    refine t_r ?_
    simp [go_sem, hP, hgl, hn] <;> (try omega)
    all_goals exact t_f
  | succ j =>
    have hj : l[j]? = some l[j] := List.getElem?_eq_getElem hk
    generalize l[j] = s at hj
    have hd := lamsT_drop b l j s hj
    have hj' : ((j + 1 : Nat) : Int) - 1 = j := by omega
    rw [hj']
    refine t_gt (wr []) (j2 @hd (j2 @Tm.kind_mk (j2 @Tm.index_mk (j2 @Tm.type_mk (j2 @Tm.args_mk (Tm.cells_eq (lamsT b (l.drop (j + 1))))))))) @hj (ih2 j (by omega) (by omega))

theorem tree_app_ok (f : Tm) (l : List Tm) : Con1 Tryz.prog gl 191 [f.dv, .sl (l.map Tm.cells)] [] (appsT f l).dv [] := by
  refine t_in Tryz.func191 ?_
  intro X hP hgl hf hfn hn hR hids hfit
  have hlen := sl_len (hfit (.sl (l.map Tm.cells)) (by simp))
  simp only [List.length_map] at hlen
  refine t_g0 ?_
  refine t_a ?_
  refine t_sub [] @appsT_nil (W_list (l) (fun done rest => [(.slot 9, .one (.v (dint done.length))), (.slot 8, .one (.v (dint l.length))), (.slot 7, .one (.v (.sl (l.map Tm.cells)))), (.loc 2, .row ([.v (dint (appsT f done).kind), .v (dint (appsT f done).index), .v (dint (appsT f done).type.kind), .v (.sl ((appsT f done).type.args.map Ty.cells)), .v (.sl ((appsT f done).args.map Tm.cells))])), (.slot 2, .one (.loc 2 0)), (.loc 4, .row ([.v (dint 0), .v (dint 0), .v (dint 0), .own 0 [], .own 0 []])), (.slot 4, .one (.loc 4 0))]) ?_ ?_)
  · intro done x rest hL hg0 hnext
    have hlt : done.length < l.length := by rw [hL]; simp
    refine t_rg0 ?_
    refine t_yes ?_
    refine t_g @hg0 ?_
    refine t_c1 @hg0 (of_ok 3 [appsT f done, x]) ?_
    repeat (first | (refine W_sub [] (by simp [go_sem]) (by simp [go_sem, appsT_snoc, appT, Tm.kind_mk, Tm.index_mk, Tm.type_mk, Tm.args_mk] <;> omega) (by simp [go_sem]) hnext) | refine W_seq ?_ | refine W_skip ?_ | refine W_block ?_ | refine W_inBlock ?_ | refine W_label ?_ | refine W_exit rfl ?_ | ((first | refine W_reg [] fun K hK => ?_ | refine W_regd (by rw [hP]; exact mixed) [] fun K hK => ?_); simp [go_sem, hP, hgl, hn]; (repeat (refine ⟨by omega, ?_⟩)); (first | refine hK _ ?_ | refine ⟨by rfl, hK _ ?_⟩); clear hK K) | refine W_cond rfl (fun _ => ?_) (fun hq => False.elim (by first | (simp; done) | (simp; omega) | (simp at hq; done) | (simp at hq; omega))) | refine W_cond rfl (fun hq => False.elim (by first | (simp; done) | (simp; omega) | (simp at hq; done) | (simp at hq; omega))) (fun _ => ?_))
  · refine t_rg0 ?_
    refine t_no ?_
    refine t_g0 ?_
    refine t_r ?_
    simp [go_sem, hP, hgl, hn] <;> (try omega)
    all_goals exact t_f

theorem mk_app_ok (f : Tm) (l : List Tm) : Con1 Tryz.prog gl 72 [f.dv, .sl (l.map Tm.cells)] [] (appsT f l).dv [] := by
  refine t_in Tryz.func72 ?_
  intro X hP hgl hf hfn hn hR hids hfit
  have hlen := sl_len (hfit (.sl (l.map Tm.cells)) (by simp))
  simp only [List.length_map] at hlen
  refine t_g0 ?_
  refine t_a ?_
  refine t_sub [] @appsT_nil (W_list (l) (fun done rest => [(.slot 9, .one (.v (dint done.length))), (.slot 8, .one (.v (dint l.length))), (.slot 7, .one (.v (.sl (l.map Tm.cells)))), (.loc 2, .row ([.v (dint (appsT f done).kind), .v (dint (appsT f done).index), .v (dint (appsT f done).type.kind), .v (.sl ((appsT f done).type.args.map Ty.cells)), .v (.sl ((appsT f done).args.map Tm.cells))])), (.slot 2, .one (.loc 2 0)), (.loc 4, .row ([.v (dint 0), .v (dint 0), .v (dint 0), .own 0 [], .own 0 []])), (.slot 4, .one (.loc 4 0))]) ?_ ?_)
  · intro done x rest hL hg0 hnext
    have hlt : done.length < l.length := by rw [hL]; simp
    refine t_rg0 ?_
    refine t_yes ?_
    refine t_g @hg0 ?_
    refine t_c1 @hg0 (ref02_n_ok 3 [appsT f done, x]) ?_
    repeat (first | (refine W_sub [] (by simp [go_sem]) (by simp [go_sem, appsT_snoc, appT, Tm.kind_mk, Tm.index_mk, Tm.type_mk, Tm.args_mk] <;> omega) (by simp [go_sem]) hnext) | refine W_seq ?_ | refine W_skip ?_ | refine W_block ?_ | refine W_inBlock ?_ | refine W_label ?_ | refine W_exit rfl ?_ | ((first | refine W_reg [] fun K hK => ?_ | refine W_regd (by rw [hP]; exact mixed) [] fun K hK => ?_); simp [go_sem, hP, hgl, hn]; (repeat (refine ⟨by omega, ?_⟩)); (first | refine hK _ ?_ | refine ⟨by rfl, hK _ ?_⟩); clear hK K) | refine W_cond rfl (fun _ => ?_) (fun hq => False.elim (by first | (simp; done) | (simp; omega) | (simp at hq; done) | (simp at hq; omega))) | refine W_cond rfl (fun hq => False.elim (by first | (simp; done) | (simp; omega) | (simp at hq; done) | (simp at hq; omega))) (fun _ => ?_))
  · refine t_rg0 ?_
    refine t_no ?_
    refine t_g0 ?_
    refine t_r ?_
    simp [go_sem, hP, hgl, hn] <;> (try omega)
    all_goals exact t_f

def vT (i : Int) : Tm := Tm.mk 1 i (Ty.mk 0 []) []
def nT (k : Int) (l : List Tm) : Tm := Tm.mk k 0 (Ty.mk 0 []) l
def recT (b s o : Tm) : Tm := Tm.mk 6 0 (Ty.mk 1 []) [b, lamsT s [Ty.mk 1 [], Ty.mk 1 []], o]
def twoT (b : Tm) : Tm := lamsT b [Ty.mk 1 [], Ty.mk 1 []]
def predT : Tm := lamsT (recT (nT 4 []) (vT 1) (vT 0)) [Ty.mk 1 []]
def plusT : Tm := twoT (recT (vT 1) (nT 5 [vT 0]) (vT 0))
def subT : Tm := twoT (recT (vT 1) (appsT predT [vT 0]) (vT 0))
theorem recursion_ok (a b c : Tm) : Con1 Tryz.prog gl 188 [a.dv, b.dv, c.dv] [] (recT a b c).dv [] := by
  refine t_in Tryz.func188 ?_
  intro X hP hgl hf hfn hn hR hids hfit
  refine t_g0 ?_
  refine t_c5 @nat_v nat_ok nat_ok nat_ok (tree_lam_ok b [Ty.mk 1 [], Ty.mk 1 []]) (tree_rec_ok 6 (Ty.mk 1 []) a (lamsT b [Ty.mk 1 [], Ty.mk 1 []]) c) ?_
  refine t_r ?_
  simp [go_sem, hP, hgl, hn, recT] <;> (try omega)
  all_goals exact t_f
theorem two_ok (b : Tm) : Con1 Tryz.prog gl 187 [b.dv] [] (twoT b).dv [] := by
  refine t_in Tryz.func187 ?_
  intro X hP hgl hf hfn hn hR hids hfit
  refine t_g0 ?_
  refine t_c3 @nat_v nat_ok nat_ok (tree_lam_ok b [Ty.mk 1 [], Ty.mk 1 []]) ?_
  refine t_r ?_
  simp [go_sem, hP, hgl, hn, twoT] <;> (try omega)
theorem pred_ok : Con1 Tryz.prog gl 192 [] [] predT.dv [] := by
  refine t_in Tryz.func192 ?_
  intro X hP hgl hf hfn hn hR hids hfit
  refine t_g0 ?_
  refine t_a ?_
  first | refine W_reg [] fun K hK => ?_ | refine W_regd (by rw [hP]; exact mixed) [] fun K hK => ?_
  simp [go_sem, hP, hgl, hn, nat_v, nT, vT]
  repeat (refine ⟨by omega, ?_⟩)
  first | refine vcK_call hP hgl (of_ok 4 []) (by simp [go_sem, hP, hgl, hn, nat_v, nT, vT]) rfl (by simp [go_sem]) (by simp) (by rw [hn]; exact Nat.le_of_ble_eq_true rfl) ?_ | refine vcdC_call (fun _ _ => vcd_sound) hP hgl (of_ok 4 []) (by simp [go_sem, hP, hgl, hn, nat_v, nT, vT]) rfl (by simp [go_sem]) (by simp) (by rw [hn]; exact Nat.le_of_ble_eq_true rfl) ?_ | refine vcK_callG hP hgl (of_ok 4 []) (by simp [go_sem, hP, hgl, hn, nat_v, nT, vT]) rfl (by simp [go_sem]) (by simp) (by rw [hn]; exact Nat.le_of_ble_eq_true rfl) (by simp [go_sem]; rfl) (by rw [hn]; exact Nat.le_of_ble_eq_true rfl) (by simp [go_sem]) ?_ | refine vcdC_callG (fun _ _ => vcd_sound) hP hgl (of_ok 4 []) (by simp [go_sem, hP, hgl, hn, nat_v, nT, vT]) rfl (by simp [go_sem]) (by simp) (by rw [hn]; exact Nat.le_of_ble_eq_true rfl) (by simp [go_sem]; rfl) (by rw [hn]; exact Nat.le_of_ble_eq_true rfl) (by simp [go_sem]) ?_
  simp [go_sem, hP, hgl, hn, nat_v, nT, vT]
  repeat (refine ⟨by omega, ?_⟩)
  first | refine vcK_call hP hgl (tree_var_ok 1) (by simp [go_sem, hP, hgl, hn, nat_v, nT, vT]) rfl (by simp [go_sem]) (by simp) (by rw [hn]; exact Nat.le_of_ble_eq_true rfl) ?_ | refine vcdC_call (fun _ _ => vcd_sound) hP hgl (tree_var_ok 1) (by simp [go_sem, hP, hgl, hn, nat_v, nT, vT]) rfl (by simp [go_sem]) (by simp) (by rw [hn]; exact Nat.le_of_ble_eq_true rfl) ?_ | refine vcK_callG hP hgl (tree_var_ok 1) (by simp [go_sem, hP, hgl, hn, nat_v, nT, vT]) rfl (by simp [go_sem]) (by simp) (by rw [hn]; exact Nat.le_of_ble_eq_true rfl) (by simp [go_sem]; rfl) (by rw [hn]; exact Nat.le_of_ble_eq_true rfl) (by simp [go_sem]) ?_ | refine vcdC_callG (fun _ _ => vcd_sound) hP hgl (tree_var_ok 1) (by simp [go_sem, hP, hgl, hn, nat_v, nT, vT]) rfl (by simp [go_sem]) (by simp) (by rw [hn]; exact Nat.le_of_ble_eq_true rfl) (by simp [go_sem]; rfl) (by rw [hn]; exact Nat.le_of_ble_eq_true rfl) (by simp [go_sem]) ?_
  simp [go_sem, hP, hgl, hn, nat_v, nT, vT]
  repeat (refine ⟨by omega, ?_⟩)
  first | refine vcK_call hP hgl (tree_var_ok 0) (by simp [go_sem, hP, hgl, hn, nat_v, nT, vT]) rfl (by simp [go_sem]) (by simp) (by rw [hn]; exact Nat.le_of_ble_eq_true rfl) ?_ | refine vcdC_call (fun _ _ => vcd_sound) hP hgl (tree_var_ok 0) (by simp [go_sem, hP, hgl, hn, nat_v, nT, vT]) rfl (by simp [go_sem]) (by simp) (by rw [hn]; exact Nat.le_of_ble_eq_true rfl) ?_ | refine vcK_callG hP hgl (tree_var_ok 0) (by simp [go_sem, hP, hgl, hn, nat_v, nT, vT]) rfl (by simp [go_sem]) (by simp) (by rw [hn]; exact Nat.le_of_ble_eq_true rfl) (by simp [go_sem]; rfl) (by rw [hn]; exact Nat.le_of_ble_eq_true rfl) (by simp [go_sem]) ?_ | refine vcdC_callG (fun _ _ => vcd_sound) hP hgl (tree_var_ok 0) (by simp [go_sem, hP, hgl, hn, nat_v, nT, vT]) rfl (by simp [go_sem]) (by simp) (by rw [hn]; exact Nat.le_of_ble_eq_true rfl) (by simp [go_sem]; rfl) (by rw [hn]; exact Nat.le_of_ble_eq_true rfl) (by simp [go_sem]) ?_
  simp [go_sem, hP, hgl, hn, nat_v, nT, vT]
  repeat (refine ⟨by omega, ?_⟩)
  first | refine vcK_call hP hgl (recursion_ok (nT 4 []) (vT 1) (vT 0)) (by simp [go_sem, hP, hgl, hn, nat_v, nT, vT]) rfl (by simp [go_sem]) (by simp) (by rw [hn]; exact Nat.le_of_ble_eq_true rfl) ?_ | refine vcdC_call (fun _ _ => vcd_sound) hP hgl (recursion_ok (nT 4 []) (vT 1) (vT 0)) (by simp [go_sem, hP, hgl, hn, nat_v, nT, vT]) rfl (by simp [go_sem]) (by simp) (by rw [hn]; exact Nat.le_of_ble_eq_true rfl) ?_ | refine vcK_callG hP hgl (recursion_ok (nT 4 []) (vT 1) (vT 0)) (by simp [go_sem, hP, hgl, hn, nat_v, nT, vT]) rfl (by simp [go_sem]) (by simp) (by rw [hn]; exact Nat.le_of_ble_eq_true rfl) (by simp [go_sem]; rfl) (by rw [hn]; exact Nat.le_of_ble_eq_true rfl) (by simp [go_sem]) ?_ | refine vcdC_callG (fun _ _ => vcd_sound) hP hgl (recursion_ok (nT 4 []) (vT 1) (vT 0)) (by simp [go_sem, hP, hgl, hn, nat_v, nT, vT]) rfl (by simp [go_sem]) (by simp) (by rw [hn]; exact Nat.le_of_ble_eq_true rfl) (by simp [go_sem]; rfl) (by rw [hn]; exact Nat.le_of_ble_eq_true rfl) (by simp [go_sem]) ?_
  simp [go_sem, hP, hgl, hn, nat_v, nT, vT]
  repeat (refine ⟨by omega, ?_⟩)
  first | refine vcK_call hP hgl (nat_ok) (by simp [go_sem, hP, hgl, hn, nat_v, nT, vT]) rfl (by simp [go_sem]) (by simp) (by rw [hn]; exact Nat.le_of_ble_eq_true rfl) ?_ | refine vcdC_call (fun _ _ => vcd_sound) hP hgl (nat_ok) (by simp [go_sem, hP, hgl, hn, nat_v, nT, vT]) rfl (by simp [go_sem]) (by simp) (by rw [hn]; exact Nat.le_of_ble_eq_true rfl) ?_ | refine vcK_callG hP hgl (nat_ok) (by simp [go_sem, hP, hgl, hn, nat_v, nT, vT]) rfl (by simp [go_sem]) (by simp) (by rw [hn]; exact Nat.le_of_ble_eq_true rfl) (by simp [go_sem]; rfl) (by rw [hn]; exact Nat.le_of_ble_eq_true rfl) (by simp [go_sem]) ?_ | refine vcdC_callG (fun _ _ => vcd_sound) hP hgl (nat_ok) (by simp [go_sem, hP, hgl, hn, nat_v, nT, vT]) rfl (by simp [go_sem]) (by simp) (by rw [hn]; exact Nat.le_of_ble_eq_true rfl) (by simp [go_sem]; rfl) (by rw [hn]; exact Nat.le_of_ble_eq_true rfl) (by simp [go_sem]) ?_
  simp [go_sem, hP, hgl, hn, nat_v, nT, vT]
  repeat (refine ⟨by omega, ?_⟩)
  first | refine vcK_call hP hgl (tree_lam_ok (recT (nT 4 []) (vT 1) (vT 0)) [Ty.mk 1 []]) (by simp [go_sem, hP, hgl, hn, nat_v, nT, vT]) rfl (by simp [go_sem]) (by simp) (by rw [hn]; exact Nat.le_of_ble_eq_true rfl) ?_ | refine vcdC_call (fun _ _ => vcd_sound) hP hgl (tree_lam_ok (recT (nT 4 []) (vT 1) (vT 0)) [Ty.mk 1 []]) (by simp [go_sem, hP, hgl, hn, nat_v, nT, vT]) rfl (by simp [go_sem]) (by simp) (by rw [hn]; exact Nat.le_of_ble_eq_true rfl) ?_ | refine vcK_callG hP hgl (tree_lam_ok (recT (nT 4 []) (vT 1) (vT 0)) [Ty.mk 1 []]) (by simp [go_sem, hP, hgl, hn, nat_v, nT, vT]) rfl (by simp [go_sem]) (by simp) (by rw [hn]; exact Nat.le_of_ble_eq_true rfl) (by simp [go_sem]; rfl) (by rw [hn]; exact Nat.le_of_ble_eq_true rfl) (by simp [go_sem]) ?_ | refine vcdC_callG (fun _ _ => vcd_sound) hP hgl (tree_lam_ok (recT (nT 4 []) (vT 1) (vT 0)) [Ty.mk 1 []]) (by simp [go_sem, hP, hgl, hn, nat_v, nT, vT]) rfl (by simp [go_sem]) (by simp) (by rw [hn]; exact Nat.le_of_ble_eq_true rfl) (by simp [go_sem]; rfl) (by rw [hn]; exact Nat.le_of_ble_eq_true rfl) (by simp [go_sem]) ?_
  simp [go_sem, hP, hgl, hn, nat_v, nT, vT]
  refine t_e ?_
  clear hK K
  refine t_r ?_
  simp [go_sem, hP, hgl, hn, predT, nT, vT] <;> (try omega)
theorem plus_ok : Con1 Tryz.prog gl 168 [] [] plusT.dv [] := by
  refine t_in Tryz.func168 ?_
  intro X hP hgl hf hfn hn hR hids hfit
  refine t_g0 ?_
  refine t_a ?_
  first | refine W_reg [] fun K hK => ?_ | refine W_regd (by rw [hP]; exact mixed) [] fun K hK => ?_
  simp [go_sem, hP, hgl, hn, nT, vT]
  repeat (refine ⟨by omega, ?_⟩)
  first | refine vcK_call hP hgl (tree_var_ok 1) (by simp [go_sem, hP, hgl, hn, nT, vT]) rfl (by simp [go_sem]) (by simp) (by rw [hn]; exact Nat.le_of_ble_eq_true rfl) ?_ | refine vcdC_call (fun _ _ => vcd_sound) hP hgl (tree_var_ok 1) (by simp [go_sem, hP, hgl, hn, nT, vT]) rfl (by simp [go_sem]) (by simp) (by rw [hn]; exact Nat.le_of_ble_eq_true rfl) ?_ | refine vcK_callG hP hgl (tree_var_ok 1) (by simp [go_sem, hP, hgl, hn, nT, vT]) rfl (by simp [go_sem]) (by simp) (by rw [hn]; exact Nat.le_of_ble_eq_true rfl) (by simp [go_sem]; rfl) (by rw [hn]; exact Nat.le_of_ble_eq_true rfl) (by simp [go_sem]) ?_ | refine vcdC_callG (fun _ _ => vcd_sound) hP hgl (tree_var_ok 1) (by simp [go_sem, hP, hgl, hn, nT, vT]) rfl (by simp [go_sem]) (by simp) (by rw [hn]; exact Nat.le_of_ble_eq_true rfl) (by simp [go_sem]; rfl) (by rw [hn]; exact Nat.le_of_ble_eq_true rfl) (by simp [go_sem]) ?_
  simp [go_sem, hP, hgl, hn, nT, vT]
  repeat (refine ⟨by omega, ?_⟩)
  first | refine vcK_call hP hgl (tree_var_ok 0) (by simp [go_sem, hP, hgl, hn, nT, vT]) rfl (by simp [go_sem]) (by simp) (by rw [hn]; exact Nat.le_of_ble_eq_true rfl) ?_ | refine vcdC_call (fun _ _ => vcd_sound) hP hgl (tree_var_ok 0) (by simp [go_sem, hP, hgl, hn, nT, vT]) rfl (by simp [go_sem]) (by simp) (by rw [hn]; exact Nat.le_of_ble_eq_true rfl) ?_ | refine vcK_callG hP hgl (tree_var_ok 0) (by simp [go_sem, hP, hgl, hn, nT, vT]) rfl (by simp [go_sem]) (by simp) (by rw [hn]; exact Nat.le_of_ble_eq_true rfl) (by simp [go_sem]; rfl) (by rw [hn]; exact Nat.le_of_ble_eq_true rfl) (by simp [go_sem]) ?_ | refine vcdC_callG (fun _ _ => vcd_sound) hP hgl (tree_var_ok 0) (by simp [go_sem, hP, hgl, hn, nT, vT]) rfl (by simp [go_sem]) (by simp) (by rw [hn]; exact Nat.le_of_ble_eq_true rfl) (by simp [go_sem]; rfl) (by rw [hn]; exact Nat.le_of_ble_eq_true rfl) (by simp [go_sem]) ?_
  simp [go_sem, hP, hgl, hn, nT, vT]
  repeat (refine ⟨by omega, ?_⟩)
  first | refine vcK_call hP hgl (of_ok 5 [vT 0]) (by simp [go_sem, hP, hgl, hn, nT, vT]) rfl (by simp [go_sem]) (by simp) (by rw [hn]; exact Nat.le_of_ble_eq_true rfl) ?_ | refine vcdC_call (fun _ _ => vcd_sound) hP hgl (of_ok 5 [vT 0]) (by simp [go_sem, hP, hgl, hn, nT, vT]) rfl (by simp [go_sem]) (by simp) (by rw [hn]; exact Nat.le_of_ble_eq_true rfl) ?_ | refine vcK_callG hP hgl (of_ok 5 [vT 0]) (by simp [go_sem, hP, hgl, hn, nT, vT]) rfl (by simp [go_sem]) (by simp) (by rw [hn]; exact Nat.le_of_ble_eq_true rfl) (by simp [go_sem]; rfl) (by rw [hn]; exact Nat.le_of_ble_eq_true rfl) (by simp [go_sem]) ?_ | refine vcdC_callG (fun _ _ => vcd_sound) hP hgl (of_ok 5 [vT 0]) (by simp [go_sem, hP, hgl, hn, nT, vT]) rfl (by simp [go_sem]) (by simp) (by rw [hn]; exact Nat.le_of_ble_eq_true rfl) (by simp [go_sem]; rfl) (by rw [hn]; exact Nat.le_of_ble_eq_true rfl) (by simp [go_sem]) ?_
  simp [go_sem, hP, hgl, hn, nT, vT]
  repeat (refine ⟨by omega, ?_⟩)
  first | refine vcK_call hP hgl (tree_var_ok 0) (by simp [go_sem, hP, hgl, hn, nT, vT]) rfl (by simp [go_sem]) (by simp) (by rw [hn]; exact Nat.le_of_ble_eq_true rfl) ?_ | refine vcdC_call (fun _ _ => vcd_sound) hP hgl (tree_var_ok 0) (by simp [go_sem, hP, hgl, hn, nT, vT]) rfl (by simp [go_sem]) (by simp) (by rw [hn]; exact Nat.le_of_ble_eq_true rfl) ?_ | refine vcK_callG hP hgl (tree_var_ok 0) (by simp [go_sem, hP, hgl, hn, nT, vT]) rfl (by simp [go_sem]) (by simp) (by rw [hn]; exact Nat.le_of_ble_eq_true rfl) (by simp [go_sem]; rfl) (by rw [hn]; exact Nat.le_of_ble_eq_true rfl) (by simp [go_sem]) ?_ | refine vcdC_callG (fun _ _ => vcd_sound) hP hgl (tree_var_ok 0) (by simp [go_sem, hP, hgl, hn, nT, vT]) rfl (by simp [go_sem]) (by simp) (by rw [hn]; exact Nat.le_of_ble_eq_true rfl) (by simp [go_sem]; rfl) (by rw [hn]; exact Nat.le_of_ble_eq_true rfl) (by simp [go_sem]) ?_
  simp [go_sem, hP, hgl, hn, nT, vT]
  repeat (refine ⟨by omega, ?_⟩)
  first | refine vcK_call hP hgl (recursion_ok (vT 1) (nT 5 [vT 0]) (vT 0)) (by simp [go_sem, hP, hgl, hn, nT, vT]) rfl (by simp [go_sem]) (by simp) (by rw [hn]; exact Nat.le_of_ble_eq_true rfl) ?_ | refine vcdC_call (fun _ _ => vcd_sound) hP hgl (recursion_ok (vT 1) (nT 5 [vT 0]) (vT 0)) (by simp [go_sem, hP, hgl, hn, nT, vT]) rfl (by simp [go_sem]) (by simp) (by rw [hn]; exact Nat.le_of_ble_eq_true rfl) ?_ | refine vcK_callG hP hgl (recursion_ok (vT 1) (nT 5 [vT 0]) (vT 0)) (by simp [go_sem, hP, hgl, hn, nT, vT]) rfl (by simp [go_sem]) (by simp) (by rw [hn]; exact Nat.le_of_ble_eq_true rfl) (by simp [go_sem]; rfl) (by rw [hn]; exact Nat.le_of_ble_eq_true rfl) (by simp [go_sem]) ?_ | refine vcdC_callG (fun _ _ => vcd_sound) hP hgl (recursion_ok (vT 1) (nT 5 [vT 0]) (vT 0)) (by simp [go_sem, hP, hgl, hn, nT, vT]) rfl (by simp [go_sem]) (by simp) (by rw [hn]; exact Nat.le_of_ble_eq_true rfl) (by simp [go_sem]; rfl) (by rw [hn]; exact Nat.le_of_ble_eq_true rfl) (by simp [go_sem]) ?_
  simp [go_sem, hP, hgl, hn, nT, vT]
  repeat (refine ⟨by omega, ?_⟩)
  first | refine vcK_call hP hgl (two_ok (recT (vT 1) (nT 5 [vT 0]) (vT 0))) (by simp [go_sem, hP, hgl, hn, nT, vT]) rfl (by simp [go_sem]) (by simp) (by rw [hn]; exact Nat.le_of_ble_eq_true rfl) ?_ | refine vcdC_call (fun _ _ => vcd_sound) hP hgl (two_ok (recT (vT 1) (nT 5 [vT 0]) (vT 0))) (by simp [go_sem, hP, hgl, hn, nT, vT]) rfl (by simp [go_sem]) (by simp) (by rw [hn]; exact Nat.le_of_ble_eq_true rfl) ?_ | refine vcK_callG hP hgl (two_ok (recT (vT 1) (nT 5 [vT 0]) (vT 0))) (by simp [go_sem, hP, hgl, hn, nT, vT]) rfl (by simp [go_sem]) (by simp) (by rw [hn]; exact Nat.le_of_ble_eq_true rfl) (by simp [go_sem]; rfl) (by rw [hn]; exact Nat.le_of_ble_eq_true rfl) (by simp [go_sem]) ?_ | refine vcdC_callG (fun _ _ => vcd_sound) hP hgl (two_ok (recT (vT 1) (nT 5 [vT 0]) (vT 0))) (by simp [go_sem, hP, hgl, hn, nT, vT]) rfl (by simp [go_sem]) (by simp) (by rw [hn]; exact Nat.le_of_ble_eq_true rfl) (by simp [go_sem]; rfl) (by rw [hn]; exact Nat.le_of_ble_eq_true rfl) (by simp [go_sem]) ?_
  simp [go_sem, hP, hgl, hn, nT, vT]
  refine t_e ?_
  clear hK K
  refine t_r ?_
  simp [go_sem, hP, hgl, hn, plusT, nT, vT] <;> (try omega)
theorem sub_ok : Con1 Tryz.prog gl 169 [] [] subT.dv [] := by
  refine t_in Tryz.func169 ?_
  intro X hP hgl hf hfn hn hR hids hfit
  refine t_g0 ?_
  refine t_a ?_
  first | refine W_reg [] fun K hK => ?_ | refine W_regd (by rw [hP]; exact mixed) [] fun K hK => ?_
  simp [go_sem, hP, hgl, hn, nT, vT]
  repeat (refine ⟨by omega, ?_⟩)
  first | refine vcK_call hP hgl (tree_var_ok 1) (by simp [go_sem, hP, hgl, hn, nT, vT]) rfl (by simp [go_sem]) (by simp) (by rw [hn]; exact Nat.le_of_ble_eq_true rfl) ?_ | refine vcdC_call (fun _ _ => vcd_sound) hP hgl (tree_var_ok 1) (by simp [go_sem, hP, hgl, hn, nT, vT]) rfl (by simp [go_sem]) (by simp) (by rw [hn]; exact Nat.le_of_ble_eq_true rfl) ?_ | refine vcK_callG hP hgl (tree_var_ok 1) (by simp [go_sem, hP, hgl, hn, nT, vT]) rfl (by simp [go_sem]) (by simp) (by rw [hn]; exact Nat.le_of_ble_eq_true rfl) (by simp [go_sem]; rfl) (by rw [hn]; exact Nat.le_of_ble_eq_true rfl) (by simp [go_sem]) ?_ | refine vcdC_callG (fun _ _ => vcd_sound) hP hgl (tree_var_ok 1) (by simp [go_sem, hP, hgl, hn, nT, vT]) rfl (by simp [go_sem]) (by simp) (by rw [hn]; exact Nat.le_of_ble_eq_true rfl) (by simp [go_sem]; rfl) (by rw [hn]; exact Nat.le_of_ble_eq_true rfl) (by simp [go_sem]) ?_
  simp [go_sem, hP, hgl, hn, nT, vT]
  repeat (refine ⟨by omega, ?_⟩)
  first | refine vcK_call hP hgl (pred_ok) (by simp [go_sem, hP, hgl, hn, nT, vT]) rfl (by simp [go_sem]) (by simp) (by rw [hn]; exact Nat.le_of_ble_eq_true rfl) ?_ | refine vcdC_call (fun _ _ => vcd_sound) hP hgl (pred_ok) (by simp [go_sem, hP, hgl, hn, nT, vT]) rfl (by simp [go_sem]) (by simp) (by rw [hn]; exact Nat.le_of_ble_eq_true rfl) ?_ | refine vcK_callG hP hgl (pred_ok) (by simp [go_sem, hP, hgl, hn, nT, vT]) rfl (by simp [go_sem]) (by simp) (by rw [hn]; exact Nat.le_of_ble_eq_true rfl) (by simp [go_sem]; rfl) (by rw [hn]; exact Nat.le_of_ble_eq_true rfl) (by simp [go_sem]) ?_ | refine vcdC_callG (fun _ _ => vcd_sound) hP hgl (pred_ok) (by simp [go_sem, hP, hgl, hn, nT, vT]) rfl (by simp [go_sem]) (by simp) (by rw [hn]; exact Nat.le_of_ble_eq_true rfl) (by simp [go_sem]; rfl) (by rw [hn]; exact Nat.le_of_ble_eq_true rfl) (by simp [go_sem]) ?_
  simp [go_sem, hP, hgl, hn, nT, vT]
  repeat (refine ⟨by omega, ?_⟩)
  first | refine vcK_call hP hgl (tree_var_ok 0) (by simp [go_sem, hP, hgl, hn, nT, vT]) rfl (by simp [go_sem]) (by simp) (by rw [hn]; exact Nat.le_of_ble_eq_true rfl) ?_ | refine vcdC_call (fun _ _ => vcd_sound) hP hgl (tree_var_ok 0) (by simp [go_sem, hP, hgl, hn, nT, vT]) rfl (by simp [go_sem]) (by simp) (by rw [hn]; exact Nat.le_of_ble_eq_true rfl) ?_ | refine vcK_callG hP hgl (tree_var_ok 0) (by simp [go_sem, hP, hgl, hn, nT, vT]) rfl (by simp [go_sem]) (by simp) (by rw [hn]; exact Nat.le_of_ble_eq_true rfl) (by simp [go_sem]; rfl) (by rw [hn]; exact Nat.le_of_ble_eq_true rfl) (by simp [go_sem]) ?_ | refine vcdC_callG (fun _ _ => vcd_sound) hP hgl (tree_var_ok 0) (by simp [go_sem, hP, hgl, hn, nT, vT]) rfl (by simp [go_sem]) (by simp) (by rw [hn]; exact Nat.le_of_ble_eq_true rfl) (by simp [go_sem]; rfl) (by rw [hn]; exact Nat.le_of_ble_eq_true rfl) (by simp [go_sem]) ?_
  simp [go_sem, hP, hgl, hn, nT, vT]
  repeat (refine ⟨by omega, ?_⟩)
  first | refine vcK_call hP hgl (tree_app_ok predT [vT 0]) (by simp [go_sem, hP, hgl, hn, nT, vT]) rfl (by simp [go_sem]) (by simp) (by rw [hn]; exact Nat.le_of_ble_eq_true rfl) ?_ | refine vcdC_call (fun _ _ => vcd_sound) hP hgl (tree_app_ok predT [vT 0]) (by simp [go_sem, hP, hgl, hn, nT, vT]) rfl (by simp [go_sem]) (by simp) (by rw [hn]; exact Nat.le_of_ble_eq_true rfl) ?_ | refine vcK_callG hP hgl (tree_app_ok predT [vT 0]) (by simp [go_sem, hP, hgl, hn, nT, vT]) rfl (by simp [go_sem]) (by simp) (by rw [hn]; exact Nat.le_of_ble_eq_true rfl) (by simp [go_sem]; rfl) (by rw [hn]; exact Nat.le_of_ble_eq_true rfl) (by simp [go_sem]) ?_ | refine vcdC_callG (fun _ _ => vcd_sound) hP hgl (tree_app_ok predT [vT 0]) (by simp [go_sem, hP, hgl, hn, nT, vT]) rfl (by simp [go_sem]) (by simp) (by rw [hn]; exact Nat.le_of_ble_eq_true rfl) (by simp [go_sem]; rfl) (by rw [hn]; exact Nat.le_of_ble_eq_true rfl) (by simp [go_sem]) ?_
  simp [go_sem, hP, hgl, hn, nT, vT]
  repeat (refine ⟨by omega, ?_⟩)
  first | refine vcK_call hP hgl (tree_var_ok 0) (by simp [go_sem, hP, hgl, hn, nT, vT]) rfl (by simp [go_sem]) (by simp) (by rw [hn]; exact Nat.le_of_ble_eq_true rfl) ?_ | refine vcdC_call (fun _ _ => vcd_sound) hP hgl (tree_var_ok 0) (by simp [go_sem, hP, hgl, hn, nT, vT]) rfl (by simp [go_sem]) (by simp) (by rw [hn]; exact Nat.le_of_ble_eq_true rfl) ?_ | refine vcK_callG hP hgl (tree_var_ok 0) (by simp [go_sem, hP, hgl, hn, nT, vT]) rfl (by simp [go_sem]) (by simp) (by rw [hn]; exact Nat.le_of_ble_eq_true rfl) (by simp [go_sem]; rfl) (by rw [hn]; exact Nat.le_of_ble_eq_true rfl) (by simp [go_sem]) ?_ | refine vcdC_callG (fun _ _ => vcd_sound) hP hgl (tree_var_ok 0) (by simp [go_sem, hP, hgl, hn, nT, vT]) rfl (by simp [go_sem]) (by simp) (by rw [hn]; exact Nat.le_of_ble_eq_true rfl) (by simp [go_sem]; rfl) (by rw [hn]; exact Nat.le_of_ble_eq_true rfl) (by simp [go_sem]) ?_
  simp [go_sem, hP, hgl, hn, nT, vT]
  repeat (refine ⟨by omega, ?_⟩)
  first | refine vcK_call hP hgl (recursion_ok (vT 1) (appsT predT [vT 0]) (vT 0)) (by simp [go_sem, hP, hgl, hn, nT, vT]) rfl (by simp [go_sem]) (by simp) (by rw [hn]; exact Nat.le_of_ble_eq_true rfl) ?_ | refine vcdC_call (fun _ _ => vcd_sound) hP hgl (recursion_ok (vT 1) (appsT predT [vT 0]) (vT 0)) (by simp [go_sem, hP, hgl, hn, nT, vT]) rfl (by simp [go_sem]) (by simp) (by rw [hn]; exact Nat.le_of_ble_eq_true rfl) ?_ | refine vcK_callG hP hgl (recursion_ok (vT 1) (appsT predT [vT 0]) (vT 0)) (by simp [go_sem, hP, hgl, hn, nT, vT]) rfl (by simp [go_sem]) (by simp) (by rw [hn]; exact Nat.le_of_ble_eq_true rfl) (by simp [go_sem]; rfl) (by rw [hn]; exact Nat.le_of_ble_eq_true rfl) (by simp [go_sem]) ?_ | refine vcdC_callG (fun _ _ => vcd_sound) hP hgl (recursion_ok (vT 1) (appsT predT [vT 0]) (vT 0)) (by simp [go_sem, hP, hgl, hn, nT, vT]) rfl (by simp [go_sem]) (by simp) (by rw [hn]; exact Nat.le_of_ble_eq_true rfl) (by simp [go_sem]; rfl) (by rw [hn]; exact Nat.le_of_ble_eq_true rfl) (by simp [go_sem]) ?_
  simp [go_sem, hP, hgl, hn, nT, vT]
  repeat (refine ⟨by omega, ?_⟩)
  first | refine vcK_call hP hgl (two_ok (recT (vT 1) (appsT predT [vT 0]) (vT 0))) (by simp [go_sem, hP, hgl, hn, nT, vT]) rfl (by simp [go_sem]) (by simp) (by rw [hn]; exact Nat.le_of_ble_eq_true rfl) ?_ | refine vcdC_call (fun _ _ => vcd_sound) hP hgl (two_ok (recT (vT 1) (appsT predT [vT 0]) (vT 0))) (by simp [go_sem, hP, hgl, hn, nT, vT]) rfl (by simp [go_sem]) (by simp) (by rw [hn]; exact Nat.le_of_ble_eq_true rfl) ?_ | refine vcK_callG hP hgl (two_ok (recT (vT 1) (appsT predT [vT 0]) (vT 0))) (by simp [go_sem, hP, hgl, hn, nT, vT]) rfl (by simp [go_sem]) (by simp) (by rw [hn]; exact Nat.le_of_ble_eq_true rfl) (by simp [go_sem]; rfl) (by rw [hn]; exact Nat.le_of_ble_eq_true rfl) (by simp [go_sem]) ?_ | refine vcdC_callG (fun _ _ => vcd_sound) hP hgl (two_ok (recT (vT 1) (appsT predT [vT 0]) (vT 0))) (by simp [go_sem, hP, hgl, hn, nT, vT]) rfl (by simp [go_sem]) (by simp) (by rw [hn]; exact Nat.le_of_ble_eq_true rfl) (by simp [go_sem]; rfl) (by rw [hn]; exact Nat.le_of_ble_eq_true rfl) (by simp [go_sem]) ?_
  simp [go_sem, hP, hgl, hn, nT, vT]
  refine t_e ?_
  clear hK K
  refine t_r ?_
  simp [go_sem, hP, hgl, hn, subT, nT, vT] <;> (try omega)
end Go.Proofs.YteoalfdaanlbjaaGreatDoor.Lift

namespace Go.Proofs.YteoalfdaanlbjaaGreatDoor.Lift
set_option linter.unusedSimpArgs false
set_option linter.unusedVariables false
set_option linter.unnecessarySimpa false
open Go
variable {gl : Globs}

theorem plainD_cases (l : List Int) (p : Nat) : (plainD l p).1 = Ty.mk 1 [] ∨ (plainD l p).1 = Ty.mk 2 [] ∨ (plainD l p).1 = Ty.mk 5 [] ∨ (plainD l p).1 = Ty.mk 3 [Ty.mk 1 [], Ty.mk 2 []] ∨ (plainD l p).1 = Ty.mk 3 [Ty.mk 1 [], Ty.mk 1 []] := by
  unfold plainD
  generalize nextD l p 6 = q
  obtain ⟨k, p'⟩ := q
  simp only
  by_cases h1 : k = 0 ∨ k = 1
  · rw [if_pos h1]; simp
  · rw [if_neg h1]
    by_cases h2 : k = 2
    · rw [if_pos h2]; simp
    · rw [if_neg h2]
      by_cases h3 : k = 3
      · rw [if_pos h3]; simp
      · rw [if_neg h3]
        by_cases h4 : k = 4
        · rw [if_pos h4]; simp
        · rw [if_neg h4]; simp
theorem plainD_plain (l : List Int) (p : Nat) : (plainD l p).1.plain := by
  rcases plainD_cases l p with h | h | h | h | h <;> rw [h] <;> simp [Ty.plain, Ty.plain.plains]

theorem numTm_count : ∀ n : Nat, (numTm n).count = n + 1
  | 0 => rfl
  | n + 1 => by rw [numTm, Tm.count_eq]; simp [Tm.args, Tm.count.counts, numTm_count n]; omega
end Go.Proofs.YteoalfdaanlbjaaGreatDoor.Lift

/-
  Plain facts: the terms of small values.
-/
namespace Go.Proofs.YteoalfdaanlbjaaGreatDoor.Lift
set_option linter.unusedSimpArgs false
set_option linter.unusedVariables false
set_option linter.unnecessarySimpa false
open Go

theorem num_shape : ∀ n : Nat, (numTm n).shape = true
  | 0 => rfl
  | n + 1 => by
    rw [numTm, Tm.shape_eq]
    simp [Tm.kind, Tm.index, Tm.type, Tm.args, Tm.shape.shapes, num_shape n, tmKind, tyOfKind, arityI, Ty.zero, Ty.kind, Ty.args]
end Go.Proofs.YteoalfdaanlbjaaGreatDoor.Lift

/-
  Plain law: what typed terms denote.
-/
namespace Go.Proofs.YteoalfdaanlbjaaGreatDoor.Lift
set_option linter.unusedSimpArgs false
set_option linter.unusedVariables false
set_option linter.unnecessarySimpa false
open Go

/-- simple types -/
inductive T where
  | nat | list | unit
  | pair (a b : T)
  | fn (a b : T)
  deriving DecidableEq
namespace T
set_option linter.unusedSimpArgs false
set_option linter.unusedVariables false
set_option linter.unnecessarySimpa false
def ty : T → Ty
  | nat => Ty.mk 1 []
  | list => Ty.mk 2 []
  | unit => Ty.mk 5 []
  | pair a b => Ty.mk 3 [a.ty, b.ty]
  | fn a b => Ty.mk 4 [a.ty, b.ty]
/-- the values of a type -/
def V : T → Type
  | nat => Nat
  | list => List Nat
  | unit => Unit
  | pair a b => a.V × b.V
  | fn a b => a.V → b.V
def size : T → Nat
  | nat => 1
  | list => 1
  | unit => 1
  | pair a b => 1 + a.size + b.size
  | fn a b => 1 + a.size + b.size
theorem ty_count (a : T) : a.ty.count = a.size := by
  induction a with
  | nat => rfl
  | list => rfl
  | unit => rfl
  | pair a b iha ihb => show 1 + (a.ty.count + (b.ty.count + 0)) = _; simp only [size]; omega
  | fn a b iha ihb => show 1 + (a.ty.count + (b.ty.count + 0)) = _; simp only [size]; omega
theorem ty_shape (a : T) : a.ty.shape = true := by
  induction a with
  | nat => rfl
  | list => rfl
  | unit => rfl
  | pair a b iha ihb => simp [ty, Ty.shape, Ty.shape.shapes, tyKind, iha, ihb]
  | fn a b iha ihb => simp [ty, Ty.shape, Ty.shape.shapes, tyKind, iha, ihb]
/-- small enough to be written -/
def ok (a : T) : Prop := a.size ≤ 64
theorem ok_ty {a : T} (h : a.ok) : a.ty.ok := ⟨a.ty_shape, by rw [ty_count]; exact h⟩
theorem ty_ok {a : T} (h : a.ty.ok) : a.ok := by have := h.2; rw [ty_count] at this; exact this
theorem of_shape (s : Ty) (h : s.shape = true) : ∃ a : T, a.ty = s := by
  induction s using Ty.ind with
  | h s ih =>
  cases s with
  | mk k ts =>
    have h1 := h
    rw [Ty.shape_eq, Bool.and_eq_true, Ty.shapes_iff] at h1
    obtain ⟨h2, h3⟩ := h1
    unfold tyKind at h2
    simp [Ty.kind, Ty.args] at h2
    rcases h2 with ⟨h2, rfl⟩ | ⟨h2, h4⟩
    · rcases of_decide_eq_true h2 with rfl | rfl | rfl
      · exact ⟨nat, rfl⟩
      · exact ⟨list, rfl⟩
      · exact ⟨unit, rfl⟩
    · match ts, h4, ih, h3 with
      | [x, y], _, ih, h3 =>
        obtain ⟨a, rfl⟩ := ih x (by simp [Ty.args]) (h3 x (by simp [Ty.args]))
        obtain ⟨b, rfl⟩ := ih y (by simp [Ty.args]) (h3 y (by simp [Ty.args]))
        rcases of_decide_eq_true h2 with rfl | rfl
        · exact ⟨pair a b, rfl⟩
        · exact ⟨fn a b, rfl⟩
theorem ty_inj : ∀ {a b : T}, a.ty = b.ty → a = b := by
  intro a
  induction a with
  | nat => intro b h; cases b <;> simp [ty] at h <;> rfl
  | list => intro b h; cases b <;> simp [ty] at h <;> rfl
  | unit => intro b h; cases b <;> simp [ty] at h <;> rfl
  | pair x y ihx ihy => intro b h; cases b <;> simp [ty] at h; rw [ihx h.1, ihy h.2]
  | fn x y ihx ihy => intro b h; cases b <;> simp [ty] at h; rw [ihx h.1, ihy h.2]
/-- some value of each type -/
def dflt : (a : T) → a.V
  | nat => (0 : Nat)
  | list => ([] : List Nat)
  | unit => ()
  | pair a b => (a.dflt, b.dflt)
  | fn _ b => fun _ => b.dflt
end T

/-- values of variables: the last one first -/
def Env : List T → Type
  | [] => Unit
  | a :: Γ => a.V × Env Γ

/-- the variable i: its type and its value -/
inductive At : (Γ : List T) → Nat → (a : T) → (Env Γ → a.V) → Prop
  | zero {a : T} {Γ : List T} : At (a :: Γ) 0 a (fun e => e.1)
  | succ {a b : T} {Γ : List T} {i : Nat} {p : Env Γ → a.V} (h : At Γ i a p) : At (b :: Γ) (i + 1) a (fun e => p e.2)

theorem At.of : ∀ {Γ : List T} {i : Nat} {a : T}, Γ[i]? = some a → ∃ p, At Γ i a p
  | [], _, _, h => by simp at h
  | b :: Γ, 0, a, h => by simp at h; subst h; exact ⟨_, .zero⟩
  | b :: Γ, i + 1, a, h => by
    obtain ⟨p, hp⟩ := At.of (Γ := Γ) (i := i) (a := a) (by simpa using h)
    exact ⟨_, .succ hp⟩
theorem At.get {Γ : List T} {i : Nat} {a : T} {p : Env Γ → a.V} (h : At Γ i a p) : Γ[i]? = some a := by
  induction h with
  | zero => rfl
  | succ h ih => simpa using ih

def natRec {α : Type} (b : α) (f : Nat → α → α) : Nat → α
  | 0 => b
  | n + 1 => f n (natRec b f n)
def listRec {α : Type} (b : α) (f : Nat → List Nat → α → α) : List Nat → α
  | [] => b
  | x :: l => f x l (listRec b f l)

def lamT (a : T) (b : Tm) : Tm := Tm.mk 2 0 a.ty [b]

/-- a term has a type below some variables, and means a value for all of theirs -/
inductive Dn : (Γ : List T) → Tm → (a : T) → (Env Γ → a.V) → Prop
  | var {Γ : List T} {i : Nat} {a : T} {p : Env Γ → a.V} (h : At Γ i a p) : Dn Γ (vT i) a p
  | lam {Γ : List T} {a r : T} {b : Tm} {f : Env (a :: Γ) → r.V} (ha : a.ok) (h : Dn (a :: Γ) b r f) : Dn Γ (lamT a b) (.fn a r) (fun e v => f (v, e))
  | app {Γ : List T} {a b : T} {f x : Tm} {F : Env Γ → (T.fn a b).V} {X : Env Γ → a.V} (hf : Dn Γ f (.fn a b) F) (hx : Dn Γ x a X) : Dn Γ (nT 3 [f, x]) b (fun e => F e (X e))
  | zero {Γ : List T} : Dn Γ (nT 4 []) .nat (fun _ => (0 : Nat))
  | succ {Γ : List T} {x : Tm} {X : Env Γ → T.nat.V} (hx : Dn Γ x .nat X) : Dn Γ (nT 5 [x]) .nat (fun e => Nat.succ (X e))
  | rc {Γ : List T} {a : T} {b f n : Tm} {B : Env Γ → a.V} {F : Env Γ → (T.fn .nat (.fn a a)).V} {N : Env Γ → T.nat.V} (ha : a.ok) (hb : Dn Γ b a B) (hf : Dn Γ f (.fn .nat (.fn a a)) F) (hn : Dn Γ n .nat N) :
      Dn Γ (Tm.mk 6 0 a.ty [b, f, n]) a (fun e => natRec (B e) (F e) (N e))
  | nil {Γ : List T} : Dn Γ (nT 7 []) .list (fun _ => ([] : List Nat))
  | cons {Γ : List T} {x l : Tm} {X : Env Γ → T.nat.V} {L : Env Γ → T.list.V} (hx : Dn Γ x .nat X) (hl : Dn Γ l .list L) : Dn Γ (nT 8 [x, l]) .list (fun e => List.cons (X e) (L e))
  | fold {Γ : List T} {a : T} {b f n : Tm} {B : Env Γ → a.V} {F : Env Γ → (T.fn .nat (.fn .list (.fn a a))).V} {N : Env Γ → T.list.V} (ha : a.ok) (hb : Dn Γ b a B) (hf : Dn Γ f (.fn .nat (.fn .list (.fn a a))) F) (hn : Dn Γ n .list N) :
      Dn Γ (Tm.mk 9 0 a.ty [b, f, n]) a (fun e => listRec (B e) (F e) (N e))
  | pair {Γ : List T} {a b : T} {x y : Tm} {X : Env Γ → a.V} {Y : Env Γ → b.V} (hx : Dn Γ x a X) (hy : Dn Γ y b Y) : Dn Γ (nT 10 [x, y]) (.pair a b) (fun e => Prod.mk (X e) (Y e))
  | fst {Γ : List T} {a b : T} {x : Tm} {X : Env Γ → (T.pair a b).V} (hx : Dn Γ x (.pair a b) X) : Dn Γ (nT 11 [x]) a (fun e => Prod.fst (X e))
  | snd {Γ : List T} {a b : T} {x : Tm} {X : Env Γ → (T.pair a b).V} (hx : Dn Γ x (.pair a b) X) : Dn Γ (nT 12 [x]) b (fun e => Prod.snd (X e))
  | unit {Γ : List T} : Dn Γ (nT 13 []) .unit (fun _ => ())

end Go.Proofs.YteoalfdaanlbjaaGreatDoor.Lift

/-
  Plain law: lifting and putting in keep what a term denotes.
-/
namespace Go.Proofs.YteoalfdaanlbjaaGreatDoor.Lift
set_option linter.unusedSimpArgs false
set_option linter.unusedVariables false
set_option linter.unnecessarySimpa false
open Go

def Env.drop {Γ : List T} : (Ξ : List T) → Env (Ξ ++ Γ) → Env Γ
  | [], e => e
  | _ :: Ξ, e => Env.drop Ξ e.2
/-- the values without those of Ξ, which stand below Δ -/
def Env.wk {Γ : List T} : (Δ Ξ : List T) → Env (Δ ++ (Ξ ++ Γ)) → Env (Δ ++ Γ)
  | [], Ξ, e => Env.drop Ξ e
  | _ :: Δ, Ξ, e => (e.1, Env.wk Δ Ξ e.2)
theorem At.drop {Γ : List T} {i : Nat} {a : T} {p : Env Γ → a.V} (h : At Γ i a p) : ∀ Ξ : List T, At (Ξ ++ Γ) (i + Ξ.length) a (fun e => p (Env.drop Ξ e))
  | [] => h
  | _ :: Ξ => .succ (At.drop h Ξ)
theorem At.wk {Γ Ξ : List T} {a : T} : ∀ (Δ : List T) {i : Nat} {p : Env (Δ ++ Γ) → a.V}, At (Δ ++ Γ) i a p → At (Δ ++ (Ξ ++ Γ)) (if i < Δ.length then i else i + Ξ.length) a (fun e => p (Env.wk Δ Ξ e))
  | [], i, p, h => by rw [if_neg (by simp)]; exact At.drop h Ξ
  | b :: Δ, i, p, h => by
    cases h with
    | zero => rw [if_pos (by simp)]; exact At.zero
    | succ h =>
      rename_i j q
      have := At.succ (b := b) (At.wk (Ξ := Ξ) Δ h)
      have e : (if j + 1 < (b :: Δ).length then j + 1 else j + 1 + Ξ.length) = (if j < Δ.length then j else j + Ξ.length) + 1 := by
        simp only [List.length_cons]
        split <;> split <;> omega
      rw [e]
      exact this

theorem up_node {k : Int} (hk : k ≠ 1 ∧ k ≠ 2) (i : Int) (y : Ty) (a : List Tm) (f b : Int) : (Tm.mk k i y a).upN f b = Tm.mk k i y (a.map fun x => x.upN f b) := by
  rw [Tm.upN_eq]
  simp [Tm.kind, Tm.index, Tm.type, Tm.args, hk.1, hk.2, bindI]
theorem up_lam (a : T) (t : Tm) (f b : Int) : (lamT a t).upN f b = lamT a (t.upN (f + 1) b) := by
  rw [lamT, Tm.upN_eq]
  simp [Tm.kind, Tm.index, Tm.type, Tm.args, bindI, lamT]
theorem up_var (i : Int) (f b : Int) : (vT i).upN f b = vT (if f ≤ i then i + b else i) := by
  rw [vT, Tm.upN_eq]
  simp [Tm.kind, Tm.index, Tm.type, Tm.args, vT]
theorem up_zero (t : Tm) (f : Int) : t.upN f 0 = t := by
  induction t using Tm.ind generalizing f with
  | h t ih =>
  rw [Tm.upN_eq]
  have h1 : (if t.kind = 1 ∧ f ≤ t.index then t.index + 0 else t.index) = t.index := by split <;> omega
  have h2 : (t.args.map fun x => x.upN (f + bindI t.kind) 0) = t.args := by
    conv => rhs; rw [← List.map_id t.args]
    exact List.map_congr_left fun x hx => ih x hx _
  rw [h1, h2]
  exact Tm.eta t
theorem dn_wk {Γ Ξ : List T} {Θ : List T} {t : Tm} {a : T} {F : Env Θ → a.V} (h : Dn Θ t a F) : ∀ (Δ : List T) (hΘ : Θ = Δ ++ Γ), Dn (Δ ++ (Ξ ++ Γ)) (t.upN Δ.length Ξ.length) a (fun e => F (cast (congrArg Env hΘ.symm) (Env.wk Δ Ξ e))) := by
  induction h with
  | var h =>
    intro Δ hΘ
    subst hΘ
    rename_i i a p
    have := Dn.var (At.wk (Ξ := Ξ) Δ h)
    rw [up_var]
    have e : (if (Δ.length : Int) ≤ (i : Nat) then ((i : Nat) : Int) + Ξ.length else (i : Nat)) = ((if i < Δ.length then i else i + Ξ.length : Nat) : Int) := by
      split <;> split <;> omega
    rw [e]
    exact this
  | lam ha h ih =>
    intro Δ hΘ
    subst hΘ
    rw [up_lam]
    have := ih (_ :: Δ) rfl
    simp only [List.length_cons, Int.natCast_add, Int.cast_ofNat_Int] at this
    exact .lam ha this
  | app hf hx ihf ihx => intro Δ hΘ; subst hΘ; rw [nT, up_node (by decide)]; exact .app (ihf Δ rfl) (ihx Δ rfl)
  | zero => intro Δ hΘ; subst hΘ; rw [nT, up_node (by decide)]; exact .zero
  | succ hx ih => intro Δ hΘ; subst hΘ; rw [nT, up_node (by decide)]; exact .succ (ih Δ rfl)
  | rc ha hb hf hn ihb ihf ihn => intro Δ hΘ; subst hΘ; rw [up_node (by decide)]; exact .rc ha (ihb Δ rfl) (ihf Δ rfl) (ihn Δ rfl)
  | nil => intro Δ hΘ; subst hΘ; rw [nT, up_node (by decide)]; exact .nil
  | cons hx hl ihx ihl => intro Δ hΘ; subst hΘ; rw [nT, up_node (by decide)]; exact .cons (ihx Δ rfl) (ihl Δ rfl)
  | fold ha hb hf hn ihb ihf ihn => intro Δ hΘ; subst hΘ; rw [up_node (by decide)]; exact .fold ha (ihb Δ rfl) (ihf Δ rfl) (ihn Δ rfl)
  | pair hx hy ihx ihy => intro Δ hΘ; subst hΘ; rw [nT, up_node (by decide)]; exact .pair (ihx Δ rfl) (ihy Δ rfl)
  | fst hx ih => intro Δ hΘ; subst hΘ; rw [nT, up_node (by decide)]; exact .fst (ih Δ rfl)
  | snd hx ih => intro Δ hΘ; subst hΘ; rw [nT, up_node (by decide)]; exact .snd (ih Δ rfl)
  | unit => intro Δ hΘ; subst hΘ; rw [nT, up_node (by decide)]; exact .unit

/-- a term below some more variables -/
theorem dn_up {Γ : List T} {t : Tm} {a : T} {F : Env Γ → a.V} (h : Dn Γ t a F) (Ξ : List T) : Dn (Ξ ++ Γ) (t.upN 0 Ξ.length) a (fun e => F (Env.drop Ξ e)) := dn_wk (Ξ := Ξ) h [] rfl

/-- what is denoted may be told otherwise -/
theorem Dn.eq {Γ : List T} {t : Tm} {a : T} {F G : Env Γ → a.V} (h : Dn Γ t a F) (e : ∀ ρ, F ρ = G ρ) : Dn Γ t a G := by
  have : F = G := funext e
  rw [← this]; exact h
end Go.Proofs.YteoalfdaanlbjaaGreatDoor.Lift

namespace Go.Proofs.YteoalfdaanlbjaaGreatDoor.Lift
set_option linter.unusedSimpArgs false
set_option linter.unusedVariables false
set_option linter.unnecessarySimpa false
open Go
variable {gl : Globs}

theorem Tm.idx_of (t : Tm) (m : Int) (h : t.shape = true) (hm : t.leastN m = true) : t.idx m := by
  induction t using Tm.ind with
  | h t ih =>
  have hs := Tm.shape_node h
  rw [leastN_eq, Bool.and_eq_true] at hm
  have key : ∀ l : List Tm, leastN.leasts l m = true → ∀ a ∈ l, a.leastN m = true := by
    intro l
    induction l with
    | nil => simp
    | cons a r ihr =>
      intro hl x hx
      simp only [leastN.leasts, Bool.and_eq_true] at hl
      rcases List.mem_cons.1 hx with rfl | hx
      · exact hl.1
      · exact ihr hl.2 x hx
  rw [idx_eq]
  refine ⟨⟨hs.2.1, ?_⟩, fun a ha => ih a ha (hs.2.2.2.2 a ha) (key _ hm.2 a ha)⟩
  have := hm.1
  simp at this
  exact this

end Go.Proofs.YteoalfdaanlbjaaGreatDoor.Lift

/-
  Plain law: reducing keeps what a term denotes; normal closed terms of plain types are the terms of values.
-/
namespace Go.Proofs.YteoalfdaanlbjaaGreatDoor.Lift
set_option linter.unusedSimpArgs false
set_option linter.unusedVariables false
set_option linter.unnecessarySimpa false
open Go

/-- types without functions -/
def T.plain : T → Prop
  | .nat => True
  | .list => True
  | .unit => True
  | .pair a b => a.plain ∧ b.plain
  | .fn _ _ => False
/-- the plain value of a value -/
def valOf : (a : T) → a.V → Val
  | .nat, n => Val.mk 1 (Int.ofNat n) [] []
  | .list, l => Val.mk 2 0 (List.map Int.ofNat l) []
  | .unit, _ => Val.mk 4 0 [] []
  | .pair a b, p => Val.mk 3 0 [] [valOf a p.1, valOf b p.2]
  | .fn _ _, _ => Val.mk 4 0 [] []

end Go.Proofs.YteoalfdaanlbjaaGreatDoor.Lift

/-
  Plain facts: what is drawn out of a deck of numbers: types, contexts, terms; their forms.
-/
namespace Go.Proofs.YteoalfdaanlbjaaGreatDoor.Lift
set_option linter.unusedSimpArgs false
set_option linter.unusedVariables false
set_option linter.unnecessarySimpa false
open Go

/-- a small type -/
def typeD (l : List Int) : Nat → Nat → Ty × Nat
  | 0, p =>
    if (nextD l p 7).1 = 3 then (Ty.mk 2 [], (nextD l p 7).2) else if (nextD l p 7).1 = 4 then (Ty.mk 5 [], (nextD l p 7).2) else (Ty.mk 1 [], (nextD l p 7).2)
  | n + 1, p =>
    if (nextD l p 7).1 = 3 then (Ty.mk 2 [], (nextD l p 7).2) else if (nextD l p 7).1 = 4 then (Ty.mk 5 [], (nextD l p 7).2)
    else if (nextD l p 7).1 = 5 then (Ty.mk 3 [(typeD l n (nextD l p 7).2).1, (typeD l n (typeD l n (nextD l p 7).2).2).1], (typeD l n (typeD l n (nextD l p 7).2).2).2)
    else if (nextD l p 7).1 = 6 then (Ty.mk 4 [(typeD l n (nextD l p 7).2).1, (typeD l n (typeD l n (nextD l p 7).2).2).1], (typeD l n (typeD l n (nextD l p 7).2).2).2)
    else (Ty.mk 1 [], (nextD l p 7).2)

/-- the variable i's type -/
def varTy (g : List Ty) (i : Nat) : Ty := g.getD (g.length - 1 - i) zeroTy
/-- the variables of a type -/
def varsN (g : List Ty) (t : Ty) : List Nat := (List.range g.length).filter fun i => (varTy g i).same t
/-- the first variable that is a function into a type -/
def funN (g : List Ty) (t : Ty) : Option Nat := (List.range g.length).find? fun i => decide ((varTy g i).kind = 4) && ((varTy g i).arg 1).same t

/-- a variable, if one is chosen -/
def pickD (l : List Int) (t : Ty) (g : List Ty) (p : Nat) : Option Tm × Nat :=
  if (varsN g t).length = 0 then (none, p)
  else if (nextD l p 3).1 = 0 then (none, (nextD l p 3).2)
  else (some (vT ((varsN g t).getD (nextD l (nextD l p 3).2 (varsN g t).length).1.toNat 0 : Nat)), (nextD l (nextD l p 3).2 (varsN g t).length).2)

def numD (l : List Int) (p : Nat) : Tm × Nat := (numTm (nextD l p 3).1.toNat, (nextD l p 3).2)

/-- a term of a type, without depth -/
def leafD (l : List Int) (t : Ty) (g : List Ty) (p : Nat) : Tm × Nat :=
  match pickD l t g p with
  | (some x, q) => (x, q)
  | (none, q) =>
    match t with
    | .mk k ts =>
      if k = 1 then numD l q
      else if k = 2 then (nT 7 [], q)
      else match ts with
        | [a, b] =>
          if k = 3 then (nT 10 [(leafD l a g q).1, (leafD l b g (leafD l a g q).2).1], (leafD l b g (leafD l a g q).2).2)
          else if k = 4 then (Tm.mk 2 0 a [(leafD l b (g ++ [a]) q).1], (leafD l b (g ++ [a]) q).2)
          else (nT 13 [], q)
        | _ => (nT 13 [], q)
termination_by SizeOf.sizeOf t

/-- the end of a draw: by the type -/
def endD (l : List Int) (F : Ty → List Ty → Nat → Tm × Nat) (t : Ty) (g : List Ty) (q : Nat) : Tm × Nat :=
  if t.kind = 1 then
    if (nextD l q 5).1 = 0 then (nT 5 [(F t g (nextD l q 5).2).1], (F t g (nextD l q 5).2).2)
    else if (nextD l q 5).1 = 1 then (appsT plusT [(F t g (nextD l q 5).2).1, (F t g (F t g (nextD l q 5).2).2).1], (F t g (F t g (nextD l q 5).2).2).2)
    else if (nextD l q 5).1 = 2 then (appsT subT [(F t g (nextD l q 5).2).1, (F t g (F t g (nextD l q 5).2).2).1], (F t g (F t g (nextD l q 5).2).2).2)
    else numD l (nextD l q 5).2
  else if t.kind = 2 then
    if (nextD l q 2).1 = 0 then (nT 8 [(F (Ty.mk 1 []) g (nextD l q 2).2).1, (F t g (F (Ty.mk 1 []) g (nextD l q 2).2).2).1], (F t g (F (Ty.mk 1 []) g (nextD l q 2).2).2).2)
    else (nT 7 [], (nextD l q 2).2)
  else if t.kind = 3 then (nT 10 [(F (t.arg 0) g q).1, (F (t.arg 1) g (F (t.arg 0) g q).2).1], (F (t.arg 1) g (F (t.arg 0) g q).2).2)
  else if t.kind = 4 then (Tm.mk 2 0 (t.arg 0) [(F (t.arg 1) (g ++ [t.arg 0]) q).1], (F (t.arg 1) (g ++ [t.arg 0]) q).2)
  else (nT 13 [], q)

/-- a draw with depth, without a variable: by the choice k -/
def stepD (l : List Int) (F : Ty → List Ty → Nat → Tm × Nat) (t : Ty) (g : List Ty) (k : Int) (q : Nat) : Tm × Nat :=
  if k = 0 then
    let s := typeD l 0 q
    let x := F t (g ++ [s.1]) s.2
    let y := F s.1 g x.2
    (nT 3 [Tm.mk 2 0 s.1 [x.1], y.1], y.2)
  else if k = 1 then
    let s := typeD l 0 q
    let x := F t g s.2
    let y := F s.1 g x.2
    (nT 11 [nT 10 [x.1, y.1]], y.2)
  else if k = 2 then
    let x := F t (g ++ [Ty.mk 1 [], t]) q
    let y := F t g x.2
    let z := numD l y.2
    (Tm.mk 6 0 t [y.1, Tm.mk 2 0 (Ty.mk 1 []) [Tm.mk 2 0 t [x.1]], z.1], z.2)
  else if k = 3 then
    let x := F t (g ++ [Ty.mk 1 [], Ty.mk 2 [], t]) q
    let y := F t g x.2
    let z := F (Ty.mk 2 []) g y.2
    (Tm.mk 9 0 t [y.1, Tm.mk 2 0 (Ty.mk 1 []) [Tm.mk 2 0 (Ty.mk 2 []) [Tm.mk 2 0 t [x.1]]], z.1], z.2)
  else if k = 4 then
    let s := typeD l 0 q
    let x := F s.1 g s.2
    let y := F t g x.2
    (nT 12 [nT 10 [x.1, y.1]], y.2)
  else if k = 5 then
    match funN g t with
    | some i => (nT 3 [vT i, (F ((varTy g i).arg 0) g q).1], (F ((varTy g i).arg 0) g q).2)
    | none => endD l F t g q
  else endD l F t g q

/-- a term of a type in a context -/
def termD (l : List Int) : Nat → Ty → List Ty → Nat → Tm × Nat
  | 0, t, g, p => leafD l t g p
  | n + 1, t, g, p =>
    match pickD l t g p with
    | (some x, q) => (x, q)
    | (none, q) => stepD l (termD l n) t g (nextD l q 8).1 (nextD l q 8).2

theorem leafD_eq (l : List Int) (t : Ty) (g : List Ty) (p : Nat) (ht : t.ok) : leafD l t g p =
    match pickD l t g p with
    | (some x, q) => (x, q)
    | (none, q) =>
      if t.kind = 1 then numD l q
      else if t.kind = 2 then (nT 7 [], q)
      else if t.kind = 3 then (nT 10 [(leafD l (t.arg 0) g q).1, (leafD l (t.arg 1) g (leafD l (t.arg 0) g q).2).1], (leafD l (t.arg 1) g (leafD l (t.arg 0) g q).2).2)
      else if t.kind = 4 then (Tm.mk 2 0 (t.arg 0) [(leafD l (t.arg 1) (g ++ [t.arg 0]) q).1], (leafD l (t.arg 1) (g ++ [t.arg 0]) q).2)
      else (nT 13 [], q) := by
  rw [leafD.eq_def]
  rcases pickD l t g p with ⟨_ | x, q⟩
  · cases t with
    | mk k ts =>
      simp only [Ty.kind]
      by_cases h1 : k = 1
      · simp [h1]
      by_cases h2 : k = 2
      · simp [h2]
      simp only [h1, h2, if_false]
      by_cases h34 : k = 3 ∨ k = 4
      · obtain ⟨a, b, e, -, -, e0, e1⟩ := Ty.ok_args ht h34
        simp only [Ty.args] at e
        subst e
        rw [e0, e1]
        rfl
      · have h3 : k ≠ 3 := fun e => h34 (.inl e)
        have h4 : k ≠ 4 := fun e => h34 (.inr e)
        simp only [h3, h4, if_false]
        match ts with
        | [a, b] => rfl
        | [] => rfl
        | [_] => rfl
        | _ :: _ :: _ :: _ => rfl
  · rfl

theorem ty_two {k : Int} {a b : Ty} (hk : k = 3 ∨ k = 4) (ha : a.shape = true) (hb : b.shape = true) : (Ty.mk k [a, b]).shape = true := by
  rcases hk with rfl | rfl <;> simp [Ty.shape, Ty.shape.shapes, tyKind, ha, hb]

theorem typeD_facts (l : List Int) : ∀ (n p : Nat), p ≤ l.length → (typeD l n p).2 ≤ l.length ∧ (typeD l n p).1.shape = true ∧ (typeD l n p).1.count + 1 ≤ 2 ^ (n + 1)
  | 0, p, hp => by
    have hq := nextD_le (n := 7) hp
    unfold typeD
    split
    · exact ⟨hq, rfl, Nat.le_refl 2⟩
    · split
      · exact ⟨hq, rfl, Nat.le_refl 2⟩
      · exact ⟨hq, rfl, Nat.le_refl 2⟩
  | n + 1, p, hp => by
    have hq := nextD_le (n := 7) hp
    obtain ⟨a1, a2, a3⟩ := typeD_facts l n _ hq
    obtain ⟨b1, b2, b3⟩ := typeD_facts l n _ a1
    have h2 : 2 ≤ 2 ^ (n + 1) := Nat.pow_le_pow_right (n := 2) (by decide) (show 1 ≤ n + 1 by omega)
    have h3 : 2 ^ (n + 1 + 1) = 2 ^ (n + 1) * 2 := Nat.pow_succ ..
    have hc : ∀ (k : Int) (a b : Ty), (Ty.mk k [a, b]).count = 1 + (a.count + (b.count + 0)) := fun _ _ _ => rfl
    unfold typeD
    split
    · exact ⟨hq, rfl, by show 1 + 0 + 1 ≤ _; omega⟩
    split
    · exact ⟨hq, rfl, by show 1 + 0 + 1 ≤ _; omega⟩
    split
    · exact ⟨b1, ty_two (.inl rfl) a2 b2, by rw [hc]; omega⟩
    split
    · exact ⟨b1, ty_two (.inr rfl) a2 b2, by rw [hc]; omega⟩
    · exact ⟨hq, rfl, by show 1 + 0 + 1 ≤ _; omega⟩

/-- a small type -/
def Ty.small (t : Ty) : Prop := t.shape = true ∧ t.count ≤ 15
theorem Ty.small.ok {t : Ty} (h : t.small) : t.ok := ⟨h.1, by have := h.2; omega⟩
theorem Ty.small.arg {t : Ty} (h : t.small) (hk : t.kind = 3 ∨ t.kind = 4) : (t.arg 0).small ∧ (t.arg 1).small ∧ (t.arg 0).count + (t.arg 1).count < t.count := by
  obtain ⟨a, b, e, oa, ob, e0, e1⟩ := Ty.ok_args h.ok hk
  have hc : t.count = 1 + (a.count + (b.count + 0)) := by rw [Ty.count_eq, e]; rfl
  have := h.2
  rw [e0, e1]
  exact ⟨⟨oa.1, by omega⟩, ⟨ob.1, by omega⟩, by omega⟩
theorem typeD_small (l : List Int) {n p : Nat} (hp : p ≤ l.length) (hn : n ≤ 3) : (typeD l n p).2 ≤ l.length ∧ (typeD l n p).1.small := by
  obtain ⟨h1, h2, h3⟩ := typeD_facts l n p hp
  have : 2 ^ (n + 1) ≤ 2 ^ 4 := Nat.pow_le_pow_right (by decide) (by omega)
  exact ⟨h1, h2, by omega⟩
theorem small_nat : (Ty.mk 1 []).small := ⟨rfl, by decide⟩
theorem small_list : (Ty.mk 2 []).small := ⟨rfl, by decide⟩
theorem varTy_mem {g : List Ty} {i : Nat} (h : i < g.length) : varTy g i ∈ g ∧ g[g.length - 1 - i]? = some (varTy g i) := by
  have hl : g.length - 1 - i < g.length := by omega
  unfold varTy
  rw [List.getD_eq_getElem?_getD, List.getElem?_eq_getElem hl]
  exact ⟨List.getElem_mem _, rfl⟩
theorem varsN_mem {g : List Ty} {t : Ty} {i : Nat} (h : i ∈ varsN g t) : i < g.length ∧ varTy g i = t := by
  simp only [varsN, List.mem_filter, List.mem_range, Ty.same_iff] at h
  exact h
theorem funN_some {g : List Ty} {t : Ty} {i : Nat} (h : funN g t = some i) : i < g.length ∧ (varTy g i).kind = 4 ∧ (varTy g i).arg 1 = t := by
  have h1 := List.find?_some h
  have h2 := List.mem_of_find?_eq_some h
  simp only [Bool.and_eq_true, decide_eq_true_eq, Ty.same_iff] at h1
  exact ⟨List.mem_range.1 h2, h1.1, h1.2⟩

theorem pickD_le {l : List Int} {t : Ty} {g : List Ty} {p : Nat} (hp : p ≤ l.length) : (pickD l t g p).2 ≤ l.length := by
  unfold pickD
  split
  · exact hp
  · split
    · exact nextD_le hp
    · exact nextD_le (nextD_le hp)
theorem pickD_some {l : List Int} {t : Ty} {g : List Ty} {p q : Nat} {x : Tm} (h : pickD l t g p = (some x, q)) : ∃ i : Nat, x = vT i ∧ i < g.length ∧ varTy g i = t := by
  unfold pickD at h
  split at h
  · cases h
  · rename_i hne
    split at h
    · cases h
    · simp only [Prod.mk.injEq, Option.some.injEq] at h
      generalize hk : (nextD l (nextD l p 3).2 (varsN g t).length).1.toNat = k at h
      have hb := nextD_bd (l := l) (p := (nextD l p 3).2) (n := (varsN g t).length) (by omega)
      have hlt : k < (varsN g t).length := by omega
      refine ⟨(varsN g t)[k], ?_, varsN_mem (List.getElem_mem hlt)⟩
      rw [← h.1, List.getD_eq_getElem?_getD, List.getElem?_eq_getElem hlt, Option.getD_some]

theorem shape_v {i : Nat} : (vT i).shape = true := by
  unfold vT
  rw [Tm.shape_eq]
  simp [Tm.kind, Tm.index, Tm.type, Tm.args, Tm.shape.shapes, tmKind, tyOfKind, arityI, Ty.zero, Ty.kind, Ty.args]
theorem shape_n {k : Int} {a : List Tm} (h : (a.length : Int) = arityI k) (hk : ¬ (k = 2 ∨ k = 6 ∨ k = 9)) (ha : ∀ x ∈ a, x.shape = true) : (nT k a).shape = true := by
  unfold nT
  rw [Tm.shape_eq]
  have hz : tyOfKind k (Ty.mk 0 []) = true := by unfold tyOfKind; rw [if_neg hk]; rfl
  simp only [Tm.kind, Tm.index, Tm.type, Tm.args, (Tm.shapes_iff a).2 ha, tmKind, hz, h]
  simp
theorem shape_t {k : Int} {s : Ty} {a : List Tm} (h : (a.length : Int) = arityI k) (hk : k = 2 ∨ k = 6 ∨ k = 9) (hs : s.ok) (ha : ∀ x ∈ a, x.shape = true) : (Tm.mk k 0 s a).shape = true := by
  rw [Tm.shape_eq]
  simp only [Tm.kind, Tm.index, Tm.type, Tm.args, (Tm.shapes_iff a).2 ha, tmKind, tyOfKind, if_pos hk, h, (Ty.checkN_iff s).2 hs]
  simp

/-- what holds of all that F draws -/
def Draws (l : List Int) (F : Ty → List Ty → Nat → Tm × Nat) (Q : Ty → List Ty → Tm → Prop) : Prop :=
  ∀ t g p, t.small → (∀ x ∈ g, x.small) → p ≤ l.length → (F t g p).2 ≤ l.length ∧ Q t g (F t g p).1

/-- what a property of drawn terms must obey -/
structure DrawOK (Q : Ty → List Ty → Tm → Prop) : Prop where
  var : ∀ g i, i < g.length → Q (varTy g i) g (vT (i : Nat))
  num : ∀ g n, n < 3 → Q (Ty.mk 1 []) g (numTm n)
  app : ∀ g s t f x, s.small → t.small → Q (Ty.mk 4 [s, t]) g f → Q s g x → Q t g (nT 3 [f, x])
  lam : ∀ g s t x, s.small → t.small → Q t (g ++ [s]) x → Q (Ty.mk 4 [s, t]) g (Tm.mk 2 0 s [x])
  lam2 : ∀ g s t r x, s.small → t.small → r.small → Q r (g ++ [s, t]) x → Q (Ty.mk 4 [s, Ty.mk 4 [t, r]]) g (Tm.mk 2 0 s [Tm.mk 2 0 t [x]])
  lam3 : ∀ g s t u r x, s.small → t.small → u.small → r.small → Q r (g ++ [s, t, u]) x → Q (Ty.mk 4 [s, Ty.mk 4 [t, Ty.mk 4 [u, r]]]) g (Tm.mk 2 0 s [Tm.mk 2 0 t [Tm.mk 2 0 u [x]]])
  pair : ∀ g s t x y, s.small → t.small → Q s g x → Q t g y → Q (Ty.mk 3 [s, t]) g (nT 10 [x, y])
  fst : ∀ g s t x, s.small → t.small → Q (Ty.mk 3 [s, t]) g x → Q s g (nT 11 [x])
  snd : ∀ g s t x, s.small → t.small → Q (Ty.mk 3 [s, t]) g x → Q t g (nT 12 [x])
  rc : ∀ g t x f n, t.small → Q t g x → Q (Ty.mk 4 [Ty.mk 1 [], Ty.mk 4 [t, t]]) g f → Q (Ty.mk 1 []) g n → Q t g (Tm.mk 6 0 t [x, f, n])
  fold : ∀ g t x f n, t.small → Q t g x → Q (Ty.mk 4 [Ty.mk 1 [], Ty.mk 4 [Ty.mk 2 [], Ty.mk 4 [t, t]]]) g f → Q (Ty.mk 2 []) g n → Q t g (Tm.mk 9 0 t [x, f, n])
  succ : ∀ g x, Q (Ty.mk 1 []) g x → Q (Ty.mk 1 []) g (nT 5 [x])
  plus : ∀ g x y, Q (Ty.mk 1 []) g x → Q (Ty.mk 1 []) g y → Q (Ty.mk 1 []) g (appsT plusT [x, y])
  sub : ∀ g x y, Q (Ty.mk 1 []) g x → Q (Ty.mk 1 []) g y → Q (Ty.mk 1 []) g (appsT subT [x, y])
  nil : ∀ g, Q (Ty.mk 2 []) g (nT 7 [])
  cons : ∀ g x y, Q (Ty.mk 1 []) g x → Q (Ty.mk 2 []) g y → Q (Ty.mk 2 []) g (nT 8 [x, y])
  unit : ∀ g, Q (Ty.mk 5 []) g (nT 13 [])

theorem numD_facts {l : List Int} {Q : Ty → List Ty → Tm → Prop} (hQ : DrawOK Q) {p : Nat} (hp : p ≤ l.length) (g : List Ty) : (numD l p).2 ≤ l.length ∧ Q (Ty.mk 1 []) g (numD l p).1 := by
  have := nextD_bd (l := l) (p := p) (n := 3) (by decide)
  exact ⟨nextD_le hp, hQ.num g _ (by omega)⟩

theorem small_kinds {t : Ty} (h : t.small) : (t.kind = 1 ∧ t = Ty.mk 1 []) ∨ (t.kind = 2 ∧ t = Ty.mk 2 []) ∨ (t.kind = 5 ∧ t = Ty.mk 5 []) ∨ (t.kind = 3 ∧ t = Ty.mk 3 [t.arg 0, t.arg 1]) ∨ (t.kind = 4 ∧ t = Ty.mk 4 [t.arg 0, t.arg 1]) := by
  cases t with
  | mk k ts =>
    have h1 := h.1
    rw [Ty.shape_eq, Bool.and_eq_true] at h1
    have hk := h1.1
    unfold tyKind at hk
    simp [Ty.kind, Ty.args] at hk
    rcases hk with ⟨h2, rfl⟩ | ⟨h2, h3⟩
    · rcases of_decide_eq_true h2 with rfl | rfl | rfl <;> simp [Ty.kind]
    · match ts, h3 with
      | [a, b], _ => rcases of_decide_eq_true h2 with rfl | rfl <;> simp [Ty.kind, Ty.arg, Ty.args]

theorem endD_facts {l : List Int} {F : Ty → List Ty → Nat → Tm × Nat} {Q : Ty → List Ty → Tm → Prop} (hQ : DrawOK Q) (hF : Draws l F Q) : Draws l (endD l F) Q := by
  intro t g p ht hg hp
  unfold endD
  have h5 := nextD_le (n := 5) hp
  have h2 := nextD_le (n := 2) hp
  rcases small_kinds ht with ⟨h, e⟩ | ⟨h, e⟩ | ⟨h, e⟩ | ⟨h, e⟩ | ⟨h, e⟩
  · rw [if_pos h]
    obtain ⟨a1, a2⟩ := hF t g _ ht hg h5
    obtain ⟨b1, b2⟩ := hF t g _ ht hg a1
    rw [e] at a1 a2 b1 b2 ⊢
    split
    · exact ⟨a1, hQ.succ g _ a2⟩
    split
    · exact ⟨b1, hQ.plus g _ _ a2 b2⟩
    split
    · exact ⟨b1, hQ.sub g _ _ a2 b2⟩
    · exact numD_facts hQ h5 g
  · rw [if_neg (by omega), if_pos h]
    obtain ⟨a1, a2⟩ := hF _ g _ small_nat hg h2
    obtain ⟨b1, b2⟩ := hF t g _ ht hg a1
    rw [e] at b1 b2 ⊢
    split
    · exact ⟨b1, hQ.cons g _ _ a2 b2⟩
    · exact ⟨h2, hQ.nil g⟩
  · rw [if_neg (by omega), if_neg (by omega), if_neg (by omega), if_neg (by omega)]
    rw [e]
    exact ⟨hp, hQ.unit g⟩
  · rw [if_neg (by omega), if_neg (by omega), if_pos h]
    obtain ⟨s0, s1, _⟩ := ht.arg (.inl h)
    obtain ⟨a1, a2⟩ := hF _ g _ s0 hg hp
    obtain ⟨b1, b2⟩ := hF _ g _ s1 hg a1
    refine ⟨b1, ?_⟩
    rw [e]
    exact hQ.pair g _ _ _ _ s0 s1 a2 b2
  · rw [if_neg (by omega), if_neg (by omega), if_neg (by omega), if_pos h]
    obtain ⟨s0, s1, _⟩ := ht.arg (.inr h)
    obtain ⟨a1, a2⟩ := hF (t.arg 1) (g ++ [t.arg 0]) _ s1 (by intro x hx; rcases List.mem_append.1 hx with hx | hx; exact hg x hx; rw [List.mem_singleton.1 hx]; exact s0) hp
    refine ⟨a1, ?_⟩
    rw [e]
    exact hQ.lam g _ _ _ s0 s1 a2

theorem stepD_facts {l : List Int} {F : Ty → List Ty → Nat → Tm × Nat} {Q : Ty → List Ty → Tm → Prop} (hQ : DrawOK Q) (hF : Draws l F Q) (k : Int) : Draws l (fun t g p => stepD l F t g k p) Q := by
  intro t g p ht hg hp
  have hg1 : ∀ a : List Ty, (∀ x ∈ a, x.small) → ∀ x ∈ g ++ a, x.small := by
    intro a ha x hx
    rcases List.mem_append.1 hx with hx | hx
    · exact hg x hx
    · exact ha x hx
  have hg2 : ∀ s : Ty, s.small → ∀ x ∈ g ++ [s], x.small := fun s hs => hg1 [s] (by simpa using hs)
  obtain ⟨s1, s2⟩ := typeD_small l (n := 0) hp (by decide)
  show (stepD l F t g k p).2 ≤ l.length ∧ Q t g (stepD l F t g k p).1
  unfold stepD
  split
  · obtain ⟨a1, a2⟩ := hF t _ _ ht (hg2 _ s2) s1
    obtain ⟨b1, b2⟩ := hF _ g _ s2 hg a1
    exact ⟨b1, hQ.app g _ _ _ _ s2 ht (hQ.lam g _ _ _ s2 ht a2) b2⟩
  split
  · obtain ⟨a1, a2⟩ := hF t g _ ht hg s1
    obtain ⟨b1, b2⟩ := hF _ g _ s2 hg a1
    exact ⟨b1, hQ.fst g _ _ _ ht s2 (hQ.pair g _ _ _ _ ht s2 a2 b2)⟩
  split
  · obtain ⟨a1, a2⟩ := hF t _ _ ht (hg1 [Ty.mk 1 [], t] (by intro x hx; simp at hx; rcases hx with rfl | rfl; exact small_nat; exact ht)) hp
    obtain ⟨b1, b2⟩ := hF t g _ ht hg a1
    obtain ⟨c1, c2⟩ := numD_facts hQ b1 g
    exact ⟨c1, hQ.rc g _ _ _ _ ht b2 (hQ.lam2 g _ _ _ _ small_nat ht ht a2) c2⟩
  split
  · obtain ⟨a1, a2⟩ := hF t _ _ ht (hg1 [Ty.mk 1 [], Ty.mk 2 [], t] (by intro x hx; simp at hx; rcases hx with rfl | rfl | rfl; exact small_nat; exact small_list; exact ht)) hp
    obtain ⟨b1, b2⟩ := hF t g _ ht hg a1
    obtain ⟨c1, c2⟩ := hF _ g _ small_list hg b1
    exact ⟨c1, hQ.fold g _ _ _ _ ht b2 (hQ.lam3 g _ _ _ _ _ small_nat small_list ht ht a2) c2⟩
  split
  · obtain ⟨a1, a2⟩ := hF _ g _ s2 hg s1
    obtain ⟨b1, b2⟩ := hF t g _ ht hg a1
    exact ⟨b1, hQ.snd g _ _ _ s2 ht (hQ.pair g _ _ _ _ s2 ht a2 b2)⟩
  split
  · split
    · rename_i i hi
      obtain ⟨f1, f2, f3⟩ := funN_some hi
      have hfs := hg _ (varTy_mem f1).1
      obtain ⟨c0, c1, -⟩ := hfs.arg (.inr f2)
      obtain ⟨a1, a2⟩ := hF _ g _ c0 hg hp
      have hv := hQ.var g i f1
      rcases small_kinds hfs with ⟨h, e⟩ | ⟨h, e⟩ | ⟨h, e⟩ | ⟨h, e⟩ | ⟨h, e⟩
      · omega
      · omega
      · omega
      · omega
      · rw [e, f3] at hv
        exact ⟨a1, hQ.app g _ _ _ _ c0 ht hv a2⟩
    · exact endD_facts hQ hF t g p ht hg hp
  · exact endD_facts hQ hF t g p ht hg hp

theorem leafD_facts {l : List Int} {Q : Ty → List Ty → Tm → Prop} (hQ : DrawOK Q) : Draws l (leafD l) Q := by
  intro t
  generalize hn : t.count = n
  induction n using Nat.strongRecOn generalizing t with
  | _ n ih =>
  intro g p ht hg hp
  rw [leafD_eq l t g p ht.ok]
  have hq := pickD_le (t := t) (g := g) hp
  split
  · rename_i x q hx
    obtain ⟨i, rfl, h1, h2⟩ := pickD_some hx
    rw [hx] at hq
    have := hQ.var g i h1
    rw [h2] at this
    exact ⟨hq, this⟩
  · rename_i q hx
    rw [hx] at hq
    rcases small_kinds ht with ⟨h, e⟩ | ⟨h, e⟩ | ⟨h, e⟩ | ⟨h, e⟩ | ⟨h, e⟩
    · rw [if_pos h, e]; exact numD_facts hQ hq g
    · rw [if_neg (by omega), if_pos h, e]; exact ⟨hq, hQ.nil g⟩
    · rw [if_neg (by omega), if_neg (by omega), if_neg (by omega), if_neg (by omega), e]; exact ⟨hq, hQ.unit g⟩
    · rw [if_neg (by omega), if_neg (by omega), if_pos h]
      obtain ⟨s0, s1, hc⟩ := ht.arg (.inl h)
      have p0 := Ty.count_eq (t.arg 0)
      have p1 := Ty.count_eq (t.arg 1)
      obtain ⟨a1, a2⟩ := ih _ (by omega) (t.arg 0) rfl g _ s0 hg hq
      obtain ⟨b1, b2⟩ := ih _ (by omega) (t.arg 1) rfl g _ s1 hg a1
      refine ⟨b1, ?_⟩
      have := hQ.pair g _ _ _ _ s0 s1 a2 b2
      rw [← e] at this
      exact this
    · rw [if_neg (by omega), if_neg (by omega), if_neg (by omega), if_pos h]
      obtain ⟨s0, s1, hc⟩ := ht.arg (.inr h)
      have p0 := Ty.count_eq (t.arg 0)
      have p1 := Ty.count_eq (t.arg 1)
      obtain ⟨a1, a2⟩ := ih _ (by omega) (t.arg 1) rfl (g ++ [t.arg 0]) _ s1 (by intro x hx; rcases List.mem_append.1 hx with hx | hx; exact hg x hx; rw [List.mem_singleton.1 hx]; exact s0) hq
      refine ⟨a1, ?_⟩
      have := hQ.lam g _ _ _ s0 s1 a2
      rw [← e] at this
      exact this

theorem termD_facts {l : List Int} {Q : Ty → List Ty → Tm → Prop} (hQ : DrawOK Q) : ∀ n, Draws l (termD l n) Q
  | 0 => leafD_facts hQ
  | n + 1 => by
    intro t g p ht hg hp
    have hq := pickD_le (t := t) (g := g) hp
    unfold termD
    split
    · rename_i x q hx
      obtain ⟨i, rfl, h1, h2⟩ := pickD_some hx
      rw [hx] at hq
      have := hQ.var g i h1
      rw [h2] at this
      exact ⟨hq, this⟩
    · rename_i q hx
      rw [hx] at hq
      exact stepD_facts hQ (termD_facts hQ n) _ t g _ ht hg (nextD_le hq)

theorem app2_shape {f x y : Tm} (hf : f.shape = true) (hx : x.shape = true) (hy : y.shape = true) : (appsT f [x, y]).shape = true := by
  show (nT 3 [nT 3 [f, x], y]).shape = true
  exact shape_n rfl (by decide) (by intro z hz; simp at hz; rcases hz with rfl | rfl; exact shape_n rfl (by decide) (by intro z hz; simp at hz; rcases hz with rfl | rfl; exact hf; exact hx); exact hy)

theorem closed_shape : DrawOK (fun _ _ x => x.shape = true) where
  var _ _ _ := shape_v
  num _ n _ := num_shape n
  app _ _ _ _ _ _ _ hf hx := shape_n rfl (by decide) (by intro z hz; simp at hz; rcases hz with rfl | rfl; exact hf; exact hx)
  lam _ _ _ _ hs _ hx := shape_t rfl (.inl rfl) hs.ok (by intro z hz; simp at hz; rw [hz]; exact hx)
  lam2 _ _ _ _ _ hs ht _ hx := shape_t rfl (.inl rfl) hs.ok (by intro z hz; simp at hz; rw [hz]; exact shape_t rfl (.inl rfl) ht.ok (by intro z hz; simp at hz; rw [hz]; exact hx))
  lam3 _ _ _ _ _ _ hs ht hu _ hx := shape_t rfl (.inl rfl) hs.ok (by intro z hz; simp at hz; rw [hz]; exact shape_t rfl (.inl rfl) ht.ok (by intro z hz; simp at hz; rw [hz]; exact shape_t rfl (.inl rfl) hu.ok (by intro z hz; simp at hz; rw [hz]; exact hx)))
  pair _ _ _ _ _ _ _ hf hx := shape_n rfl (by decide) (by intro z hz; simp at hz; rcases hz with rfl | rfl; exact hf; exact hx)
  fst _ _ _ _ _ _ hx := shape_n rfl (by decide) (by intro z hz; simp at hz; rw [hz]; exact hx)
  snd _ _ _ _ _ _ hx := shape_n rfl (by decide) (by intro z hz; simp at hz; rw [hz]; exact hx)
  rc _ _ _ _ _ ht hx hf hn := shape_t rfl (.inr (.inl rfl)) ht.ok (by intro z hz; simp at hz; rcases hz with rfl | rfl | rfl; exact hx; exact hf; exact hn)
  fold _ _ _ _ _ ht hx hf hn := shape_t rfl (.inr (.inr rfl)) ht.ok (by intro z hz; simp at hz; rcases hz with rfl | rfl | rfl; exact hx; exact hf; exact hn)
  succ _ _ hx := shape_n rfl (by decide) (by intro z hz; simp at hz; rw [hz]; exact hx)
  plus _ _ _ hx hy := app2_shape (by decide) hx hy
  sub _ _ _ hx hy := app2_shape (by decide) hx hy
  nil _ := rfl
  cons _ _ _ hf hx := shape_n rfl (by decide) (by intro z hz; simp at hz; rcases hz with rfl | rfl; exact hf; exact hx)
  unit _ := rfl
end Go.Proofs.YteoalfdaanlbjaaGreatDoor.Lift

namespace Go.Proofs.YteoalfdaanlbjaaGreatDoor.Lift
set_option linter.unusedSimpArgs false
set_option linter.unusedVariables false
set_option linter.unnecessarySimpa false
open Go
variable {gl : Globs}

/-- the parts of a node, by its form -/
theorem Val.okB_kind {v : Val} (h : v.okB = true) : (v.kind = 1 ∧ 0 ≤ v.num ∧ v.list = [] ∧ v.args = []) ∨ (v.kind = 2 ∧ v.num = 0 ∧ (∀ n ∈ v.list, 0 ≤ n) ∧ v.args = []) ∨ (v.kind = 3 ∧ v.num = 0 ∧ v.list = [] ∧ ∃ a b, v.args = [a, b]) ∨ (v.kind = 4 ∧ v.num = 0 ∧ v.list = [] ∧ v.args = []) := by
  unfold Val.okB at h
  by_cases h1 : v.kind = 1
  · simp [h1] at h; exact .inl ⟨h1, h.1.1, h.1.2, h.2⟩
  by_cases h2 : v.kind = 2
  · simp [h2] at h; exact .inr (.inl ⟨h2, h.1.1, h.1.2, h.2⟩)
  by_cases h3 : v.kind = 3
  · simp [h3] at h
    refine .inr (.inr (.inl ⟨h3, h.1.1, h.1.2, ?_⟩))
    match hq : v.args, h.2 with
    | [a, b], _ => exact ⟨a, b, rfl⟩
  by_cases h4 : v.kind = 4
  · simp [h4] at h; exact .inr (.inr (.inr ⟨h4, h.1.1, h.1.2, h.2⟩))
  simp [h1, h2, h3, h4] at h

/-- whether all nodes have a form -/
theorem Val.nodes_flat {v : Val} (h : v.args = []) : v.nodesN.2 = v.okB := by rw [nodesN_eq, h]; rfl
theorem Val.nodes_pair {v a b : Val} (h : v.args = [a, b]) : v.nodesN.2 = (v.okB && (a.nodesN.2 && b.nodesN.2)) := by
  rw [nodesN_eq, h]
  cases ho : v.okB <;> simp [nodesN.nodesL]
  cases ha : a.nodesN.2 <;> simp
theorem Val.nodes_bad {v : Val} (h : v.okB = false) : v.nodesN.2 = false := by rw [nodesN_eq, h, nodesL_no]
theorem Val.nodes_count (v : Val) (h : v.nodesN.2 = true) : v.nodesN.1 = v.count := by
  induction v using Val.ind with
  | h v ih =>
  have key : ∀ l : List Val, (∀ a ∈ l, a.nodesN.2 = true → a.nodesN.1 = a.count) → ∀ (n : Int) (ok : Bool), (nodesN.nodesL l (n, ok)).2 = true → (nodesN.nodesL l (n, ok)).1 = n + count.counts l := by
    intro l
    induction l with
    | nil => intro _ n ok _; simp [nodesN.nodesL, count.counts]
    | cons a r ihr =>
      intro hl n ok hok
      cases ok with
      | false => rw [nodesL_no] at hok; cases hok
      | true =>
        simp only [nodesN.nodesL, if_true] at hok ⊢
        have ha : a.nodesN.2 = true := (nodesL_ok hok).1
        rw [ihr (fun b hb => hl b (List.mem_cons_of_mem _ hb)) _ _ hok, hl a (by simp) ha]
        simp only [count.counts]
        omega
  rw [nodesN_eq] at h ⊢
  rw [key v.args ih _ _ h, count_eq]
  omega

theorem snocI {l : List Int} {i : Nat} {Q : Int → Prop} (h : ∀ (j : Nat) (x : Int), j < i → l[j]? = some x → Q x) (h1 : ∀ x, l[i]? = some x → Q x) : ∀ (j : Nat) (x : Int), j < i + 1 → l[j]? = some x → Q x := by
  intro j x hj hx
  by_cases e : j = i
  · rw [e] at hx; exact h1 x hx
  · exact h j x (by omega) hx

set_option maxHeartbeats 2000000 in
theorem shape5_ok (v : Val) : Con1 Tryz.prog gl 134 [v.dv] [] (dbool v.nodesN.2) [] := by
  induction v using Val.ind with
  | h v ih =>
  refine t_in Tryz.func134 ?_
  intro X hP hgl hf hfn hn hR hids hfit
  have hl1 := Val.fit_args (hfit v.dv (by simp))
  have hl2 := Val.fit_list (hfit v.dv (by simp))
  by_cases h1 : v.kind = 1
  · have hv : v.nodesN.2 = v.okB := by
      by_cases ha : v.args = []
      · exact Val.nodes_flat ha
      · have : v.okB = false := by unfold Val.okB; simp [h1, ha]
        rw [Val.nodes_bad this, this]
    have hb : v.okB = (decide (0 ≤ v.num) && decide (v.list.length = 0) && decide (v.args.length = 0)) := by unfold Val.okB; simp [h1]
    rw [hv, hb] at hR
    by_cases q1 : 0 ≤ v.num
    · by_cases q2 : v.list.length = 0
      · by_cases q3 : v.args.length = 0
        · refine t_g (j2 @h1 (j2 @q1 (j2 @q2 @q3))) ?_
          refine t_r ?_
          simp [go_sem, hP, hgl, hn, q1, q2, q3] <;> (try omega)
        · refine t_g (j2 @h1 (j2 @q1 (j2 @q2 @q3))) ?_
          refine t_r ?_
          simp [go_sem, hP, hgl, hn, q1, q2, q3] <;> (try omega)
      · refine t_g (j2 @h1 (j2 @q1 @q2)) ?_
        refine t_r ?_
        simp [go_sem, hP, hgl, hn, q1, q2] <;> (try omega)
    · refine t_g (j2 @h1 @q1) ?_
      refine t_r ?_
      simp [go_sem, hP, hgl, hn, q1] <;> (try omega)
  by_cases h2 : v.kind = 2
  · have hv : v.nodesN.2 = v.okB := by
      by_cases ha : v.args = []
      · exact Val.nodes_flat ha
      · have : v.okB = false := by unfold Val.okB; simp [h2, ha]
        rw [Val.nodes_bad this, this]
    have hb : v.okB = (decide (v.num = 0) && !v.list.any (fun n => decide (n < 0)) && decide (v.args.length = 0)) := by unfold Val.okB; simp [h2]
    rw [hv, hb] at hR
    refine t_g @h2 ?_
    refine t_a ?_
    refine t_sub [] trivial (W_upto (v.list.length) (fun i => ∀ (j : Nat) (x : Int), j < i → v.list[j]? = some x → 0 ≤ x) (fun i => [(.slot 29, .one (.v (dint i))), (.slot 28, .one (.v (dint v.list.length))), (.slot 27, .one (.v (.sl (ints v.list)))), (.loc 1, .row ([.v (dint v.kind), .v (dint v.num), .v (.sl (ints v.list)), .v (.sl (v.args.map Val.cells))])), (.slot 1, .one (.loc 1 0))]) (by intro j x h; omega) ?_ ?_)
    · intro i hi hI hnext
      obtain ⟨x, hx⟩ : ∃ x, v.list[i]? = some x := ⟨_, List.getElem?_eq_getElem hi⟩
      have hgi := ints_get hx
      refine t_rg0 ?_
      refine t_yes ?_
      by_cases hneg : x < 0
      · have hany : v.list.any (fun n => decide (n < 0)) = true := List.any_eq_true.2 ⟨x, List.mem_of_getElem? hx, by simpa using hneg⟩
        refine t_g (j2 @hgi @hneg) ?_
        refine t_r ?_
        simp [go_sem, hP, hgl, hn, hany] <;> (try omega)
      · refine t_gt (wr []) trivial (j2 @hgi @hneg) (hnext (snocI hI fun y hy => by rw [hx] at hy; cases hy; omega))
    · intro hI
      have hany : v.list.any (fun n => decide (n < 0)) = false := by
        rw [List.any_eq_false]
        intro x hx
        obtain ⟨j, hj, rfl⟩ := List.mem_iff_getElem.1 hx
        have := hI j _ hj (List.getElem?_eq_getElem hj)
        simpa using this
      refine t_rg0 ?_
      refine t_no ?_
      by_cases q1 : v.num = 0
      · by_cases q3 : v.args.length = 0
        · refine t_g (j2 @q1 @q3) ?_
          refine t_r ?_
          simp [go_sem, hP, hgl, hn, hany, q1, q3] <;> (try omega)
        · refine t_g (j2 @q1 @q3) ?_
          refine t_r ?_
          simp [go_sem, hP, hgl, hn, hany, q1, q3] <;> (try omega)
      · refine t_g @q1 ?_
        refine t_r ?_
        simp [go_sem, hP, hgl, hn, hany, q1] <;> (try omega)
  by_cases h4 : v.kind = 4
  · have hv : v.nodesN.2 = v.okB := by
      by_cases ha : v.args = []
      · exact Val.nodes_flat ha
      · have : v.okB = false := by unfold Val.okB; simp [h4, ha]
        rw [Val.nodes_bad this, this]
    have hb : v.okB = (decide (v.num = 0) && decide (v.list.length = 0) && decide (v.args.length = 0)) := by unfold Val.okB; simp [h4]
    rw [hv, hb] at hR
    by_cases q1 : v.num = 0
    · by_cases q2 : v.list.length = 0
      · by_cases q3 : v.args.length = 0
        · refine t_g (j2 @h4 (j2 @q1 (j2 @q2 @q3))) ?_
          refine t_r ?_
          simp [go_sem, hP, hgl, hn, q1, q2, q3] <;> (try omega)
        · refine t_g (j2 @h4 (j2 @q1 (j2 @q2 @q3))) ?_
          refine t_r ?_
          simp [go_sem, hP, hgl, hn, q1, q2, q3] <;> (try omega)
      · refine t_g (j2 @h4 (j2 @q1 @q2)) ?_
        refine t_r ?_
        simp [go_sem, hP, hgl, hn, q1, q2] <;> (try omega)
    · refine t_g (j2 @h4 @q1) ?_
      refine t_r ?_
      simp [go_sem, hP, hgl, hn, q1] <;> (try omega)
  by_cases h3 : v.kind = 3
  · have hb : v.okB = (decide (v.num = 0) && decide (v.list.length = 0) && decide (v.args.length = 2)) := by unfold Val.okB; simp [h3]
    by_cases q1 : v.num = 0
    · by_cases q2 : v.list.length = 0
      · by_cases q3 : v.args.length = 2
        · obtain ⟨a, b, hab⟩ : ∃ a b, v.args = [a, b] := by
            match hq : v.args, q3 with
            | [a, b], _ => exact ⟨a, b, rfl⟩
          have hv := Val.nodes_pair hab
          rw [hv, hb] at hR
          by_cases ha : a.nodesN.2 = true
          · refine t_g @h3 ?_
            refine t_c2 (j2 @h3 (j2 @q1 (j2 @q2 (j2 @hab @ha)))) (ih a (by rw [hab]; simp)) (ih b (by rw [hab]; simp)) ?_
            refine t_r ?_
            simp [go_sem, hP, hgl, hn, q1, q2, q3, ha] <;> (try omega)
          · have ha' : a.nodesN.2 = false := by simpa using ha
            refine t_g @h3 ?_
            refine t_c1 (j2 @h3 (j2 @q1 (j2 @q2 (j2 @hab @ha')))) (ih a (by rw [hab]; simp)) ?_
            refine t_r ?_
            simp [go_sem, hP, hgl, hn, q1, q2, q3, ha'] <;> (try omega)
        · rw [Val.nodes_bad (by rw [hb]; simp [q3])] at hR
          have q4 : ¬ (v.args.length : Int) = 2 := by omega
          refine t_g (j2 @h3 (j2 @q1 (j2 @q2 @q4))) ?_
          refine t_r ?_
          simp [go_sem, hP, hgl, hn] <;> (try omega)
      · rw [Val.nodes_bad (by rw [hb]; simp [q2])] at hR
        refine t_g (j2 @h3 (j2 @q1 @q2)) ?_
        refine t_r ?_
        simp [go_sem, hP, hgl, hn] <;> (try omega)
    · rw [Val.nodes_bad (by rw [hb]; simp [q1])] at hR
      refine t_g (j2 @h3 @q1) ?_
      refine t_r ?_
      simp [go_sem, hP, hgl, hn] <;> (try omega)
  rw [Val.nodes_bad (by unfold Val.okB; simp [h1, h2, h3, h4])] at hR
  refine t_g (j2 @h1 (j2 @h2 (j2 @h3 @h4))) ?_
  refine t_r ?_
  simp [go_sem, hP, hgl, hn] <;> (try omega)

theorem nodes5_ok (v : Val) (hc : v.count ≤ 1073741824) : Con1 Tryz.prog gl 116 [v.dv] [] (dint v.count) [] := by
  induction v using Val.ind with
  | h v ih =>
  refine t_in Tryz.func116 ?_
  intro X hP hgl hf hfn hn hR hids hfit
  have hl1 := Val.fit_args (hfit v.dv (by simp))
  have hcv := Val.count_eq v
  refine t_g0 ?_
  refine t_a ?_
  refine W_sub [] (by simp [go_sem]) (by simp [go_sem, Val.count.counts] <;> omega) (by simp [go_sem]) (W_list (v.args) (fun done rest => [(.slot 9, .one (.v (dint done.length))), (.slot 8, .one (.v (dint v.args.length))), (.slot 7, .one (.v (.sl (v.args.map Val.cells)))), (.slot 3, .one (.v (dint (1 + Val.count.counts done : Nat)))), (.slot 2, .one (.v (dint 0)))]) ?_ ?_)
  · intro done x rest hL hg0 hnext
    have hlt : done.length < v.args.length := by rw [hL]; simp
    have hxm := List.mem_of_getElem? hg0
    have hca := Val.counts_append done (x :: rest)
    have hcs := Val.counts_append done [x]
    rw [← hL] at hca
    simp only [Val.count.counts] at hca hcs
    refine t_rg0 ?_
    refine t_yes ?_
    refine t_g @hg0 ?_
    refine t_c1 @hg0 (ih x hxm (by omega)) ?_
    refine t_gt (wr []) @hcs trivial hnext
  · refine t_rg0 ?_
    refine t_no ?_
    refine t_g0 ?_
    refine t_r ?_
    simp [go_sem, hP, hgl, hn, hcv] <;> (try omega)

theorem Val.checkN_eq (v : Val) : v.checkN = if v.nodesN.2 = true then if 64 < v.count then 4 else 0 else 2 := by
  unfold Val.checkN
  by_cases h : v.nodesN.2 = true
  · rw [if_pos h, if_pos h, Val.nodes_count v h]
    by_cases h2 : 64 < v.count
    · rw [if_pos (by omega), if_pos h2]
    · rw [if_neg (by omega), if_neg h2]
  · rw [if_neg h, if_neg h]

theorem check5_ok (v : Val) (hc : v.count ≤ 1073741824) : Con1 Tryz.prog gl 88 [v.dv] [] (dint v.checkN) [] := by
  refine t_in Tryz.func88 ?_
  intro X hP hgl hf hfn hn hR hids hfit
  rw [Val.checkN_eq] at hR
  refine t_g0 ?_
  refine t_c1 trivial (shape5_ok v) ?_
  by_cases h : v.nodesN.2 = true
  · rw [if_pos h] at hR
    refine t_g @h ?_
    refine t_c1 trivial (nodes5_ok v hc) ?_
    by_cases h2 : 64 < v.count
    · refine t_g @h2 ?_
      refine t_r ?_
      simp [go_sem, hP, hgl, hn, h2] <;> (try omega)
    · refine t_g @h2 ?_
      refine t_r ?_
      simp [go_sem, hP, hgl, hn, h2] <;> (try omega)
  · rw [if_neg h] at hR
    refine t_g @h ?_
    refine t_r ?_
    simp [go_sem, hP, hgl, hn] <;> (try omega)

theorem typed5_ok (v : Val) (ht : v.nodesN.2 = true) : Con1 Tryz.prog gl 131 [v.dv] [] v.tyN.dv [] := by
  induction v using Val.ind with
  | h v ih =>
  refine t_in Tryz.func131 ?_
  intro X hP hgl hf hfn hn hR hids hfit
  have hok : v.okB = true := by
    cases hq : v.okB with
    | true => rfl
    | false => rw [Val.nodes_bad hq] at ht; cases ht
  rw [Val.tyN_eq] at hR
  rcases Val.okB_kind hok with ⟨h, -⟩ | ⟨h, -⟩ | ⟨h, -, -, a, b, hab⟩ | ⟨h, -⟩
  · refine t_g @h ?_
    refine t_c1 trivial ref01_nat_ok ?_
    refine t_r ?_
    simp [go_sem, hP, hgl, hn, h] <;> (try omega)
    all_goals exact t_f
  · refine t_g @h ?_
    refine t_c1 trivial ref01_list_ok ?_
    refine t_r ?_
    simp [go_sem, hP, hgl, hn, h] <;> (try omega)
    all_goals exact t_f
  · have hv := Val.nodes_pair hab
    rw [ht, hok] at hv
    simp at hv
    refine t_g @h ?_
    refine t_c3 (j2 @h @hab) (ih a (by rw [hab]; simp) hv.1) (ih b (by rw [hab]; simp) hv.2) (ref01_two_ok a.tyN b.tyN) ?_
    refine t_r ?_
    simp [go_sem, hP, hgl, hn, h, hab] <;> (try omega)
    all_goals exact t_f
  · refine t_g @h ?_
    refine t_c1 trivial ref01_unit_ok ?_
    refine t_r ?_
    simp [go_sem, hP, hgl, hn, h] <;> (try omega)
    all_goals exact t_f

theorem typeE5_ok (v : Val) (hc : v.count ≤ 1073741824) : Con1 Tryz.prog gl 79 [v.dv] [] (.tup [v.typeE.1.dv, dint v.typeE.2]) [] := by
  refine t_in Tryz.func79 ?_
  intro X hP hgl hf hfn hn hR hids hfit
  refine t_g0 ?_
  refine t_c1 trivial (check5_ok v hc) ?_
  by_cases h : v.checkN = 0
  · have hok : v.nodesN.2 = true := by
      unfold Val.checkN at h
      split at h
      · assumption
      · cases h
    refine t_g @h ?_
    refine t_c1 trivial (typed5_ok v hok) ?_
    refine t_r ?_
    simp [go_sem, hP, hgl, hn, Val.typeE, h] <;> (try omega)
    all_goals exact t_f
  · refine t_g @h ?_
    refine t_r ?_
    simp [go_sem, hP, hgl, hn, Val.typeE, h, zeroTy] <;> (try omega)
    all_goals exact t_f
end Go.Proofs.YteoalfdaanlbjaaGreatDoor.Lift

/-
  Plain law: the rounds of reduction on closed typed terms.
-/
namespace Go.Proofs.YteoalfdaanlbjaaGreatDoor.Lift
set_option linter.unusedSimpArgs false
set_option linter.unusedVariables false
set_option linter.unnecessarySimpa false
open Go

theorem dn_shape {Γ : List T} {t : Tm} {a : T} {F : Env Γ → a.V} (h : Dn Γ t a F) : t.shape = true := by
  have one : ∀ {x : Tm}, x.shape = true → ∀ z ∈ [x], z.shape = true := by intro x hx z hz; rw [List.mem_singleton.1 hz]; exact hx
  have two : ∀ {x y : Tm}, x.shape = true → y.shape = true → ∀ z ∈ [x, y], z.shape = true := by
    intro x y hx hy z hz; simp at hz; rcases hz with rfl | rfl; exact hx; exact hy
  have three : ∀ {x y w : Tm}, x.shape = true → y.shape = true → w.shape = true → ∀ z ∈ [x, y, w], z.shape = true := by
    intro x y w hx hy hw z hz; simp at hz; rcases hz with rfl | rfl | rfl; exact hx; exact hy; exact hw
  induction h with
  | var h => exact shape_v
  | lam ha hb ih => exact shape_t rfl (.inl rfl) (T.ok_ty ha) (one ih)
  | app hf hx ihf ihx => exact shape_n rfl (by decide) (two ihf ihx)
  | zero => rfl
  | succ hx ih => exact shape_n rfl (by decide) (one ih)
  | rc ha hb hf hn ihb ihf ihn => exact shape_t rfl (.inr (.inl rfl)) (T.ok_ty ha) (three ihb ihf ihn)
  | nil => rfl
  | cons hx hl ihx ihl => exact shape_n rfl (by decide) (two ihx ihl)
  | fold ha hb hf hn ihb ihf ihn => exact shape_t rfl (.inr (.inr rfl)) (T.ok_ty ha) (three ihb ihf ihn)
  | pair hx hy ihx ihy => exact shape_n rfl (by decide) (two ihx ihy)
  | fst hx ih => exact shape_n rfl (by decide) (one ih)
  | snd hx ih => exact shape_n rfl (by decide) (one ih)
  | unit => rfl

theorem At.lt {Γ : List T} {i : Nat} {a : T} {p : Env Γ → a.V} (h : At Γ i a p) : i < Γ.length := by
  have := h.get
  exact (List.getElem?_eq_some_iff.1 this).1

theorem dn_least {Γ : List T} {t : Tm} {a : T} {F : Env Γ → a.V} (h : Dn Γ t a F) : ∀ m : Int, (Γ.length : Int) + t.count ≤ m → t.leastN m = true := by
  have node0 : ∀ (k : Int) (y : Ty) (m : Int), 0 ≤ m → (Tm.mk k 0 y []).leastN m = true := by
    intro k y m hm; rw [Tm.leastN_eq]; have h9 : decide (m < (0 : Int)) = false := decide_eq_false (by omega); simp [Tm.index, Tm.args, Tm.leastN.leasts, h9] <;> exact decide_eq_false (by omega)
  have node1 : ∀ (k : Int) (y : Ty) (x : Tm) (m : Int), 0 ≤ m → x.leastN m = true → (Tm.mk k 0 y [x]).leastN m = true := by
    intro k y x m hm h1; rw [Tm.leastN_eq]; have h9 : decide (m < (0 : Int)) = false := decide_eq_false (by omega); simp [Tm.index, Tm.args, Tm.leastN.leasts, h9, h1] <;> exact decide_eq_false (by omega)
  have node2 : ∀ (k : Int) (y : Ty) (x z : Tm) (m : Int), 0 ≤ m → x.leastN m = true → z.leastN m = true → (Tm.mk k 0 y [x, z]).leastN m = true := by
    intro k y x z m hm h1 h2; rw [Tm.leastN_eq]; have h9 : decide (m < (0 : Int)) = false := decide_eq_false (by omega); simp [Tm.index, Tm.args, Tm.leastN.leasts, h9, h1, h2] <;> exact decide_eq_false (by omega)
  have node3 : ∀ (k : Int) (y : Ty) (x z w : Tm) (m : Int), 0 ≤ m → x.leastN m = true → z.leastN m = true → w.leastN m = true → (Tm.mk k 0 y [x, z, w]).leastN m = true := by
    intro k y x z w m hm h1 h2 h3; rw [Tm.leastN_eq]; have h9 : decide (m < (0 : Int)) = false := decide_eq_false (by omega); simp [Tm.index, Tm.args, Tm.leastN.leasts, h9, h1, h2, h3] <;> exact decide_eq_false (by omega)
  induction h with
  | var h =>
    intro m hm
    have := h.lt
    rename_i Γ i a p
    have h9 : decide (m < ((i : Nat) : Int)) = false := decide_eq_false (by omega)
    rw [vT, Tm.leastN_eq]
    simp [Tm.index, Tm.args, Tm.leastN.leasts, h9] <;> exact decide_eq_false (by omega)
  | lam ha hb ih =>
    intro m hm
    rename_i Γ a r b f
    have hc : (lamT a b).count = 1 + (b.count + 0) := rfl
    rw [hc] at hm
    exact node1 _ _ _ _ (by omega) (ih m (by simp only [List.length_cons]; omega))
  | app hf hx ihf ihx =>
    intro m hm
    rename_i Γ a b f x F X
    have hc : (nT 3 [f, x]).count = 1 + (f.count + (x.count + 0)) := rfl
    rw [hc] at hm
    exact node2 _ _ _ _ _ (by omega) (ihf m (by omega)) (ihx m (by omega))
  | zero => intro m hm; exact node0 _ _ _ (by omega)
  | succ hx ih =>
    intro m hm
    rename_i Γ x X
    have hc : (nT 5 [x]).count = 1 + (x.count + 0) := rfl
    rw [hc] at hm
    exact node1 _ _ _ _ (by omega) (ih m (by omega))
  | rc ha hb hf hn ihb ihf ihn =>
    intro m hm
    rename_i Γ a b f n B F N
    have hc : (Tm.mk 6 0 a.ty [b, f, n]).count = 1 + (b.count + (f.count + (n.count + 0))) := rfl
    rw [hc] at hm
    exact node3 _ _ _ _ _ _ (by omega) (ihb m (by omega)) (ihf m (by omega)) (ihn m (by omega))
  | nil => intro m hm; exact node0 _ _ _ (by omega)
  | cons hx hl ihx ihl =>
    intro m hm
    rename_i Γ x l X L
    have hc : (nT 8 [x, l]).count = 1 + (x.count + (l.count + 0)) := rfl
    rw [hc] at hm
    exact node2 _ _ _ _ _ (by omega) (ihx m (by omega)) (ihl m (by omega))
  | fold ha hb hf hn ihb ihf ihn =>
    intro m hm
    rename_i Γ a b f n B F N
    have hc : (Tm.mk 9 0 a.ty [b, f, n]).count = 1 + (b.count + (f.count + (n.count + 0))) := rfl
    rw [hc] at hm
    exact node3 _ _ _ _ _ _ (by omega) (ihb m (by omega)) (ihf m (by omega)) (ihn m (by omega))
  | pair hx hy ihx ihy =>
    intro m hm
    rename_i Γ a b x y X Y
    have hc : (nT 10 [x, y]).count = 1 + (x.count + (y.count + 0)) := rfl
    rw [hc] at hm
    exact node2 _ _ _ _ _ (by omega) (ihx m (by omega)) (ihy m (by omega))
  | fst hx ih =>
    intro m hm
    rename_i Γ a b x X
    have hc : (nT 11 [x]).count = 1 + (x.count + 0) := rfl
    rw [hc] at hm
    exact node1 _ _ _ _ (by omega) (ih m (by omega))
  | snd hx ih =>
    intro m hm
    rename_i Γ a b x X
    have hc : (nT 12 [x]).count = 1 + (x.count + 0) := rfl
    rw [hc] at hm
    exact node1 _ _ _ _ (by omega) (ih m (by omega))
  | unit => intro m hm; exact node0 _ _ _ (by omega)

theorem up_count (t : Tm) (f b : Int) : (t.upN f b).count = t.count := by
  induction t using Tm.ind generalizing f with
  | h t ih =>
  rw [Tm.upN_eq, Tm.count_eq, Tm.count_eq t, Tm.args_mk]
  have key : ∀ l : List Tm, (∀ a ∈ l, a ∈ t.args) → Tm.count.counts (l.map fun x => x.upN (f + bindI t.kind) b) = Tm.count.counts l := by
    intro l
    induction l with
    | nil => intro _; rfl
    | cons a r ihr => intro h; simp only [List.map_cons, Tm.count.counts, ih a (h a (by simp)), ihr fun b hb => h b (by simp [hb])]
  rw [key t.args fun _ h => h]

/-- plain values have a form, and as many nodes as their types at most -/
theorem valOf_nodes : ∀ (a : T) (v : a.V), a.plain → (valOf a v).nodesN.2 = true ∧ (valOf a v).count ≤ a.size
  | .nat, n, _ => ⟨by rw [Val.nodes_flat rfl]; simp [valOf, Val.okB, Val.kind, Val.num, Val.list, Val.args]; exact decide_eq_true (Int.natCast_nonneg _), Nat.le_refl _⟩
  | .list, l, _ => ⟨by rw [Val.nodes_flat rfl]; simp [valOf, Val.okB, Val.kind, Val.num, Val.list, Val.args]; intro x hx; obtain ⟨n, _, rfl⟩ := List.mem_map.1 hx; exact Int.natCast_nonneg _, Nat.le_refl _⟩
  | .unit, _, _ => ⟨rfl, Nat.le_refl _⟩
  | .pair a b, p, h => by
    obtain ⟨a1, a2⟩ := valOf_nodes a p.1 h.1
    obtain ⟨b1, b2⟩ := valOf_nodes b p.2 h.2
    refine ⟨?_, ?_⟩
    · rw [Val.nodes_pair (v := valOf (.pair a b) p) rfl, a1, b1]; rfl
    · show 1 + ((valOf a p.1).count + ((valOf b p.2).count + 0)) ≤ 1 + a.size + b.size
      omega
  | .fn _ _, _, h => h.elim

end Go.Proofs.YteoalfdaanlbjaaGreatDoor.Lift

/-
  Plain law: a machine that evaluates terms and counts its work; it returns what is denoted.
-/
namespace Go.Proofs.YteoalfdaanlbjaaGreatDoor.Lift
set_option linter.unusedSimpArgs false
set_option linter.unusedVariables false
set_option linter.unnecessarySimpa false
open Go

/-- a value of a machine -/
inductive MV where
  | num (n : Nat)
  | list (l : List Nat)
  | both (a b : MV)
  | unit
  | clo (b : Tm) (e : List MV)

abbrev Evl := Tm → List MV → Option (MV × Nat)

/-- some terms, one after the other -/
def allC (ev : Evl) : List Tm → List MV → Option (List MV × Nat)
  | [], _ => some ([], 0)
  | t :: r, e => match ev t e with
    | none => none
    | some (v, c) => match allC ev r e with
      | none => none
      | some (l, c') => some (v :: l, c + c')
/-- a closure called with some values -/
def callC (ev : Evl) : MV → List MV → Option (MV × Nat)
  | f, [] => some (f, 0)
  | .clo b e, a :: r => match ev b (a :: e) with
    | none => none
    | some (v, c) => match callC ev v r with
      | none => none
      | some (w, c') => some (w, c + c')
  | _, _ => none
/-- n rounds from k on -/
def recC (ev : Evl) (f : MV) : Nat → Nat → MV → Option (MV × Nat)
  | 0, _, r => some (r, 0)
  | n + 1, k, r => match callC ev f [.num k, r] with
    | none => none
    | some (r', c) => match recC ev f n (k + 1) r' with
      | none => none
      | some (w, c') => some (w, c + c')
/-- through a list, from its end -/
def foldC (ev : Evl) (f : MV) (r : MV) : List Nat → Option (MV × Nat)
  | [] => some (r, 0)
  | x :: l => match foldC ev f r l with
    | none => none
    | some (r', c) => match callC ev f [.num x, .list l, r'] with
      | none => none
      | some (w, c') => some (w, c + c')
/-- a node whose parts have values -/
def nodeC (ev : Evl) (k : Int) (l : List MV) : Option (MV × Nat) :=
  if k = 3 then match l with
    | [f, x] => callC ev f [x]
    | _ => none
  else if k = 4 then some (.num 0, 0)
  else if k = 5 then match l with
    | [.num n] => some (.num (n + 1), 0)
    | _ => none
  else if k = 6 then match l with
    | [b, f, .num n] => recC ev f n 0 b
    | _ => none
  else if k = 7 then some (.list [], 0)
  else if k = 8 then match l with
    | [.num n, .list m] => some (.list (n :: m), 0)
    | _ => none
  else if k = 9 then match l with
    | [b, f, .list m] => foldC ev f b m
    | _ => none
  else if k = 10 then match l with
    | [x, y] => some (.both x y, 0)
    | _ => none
  else if k = 11 then match l with
    | [.both x _] => some (x, 0)
    | _ => none
  else if k = 12 then match l with
    | [.both _ y] => some (y, 0)
    | _ => none
  else some (.unit, 0)
/-- a term below some values, to a depth: its value and the work -/
def evC : Nat → Tm → List MV → Option (MV × Nat)
  | 0, _, _ => none
  | d + 1, t, e =>
    if t.kind = 1 then some (e.getD t.index.toNat .unit, 1)
    else if t.kind = 2 then some (.clo (t.argN 0) e, 1)
    else match allC (evC d) t.args e with
      | none => none
      | some (l, c) => match nodeC (evC d) t.kind l with
        | none => none
        | some (v, c') => some (v, 1 + c + c')

/-- what a value of a machine is a value of -/
def Rl : (a : T) → MV → a.V → Prop
  | .nat, v, n => v = .num n
  | .list, v, l => v = .list l
  | .unit, v, _ => v = .unit
  | .pair a b, v, p => ∃ x y, v = .both x y ∧ Rl a x p.1 ∧ Rl b y p.2
  | .fn a b, v, f => ∃ body e, v = .clo body e ∧ ∀ (x : MV) (y : a.V), Rl a x y → ∀ (d : Nat) (r : MV) (c : Nat), evC d body (x :: e) = some (r, c) → Rl b r (f y)

/-- the values of the variables -/
def RlE : (Γ : List T) → List MV → Env Γ → Prop
  | [], e, _ => e = []
  | a :: Γ, e, ρ => ∃ x r, e = x :: r ∧ Rl a x ρ.1 ∧ RlE Γ r ρ.2

theorem RlE.get {Γ : List T} {i : Nat} {a : T} {p : Env Γ → a.V} (h : At Γ i a p) : ∀ {e : List MV} {ρ : Env Γ}, RlE Γ e ρ → Rl a (e.getD i .unit) (p ρ) := by
  induction h with
  | zero => rintro e ρ ⟨x, r, rfl, h1, h2⟩; exact h1
  | succ h ih => rintro e ρ ⟨x, r, rfl, h1, h2⟩; simpa using ih h2

theorem natRec_range {α : Type} (b : α) (f : Nat → α → α) : ∀ n : Nat, natRec b f n = (List.range' 0 n).foldl (fun r i => f i r) b
  | 0 => rfl
  | n + 1 => by
    rw [List.range'_1_concat, List.foldl_append, ← natRec_range b f n]
    simp [natRec]
end Go.Proofs.YteoalfdaanlbjaaGreatDoor.Lift

namespace Go.Proofs.YteoalfdaanlbjaaGreatDoor.Lift
set_option linter.unusedSimpArgs false
set_option linter.unusedVariables false
set_option linter.unnecessarySimpa false
open Go

/-- what a run of the second form's machine leaves: a value, the work used so far, and whether the work is out; none: stuck -/
abbrev Rn := Option (MV × Int × Bool)
abbrev Ev6 := Tm → List MV → Int → Rn
/-- the zero result -/
def zeroM : MV := .num 0
def callRun (ev : Ev6) (f x : MV) (u : Int) : Rn :=
  match f with
  | .clo b e => ev b (x :: e) u
  | _ => none
/-- the rounds of a recursion: after the work is out the rounds stop -/
def recRun (ev : Ev6) (f : MV) : Nat → Nat → MV → Int → Rn
  | 0, _, r, u => some (r, u, false)
  | n + 1, k, r, u => match callRun ev f (.num k) u with
    | none => none
    | some (_, u1, true) => some (r, u1, true)
    | some (g, u1, false) => match callRun ev g r u1 with
      | none => none
      | some (r', u2, true) => some (r', u2, true)
      | some (r', u2, false) => recRun ev f n (k + 1) r' u2
/-- the rounds of a fold, from the last element on: what is given is the list in reverse, and what lies behind -/
def foldRun (ev : Ev6) (f : MV) : List Nat → List Nat → MV → Int → Rn
  | [], _, r, u => some (r, u, false)
  | x :: l, rest, r, u => match callRun ev f (.num x) u with
    | none => none
    | some (_, u1, true) => some (r, u1, true)
    | some (g, u1, false) => match callRun ev g (.list rest) u1 with
      | none => none
      | some (_, u2, true) => some (r, u2, true)
      | some (g2, u2, false) => match callRun ev g2 r u2 with
        | none => none
        | some (r', u3, true) => some (r', u3, true)
        | some (r', u3, false) => foldRun ev f l (x :: rest) r' u3
/-- the arguments, one after the other -/
def allRun (ev : Ev6) : List Tm → List MV → Int → Option (List MV × Int × Bool)
  | [], _, u => some ([], u, false)
  | t :: r, e, u => match ev t e u with
    | none => none
    | some (_, u1, true) => some ([], u1, true)
    | some (v, u1, false) => match allRun ev r e u1 with
      | none => none
      | some (l, u2, o) => some (v :: l, u2, o)
def nodeRun (ev : Ev6) (k : Int) (l : List MV) (u : Int) : Rn :=
  if k = 3 then match l with
    | [f, x] => callRun ev f x u
    | _ => none
  else if k = 4 then some (.num 0, u, false)
  else if k = 5 then match l with
    | [.num n] => some (.num (n + 1), u, false)
    | _ => none
  else if k = 6 then match l with
    | [b, f, .num n] => recRun ev f n 0 b u
    | _ => none
  else if k = 7 then some (.list [], u, false)
  else if k = 8 then match l with
    | [.num n, .list r] => some (.list (n :: r), u, false)
    | _ => none
  else if k = 9 then match l with
    | [b, f, .list r] => foldRun ev f r.reverse [] b u
    | _ => none
  else if k = 10 then match l with
    | [a, b] => some (.both a b, u, false)
    | _ => none
  else if k = 11 then match l with
    | [.both a _] => some (a, u, false)
    | _ => none
  else if k = 12 then match l with
    | [.both _ b] => some (b, u, false)
    | _ => none
  else some (.unit, u, false)
def ev6 (most : Int) : Nat → Ev6
  | 0, _, _, _ => none
  | d + 1, t, e, u =>
    if u = most then some (zeroM, u, true)
    else if t.kind = 1 then if 0 ≤ t.index then match e[t.index.toNat]? with
      | some v => some (v, u + 1, false)
      | none => none
      else none
    else if t.kind = 2 then match t.args with
      | b :: _ => some (.clo b e, u + 1, false)
      | [] => none
    else match allRun (ev6 most d) t.args e (u + 1) with
      | none => none
      | some (_, u1, true) => some (zeroM, u1, true)
      | some (l, u1, false) => nodeRun (ev6 most d) t.kind l u1
end Go.Proofs.YteoalfdaanlbjaaGreatDoor.Lift

namespace Go.Proofs.YteoalfdaanlbjaaGreatDoor.Lift
set_option linter.unusedSimpArgs false
set_option linter.unusedVariables false
set_option linter.unnecessarySimpa false
open Go

/-! the second form's machine on typed terms: it is never stuck, and returns what is denoted -/

mutual
/-- a machine's value has a type and a meaning -/
inductive MVT : (a : T) → MV → a.V → Prop
  | num (n : Nat) : MVT .nat (.num n) n
  | list (l : List Nat) : MVT .list (.list l) l
  | unit : MVT .unit .unit ()
  | both {a b : T} {x y : MV} {X : a.V} {Y : b.V} (hx : MVT a x X) (hy : MVT b y Y) : MVT (.pair a b) (.both x y) (X, Y)
  | clo {Γ : List T} {a r : T} {b : Tm} {f : Env (a :: Γ) → r.V} {e : List MV} {ρ : Env Γ} (he : MVE Γ e ρ) (hb : Dn (a :: Γ) b r f) : MVT (.fn a r) (.clo b e) (fun x => f (x, ρ))
inductive MVE : (Γ : List T) → List MV → Env Γ → Prop
  | nil : MVE [] [] ()
  | cons {Γ : List T} {a : T} {x : MV} {X : a.V} {e : List MV} {ρ : Env Γ} (h : MVT a x X) (k : MVE Γ e ρ) : MVE (a :: Γ) (x :: e) (X, ρ)
end

theorem MVE.get {Γ : List T} {i : Nat} {a : T} {p : Env Γ → a.V} (h : At Γ i a p) : ∀ {e : List MV} {ρ : Env Γ}, MVE Γ e ρ → ∃ x, e[i]? = some x ∧ MVT a x (p ρ) := by
  induction h with
  | zero => intro e ρ he; cases he with | cons h k => exact ⟨_, rfl, h⟩
  | succ h ih => intro e ρ he; cases he with | cons h k => obtain ⟨x, e1, e2⟩ := ih k; exact ⟨x, by simpa using e1, e2⟩
theorem mvt_nat {v : MV} {n : Nat} (h : MVT .nat v n) : v = .num n := by cases h; rfl
theorem mvt_list {v : MV} {l : List Nat} (h : MVT .list v l) : v = .list l := by cases h; rfl
theorem mvt_pair {a b : T} {v : MV} {p : (T.pair a b).V} (h : MVT (.pair a b) v p) : ∃ x y, v = .both x y ∧ MVT a x p.1 ∧ MVT b y p.2 := by
  cases h with | both hx hy => exact ⟨_, _, rfl, hx, hy⟩
theorem mvt_fn {a b : T} {v : MV} {f : (T.fn a b).V} (h : MVT (.fn a b) v f) : ∃ (Γ : List T) (t : Tm) (e : List MV) (ρ : Env Γ) (g : Env (a :: Γ) → b.V), v = .clo t e ∧ MVE Γ e ρ ∧ Dn (a :: Γ) t b g ∧ f = fun x => g (x, ρ) := by
  cases h with | clo he hb => exact ⟨_, _, _, _, _, rfl, he, hb, rfl⟩

/-- a run is not stuck; when the work is not out it leaves a value of the kind that is told -/
def Out (most : Int) (P : MV → Prop) (u : Int) (r : Rn) : Prop := ∃ v u' o, r = some (v, u', o) ∧ u ≤ u' ∧ u' ≤ most ∧ (o = false → P v)
theorem Out.mono {most u u0 : Int} {P Q : MV → Prop} {r : Rn} (h : Out most P u r) (hu : u0 ≤ u) (hq : ∀ v, P v → Q v) : Out most Q u0 r := by
  obtain ⟨v, u', o, h1, h2, h3, h4⟩ := h
  exact ⟨v, u', o, h1, by omega, h3, fun h => hq v (h4 h)⟩

/-- evaluation is good to a depth -/
def Evs (most : Int) (d : Nat) (ev : Ev6) : Prop := ∀ ⦃Γ : List T⦄ ⦃t : Tm⦄ ⦃a : T⦄ ⦃F : Env Γ → a.V⦄ ⦃e : List MV⦄ ⦃ρ : Env Γ⦄ ⦃u : Int⦄, Dn Γ t a F → MVE Γ e ρ → u ≤ most → most - u < d → Out most (fun v => MVT a v (F ρ)) u (ev t e u)

theorem callRun_out {most : Int} {d : Nat} {ev : Ev6} (H : Evs most d ev) {a b : T} {f x : MV} {F : (T.fn a b).V} {X : a.V} (hf : MVT (.fn a b) f F) (hx : MVT a x X) {u : Int} (hu : u ≤ most) (hd : most - u < d) :
    Out most (fun v => MVT b v (F X)) u (callRun ev f x u) := by
  obtain ⟨Γ, t, e, ρ, g, rfl, he, hb, rfl⟩ := mvt_fn hf
  exact H hb (.cons hx he) hu hd

theorem recRun_out {most : Int} {d : Nat} {ev : Ev6} (H : Evs most d ev) {a : T} {f : MV} {F : (T.fn .nat (.fn a a)).V} (hf : MVT (.fn .nat (.fn a a)) f F) : ∀ (n k : Nat) {r : MV} {R : a.V} {u : Int}, MVT a r R → u ≤ most → most - u < d →
    Out most (fun v => MVT a v ((List.range' k n).foldl (fun r i => F i r) R)) u (recRun ev f n k r u)
  | 0, k, r, R, u, hr, hu, hd => ⟨r, u, false, rfl, by omega, hu, fun _ => hr⟩
  | n + 1, k, r, R, u, hr, hu, hd => by
    obtain ⟨g, u1, o1, h1, l1, m1, q1⟩ := callRun_out H hf (.num k) hu hd
    cases o1 with
    | true => exact ⟨r, u1, true, by rw [recRun, h1], l1, m1, fun h => by cases h⟩
    | false =>
      obtain ⟨r', u2, o2, h2, l2, m2, q2⟩ := callRun_out H (q1 rfl) hr m1 (by omega)
      cases o2 with
      | true => exact ⟨r', u2, true, by rw [recRun, h1]; simp only [h2], by omega, m2, fun h => by cases h⟩
      | false =>
        have := recRun_out H hf n (k + 1) (q2 rfl) m2 (by omega)
        have e : recRun ev f (n + 1) k r u = recRun ev f n (k + 1) r' u2 := by rw [recRun, h1]; simp only [h2]
        rw [e]
        exact this.mono (by omega) fun v h => h

theorem foldRun_out {most : Int} {d : Nat} {ev : Ev6} (H : Evs most d ev) {a : T} {f : MV} {F : (T.fn .nat (.fn .list (.fn a a))).V} (hf : MVT (.fn .nat (.fn .list (.fn a a))) f F) (B : a.V) : ∀ (l rest : List Nat) {r : MV} {u : Int}, MVT a r (listRec B F rest) → u ≤ most → most - u < d →
    Out most (fun v => MVT a v (listRec B F (l.reverse ++ rest))) u (foldRun ev f l rest r u)
  | [], rest, r, u, hr, hu, hd => ⟨r, u, false, rfl, by omega, hu, fun _ => hr⟩
  | x :: l, rest, r, u, hr, hu, hd => by
    obtain ⟨g, u1, o1, h1, l1, m1, q1⟩ := callRun_out H hf (.num x) hu hd
    cases o1 with
    | true => exact ⟨r, u1, true, by rw [foldRun, h1], l1, m1, fun h => by cases h⟩
    | false =>
      obtain ⟨g2, u2, o2, h2, l2, m2, q2⟩ := callRun_out H (q1 rfl) (.list rest) m1 (by omega)
      cases o2 with
      | true => exact ⟨r, u2, true, by rw [foldRun, h1]; simp only [h2], by omega, m2, fun h => by cases h⟩
      | false =>
        obtain ⟨r', u3, o3, h3, l3, m3, q3⟩ := callRun_out H (q2 rfl) hr m2 (by omega)
        cases o3 with
        | true => exact ⟨r', u3, true, by rw [foldRun, h1]; simp only [h2, h3], by omega, m3, fun h => by cases h⟩
        | false =>
          have := foldRun_out H hf B l (x :: rest) (r := r') (q3 rfl) m3 (by omega)
          have e : foldRun ev f (x :: l) rest r u = foldRun ev f l (x :: rest) r' u3 := by rw [foldRun, h1]; simp only [h2, h3]
          rw [e]
          refine this.mono (by omega) fun v h => ?_
          simpa using h

/-- values of some kinds, one after the other -/
def Fits2 : List MV → List (MV → Prop) → Prop
  | [], [] => True
  | v :: l, P :: r => P v ∧ Fits2 l r
  | _, _ => False

theorem allRun_out {most : Int} {ev : Ev6} {d : Nat} {e : List MV} : ∀ (l : List Tm) (Ps : List (MV → Prop)), l.length = Ps.length → (∀ (i : Nat) (t : Tm) (P : MV → Prop), l[i]? = some t → Ps[i]? = some P → ∀ u : Int, u ≤ most → most - u < d → Out most P u (ev t e u)) → ∀ {u : Int}, u ≤ most → most - u < d →
    ∃ vs u' o, allRun ev l e u = some (vs, u', o) ∧ u ≤ u' ∧ u' ≤ most ∧ (o = false → Fits2 vs Ps)
  | [], [], _, _, u, hu, hd => ⟨[], u, false, rfl, by omega, hu, fun _ => trivial⟩
  | [], _ :: _, hl, _, _, _, _ => by cases hl
  | _ :: _, [], hl, _, _, _, _ => by cases hl
  | t :: l, P :: Ps, hl, h, u, hu, hd => by
    obtain ⟨v, u1, o1, h1, l1, m1, q1⟩ := h 0 t P rfl rfl u hu hd
    cases o1 with
    | true => exact ⟨[], u1, true, by rw [allRun, h1], l1, m1, fun h => by cases h⟩
    | false =>
      obtain ⟨vs, u2, o2, h2, l2, m2, q2⟩ := allRun_out l Ps (by simpa using hl) (fun i t P ht hP => h (i + 1) t P (by simpa using ht) (by simpa using hP)) m1 (by omega)
      exact ⟨v :: vs, u2, o2, by rw [allRun, h1]; simp only [h2], by omega, m2, fun h => ⟨q1 rfl, q2 h⟩⟩

theorem ev6_node {most : Int} {d : Nat} {t : Tm} {e : List MV} {u : Int} (h1 : t.kind ≠ 1) (h2 : t.kind ≠ 2) (hu : u ≤ most) (Ps : List (MV → Prop)) (hl : t.args.length = Ps.length) {Q : MV → Prop} (hd : most - u < (d + 1 : Nat))
    (h : ∀ (i : Nat) (x : Tm) (P : MV → Prop), t.args[i]? = some x → Ps[i]? = some P → ∀ u : Int, u ≤ most → most - u < d → Out most P u (ev6 most d x e u))
    (hn : ∀ l u, Fits2 l Ps → u ≤ most → most - u < d → Out most Q u (nodeRun (ev6 most d) t.kind l u)) : Out most Q u (ev6 most (d + 1) t e u) := by
  rw [ev6]
  by_cases hum : u = most
  · rw [if_pos hum]; exact ⟨_, _, _, rfl, by omega, hu, fun h => by cases h⟩
  rw [if_neg hum, if_neg h1, if_neg h2]
  obtain ⟨vs, u1, o, e1, l1, m1, q1⟩ := allRun_out (ev := ev6 most d) (e := e) (d := d) t.args Ps hl h (u := u + 1) (by omega) (by omega)
  rw [e1]
  cases o with
  | true => exact ⟨_, _, _, rfl, by omega, m1, fun h => by cases h⟩
  | false => exact (hn vs u1 (q1 rfl) m1 (by omega)).mono (by omega) fun _ h => h

theorem fits1 {l : List MV} {P : MV → Prop} (h : Fits2 l [P]) : ∃ x, l = [x] ∧ P x := by
  match l, h with
  | [x], h => exact ⟨x, rfl, h.1⟩
theorem fits2 {l : List MV} {P Q : MV → Prop} (h : Fits2 l [P, Q]) : ∃ x y, l = [x, y] ∧ P x ∧ Q y := by
  match l, h with
  | [x, y], h => exact ⟨x, y, rfl, h.1, h.2.1⟩
theorem fits3 {l : List MV} {P Q R : MV → Prop} (h : Fits2 l [P, Q, R]) : ∃ x y z, l = [x, y, z] ∧ P x ∧ Q y ∧ R z := by
  match l, h with
  | [x, y, z], h => exact ⟨x, y, z, rfl, h.1, h.2.1, h.2.2.1⟩
theorem fits0 {l : List MV} (h : Fits2 l []) : l = [] := by
  match l, h with
  | [], _ => rfl
theorem at1 {x : Tm} {P : MV → Prop} {S : Tm → (MV → Prop) → Prop} (h : S x P) : ∀ (i : Nat) (y : Tm) (Q : MV → Prop), ([x] : List Tm)[i]? = some y → ([P] : List (MV → Prop))[i]? = some Q → S y Q := by
  intro i y Q h1 h2
  match i with
  | 0 => simp at h1 h2; subst h1; subst h2; exact h
  | i + 1 => simp at h1
theorem at2 {x y : Tm} {P Q : MV → Prop} {S : Tm → (MV → Prop) → Prop} (h : S x P) (k : S y Q) : ∀ (i : Nat) (z : Tm) (R : MV → Prop), ([x, y] : List Tm)[i]? = some z → ([P, Q] : List (MV → Prop))[i]? = some R → S z R := by
  intro i z R h1 h2
  match i with
  | 0 => simp at h1 h2; subst h1; subst h2; exact h
  | 1 => simp at h1 h2; subst h1; subst h2; exact k
  | i + 2 => simp at h1
theorem at3 {x y w : Tm} {P Q P' : MV → Prop} {S : Tm → (MV → Prop) → Prop} (h : S x P) (k : S y Q) (j : S w P') : ∀ (i : Nat) (z : Tm) (R : MV → Prop), ([x, y, w] : List Tm)[i]? = some z → ([P, Q, P'] : List (MV → Prop))[i]? = some R → S z R := by
  intro i z R h1 h2
  match i with
  | 0 => simp at h1 h2; subst h1; subst h2; exact h
  | 1 => simp at h1 h2; subst h1; subst h2; exact k
  | 2 => simp at h1 h2; subst h1; subst h2; exact j
  | i + 3 => simp at h1

theorem out_val {most u : Int} {P : MV → Prop} {v : MV} (hu : u ≤ most) (h : P v) : Out most P u (some (v, u, false)) := ⟨v, u, false, rfl, by omega, hu, fun _ => h⟩

/-- THE MACHINE OF THE SECOND FORM RETURNS WHAT IS DENOTED, if the work is not out; it is never stuck -/
theorem ev6_ok (most : Int) : ∀ d : Nat, Evs most d (ev6 most d)
  | 0 => fun Γ t a F e ρ u h he hu hd => absurd hd (by omega)
  | d + 1 => fun Γ t a F e ρ u h he hu hd => by
    have H := @ev6_ok most d
    cases h with
    | var h =>
      obtain ⟨x, e1, e2⟩ := MVE.get h he
      rw [ev6]
      by_cases hum : u = most
      · rw [if_pos hum]; exact ⟨_, _, _, rfl, by omega, hu, fun h => by cases h⟩
      rw [if_neg hum, if_pos (show (vT _).kind = 1 from rfl), if_pos (show 0 ≤ (vT (↑(_ : Nat))).index from Int.natCast_nonneg _)]
      have : e[(vT (↑(_ : Nat))).index.toNat]? = some x := e1
      rw [this]
      exact ⟨x, u + 1, false, rfl, by omega, by omega, fun _ => e2⟩
    | lam ha hb =>
      rw [ev6]
      by_cases hum : u = most
      · rw [if_pos hum]; exact ⟨_, _, _, rfl, by omega, hu, fun h => by cases h⟩
      rw [if_neg hum, if_neg (by simp [lamT, Tm.kind]), if_pos (show (lamT _ _).kind = 2 from rfl)]
      exact ⟨_, u + 1, false, rfl, by omega, by omega, fun _ => .clo he hb⟩
    | app hf hx =>
      refine ev6_node (by simp [nT, Tm.kind]) (by simp [nT, Tm.kind]) hu [_, _] rfl hd (at2 (S := fun x P => ∀ u : Int, u ≤ most → most - u < d → Out most P u (ev6 most d x e u)) (fun u hu hd => H hf he hu hd) (fun u hu hd => H hx he hu hd)) fun l u hl hu hd => ?_
      obtain ⟨f, x, rfl, h1, h2⟩ := fits2 hl
      exact callRun_out H h1 h2 hu hd
    | zero =>
      refine ev6_node (by simp [nT, Tm.kind]) (by simp [nT, Tm.kind]) hu [] rfl hd (by intro i x P h; simp [nT, Tm.args] at h) fun l u hl hu hd => ?_
      obtain rfl := fits0 hl
      exact out_val hu (.num 0)
    | succ hx =>
      refine ev6_node (by simp [nT, Tm.kind]) (by simp [nT, Tm.kind]) hu [_] rfl hd (at1 (S := fun x P => ∀ u : Int, u ≤ most → most - u < d → Out most P u (ev6 most d x e u)) (fun u hu hd => H hx he hu hd)) fun l u hl hu hd => ?_
      obtain ⟨x, rfl, h1⟩ := fits1 hl
      obtain rfl := mvt_nat h1
      exact out_val hu (.num _)
    | rc ha hb hf hn =>
      refine ev6_node (by simp [Tm.kind]) (by simp [Tm.kind]) hu [_, _, _] rfl hd (at3 (S := fun x P => ∀ u : Int, u ≤ most → most - u < d → Out most P u (ev6 most d x e u)) (fun u hu hd => H hb he hu hd) (fun u hu hd => H hf he hu hd) (fun u hu hd => H hn he hu hd)) fun l u hl hu hd => ?_
      obtain ⟨b, f, n, rfl, h1, h2, h3⟩ := fits3 hl
      obtain rfl := mvt_nat h3
      refine (recRun_out H h2 _ 0 h1 hu hd).mono (by omega) fun v hv => ?_
      exact Eq.mpr (congrArg (MVT _ v) (natRec_range _ _ _)) hv
    | nil =>
      refine ev6_node (by simp [nT, Tm.kind]) (by simp [nT, Tm.kind]) hu [] rfl hd (by intro i x P h; simp [nT, Tm.args] at h) fun l u hl hu hd => ?_
      obtain rfl := fits0 hl
      exact out_val hu (.list [])
    | cons hx hl =>
      refine ev6_node (by simp [nT, Tm.kind]) (by simp [nT, Tm.kind]) hu [_, _] rfl hd (at2 (S := fun x P => ∀ u : Int, u ≤ most → most - u < d → Out most P u (ev6 most d x e u)) (fun u hu hd => H hx he hu hd) (fun u hu hd => H hl he hu hd)) fun l u hl hu hd => ?_
      obtain ⟨f, x, rfl, h1, h2⟩ := fits2 hl
      obtain rfl := mvt_nat h1
      obtain rfl := mvt_list h2
      exact out_val hu (.list _)
    | fold ha hb hf hn =>
      refine ev6_node (by simp [Tm.kind]) (by simp [Tm.kind]) hu [_, _, _] rfl hd (at3 (S := fun x P => ∀ u : Int, u ≤ most → most - u < d → Out most P u (ev6 most d x e u)) (fun u hu hd => H hb he hu hd) (fun u hu hd => H hf he hu hd) (fun u hu hd => H hn he hu hd)) fun l u hl hu hd => ?_
      obtain ⟨b, f, n, rfl, h1, h2, h3⟩ := fits3 hl
      obtain rfl := mvt_list h3
      have key := fun L : List Nat => foldRun_out H h2 _ L.reverse [] h1 hu hd
      simp only [List.reverse_reverse, List.append_nil] at key
      exact key _
    | pair hx hy =>
      refine ev6_node (by simp [nT, Tm.kind]) (by simp [nT, Tm.kind]) hu [_, _] rfl hd (at2 (S := fun x P => ∀ u : Int, u ≤ most → most - u < d → Out most P u (ev6 most d x e u)) (fun u hu hd => H hx he hu hd) (fun u hu hd => H hy he hu hd)) fun l u hl hu hd => ?_
      obtain ⟨f, x, rfl, h1, h2⟩ := fits2 hl
      exact out_val hu (.both h1 h2)
    | fst hx =>
      refine ev6_node (by simp [nT, Tm.kind]) (by simp [nT, Tm.kind]) hu [_] rfl hd (at1 (S := fun x P => ∀ u : Int, u ≤ most → most - u < d → Out most P u (ev6 most d x e u)) (fun u hu hd => H hx he hu hd)) fun l u hl hu hd => ?_
      obtain ⟨x, rfl, h1⟩ := fits1 hl
      obtain ⟨p, q, rfl, h2, h3⟩ := mvt_pair h1
      exact out_val hu h2
    | snd hx =>
      refine ev6_node (by simp [nT, Tm.kind]) (by simp [nT, Tm.kind]) hu [_] rfl hd (at1 (S := fun x P => ∀ u : Int, u ≤ most → most - u < d → Out most P u (ev6 most d x e u)) (fun u hu hd => H hx he hu hd)) fun l u hl hu hd => ?_
      obtain ⟨x, rfl, h1⟩ := fits1 hl
      obtain ⟨p, q, rfl, h2, h3⟩ := mvt_pair h1
      exact out_val hu h3
    | unit =>
      refine ev6_node (by simp [nT, Tm.kind]) (by simp [nT, Tm.kind]) hu [] rfl hd (by intro i x P h; simp [nT, Tm.args] at h) fun l u hl hu hd => ?_
      obtain rfl := fits0 hl
      exact out_val hu .unit
end Go.Proofs.YteoalfdaanlbjaaGreatDoor.Lift

namespace Go.Proofs.YteoalfdaanlbjaaGreatDoor.Lift
set_option linter.unusedSimpArgs false
set_option linter.unusedVariables false
set_option linter.unnecessarySimpa false
open Go

/-! how large the values of the second form's machine grow -/

mutual
def MV.le (n : Int) : MV → Prop
  | .num k => (k : Int) ≤ n
  | .list l => (l.length : Int) ≤ n ∧ ∀ x ∈ l, (x : Int) ≤ n
  | .both a b => MV.le n a ∧ MV.le n b
  | .unit => True
  | .clo _ e => (e.length : Int) ≤ n ∧ MV.les n e
def MV.les (n : Int) : List MV → Prop
  | [] => True
  | x :: r => MV.le n x ∧ MV.les n r
end
theorem MV.les_iff {n : Int} : ∀ {l : List MV}, MV.les n l ↔ ∀ x ∈ l, x.le n
  | [] => by simp [MV.les]
  | x :: r => by simp [MV.les, MV.les_iff (l := r)]
mutual
theorem MV.le_mono {n m : Int} (h : n ≤ m) : ∀ {v : MV}, v.le n → v.le m
  | .num k, hv => by simp only [MV.le] at hv ⊢; omega
  | .list l, hv => by
    simp only [MV.le] at hv ⊢
    exact ⟨by omega, fun x hx => by have := hv.2 x hx; omega⟩
  | .both a b, hv => by
    simp only [MV.le] at hv ⊢
    exact ⟨MV.le_mono h hv.1, MV.le_mono h hv.2⟩
  | .unit, _ => by simp only [MV.le]
  | .clo b e, hv => by
    simp only [MV.le] at hv ⊢
    exact ⟨by omega, MV.les_mono h hv.2⟩
theorem MV.les_mono {n m : Int} (h : n ≤ m) : ∀ {l : List MV}, MV.les n l → MV.les m l
  | [], _ => by simp only [MV.les]
  | x :: r, hv => by
    simp only [MV.les] at hv ⊢
    exact ⟨MV.le_mono h hv.1, MV.les_mono h hv.2⟩
end

/-- evaluation grows by the work at most -/
def Bds (most : Int) (ev : Ev6) : Prop := ∀ ⦃t : Tm⦄ ⦃e : List MV⦄ ⦃u M : Int⦄ ⦃v : MV⦄ ⦃u' : Int⦄ ⦃o : Bool⦄, ev t e u = some (v, u', o) → u ≤ most → 0 ≤ M → MV.les M e → (e.length : Int) ≤ M + 1 → u ≤ u' ∧ u' ≤ most ∧ v.le (M + (u' - u))

theorem callRun_bd {most : Int} {ev : Ev6} (H : Bds most ev) {f x : MV} {u M : Int} {v : MV} {u' : Int} {o : Bool} (h : callRun ev f x u = some (v, u', o)) (hu : u ≤ most) (hM : 0 ≤ M) (hf : f.le M) (hx : x.le M) : u ≤ u' ∧ u' ≤ most ∧ v.le (M + (u' - u)) := by
  cases f with
  | clo b e =>
    simp only [MV.le] at hf
    exact H h hu hM (by simp only [MV.les]; exact ⟨hx, hf.2⟩) (by simp only [List.length_cons]; omega)
  | num n => cases h
  | list l => cases h
  | both a b => cases h
  | unit => cases h

theorem recRun_bd {most : Int} {ev : Ev6} (H : Bds most ev) {f : MV} : ∀ (n k : Nat) {r : MV} {u M : Int} {v : MV} {u' : Int} {o : Bool}, recRun ev f n k r u = some (v, u', o) → u ≤ most → 0 ≤ M → f.le M → r.le M → ((n : Int) + k ≤ M) → u ≤ u' ∧ u' ≤ most ∧ v.le (M + (u' - u))
  | 0, k, r, u, M, v, u', o, h, hu, hM, hf, hr, hk => by
    simp only [recRun, Option.some.injEq, Prod.mk.injEq] at h
    obtain ⟨rfl, rfl, rfl⟩ := h
    exact ⟨by omega, by omega, MV.le_mono (by omega) hr⟩
  | n + 1, k, r, u, M, v, u', o, h, hu, hM, hf, hr, hk => by
    simp only [recRun] at h
    split at h
    · cases h
    · rename_i u1 h1
      obtain ⟨l1, m1, b1⟩ := callRun_bd H h1 hu hM hf (by simp only [MV.le]; omega)
      simp only [Option.some.injEq, Prod.mk.injEq] at h
      obtain ⟨rfl, rfl, rfl⟩ := h
      exact ⟨l1, m1, MV.le_mono (by omega) hr⟩
    · rename_i g u1 h1
      obtain ⟨l1, m1, b1⟩ := callRun_bd H h1 hu hM hf (by simp only [MV.le]; omega)
      split at h
      · cases h
      · rename_i r' u2 h2
        obtain ⟨l2, m2, b2⟩ := callRun_bd H h2 m1 (by omega) b1 (MV.le_mono (by omega) hr)
        simp only [Option.some.injEq, Prod.mk.injEq] at h
        obtain ⟨rfl, rfl, rfl⟩ := h
        exact ⟨by omega, by omega, MV.le_mono (by omega) b2⟩
      · rename_i r' u2 h2
        obtain ⟨l2, m2, b2⟩ := callRun_bd H h2 m1 (by omega) b1 (MV.le_mono (by omega) hr)
        obtain ⟨l3, m3, b3⟩ := recRun_bd H n (k + 1) h m2 (M := M + (u2 - u)) (by omega) (MV.le_mono (by omega) hf) (MV.le_mono (by omega) b2) (by omega)
        exact ⟨by omega, by omega, MV.le_mono (by omega) b3⟩

theorem foldRun_bd {most : Int} {ev : Ev6} (H : Bds most ev) {f : MV} : ∀ (l rest : List Nat) {r : MV} {u M : Int} {v : MV} {u' : Int} {o : Bool}, foldRun ev f l rest r u = some (v, u', o) → u ≤ most → 0 ≤ M → f.le M → r.le M → ((l.length : Int) + rest.length ≤ M) → (∀ x ∈ l, (x : Int) ≤ M) → (∀ x ∈ rest, (x : Int) ≤ M) → u ≤ u' ∧ u' ≤ most ∧ v.le (M + (u' - u))
  | [], rest, r, u, M, v, u', o, h, hu, hM, hf, hr, hk, _, _ => by
    simp only [foldRun, Option.some.injEq, Prod.mk.injEq] at h
    obtain ⟨rfl, rfl, rfl⟩ := h
    exact ⟨by omega, by omega, MV.le_mono (by omega) hr⟩
  | x :: l, rest, r, u, M, v, u', o, h, hu, hM, hf, hr, hk, hl, hrest => by
    have hx := hl x (by simp)
    have hlen : ((x :: l).length : Int) = l.length + 1 := by simp
    simp only [foldRun] at h
    split at h
    · cases h
    · rename_i u1 h1
      obtain ⟨l1, m1, b1⟩ := callRun_bd H h1 hu hM hf (by simp only [MV.le]; omega)
      simp only [Option.some.injEq, Prod.mk.injEq] at h
      obtain ⟨rfl, rfl, rfl⟩ := h
      exact ⟨l1, m1, MV.le_mono (by omega) hr⟩
    · rename_i g u1 h1
      obtain ⟨l1, m1, b1⟩ := callRun_bd H h1 hu hM hf (by simp only [MV.le]; omega)
      split at h
      · cases h
      · rename_i u2 h2
        obtain ⟨l2, m2, b2⟩ := callRun_bd H h2 m1 (by omega) b1 (by simp only [MV.le]; exact ⟨by omega, fun y hy => by have := hrest y hy; omega⟩)
        simp only [Option.some.injEq, Prod.mk.injEq] at h
        obtain ⟨rfl, rfl, rfl⟩ := h
        exact ⟨by omega, by omega, MV.le_mono (by omega) hr⟩
      · rename_i g2 u2 h2
        obtain ⟨l2, m2, b2⟩ := callRun_bd H h2 m1 (by omega) b1 (by simp only [MV.le]; exact ⟨by omega, fun y hy => by have := hrest y hy; omega⟩)
        split at h
        · cases h
        · rename_i r' u3 h3
          obtain ⟨l3, m3, b3⟩ := callRun_bd H h3 m2 (by omega) b2 (MV.le_mono (by omega) hr)
          simp only [Option.some.injEq, Prod.mk.injEq] at h
          obtain ⟨rfl, rfl, rfl⟩ := h
          exact ⟨by omega, by omega, MV.le_mono (by omega) b3⟩
        · rename_i r' u3 h3
          obtain ⟨l3, m3, b3⟩ := callRun_bd H h3 m2 (by omega) b2 (MV.le_mono (by omega) hr)
          obtain ⟨l4, m4, b4⟩ := foldRun_bd H l (x :: rest) h m3 (M := M + (u3 - u)) (by omega) (MV.le_mono (by omega) hf) (MV.le_mono (by omega) b3) (by simp only [List.length_cons]; omega)
            (fun y hy => by have := hl y (by simp [hy]); omega) (fun y hy => by rcases List.mem_cons.1 hy with rfl | hy; omega; have := hrest y hy; omega)
          exact ⟨by omega, by omega, MV.le_mono (by omega) b4⟩

theorem allRun_bd {most : Int} {ev : Ev6} (H : Bds most ev) {e : List MV} : ∀ (l : List Tm) {u M : Int} {vs : List MV} {u' : Int} {o : Bool}, allRun ev l e u = some (vs, u', o) → u ≤ most → 0 ≤ M → MV.les M e → (e.length : Int) ≤ M + 1 → u ≤ u' ∧ u' ≤ most ∧ MV.les (M + (u' - u)) vs
  | [], u, M, vs, u', o, h, hu, hM, he, hl => by
    simp only [allRun, Option.some.injEq, Prod.mk.injEq] at h
    obtain ⟨rfl, rfl, rfl⟩ := h
    exact ⟨by omega, by omega, by simp only [MV.les]⟩
  | t :: r, u, M, vs, u', o, h, hu, hM, he, hl => by
    simp only [allRun] at h
    split at h
    · cases h
    · rename_i u1 h1
      obtain ⟨l1, m1, b1⟩ := H h1 hu hM he hl
      simp only [Option.some.injEq, Prod.mk.injEq] at h
      obtain ⟨rfl, rfl, rfl⟩ := h
      exact ⟨by omega, by omega, by simp only [MV.les]⟩
    · rename_i v1 u1 h1
      obtain ⟨l1, m1, b1⟩ := H h1 hu hM he hl
      split at h
      · cases h
      · rename_i vs2 u2 o2 h2
        obtain ⟨l2, m2, b2⟩ := allRun_bd H r h2 m1 (M := M + (u1 - u)) (by omega) (MV.les_mono (by omega) he) (by omega)
        simp only [Option.some.injEq, Prod.mk.injEq] at h
        obtain ⟨rfl, rfl, rfl⟩ := h
        exact ⟨by omega, by omega, by simp only [MV.les]; exact ⟨MV.le_mono (by omega) b1, MV.les_mono (by omega) b2⟩⟩

theorem nodeRun_bd {most : Int} {ev : Ev6} (H : Bds most ev) {k : Int} {l : List MV} {u M : Int} {v : MV} {u' : Int} {o : Bool} (h : nodeRun ev k l u = some (v, u', o)) (hu : u ≤ most) (hM : 0 ≤ M) (hl : MV.les M l) : u ≤ u' ∧ u' ≤ most ∧ v.le (M + 1 + (u' - u)) := by
  unfold nodeRun at h
  split at h
  · split at h
    · simp only [MV.les] at hl
      obtain ⟨l1, m1, b1⟩ := callRun_bd H h hu hM hl.1 hl.2.1
      exact ⟨l1, m1, MV.le_mono (by omega) b1⟩
    · cases h
  split at h
  · simp only [Option.some.injEq, Prod.mk.injEq] at h
    obtain ⟨rfl, rfl, rfl⟩ := h
    exact ⟨by omega, by omega, by simp only [MV.le]; omega⟩
  split at h
  · split at h
    · simp only [MV.les, MV.le] at hl
      simp only [Option.some.injEq, Prod.mk.injEq] at h
      obtain ⟨rfl, rfl, rfl⟩ := h
      exact ⟨by omega, by omega, by simp only [MV.le]; omega⟩
    · cases h
  split at h
  · split at h
    · simp only [MV.les] at hl
      obtain ⟨a1, a2, a3, -⟩ := hl
      simp only [MV.le] at a3
      obtain ⟨l1, m1, b1⟩ := recRun_bd H _ 0 h hu hM a2 a1 (by omega)
      exact ⟨l1, m1, MV.le_mono (by omega) b1⟩
    · cases h
  split at h
  · simp only [Option.some.injEq, Prod.mk.injEq] at h
    obtain ⟨rfl, rfl, rfl⟩ := h
    exact ⟨by omega, by omega, by simp only [MV.le]; exact ⟨by simp only [List.length_nil]; omega, fun x hx => by cases hx⟩⟩
  split at h
  · split at h
    · simp only [MV.les, MV.le] at hl
      obtain ⟨a1, ⟨a2, a3⟩, -⟩ := hl
      simp only [Option.some.injEq, Prod.mk.injEq] at h
      obtain ⟨rfl, rfl, rfl⟩ := h
      exact ⟨by omega, by omega, by simp only [MV.le]; exact ⟨by simp only [List.length_cons]; omega, fun x hx => by rcases List.mem_cons.1 hx with rfl | hx; omega; have := a3 x hx; omega⟩⟩
    · cases h
  split at h
  · split at h
    · simp only [MV.les] at hl
      obtain ⟨a1, a2, a3, -⟩ := hl
      simp only [MV.le] at a3
      obtain ⟨l1, m1, b1⟩ := foldRun_bd H _ [] h hu hM a2 a1 (by simp only [List.length_reverse, List.length_nil]; omega) (fun x hx => a3.2 x (by simpa using hx)) (fun x hx => by cases hx)
      exact ⟨l1, m1, MV.le_mono (by omega) b1⟩
    · cases h
  split at h
  · split at h
    · simp only [MV.les] at hl
      simp only [Option.some.injEq, Prod.mk.injEq] at h
      obtain ⟨rfl, rfl, rfl⟩ := h
      exact ⟨by omega, by omega, by simp only [MV.le]; exact ⟨MV.le_mono (by omega) hl.1, MV.le_mono (by omega) hl.2.1⟩⟩
    · cases h
  split at h
  · split at h
    · simp only [MV.les, MV.le] at hl
      simp only [Option.some.injEq, Prod.mk.injEq] at h
      obtain ⟨rfl, rfl, rfl⟩ := h
      exact ⟨by omega, by omega, MV.le_mono (by omega) hl.1.1⟩
    · cases h
  split at h
  · split at h
    · simp only [MV.les, MV.le] at hl
      simp only [Option.some.injEq, Prod.mk.injEq] at h
      obtain ⟨rfl, rfl, rfl⟩ := h
      exact ⟨by omega, by omega, MV.le_mono (by omega) hl.1.2⟩
    · cases h
  · simp only [Option.some.injEq, Prod.mk.injEq] at h
    obtain ⟨rfl, rfl, rfl⟩ := h
    exact ⟨by omega, by omega, by simp only [MV.le]⟩

theorem ev6_bd (most : Int) : ∀ d : Nat, Bds most (ev6 most d)
  | 0 => fun t e u M v u' o h => by cases h
  | d + 1 => fun t e u M v u' o h hu hM he hl => by
    have H := @ev6_bd most d
    rw [ev6] at h
    split at h
    · simp only [Option.some.injEq, Prod.mk.injEq] at h
      obtain ⟨rfl, rfl, rfl⟩ := h
      exact ⟨by omega, by omega, by simp only [zeroM, MV.le]; omega⟩
    split at h
    · split at h
      · split at h
        · rename_i v1 hv
          simp only [Option.some.injEq, Prod.mk.injEq] at h
          obtain ⟨rfl, rfl, rfl⟩ := h
          exact ⟨by omega, by omega, MV.le_mono (by omega) (MV.les_iff.1 he _ (List.mem_of_getElem? hv))⟩
        · cases h
      · cases h
    split at h
    · split at h
      · simp only [Option.some.injEq, Prod.mk.injEq] at h
        obtain ⟨rfl, rfl, rfl⟩ := h
        exact ⟨by omega, by omega, by simp only [MV.le]; exact ⟨by omega, MV.les_mono (by omega) he⟩⟩
      · cases h
    split at h
    · cases h
    · rename_i u1 h1
      obtain ⟨l1, m1, b1⟩ := allRun_bd H _ h1 (by omega) hM he hl
      simp only [Option.some.injEq, Prod.mk.injEq] at h
      obtain ⟨rfl, rfl, rfl⟩ := h
      exact ⟨by omega, by omega, by simp only [zeroM, MV.le]; omega⟩
    · rename_i vs u1 h1
      obtain ⟨l1, m1, b1⟩ := allRun_bd H _ h1 (by omega) hM he hl
      obtain ⟨l2, m2, b2⟩ := nodeRun_bd H h m1 (by omega) b1
      exact ⟨by omega, by omega, MV.le_mono (by omega) b2⟩
end Go.Proofs.YteoalfdaanlbjaaGreatDoor.Lift

namespace Go.Proofs.YteoalfdaanlbjaaGreatDoor.Lift
set_option linter.unusedSimpArgs false
set_option linter.unusedVariables false
set_option linter.unnecessarySimpa false
open Go
variable {gl : Globs}

/-! the results of the second form's machine as data -/

mutual
def MV.cells : MV → List DV
  | .num n => [dint (n : Int), .sl [], .sl [], dint 0, dint 0, dint 0, .sl [], .sl [], .sl []]
  | .list l => [dint 0, .sl (ints (l.map Int.ofNat)), .sl [], dint 0, dint 0, dint 0, .sl [], .sl [], .sl []]
  | .both a b => [dint 0, .sl [], .sl [MV.cells a, MV.cells b], dint 0, dint 0, dint 0, .sl [], .sl [], .sl []]
  | .unit => [dint 0, .sl [], .sl [], dint 0, dint 0, dint 0, .sl [], .sl [], .sl []]
  | .clo b e => [dint 0, .sl [], .sl [], dint b.kind, dint b.index, dint b.type.kind, .sl (List.map Ty.cells b.type.args), .sl (List.map Tm.cells b.args), .sl (MV.cellss e).reverse]
def MV.cellss : List MV → List (List DV)
  | [] => []
  | x :: r => MV.cells x :: MV.cellss r
end
namespace MV
set_option linter.unusedSimpArgs false
set_option linter.unusedVariables false
set_option linter.unnecessarySimpa false
theorem cellss_map : ∀ l : List MV, cellss l = l.map cells
  | [] => rfl
  | x :: r => by simp only [cellss, List.map_cons, cellss_map r]
def numF : MV → Int | .num n => n | _ => 0
def listF : MV → List Int | .list l => l.map Int.ofNat | _ => []
def pairF : MV → List MV | .both a b => [a, b] | _ => []
def bodyF : MV → Tm | .clo b _ => b | _ => zeroTm
def envF : MV → List MV | .clo _ e => e.reverse | _ => []
theorem cells_eq (v : MV) : v.cells = [dint v.numF, .sl (ints v.listF), .sl (v.pairF.map cells), dint v.bodyF.kind, dint v.bodyF.index, dint v.bodyF.type.kind, .sl (v.bodyF.type.args.map Ty.cells), .sl (v.bodyF.args.map Tm.cells), .sl (v.envF.map cells)] := by
  cases v with
  | num n => rfl
  | list l => rfl
  | both a b => simp only [cells, numF, listF, pairF, bodyF, envF]; rfl
  | unit => rfl
  | clo b e => simp only [cells, numF, listF, pairF, bodyF, envF, cellss_map, List.map_reverse]; rfl
def dv (v : MV) : DV := .agg v.cells
theorem fold (v : MV) : DV.agg [dint v.numF, .sl (ints v.listF), .sl (v.pairF.map cells), dint v.bodyF.kind, dint v.bodyF.index, dint v.bodyF.type.kind, .sl (v.bodyF.type.args.map Ty.cells), .sl (v.bodyF.args.map Tm.cells), .sl (v.envF.map cells)] = v.dv := by rw [dv, cells_eq]
theorem cellsD_dv (v : MV) : cellsD v.dv = [dint v.numF, .sl (ints v.listF), .sl (v.pairF.map cells), dint v.bodyF.kind, dint v.bodyF.index, dint v.bodyF.type.kind, .sl (v.bodyF.type.args.map Ty.cells), .sl (v.bodyF.args.map Tm.cells), .sl (v.envF.map cells)] := by rw [dv, cellsD, cells_eq]
theorem isCell_dv (v : MV) : v.dv.isCell = false := rfl
theorem isAgg_dv (v : MV) : v.dv.isAgg = true := rfl
theorem length_cells (v : MV) : v.cells.length = 9 := by rw [cells_eq]; rfl
theorem wide (l : List MV) : (∀ e ∈ List.map cells l, e.length = 9) = True := by simp [length_cells]
theorem numF_num (n : Nat) : (MV.num n).numF = n := rfl
theorem listF_list (l : List Nat) : (MV.list l).listF = l.map Int.ofNat := rfl
theorem pairF_both (a b : MV) : (MV.both a b).pairF = [a, b] := rfl
theorem bodyF_clo (b : Tm) (e : List MV) : (MV.clo b e).bodyF = b := rfl
theorem envF_clo (b : Tm) (e : List MV) : (MV.clo b e).envF = e.reverse := rfl
end MV
attribute [go_sem] MV.cells_eq MV.fold MV.cellsD_dv MV.isCell_dv MV.isAgg_dv MV.wide MV.numF_num MV.listF_list MV.pairF_both MV.bodyF_clo MV.envF_clo

/-- the machine's cells -/
def mach6 (u most : Int) (o : Bool) : List DV := [dint u, dint most, dbool o]

/-- what is asked of evaluation, to be walked -/
def Walk6 (P : Program) (gl : Globs) (fe : FuncId) (most : Int) (ev : Ev6) : Prop :=
  ∀ ⦃t : Tm⦄ ⦃e : List MV⦄ ⦃u : Int⦄ ⦃v : MV⦄ ⦃u' : Int⦄ ⦃o : Bool⦄ (b : Nat) (M : Int), ev t e u = some (v, u', o) → 0 ≤ u → u ≤ most → 0 ≤ M → M + (most - u) ≤ 1073741824 → MV.les M e → (e.length : Int) ≤ M + 1 →
    Con1 P gl fe [ptr b, t.dv, .sl (e.reverse.map MV.cells)] [(b, mach6 u most false)] v.dv [(b, mach6 u' most o)]

theorem call6_ok {most : Int} (hm : most ≤ 1073741824) {ev : Ev6} (H : Walk6 Tryz.prog gl 81 most ev) {f x v : MV} {u u' : Int} {o : Bool} (b : Nat) (M : Int)
    (h : callRun ev f x u = some (v, u', o)) (hu0 : 0 ≤ u) (hu : u ≤ most) (hM : 0 ≤ M) (hMb : M + (most - u) ≤ 1073741824) (hf : f.le M) (hx : x.le M) :
    Con1 Tryz.prog gl 82 [ptr b, f.dv, x.dv] [(b, mach6 u most false)] v.dv [(b, mach6 u' most o)] := by
  cases f with
  | num n => cases h
  | list l => cases h
  | both a b => cases h
  | unit => cases h
  | clo body e =>
    simp only [MV.le] at hf
    have w := H (e := x :: e) b M h hu0 hu hM hMb (by simp only [MV.les]; exact ⟨hx, hf.2⟩) (by simp only [List.length_cons]; omega)
    have hfx := MV.cells_eq x
    have hft := Tm.fold body
    have hbF : (MV.clo body e).bodyF = body := rfl
    have heF : (MV.clo body e).envF = e.reverse := rfl
    have hl : (e.reverse.length : Int) ≤ M := by rw [List.length_reverse]; exact hf.1
    have htk : List.take e.reverse.length (e.reverse.map MV.cells) = e.reverse.map MV.cells := List.take_of_length_le (by simp)
    rw [List.reverse_cons, List.map_append] at w
    generalize e.reverse = r at *
    generalize MV.clo body e = f at *
    unfold mach6 at *
    refine t_in Tryz.func82 ?_
    intro X hP hgl hf hfn hn hR hids hfit
    refine t_g0 ?_
    refine t_c1 (j2 @hft (j2 @hbF (j2 @heF (j2 @htk @hfx)))) w ?_
    repeat (first | refine W_seq ?_ | refine W_skip ?_ | refine W_block ?_ | refine W_inBlock ?_ | refine W_label ?_ | refine W_exit rfl ?_)
    first | refine W_retR hP hf hfn _ ([(b, [dint u', dint most, dbool o])]) (by first | (simp [go_sem, hP, hgl, hn]; done) | (simp [go_sem, hP, hgl, hn]; rfl)) (by simp [go_sem, hP, hgl, hn]) (by simp) ?_ hR.2 | refine W_endR hP hf hfn _ ([(b, [dint u', dint most, dbool o])]) (by first | (simp [go_sem, hP, hgl, hn]; done) | (simp [go_sem, hP, hgl, hn]; rfl)) (by simp [go_sem, hP, hgl, hn]) (by simp) ?_ hR.2
    rw [hR.1]
    refine ⟨?_, by simp⟩
    try simp
    try all_goals (simp [Ty.dv, Ty.cells_eq, Ty.kind_mk, Ty.args_mk, Tm.dv, Tm.cells_eq, Tm.kind_mk, Tm.index_mk, Tm.type_mk, Tm.args_mk, Val.dv, Val.cells_eq, Val.kind_mk, Val.num_mk, Val.list_mk, Val.args_mk, ints])
end Go.Proofs.YteoalfdaanlbjaaGreatDoor.Lift

namespace Go.Proofs.YteoalfdaanlbjaaGreatDoor.Lift
set_option linter.unusedSimpArgs false
set_option linter.unusedVariables false
set_option linter.unnecessarySimpa false
open Go
variable {gl : Globs}

/-! types without functions; values of the machine read back and given -/

def T.level : T → Nat
  | .pair a b => Nat.max a.level b.level
  | .fn a b => Nat.max (a.level + 1) b.level
  | _ => 0
theorem T.level_le (a : T) : a.level < a.size := by
  induction a with
  | nat => decide
  | list => decide
  | unit => decide
  | pair a b iha ihb =>
    simp only [T.level, T.size, Nat.max_def]
    split <;> omega
  | fn a b iha ihb =>
    simp only [T.level, T.size, Nat.max_def]
    split <;> omega
theorem T.level_plain (a : T) : a.level = 0 ↔ a.plain := by
  induction a with
  | nat => simp [T.level, T.plain]
  | list => simp [T.level, T.plain]
  | unit => simp [T.level, T.plain]
  | pair a b iha ihb =>
    simp only [T.level, T.plain, ← iha, ← ihb, Nat.max_def]
    split <;> omega
  | fn a b iha ihb =>
    simp only [T.level, T.plain, Nat.max_def, iff_false]
    split <;> omega
theorem max_if (x y : Nat) : (if (y : Int) > (x : Int) then (y : Int) else (x : Int)) = ((Nat.max x y : Nat) : Int) := by
  simp only [Nat.max_def]
  split <;> split <;> omega
theorem T.ty_nat : T.nat.ty = Ty.mk 1 [] := rfl
theorem T.ty_list : T.list.ty = Ty.mk 2 [] := rfl
theorem T.ty_unit : T.unit.ty = Ty.mk 5 [] := rfl
theorem T.ty_pair (a b : T) : (T.pair a b).ty = Ty.mk 3 [a.ty, b.ty] := rfl
theorem T.ty_fn (a b : T) : (T.fn a b).ty = Ty.mk 4 [a.ty, b.ty] := rfl

theorem level_ok (a : T) (hs : a.size ≤ 1000000) : Con1 Tryz.prog gl 132 [a.ty.dv] [] (dint (a.level : Nat)) [] := by
  induction a with
  | nat =>
    refine t_in Tryz.func132 ?_
    intro X hP hgl hf hfn hn hR hids hfit
    rw [T.ty_nat]
    refine t_g0 ?_
    refine t_r ?_
    simp [go_sem, hP, hgl, hn, T.level] <;> (try omega)
  | list =>
    refine t_in Tryz.func132 ?_
    intro X hP hgl hf hfn hn hR hids hfit
    rw [T.ty_list]
    refine t_g0 ?_
    refine t_r ?_
    simp [go_sem, hP, hgl, hn, T.level] <;> (try omega)
  | unit =>
    refine t_in Tryz.func132 ?_
    intro X hP hgl hf hfn hn hR hids hfit
    rw [T.ty_unit]
    refine t_g0 ?_
    refine t_r ?_
    simp [go_sem, hP, hgl, hn, T.level] <;> (try omega)
  | pair a b iha ihb =>
    simp only [T.size] at hs
    have la := T.level_le a
    have lb := T.level_le b
    have wa := iha (by omega)
    have wb := ihb (by omega)
    have hm := max_if a.level b.level
    have fa := Ty.fold a.ty
    have fb := Ty.fold b.ty
    have hL : (T.pair a b).level = Nat.max a.level b.level := rfl
    rw [hL]
    refine t_in Tryz.func132 ?_
    intro X hP hgl hf hfn hn hR hids hfit
    rw [T.ty_pair]
    generalize a.ty = ta at *
    generalize b.ty = tb at *
    refine t_g0 ?_
    refine t_a ?_
    first | refine W_reg [] fun K hK => ?_ | refine W_regd (by rw [hP]; exact mixed) [] fun K hK => ?_
    simp [go_sem, hP, hgl, hn, fa, fb]
    repeat (refine ⟨by omega, ?_⟩)
    first | refine vcK_call hP hgl (wa) (by simp [go_sem, hP, hgl, hn, fa, fb]) rfl (by simp [go_sem]) (by simp) (by rw [hn]; exact Nat.le_of_ble_eq_true rfl) ?_ | refine vcdC_call (fun _ _ => vcd_sound) hP hgl (wa) (by simp [go_sem, hP, hgl, hn, fa, fb]) rfl (by simp [go_sem]) (by simp) (by rw [hn]; exact Nat.le_of_ble_eq_true rfl) ?_ | refine vcK_callG hP hgl (wa) (by simp [go_sem, hP, hgl, hn, fa, fb]) rfl (by simp [go_sem]) (by simp) (by rw [hn]; exact Nat.le_of_ble_eq_true rfl) (by simp [go_sem]; rfl) (by rw [hn]; exact Nat.le_of_ble_eq_true rfl) (by simp [go_sem]) ?_ | refine vcdC_callG (fun _ _ => vcd_sound) hP hgl (wa) (by simp [go_sem, hP, hgl, hn, fa, fb]) rfl (by simp [go_sem]) (by simp) (by rw [hn]; exact Nat.le_of_ble_eq_true rfl) (by simp [go_sem]; rfl) (by rw [hn]; exact Nat.le_of_ble_eq_true rfl) (by simp [go_sem]) ?_
    simp [go_sem, hP, hgl, hn, fa, fb]
    repeat (refine ⟨by omega, ?_⟩)
    first | refine vcK_call hP hgl (wb) (by simp [go_sem, hP, hgl, hn, fa, fb]) rfl (by simp [go_sem]) (by simp) (by rw [hn]; exact Nat.le_of_ble_eq_true rfl) ?_ | refine vcdC_call (fun _ _ => vcd_sound) hP hgl (wb) (by simp [go_sem, hP, hgl, hn, fa, fb]) rfl (by simp [go_sem]) (by simp) (by rw [hn]; exact Nat.le_of_ble_eq_true rfl) ?_ | refine vcK_callG hP hgl (wb) (by simp [go_sem, hP, hgl, hn, fa, fb]) rfl (by simp [go_sem]) (by simp) (by rw [hn]; exact Nat.le_of_ble_eq_true rfl) (by simp [go_sem]; rfl) (by rw [hn]; exact Nat.le_of_ble_eq_true rfl) (by simp [go_sem]) ?_ | refine vcdC_callG (fun _ _ => vcd_sound) hP hgl (wb) (by simp [go_sem, hP, hgl, hn, fa, fb]) rfl (by simp [go_sem]) (by simp) (by rw [hn]; exact Nat.le_of_ble_eq_true rfl) (by simp [go_sem]; rfl) (by rw [hn]; exact Nat.le_of_ble_eq_true rfl) (by simp [go_sem]) ?_
    simp [go_sem, hP, hgl, hn, fa, fb]
    refine t_e ?_
    clear hK K
    refine t_r ?_
    simp [go_sem, hP, hgl, hn, hm] <;> (try omega)
  | fn a b iha ihb =>
    simp only [T.size] at hs
    have la := T.level_le a
    have lb := T.level_le b
    have wa := iha (by omega)
    have wb := ihb (by omega)
    have hm := max_if (a.level + 1) b.level
    have fa := Ty.fold a.ty
    have fb := Ty.fold b.ty
    have hL : (T.fn a b).level = Nat.max (a.level + 1) b.level := rfl
    rw [hL]
    have h1 : ((a.level + 1 : Nat) : Int) = (a.level : Int) + 1 := by omega
    rw [h1] at hm
    refine t_in Tryz.func132 ?_
    intro X hP hgl hf hfn hn hR hids hfit
    rw [T.ty_fn]
    generalize a.ty = ta at *
    generalize b.ty = tb at *
    refine t_g0 ?_
    refine t_a ?_
    first | refine W_reg [] fun K hK => ?_ | refine W_regd (by rw [hP]; exact mixed) [] fun K hK => ?_
    simp [go_sem, hP, hgl, hn, fa, fb]
    repeat (refine ⟨by omega, ?_⟩)
    first | refine vcK_call hP hgl (wa) (by simp [go_sem, hP, hgl, hn, fa, fb]) rfl (by simp [go_sem]) (by simp) (by rw [hn]; exact Nat.le_of_ble_eq_true rfl) ?_ | refine vcdC_call (fun _ _ => vcd_sound) hP hgl (wa) (by simp [go_sem, hP, hgl, hn, fa, fb]) rfl (by simp [go_sem]) (by simp) (by rw [hn]; exact Nat.le_of_ble_eq_true rfl) ?_ | refine vcK_callG hP hgl (wa) (by simp [go_sem, hP, hgl, hn, fa, fb]) rfl (by simp [go_sem]) (by simp) (by rw [hn]; exact Nat.le_of_ble_eq_true rfl) (by simp [go_sem]; rfl) (by rw [hn]; exact Nat.le_of_ble_eq_true rfl) (by simp [go_sem]) ?_ | refine vcdC_callG (fun _ _ => vcd_sound) hP hgl (wa) (by simp [go_sem, hP, hgl, hn, fa, fb]) rfl (by simp [go_sem]) (by simp) (by rw [hn]; exact Nat.le_of_ble_eq_true rfl) (by simp [go_sem]; rfl) (by rw [hn]; exact Nat.le_of_ble_eq_true rfl) (by simp [go_sem]) ?_
    simp [go_sem, hP, hgl, hn, fa, fb]
    repeat (refine ⟨by omega, ?_⟩)
    first | refine vcK_call hP hgl (wb) (by simp [go_sem, hP, hgl, hn, fa, fb]) rfl (by simp [go_sem]) (by simp) (by rw [hn]; exact Nat.le_of_ble_eq_true rfl) ?_ | refine vcdC_call (fun _ _ => vcd_sound) hP hgl (wb) (by simp [go_sem, hP, hgl, hn, fa, fb]) rfl (by simp [go_sem]) (by simp) (by rw [hn]; exact Nat.le_of_ble_eq_true rfl) ?_ | refine vcK_callG hP hgl (wb) (by simp [go_sem, hP, hgl, hn, fa, fb]) rfl (by simp [go_sem]) (by simp) (by rw [hn]; exact Nat.le_of_ble_eq_true rfl) (by simp [go_sem]; rfl) (by rw [hn]; exact Nat.le_of_ble_eq_true rfl) (by simp [go_sem]) ?_ | refine vcdC_callG (fun _ _ => vcd_sound) hP hgl (wb) (by simp [go_sem, hP, hgl, hn, fa, fb]) rfl (by simp [go_sem]) (by simp) (by rw [hn]; exact Nat.le_of_ble_eq_true rfl) (by simp [go_sem]; rfl) (by rw [hn]; exact Nat.le_of_ble_eq_true rfl) (by simp [go_sem]) ?_
    simp [go_sem, hP, hgl, hn, fa, fb]
    refine t_e ?_
    clear hK K
    refine t_r ?_
    simp [go_sem, hP, hgl, hn, hm] <;> (try omega)

theorem data_ok (a : T) (ha : a.ok) : Con1 Tryz.prog gl 80 [a.ty.dv] [] (.tup [dbool (decide (a.level = 0)), dint 0]) [] := by
  have hs : a.size ≤ 64 := ha
  have hc := T.ty_count a
  have h0 : a.ty.checkN = 0 := (Ty.checkN_iff _).2 (T.ok_ty ha)
  have w1 := ref01_check_ok (gl := gl) a.ty (by omega)
  have w2 := level_ok (gl := gl) a (by omega)
  have ll := T.level_le a
  have fa := Ty.fold a.ty
  rw [h0] at w1
  generalize a.ty = ta at *
  refine t_in Tryz.func80 ?_
  intro X hP hgl hf hfn hn hR hids hfit
  refine t_g0 ?_
  refine t_a ?_
  first | refine W_reg [] fun K hK => ?_ | refine W_regd (by rw [hP]; exact mixed) [] fun K hK => ?_
  simp [go_sem, hP, hgl, hn, fa]
  repeat (refine ⟨by omega, ?_⟩)
  first | refine vcK_call hP hgl (w1) (by simp [go_sem, hP, hgl, hn, fa]) rfl (by simp [go_sem]) (by simp) (by rw [hn]; exact Nat.le_of_ble_eq_true rfl) ?_ | refine vcdC_call (fun _ _ => vcd_sound) hP hgl (w1) (by simp [go_sem, hP, hgl, hn, fa]) rfl (by simp [go_sem]) (by simp) (by rw [hn]; exact Nat.le_of_ble_eq_true rfl) ?_ | refine vcK_callG hP hgl (w1) (by simp [go_sem, hP, hgl, hn, fa]) rfl (by simp [go_sem]) (by simp) (by rw [hn]; exact Nat.le_of_ble_eq_true rfl) (by simp [go_sem]; rfl) (by rw [hn]; exact Nat.le_of_ble_eq_true rfl) (by simp [go_sem]) ?_ | refine vcdC_callG (fun _ _ => vcd_sound) hP hgl (w1) (by simp [go_sem, hP, hgl, hn, fa]) rfl (by simp [go_sem]) (by simp) (by rw [hn]; exact Nat.le_of_ble_eq_true rfl) (by simp [go_sem]; rfl) (by rw [hn]; exact Nat.le_of_ble_eq_true rfl) (by simp [go_sem]) ?_
  simp [go_sem, hP, hgl, hn, fa]
  refine t_e ?_
  clear hK K
  refine t_g0 ?_
  refine t_a ?_
  first | refine W_reg [] fun K hK => ?_ | refine W_regd (by rw [hP]; exact mixed) [] fun K hK => ?_
  simp [go_sem, hP, hgl, hn, fa]
  repeat (refine ⟨by omega, ?_⟩)
  first | refine vcK_call hP hgl (w2) (by simp [go_sem, hP, hgl, hn, fa]) rfl (by simp [go_sem]) (by simp) (by rw [hn]; exact Nat.le_of_ble_eq_true rfl) ?_ | refine vcdC_call (fun _ _ => vcd_sound) hP hgl (w2) (by simp [go_sem, hP, hgl, hn, fa]) rfl (by simp [go_sem]) (by simp) (by rw [hn]; exact Nat.le_of_ble_eq_true rfl) ?_ | refine vcK_callG hP hgl (w2) (by simp [go_sem, hP, hgl, hn, fa]) rfl (by simp [go_sem]) (by simp) (by rw [hn]; exact Nat.le_of_ble_eq_true rfl) (by simp [go_sem]; rfl) (by rw [hn]; exact Nat.le_of_ble_eq_true rfl) (by simp [go_sem]) ?_ | refine vcdC_callG (fun _ _ => vcd_sound) hP hgl (w2) (by simp [go_sem, hP, hgl, hn, fa]) rfl (by simp [go_sem]) (by simp) (by rw [hn]; exact Nat.le_of_ble_eq_true rfl) (by simp [go_sem]; rfl) (by rw [hn]; exact Nat.le_of_ble_eq_true rfl) (by simp [go_sem]) ?_
  simp [go_sem, hP, hgl, hn, fa]
  refine t_e ?_
  clear hK K
  refine t_r ?_
  simp [go_sem, hP, hgl, hn] <;> (try omega)

/-- a plain value as one of the machine -/
def ofM : (a : T) → a.V → MV
  | .nat, n => .num n
  | .list, l => .list l
  | .unit, _ => .unit
  | .pair a b, p => .both (ofM a p.1) (ofM b p.2)
  | .fn _ _, _ => .unit
theorem ofM_typed : ∀ (a : T) (x : a.V), a.plain → MVT a (ofM a x) x
  | .nat, n, _ => .num n
  | .list, l, _ => .list l
  | .unit, _, _ => .unit
  | .pair a b, p, h => .both (ofM_typed a p.1 h.1) (ofM_typed b p.2 h.2)
  | .fn _ _, _, h => h.elim

theorem valOf_nat (n : T.nat.V) : valOf .nat n = Val.mk 1 (Int.ofNat n) [] [] := rfl
theorem valOf_list (l : T.list.V) : valOf .list l = Val.mk 2 0 (List.map Int.ofNat l) [] := rfl
theorem valOf_unit (u : T.unit.V) : valOf .unit u = Val.mk 4 0 [] [] := rfl
theorem valOf_pair {a b : T} (p : (T.pair a b).V) : valOf (.pair a b) p = Val.mk 3 0 [] [valOf a p.1, valOf b p.2] := rfl
end Go.Proofs.YteoalfdaanlbjaaGreatDoor.Lift

namespace Go.Proofs.YteoalfdaanlbjaaGreatDoor.Lift
set_option linter.unusedSimpArgs false
set_option linter.unusedVariables false
set_option linter.unnecessarySimpa false
open Go
variable {gl : Globs}

theorem num_cells (n : Nat) : (MV.num n).cells = [dint (n : Int), .sl [], .sl [], dint 0, dint 0, dint 0, .sl [], .sl [], .sl []] := by rw [MV.cells]
theorem list_cells (l : List Nat) : (MV.list l).cells = [dint 0, .sl (ints (l.map Int.ofNat)), .sl [], dint 0, dint 0, dint 0, .sl [], .sl [], .sl []] := by rw [MV.cells]
theorem both_cells (a b : MV) : (MV.both a b).cells = [dint 0, .sl [], .sl [a.cells, b.cells], dint 0, dint 0, dint 0, .sl [], .sl [], .sl []] := by rw [MV.cells]
theorem unit_cells : MV.unit.cells = [dint 0, .sl [], .sl [], dint 0, dint 0, dint 0, .sl [], .sl [], .sl []] := by rw [MV.cells]

theorem of6_ok (a : T) (x : a.V) (hp : a.plain) : Con1 Tryz.prog gl 83 [(valOf a x).dv] [] (ofM a x).dv [] := by
  induction a with
  | nat =>
    have hc := num_cells x
    have hd : (ofM .nat x).dv = .agg (MV.num x).cells := rfl
    rw [valOf_nat, hd, hc]
    refine t_in Tryz.func83 ?_
    intro X hP hgl hf hfn hn hR hids hfit
    refine t_g0 ?_
    refine t_a ?_
    refine t_sub [] @ints_nil (W_upto (0) (fun i => True) (fun i => [(.slot 14, .one (.v (dint i))), (.slot 13, .one (.v (dint 0))), (.slot 12, .one (.v (.sl []))), (.slot 2, .one (.loc 2 0)), (.loc 2, .row ([.v (dint 0), .own 0 [], .own 0 [], .v (dint 0), .v (dint 0), .v (dint 0), .own 0 [], .own 0 [], .own 0 []])), (.slot 3, .one (.loc 3 0)), (.loc 3, .row ([.v (dint (Int.ofNat x)), .v (.sl []), .v (.sl []), .v (dint 0), .v (dint 0), .v (dint 0), .v (.sl []), .v (.sl []), .v (.sl [])]))]) (trivial) ?_ ?_)
    · intro i hi; exact absurd hi (by omega)
    · intro _
      refine t_rg0 ?_
      refine t_no ?_
      refine t_g0 ?_
      refine t_r ?_
      simp [go_sem, hP, hgl, hn] <;> (try omega)
      rfl
  | list =>
    have hc := list_cells x
    have hd : (ofM .list x).dv = .agg (MV.list x).cells := rfl
    rw [valOf_list, hd, hc]
    refine t_in Tryz.func83 ?_
    intro X hP hgl hf hfn hn hR hids hfit
    refine t_g0 ?_
    refine t_a ?_
    refine t_sub [] @ints_nil (W_upto (0) (fun i => True) (fun i => [(.slot 14, .one (.v (dint i))), (.slot 13, .one (.v (dint 0))), (.slot 12, .one (.v (.sl []))), (.slot 2, .one (.loc 2 0)), (.loc 2, .row ([.v (dint 0), .own 0 [], .own 0 [], .v (dint 0), .v (dint 0), .v (dint 0), .own 0 [], .own 0 [], .own 0 []])), (.slot 3, .one (.loc 3 0)), (.loc 3, .row ([.v (dint 0), .v (.sl (ints (List.map Int.ofNat x))), .v (.sl []), .v (dint 0), .v (dint 0), .v (dint 0), .v (.sl []), .v (.sl []), .v (.sl [])]))]) (trivial) ?_ ?_)
    · intro i hi; exact absurd hi (by omega)
    · intro _
      refine t_rg0 ?_
      refine t_no ?_
      refine t_g0 ?_
      refine t_r ?_
      simp [go_sem, hP, hgl, hn] <;> (try omega)
  | unit =>
    have hc := unit_cells
    have hd : (ofM .unit x).dv = .agg MV.unit.cells := rfl
    rw [valOf_unit, hd, hc]
    refine t_in Tryz.func83 ?_
    intro X hP hgl hf hfn hn hR hids hfit
    refine t_g0 ?_
    refine t_a ?_
    refine t_sub [] @ints_nil (W_upto (0) (fun i => True) (fun i => [(.slot 14, .one (.v (dint i))), (.slot 13, .one (.v (dint 0))), (.slot 12, .one (.v (.sl []))), (.slot 2, .one (.loc 2 0)), (.loc 2, .row ([.v (dint 0), .own 0 [], .own 0 [], .v (dint 0), .v (dint 0), .v (dint 0), .own 0 [], .own 0 [], .own 0 []])), (.slot 3, .one (.loc 3 0)), (.loc 3, .row ([.v (dint 0), .v (.sl []), .v (.sl []), .v (dint 0), .v (dint 0), .v (dint 0), .v (.sl []), .v (.sl []), .v (.sl [])]))]) (trivial) ?_ ?_)
    · intro i hi; exact absurd hi (by omega)
    · intro _
      refine t_rg0 ?_
      refine t_no ?_
      refine t_g0 ?_
      refine t_r ?_
      simp [go_sem, hP, hgl, hn] <;> (try omega)
  | pair a b iha ihb =>
    have w1 := iha x.1 hp.1
    have w2 := ihb x.2 hp.2
    have hc := both_cells (ofM a x.1) (ofM b x.2)
    have hd : (ofM (.pair a b) x).dv = .agg (MV.both (ofM a x.1) (ofM b x.2)).cells := rfl
    have l1 := MV.length_cells (ofM a x.1)
    have l2 := MV.length_cells (ofM b x.2)
    rw [valOf_pair, hd, hc]
    generalize valOf a x.1 = v1 at *
    generalize valOf b x.2 = v2 at *
    generalize ofM a x.1 = m1 at *
    generalize ofM b x.2 = m2 at *
    have f1 := Val.fold v1
    have f2 := Val.fold v2
    have g1 := MV.cells_eq m1
    have g2 := MV.cells_eq m2
    refine t_in Tryz.func83 ?_
    intro X hP hgl hf hfn hn hR hids hfit
    refine t_g0 ?_
    refine t_a ?_
    refine t_sub [(1003, 0)] @ints_nil (W_upto (2) (fun i => True) (fun i => [(.slot 14, .one (.v (dint i))), (.slot 13, .one (.v (dint 2))), (.slot 12, .one (.v (.sl [v1.cells, v2.cells]))), (.slot 2, .one (.loc 2 0)), (.loc 2, .row ([.v (dint 0), .own 0 [], .own 0 [], .v (dint 0), .v (dint 0), .v (dint 0), .own 0 [], .own 0 [], .own 0 []])), (.slot 3, .one (.loc 3 0)), (.loc 3, .row ([.v (dint 0), .v (.sl []), .own 1003 ([m1.cells, m2.cells].take i), .v (dint 0), .v (dint 0), .v (dint 0), .v (.sl []), .v (.sl []), .v (.sl [])])), (.tok 1003, .tk 9 i)]) (trivial) ?_ ?_)
    · intro i hi _ hnext
      match i, hi with
      | 0, _ =>
        refine t_rg0 ?_
        refine t_yes ?_
        refine t_g0 ?_
        refine t_c1 (j2 @f1 @l1) w1 ?_
        refine t_gt (wr [(1003, 23)]) @g1 @l1 (hnext trivial)
      | 1, _ =>
        refine t_rg0 ?_
        refine t_yes ?_
        refine t_g0 ?_
        refine t_c1 (j2 @f2 (j2 @l1 @l2)) w2 ?_
        refine t_gt (wr [(1003, 23)]) (j2 @g1 @g2) (j2 @l1 @l2) (hnext trivial)
    · intro _
      refine t_rg0 ?_
      refine t_no ?_
      refine t_g0 ?_
      refine t_r ?_
      simp [go_sem, hP, hgl, hn] <;> (try omega)
  | fn a b iha ihb => exact hp.elim

theorem MV.fit_list {v : MV} (h : v.dv.fit) : v.listF.length ≤ 2147483648 := by
  rw [MV.dv, MV.cells_eq] at h
  simp only [DV.fit, DV.fit.fits, ints_length, BIG] at h
  exact h.2.1.1
theorem plain6_ok {a : T} {v : MV} {x : a.V} (h : MVT a v x) (hp : a.plain) : Con1 Tryz.prog gl 84 [v.dv, a.ty.dv] [] (valOf a x).dv [] := by
  induction a generalizing v with
  | nat =>
    obtain rfl := mvt_nat h
    rw [valOf_nat, T.ty_nat]
    have hq : (MV.num x).numF = Int.ofNat x := rfl
    generalize MV.num x = m at *
    refine t_in Tryz.func84 ?_
    intro X hP hgl hf hfn hn hR hids hfit
    refine t_g0 ?_
    refine t_r ?_
    simp [go_sem, hP, hgl, hn, hq] <;> (try omega)
    all_goals exact t_f
  | list =>
    obtain rfl := mvt_list h
    rw [valOf_list, T.ty_list]
    have hq : (MV.list x).listF = List.map Int.ofNat x := rfl
    generalize MV.list x = m at *
    refine t_in Tryz.func84 ?_
    intro X hP hgl hf hfn hn hR hids hfit
    have hl := MV.fit_list (hfit m.dv (by simp))
    refine t_g0 ?_
    refine t_r ?_
    simp [go_sem, hP, hgl, hn, hq] <;> (try omega)
    all_goals exact t_f
  | unit =>
    rw [valOf_unit, T.ty_unit]
    refine t_in Tryz.func84 ?_
    intro X hP hgl hf hfn hn hR hids hfit
    refine t_g0 ?_
    refine t_r ?_
    simp [go_sem, hP, hgl, hn] <;> (try omega)
    all_goals exact t_f
  | pair a b iha ihb =>
    obtain ⟨y, z, rfl, hy, hz⟩ := mvt_pair h
    have w1 := iha hy hp.1
    have w2 := ihb hz hp.2
    rw [valOf_pair, T.ty_pair]
    have fa := Ty.fold a.ty
    have fb := Ty.fold b.ty
    have fy := MV.fold y
    have fz := MV.fold z
    generalize a.ty = ta at *
    generalize b.ty = tb at *
    refine t_in Tryz.func84 ?_
    intro X hP hgl hf hfn hn hR hids hfit
    refine t_g0 ?_
    refine t_a ?_
    first | refine W_reg [] fun K hK => ?_ | refine W_regd (by rw [hP]; exact mixed) [] fun K hK => ?_
    simp [go_sem, hP, hgl, hn, fa, fb, fy, fz]
    repeat (refine ⟨by omega, ?_⟩)
    first | refine vcK_call hP hgl (w1) (by simp [go_sem, hP, hgl, hn, fa, fb, fy, fz]) rfl (by simp [go_sem]) (by simp) (by rw [hn]; exact Nat.le_of_ble_eq_true rfl) ?_ | refine vcdC_call (fun _ _ => vcd_sound) hP hgl (w1) (by simp [go_sem, hP, hgl, hn, fa, fb, fy, fz]) rfl (by simp [go_sem]) (by simp) (by rw [hn]; exact Nat.le_of_ble_eq_true rfl) ?_ | refine vcK_callG hP hgl (w1) (by simp [go_sem, hP, hgl, hn, fa, fb, fy, fz]) rfl (by simp [go_sem]) (by simp) (by rw [hn]; exact Nat.le_of_ble_eq_true rfl) (by simp [go_sem]; rfl) (by rw [hn]; exact Nat.le_of_ble_eq_true rfl) (by simp [go_sem]) ?_ | refine vcdC_callG (fun _ _ => vcd_sound) hP hgl (w1) (by simp [go_sem, hP, hgl, hn, fa, fb, fy, fz]) rfl (by simp [go_sem]) (by simp) (by rw [hn]; exact Nat.le_of_ble_eq_true rfl) (by simp [go_sem]; rfl) (by rw [hn]; exact Nat.le_of_ble_eq_true rfl) (by simp [go_sem]) ?_
    simp [go_sem, hP, hgl, hn, fa, fb, fy, fz]
    repeat (refine ⟨by omega, ?_⟩)
    first | refine vcK_call hP hgl (w2) (by simp [go_sem, hP, hgl, hn, fa, fb, fy, fz]) rfl (by simp [go_sem]) (by simp) (by rw [hn]; exact Nat.le_of_ble_eq_true rfl) ?_ | refine vcdC_call (fun _ _ => vcd_sound) hP hgl (w2) (by simp [go_sem, hP, hgl, hn, fa, fb, fy, fz]) rfl (by simp [go_sem]) (by simp) (by rw [hn]; exact Nat.le_of_ble_eq_true rfl) ?_ | refine vcK_callG hP hgl (w2) (by simp [go_sem, hP, hgl, hn, fa, fb, fy, fz]) rfl (by simp [go_sem]) (by simp) (by rw [hn]; exact Nat.le_of_ble_eq_true rfl) (by simp [go_sem]; rfl) (by rw [hn]; exact Nat.le_of_ble_eq_true rfl) (by simp [go_sem]) ?_ | refine vcdC_callG (fun _ _ => vcd_sound) hP hgl (w2) (by simp [go_sem, hP, hgl, hn, fa, fb, fy, fz]) rfl (by simp [go_sem]) (by simp) (by rw [hn]; exact Nat.le_of_ble_eq_true rfl) (by simp [go_sem]; rfl) (by rw [hn]; exact Nat.le_of_ble_eq_true rfl) (by simp [go_sem]) ?_
    simp [go_sem, hP, hgl, hn, fa, fb, fy, fz]
    refine t_e ?_
    clear hK K
    refine t_r ?_
    simp [go_sem, hP, hgl, hn] <;> (try omega)
    all_goals exact t_f
  | fn a b iha ihb => exact hp.elim
end Go.Proofs.YteoalfdaanlbjaaGreatDoor.Lift

namespace Go.Proofs.YteoalfdaanlbjaaGreatDoor.Lift
set_option linter.unusedSimpArgs false
set_option linter.unusedVariables false
set_option linter.unnecessarySimpa false
open Go

/-- the type is found, or something is too large -/
def Fits (t : Tm) (g : List Ty) (a : T) : Prop := t.inferN g = (a.ty, 0) ∨ (t.inferN g).2 = 4
def AllFit (g : List Ty) : List Tm → List T → Prop
  | [], [] => True
  | t :: r, a :: s => Fits t g a ∧ AllFit g r s
  | _, _ => False

theorem infers_fit {g : List Ty} : ∀ {l : List Tm} {ts : List T}, AllFit g l ts → (Tm.inferN.infers l g = (ts.map T.ty, 0)) ∨ (Tm.inferN.infers l g).2 = 4
  | [], [], _ => .inl rfl
  | [], _ :: _, h => h.elim
  | _ :: _, [], h => h.elim
  | t :: r, a :: s, ⟨h, hr⟩ => by
    simp only [Tm.inferN.infers]
    rcases h with h | h
    · rw [h]
      rcases infers_fit hr with h2 | h2
      · rw [h2]; exact .inl rfl
      · right; rw [if_pos rfl, if_neg (by rw [h2]; decide)]; exact h2
    · right; rw [if_neg (by rw [h]; decide)]; exact h

theorem fits_node {k : Int} {y : Ty} {l : List Tm} {g : List Ty} {ts : List T} {a : T} (hk : ¬ k = 1) (h : AllFit (if k = 2 then g ++ [y] else g) l ts)
    (hr : ruleN k y (ts.map T.ty) = (a.ty, 0) ∨ (ruleN k y (ts.map T.ty)).2 = 4) : Fits (Tm.mk k 0 y l) g a := by
  have e0 : (Tm.mk k 0 y l).inferN g = if (Tm.inferN.infers l (if k = 2 then g ++ [y] else g)).2 = 0 then ruleN k y (Tm.inferN.infers l (if k = 2 then g ++ [y] else g)).1 else (zeroTy, (Tm.inferN.infers l (if k = 2 then g ++ [y] else g)).2) := by
    rw [Tm.inferN_eq, if_neg (show ¬ (Tm.mk k 0 y l).kind = 1 from hk)]
    rfl
  unfold Fits
  rw [e0]
  rcases infers_fit h with e | e
  · rw [e, if_pos rfl]
    exact hr
  · right
    rw [if_neg (by rw [e]; decide)]
    exact e
theorem okN_fit (y : Ty) : okN y = (y, 0) ∨ (okN y).2 = 4 := by
  unfold okN
  split
  · exact .inl rfl
  · exact .inr rfl

/-- a term that means something of a type has that type, or is too large -/
theorem infer_of_dn {Γ : List T} {t : Tm} {a : T} {F : Env Γ → a.V} (h : Dn Γ t a F) : Fits t (Γ.reverse.map T.ty) a := by
  induction h with
  | @var Γ i a p h =>
    left
    have hg := At.get h
    have hlt : i < Γ.length := (List.getElem?_eq_some_iff.1 hg).1
    rw [Tm.inferN_eq, if_pos (show (vT i).kind = 1 from rfl)]
    rw [if_neg (by show ¬ (((Γ.reverse.map T.ty).length : Int) ≤ (i : Int)); simp; omega)]
    have hi : (vT i).index.toNat = i := rfl
    rw [hi, List.getD_eq_getElem?_getD, List.getElem?_map]
    have : Γ.reverse[(Γ.reverse.map T.ty).length - 1 - i]? = some a := by
      rw [List.getElem?_reverse (by simp; omega)]
      simp only [List.length_map, List.length_reverse]
      rw [show Γ.length - 1 - (Γ.length - 1 - i) = i by omega]
      exact hg
    rw [this]
    rfl
  | @lam Γ a r b f ha h ih =>
    refine fits_node (ts := [r]) (by decide) ⟨?_, trivial⟩ (okN_fit _)
    rw [if_pos rfl]
    simpa using ih
  | @app Γ a b f x F X hf hx ih1 ih2 =>
    refine fits_node (ts := [.fn a b, a]) (by decide) ⟨ih1, ih2, trivial⟩ (.inl ?_)
    show (if (4 : Int) = 4 ∧ a.ty.same a.ty = true then (b.ty, (0 : Int)) else (zeroTy, 7)) = (b.ty, 0)
    rw [if_pos ⟨rfl, (Ty.same_iff _ _).2 rfl⟩]
  | zero => exact fits_node (ts := []) (by decide) trivial (.inl rfl)
  | succ hx ih => exact fits_node (ts := [.nat]) (by decide) ⟨ih, trivial⟩ (.inl rfl)
  | @rc Γ a b f n B F N ha hb hf hn ih1 ih2 ih3 =>
    refine fits_node (ts := [a, .fn .nat (.fn a a), .nat]) (by decide) ⟨ih1, ih2, ih3, trivial⟩ (.inl ?_)
    show (if a.ty.same a.ty = true ∧ (T.fn .nat (.fn a a)).ty.same (Ty.mk 4 [Ty.mk 1 [], Ty.mk 4 [a.ty, a.ty]]) = true ∧ (T.ty .nat).same (Ty.mk 1 []) = true then (a.ty, (0 : Int)) else (zeroTy, 7)) = (a.ty, 0)
    rw [if_pos ⟨(Ty.same_iff _ _).2 rfl, (Ty.same_iff _ _).2 rfl, (Ty.same_iff _ _).2 rfl⟩]
  | nil => exact fits_node (ts := []) (by decide) trivial (.inl rfl)
  | cons hx hl ih1 ih2 => exact fits_node (ts := [.nat, .list]) (by decide) ⟨ih1, ih2, trivial⟩ (.inl rfl)
  | @fold Γ a b f n B F N ha hb hf hn ih1 ih2 ih3 =>
    refine fits_node (ts := [a, .fn .nat (.fn .list (.fn a a)), .list]) (by decide) ⟨ih1, ih2, ih3, trivial⟩ (.inl ?_)
    show (if a.ty.same a.ty = true ∧ (T.fn .nat (.fn .list (.fn a a))).ty.same (Ty.mk 4 [Ty.mk 1 [], Ty.mk 4 [Ty.mk 2 [], Ty.mk 4 [a.ty, a.ty]]]) = true ∧ (T.ty .list).same (Ty.mk 2 []) = true then (a.ty, (0 : Int)) else (zeroTy, 7)) = (a.ty, 0)
    rw [if_pos ⟨(Ty.same_iff _ _).2 rfl, (Ty.same_iff _ _).2 rfl, (Ty.same_iff _ _).2 rfl⟩]
  | @pair Γ a b x y X Y hx hy ih1 ih2 => exact fits_node (ts := [a, b]) (by decide) ⟨ih1, ih2, trivial⟩ (okN_fit _)
  | @fst Γ a b x X hx ih => exact fits_node (ts := [.pair a b]) (by decide) ⟨ih, trivial⟩ (.inl rfl)
  | @snd Γ a b x X hx ih => exact fits_node (ts := [.pair a b]) (by decide) ⟨ih, trivial⟩ (.inl rfl)
  | unit => exact fits_node (ts := []) (by decide) trivial (.inl rfl)
end Go.Proofs.YteoalfdaanlbjaaGreatDoor.Lift

namespace Go.Proofs.YteoalfdaanlbjaaGreatDoor.Lift
set_option linter.unusedSimpArgs false
set_option linter.unusedVariables false
set_option linter.unnecessarySimpa false
open Go

/-! closed functions of several plain arguments, and what a call of them leaves -/

def FnT : List T → T → T
  | [], r => r
  | a :: l, r => .fn a (FnT l r)
def appl : (l : List T) → {r : T} → (FnT l r).V → Env l → r.V
  | [], _, f, _ => f
  | _ :: l, _, f, e => appl l (f e.1) e.2
def valsOf : (l : List T) → Env l → List Val
  | [], _ => []
  | a :: l, e => valOf a e.1 :: valsOf l e.2
def mvsOf : (l : List T) → Env l → List MV
  | [], _ => []
  | a :: l, e => ofM a e.1 :: mvsOf l e.2
def Plains : List T → Prop
  | [] => True
  | a :: l => a.plain ∧ a.ok ∧ Plains l

theorem valsOf_len : ∀ (l : List T) (X : Env l), (valsOf l X).length = l.length
  | [], _ => rfl
  | a :: l, X => by simp only [valsOf, List.length_cons, valsOf_len l X.2]
theorem mvsOf_len : ∀ (l : List T) (X : Env l), (mvsOf l X).length = l.length
  | [], _ => rfl
  | a :: l, X => by simp only [mvsOf, List.length_cons, mvsOf_len l X.2]
theorem args_at {r : T} : ∀ (l : List T) (X : Env l) (i : Nat), i < l.length → Plains l → ∃ (a : T) (x : a.V), (valsOf l X)[i]? = some (valOf a x) ∧ (mvsOf l X)[i]? = some (ofM a x) ∧ FnT (l.drop i) r = .fn a (FnT (l.drop (i + 1)) r) ∧ a.plain ∧ a.ok
  | [], X, i, h, _ => absurd h (Nat.not_lt_zero _)
  | a :: l, X, 0, h, hp => ⟨a, X.1, rfl, rfl, rfl, hp.1, hp.2.1⟩
  | a :: l, X, i + 1, h, hp => by
    obtain ⟨b, x, h1, h2, h3, h4⟩ := args_at (r := r) l X.2 i (by simpa using h) hp.2.2
    exact ⟨b, x, by simpa [valsOf] using h1, by simpa [mvsOf] using h2, by simpa using h3, h4⟩

theorem valOf_check {a : T} (x : a.V) (hp : a.plain) (hs : a.ok) : (valOf a x).checkN = 0 := by
  obtain ⟨v1, v2⟩ := valOf_nodes a x hp
  have hs : a.size ≤ 64 := hs
  unfold Val.checkN
  rw [if_pos v1, if_neg (by rw [Val.nodes_count _ v1]; omega)]
theorem valOf_ty : ∀ (a : T) (x : a.V), a.plain → (valOf a x).tyN = a.ty
  | .nat, n, _ => by rw [Val.tyN_eq]; rfl
  | .list, l, _ => by rw [Val.tyN_eq]; rfl
  | .unit, _, _ => by rw [Val.tyN_eq]; rfl
  | .pair a b, p, h => by
    rw [Val.tyN_eq, valOf_pair]
    simp only [Val.kind, Val.args, List.map_cons, List.map_nil, valOf_ty a p.1 h.1, valOf_ty b p.2 h.2]
    rfl
  | .fn _ _, _, h => h.elim
theorem valOf_typeE {a : T} (x : a.V) (hp : a.plain) (hs : a.ok) : (valOf a x).typeE = (a.ty, 0) := by
  unfold Val.typeE
  rw [valOf_check x hp hs, valOf_ty a x hp]
  rfl

theorem typeE_dn {t : Tm} {a : T} {F : Env [] → a.V} (h : Dn [] t a F) : t.typeE [] = (a.ty, 0) ∨ (t.typeE []).2 = 4 := by
  have hc : ctxN [] = 0 := rfl
  unfold Tm.typeE Tm.typedE
  rw [if_pos hc]
  by_cases h0 : t.checkN = 0
  · rw [if_pos h0]
    exact infer_of_dn h
  · rw [if_neg h0]
    right
    have hs := dn_shape h
    unfold Tm.checkN at h0 ⊢
    rw [if_pos hs] at h0 ⊢
    split at h0
    · rename_i hq; rw [if_pos hq]
    · exact absurd rfl h0

/-- a closure called with some values, one after the other -/
def callsRun (ev : Ev6) : MV → List MV → Int → Rn
  | r, [], u => some (r, u, false)
  | r, x :: l, u => match callRun ev r x u with
    | none => none
    | some (v, u1, true) => some (v, u1, true)
    | some (v, u1, false) => callsRun ev v l u1
/-- a closed function called -/
def call6N (most : Int) (t : Tm) (xs : List MV) : Rn :=
  match ev6 most (most.toNat + 1) t [] 0 with
  | none => none
  | some (v, u, true) => some (v, u, true)
  | some (v, u, false) => callsRun (ev6 most (most.toNat + 1)) v xs u

theorem callsRun_out {most : Int} {d : Nat} {ev : Ev6} (H : Evs most d ev) : ∀ (l : List T) {r : T} {f : MV} {F : (FnT l r).V} (X : Env l) {u : Int}, MVT (FnT l r) f F → Plains l → u ≤ most → most - u < d →
    Out most (fun v => MVT r v (appl l F X)) u (callsRun ev f (mvsOf l X) u)
  | [], r, f, F, X, u, hf, hp, hu, hd => ⟨f, u, false, rfl, by omega, hu, fun _ => hf⟩
  | a :: l, r, f, F, X, u, hf, hp, hu, hd => by
    obtain ⟨g, u1, o1, h1, l1, m1, q1⟩ := callRun_out H hf (ofM_typed a X.1 hp.1) hu hd
    simp only [mvsOf, callsRun, h1]
    cases o1 with
    | true => exact ⟨g, u1, true, rfl, l1, m1, fun h => by cases h⟩
    | false => exact (callsRun_out H l X.2 (q1 rfl) hp.2.2 m1 (by omega)).mono l1 fun _ h => h
theorem call6_out {most : Int} (hm : 0 ≤ most) {t : Tm} {l : List T} {r : T} {F : Env [] → (FnT l r).V} (h : Dn [] t (FnT l r) F) (X : Env l) (hp : Plains l) :
    Out most (fun v => MVT r v (appl l (F ()) X)) 0 (call6N most t (mvsOf l X)) := by
  have H := ev6_ok most (most.toNat + 1)
  obtain ⟨v, u, o, h1, l1, m1, q1⟩ := H h .nil hm (by omega)
  unfold call6N
  rw [h1]
  cases o with
  | true => exact ⟨v, u, true, rfl, l1, m1, fun h => by cases h⟩
  | false => exact (callsRun_out H l X (q1 rfl) hp m1 (by omega)).mono l1 fun _ h => h

/-- what a call returns: the value, the work, the error -/
def callOut (t : Tm) (l : List T) {r : T} (F : (FnT l r).V) (X : Env l) (work : Int) : Val × Int × Int :=
  if (t.typeE []).2 = 0 then match call6N work t (mvsOf l X) with
    | some (_, u, false) => (valOf r (appl l F X), u, 0)
    | _ => (zeroV, 0, 5)
  else (zeroV, 0, (t.typeE []).2)
theorem callOut_err {t : Tm} {l : List T} {r : T} {F : Env [] → (FnT l r).V} (h : Dn [] t (FnT l r) F) (X : Env l) (work : Int) :
    (callOut t l (F ()) X work).2.2 = 4 ∨ (callOut t l (F ()) X work).2.2 = 5 ∨ ((callOut t l (F ()) X work).2.2 = 0 ∧ (callOut t l (F ()) X work).1 = valOf r (appl l (F ()) X)) := by
  unfold callOut
  by_cases h0 : (t.typeE []).2 = 0
  · rw [if_pos h0]
    split
    · exact .inr (.inr ⟨rfl, rfl⟩)
    · exact .inr (.inl rfl)
  · rw [if_neg h0]
    rcases typeE_dn h with h1 | h1
    · rw [h1] at h0; exact absurd rfl h0
    · exact .inl h1
end Go.Proofs.YteoalfdaanlbjaaGreatDoor.Lift

namespace Go.Proofs.YteoalfdaanlbjaaGreatDoor.Lift
set_option linter.unusedSimpArgs false
set_option linter.unusedVariables false
set_option linter.unnecessarySimpa false
open Go
variable {gl : Globs}

theorem allRun_split {ev : Ev6} {e : List MV} {x : Tm} {rest : List Tm} : ∀ (done : List Tm) {u : Int} {r : List MV × Int × Bool} {vs : List MV} {uk : Int}, allRun ev (done ++ x :: rest) e u = some r → allRun ev done e u = some (vs, uk, false) →
    ∃ v u1 o, ev x e uk = some (v, u1, o) ∧ (o = true → r.2.1 = u1 ∧ r.2.2 = true) ∧ (o = false → allRun ev (done ++ [x]) e u = some (vs ++ [v], u1, false))
  | [], u, r, vs, uk, h, hd => by
    simp only [allRun, Option.some.injEq, Prod.mk.injEq] at hd
    obtain ⟨rfl, rfl, -⟩ := hd
    simp only [List.nil_append, allRun] at h ⊢
    split at h
    · cases h
    · rename_i v1 u1 h1
      obtain rfl := Option.some.inj h
      exact ⟨v1, u1, true, h1, fun _ => ⟨rfl, rfl⟩, fun h => by cases h⟩
    · rename_i v1 u1 h1
      exact ⟨v1, u1, false, h1, fun h => (by cases h), fun _ => (by simp only [h1])⟩
  | t :: done, u, r, vs, uk, h, hd => by
    simp only [List.cons_append, allRun] at h hd ⊢
    split at hd
    · cases hd
    · simp at hd
    · rename_i v1 u1 h1
      simp only [h1] at h ⊢
      split at hd
      · cases hd
      · rename_i vs2 u2 o2 h2
        simp only [Option.some.injEq, Prod.mk.injEq] at hd
        obtain ⟨rfl, rfl, rfl⟩ := hd
        split at h
        · cases h
        · rename_i vs3 u3 o3 h3
          obtain ⟨v, u4, o4, g1, g2, g3⟩ := allRun_split done h3 h2
          obtain rfl := Option.some.inj h
          exact ⟨v, u4, o4, g1, g2, fun h => by simp only [g3 h]; rfl⟩
def vsD (ev : Ev6) (e : List MV) (u : Int) (l : List Tm) : List MV := ((allRun ev l e u).getD ([], 0, false)).1
def ukD (ev : Ev6) (e : List MV) (u : Int) (l : List Tm) : Int := ((allRun ev l e u).getD ([], 0, false)).2.1
theorem allD {ev : Ev6} {e : List MV} {u : Int} {l : List Tm} (h : ∃ vs uk, allRun ev l e u = some (vs, uk, false)) : allRun ev l e u = some (vsD ev e u l, ukD ev e u l, false) := by
  obtain ⟨vs, uk, h⟩ := h
  simp only [vsD, ukD, h, Option.getD_some]
theorem allRun_len {ev : Ev6} {e : List MV} : ∀ {l : List Tm} {u : Int} {vs : List MV} {uk : Int}, allRun ev l e u = some (vs, uk, false) → vs.length = l.length
  | [], u, vs, uk, h => by
    simp only [allRun, Option.some.injEq, Prod.mk.injEq] at h
    obtain ⟨rfl, -, -⟩ := h
    rfl
  | t :: l, u, vs, uk, h => by
    simp only [allRun] at h
    split at h
    · cases h
    · simp at h
    · rename_i v1 u1 h1
      split at h
      · cases h
      · rename_i vs2 u2 o2 h2
        simp only [Option.some.injEq, Prod.mk.injEq] at h
        obtain ⟨rfl, rfl, rfl⟩ := h
        simp [allRun_len h2]
theorem vsD_nil (ev : Ev6) (e : List MV) (u : Int) : vsD ev e u [] = [] := rfl
theorem ukD_nil (ev : Ev6) (e : List MV) (u : Int) : ukD ev e u [] = u := rfl
theorem num_dv (n : Nat) : (MV.num n).dv = .agg [dint (n : Int), .sl [], .sl [], dint 0, dint 0, dint 0, .sl [], .sl [], .sl []] := by rw [MV.dv, MV.cells]
theorem list_dv (l : List Nat) : (MV.list l).dv = .agg [dint 0, .sl (ints (l.map Int.ofNat)), .sl [], dint 0, dint 0, dint 0, .sl [], .sl [], .sl []] := by rw [MV.dv, MV.cells]
theorem both_dv (a b : MV) : (MV.both a b).dv = .agg [dint 0, .sl [], .sl [a.cells, b.cells], dint 0, dint 0, dint 0, .sl [], .sl [], .sl []] := by rw [MV.dv, MV.cells]
theorem unit_dv : MV.unit.dv = .agg [dint 0, .sl [], .sl [], dint 0, dint 0, dint 0, .sl [], .sl [], .sl []] := by rw [MV.dv, MV.cells]
theorem clo_dv (b : Tm) (e : List MV) : (MV.clo b e).dv = .agg [dint 0, .sl [], .sl [], dint b.kind, dint b.index, dint b.type.kind, .sl (List.map Ty.cells b.type.args), .sl (List.map Tm.cells b.args), .sl (e.reverse.map MV.cells)] := by rw [MV.dv, MV.cells, MV.cellss_map, List.map_reverse]
theorem zero_dv : zeroM.dv = .agg [dint 0, .sl [], .sl [], dint 0, dint 0, dint 0, .sl [], .sl [], .sl []] := by rw [zeroM, num_dv]; rfl
end Go.Proofs.YteoalfdaanlbjaaGreatDoor.Lift

/-
  Part V of the small logic: a slice literal that is one's own (it may be appended to).
-/
namespace Go.Proofs.YteoalfdaanlbjaaGreatDoor.Lift
set_option linter.unusedSimpArgs false
set_option linter.unusedVariables false
set_option linter.unnecessarySimpa false
open Go
section
variable {X : Ctx} {s : St}

theorem step_litO {o : Oper} {t len E B : Nat} {parts : Array (Nat × Operand)} (ho : o.op = .buildSlice t len parts) {d : Nat} (hd : o.dst = some d) (hn : d < X.n) (hd0 : d ≠ 0) (hf : freshT d s = true) (he : elemZ X.P t = some (E, B)) {els : List (List DV)}
    (h : litEls X (get s) E 0 parts.toList = some els) (hc : els.length = len ∧ len * E ≤ 16777216 ∧ len ≤ BIG) : StepOK X s o (upd (upd (del s (.tok 0)) (.slot d) (.one (.own d els))) (.tok d) (.tk E len)) := by
  intro G a w R next Q hK
  obtain ⟨c, e, h1, h2, h3⟩ := buildSlice_run R he h hc.1 hc.2.1 hc.2.2
  refine opIn (by intro c e; rw [ho] at e; cases e) ?_
  simp only [execOp, ho, Sem.run_bind, h1, Result.andThen_ok, Sem.run_pure, upn_value, hd]
  have hτ0 : (setτ G (withData G.D w.heap.size 0 (len * E)) d (some ⟨w.heap.size, 0, none⟩, len)).τ 0 = (none, 0) := by simp only [setτ, if_neg (Ne.symm hd0)]; exact R.nil
  have T : Trans X G a w (setτ G (withData G.D w.heap.size 0 (len * E)) d (some ⟨w.heap.size, 0, none⟩, len)) a (w.alloc (.cells c e)) (fun _ => False) := trans_data R (hi := len * E) (by omega) rfl hτ0
  refine hK (setτ G (withData G.D w.heap.size 0 (len * E)) d (some ⟨w.heap.size, 0, none⟩, len)) _ _ (R.ownNew (t := 0) hn hf T rfl (fun k hk => by simp [setτ, hk]) (fun b h => h.elim) ?_ ?_ (fun b hb => ?_))
  · simp only [RSV, setτ, if_true]
    rw [← hc.1] at h3 ⊢
    exact ⟨rfl, h3⟩
  · simp only [TokAt, setτ, if_true]
    exact ⟨Nat.le_refl _, fun h => absurd h (Nat.lt_irrefl _)⟩
  · simp [tokBlk, setτ] at hb

theorem vcdC_litO {ops : Array Oper} {s0 : St} {K : St → Prop} {l : List Oper} {k : St → List Ev → Prop} {ev : List Ev} {fp wr : List Loc} {d : Tmp} {t len : Nat} {parts : Array (Nat × Operand)} {ty : TypeId} {pos : String} {af : Array Edge} {q : Option (Prop × St)} {E B : Nat} {els : List (List DV)}
    (hk : ∀ s ev, k s ev → VD X ops s0 l s ev K) (he : elemZ X.P t = some (E, B)) (h : litEls X (get (restr s fp)) E 0 parts.toList = some els) (hc : els.length = len ∧ len * E ≤ 16777216 ∧ len ≤ BIG) (hn : d < X.n) (hd0 : d ≠ 0) (hq : q = none)
    (g : vcdD k ev s fp [d] [(.tok 0, none), (.slot d, some (.one (.own d els))), (.tok d, some (.tk E len))]) :
    vcdC X ops s0 l K k ⟨some d, .buildSlice t len parts, ty, pos, af, none⟩ ev s fp wr q := by
  subst hq
  show VD X ops s0 _ s ev K
  refine VD_step ⟨fp, _, [d]⟩ (fun s' hs hfr => opOK_of (.inl rfl) ?_) (hk _ _ g)
  have hf := fresh_iff (hfr d (by simp))
  exact step_litO (o := ⟨some d, .buildSlice t len parts, ty, pos, af, none⟩) rfl rfl hn hd0 hf.2 he (litEls_mono hs h) hc
end
end Go.Proofs.YteoalfdaanlbjaaGreatDoor.Lift

namespace Go.Proofs.YteoalfdaanlbjaaGreatDoor.Lift
set_option linter.unusedSimpArgs false
set_option linter.unusedVariables false
set_option linter.unnecessarySimpa false
open Go
variable {gl : Globs}

theorem rev_at {α : Type} {e : List α} {i : Nat} {x : α} (h : e[i]? = some x) : e.reverse[e.length - 1 - i]? = some x := by
  have hi := (List.getElem?_eq_some_iff.1 h).1
  rw [List.getElem?_reverse (by omega), ← h]
  congr 1
  omega

set_option maxHeartbeats 4000000 in
set_option maxRecDepth 100000 in
theorem eval6_step {most : Int} (hm : most ≤ 1073741824) {d : Nat} (H : Walk6 Tryz.prog gl 81 most (ev6 most d)) : Walk6 Tryz.prog gl 81 most (ev6 most (d + 1)) := fun t e u v u' o b M h hu0 hu hM hMb he hel => by
  have B := @ev6_bd most d
  rw [ev6] at h
  have hft := Tm.fold t
  have hlen : e.reverse.length = e.length := List.length_reverse
  unfold mach6
  refine t_in Tryz.func81 ?_
  intro X hP hgl hf hfn hn hR hids hfit
  have hlt := Tm.fit_len (hfit t.dv (by simp))
  by_cases hum : u = most
  · rw [if_pos hum] at h
    simp only [Option.some.injEq, Prod.mk.injEq] at h
    obtain ⟨rfl, rfl, rfl⟩ := h
    subst hum
    refine t_g0 ?_
    repeat (first | refine W_seq ?_ | refine W_skip ?_ | refine W_block ?_ | refine W_inBlock ?_ | refine W_label ?_ | refine W_exit rfl ?_)
    first | refine W_retR hP hf hfn _ ([(b, [dint u, dint u, dbool true])]) (by first | (simp [go_sem, hP, hgl, hn, zero_dv]; done) | (simp [go_sem, hP, hgl, hn, zero_dv]; rfl)) (by simp [go_sem, hP, hgl, hn, zero_dv]) (by simp) ?_ hR.2 | refine W_endR hP hf hfn _ ([(b, [dint u, dint u, dbool true])]) (by first | (simp [go_sem, hP, hgl, hn, zero_dv]; done) | (simp [go_sem, hP, hgl, hn, zero_dv]; rfl)) (by simp [go_sem, hP, hgl, hn, zero_dv]) (by simp) ?_ hR.2
    rw [hR.1]
    refine ⟨?_, by simp [zero_dv]⟩
    try simp [zero_dv]
    try all_goals (simp [Ty.dv, Ty.cells_eq, Ty.kind_mk, Ty.args_mk, Tm.dv, Tm.cells_eq, Tm.kind_mk, Tm.index_mk, Tm.type_mk, Tm.args_mk, Val.dv, Val.cells_eq, Val.kind_mk, Val.num_mk, Val.list_mk, Val.args_mk, ints])
  rw [if_neg hum] at h
  by_cases h1 : t.kind = 1
  · rw [if_pos h1] at h
    split at h
    · rename_i hi0
      split at h
      · rename_i v1 hv
        simp only [Option.some.injEq, Prod.mk.injEq] at h
        obtain ⟨rfl, rfl, rfl⟩ := h
        have hgv := rev_at hv
        have hl1 := (List.getElem?_eq_some_iff.1 hv).1
        generalize e.reverse = r at *
        have hix : (e.length : Int) - 1 - t.index = ((e.length - 1 - t.index.toNat : Nat) : Int) := by omega
        refine t_g (j2 @hum (j2 @h1 (j2 @hlen (j2 @hix @hgv)))) ?_
        repeat (first | refine W_seq ?_ | refine W_skip ?_ | refine W_block ?_ | refine W_inBlock ?_ | refine W_label ?_ | refine W_exit rfl ?_)
        first | refine W_retR hP hf hfn _ ([(b, [dint (u + 1), dint most, dbool false])]) (by first | (simp [go_sem, hP, hgl, hn]; done) | (simp [go_sem, hP, hgl, hn]; rfl)) (by simp [go_sem, hP, hgl, hn]) (by simp) ?_ hR.2 | refine W_endR hP hf hfn _ ([(b, [dint (u + 1), dint most, dbool false])]) (by first | (simp [go_sem, hP, hgl, hn]; done) | (simp [go_sem, hP, hgl, hn]; rfl)) (by simp [go_sem, hP, hgl, hn]) (by simp) ?_ hR.2
        rw [hR.1]
        refine ⟨?_, by simp⟩
        try simp
        try all_goals (simp [Ty.dv, Ty.cells_eq, Ty.kind_mk, Ty.args_mk, Tm.dv, Tm.cells_eq, Tm.kind_mk, Tm.index_mk, Tm.type_mk, Tm.args_mk, Val.dv, Val.cells_eq, Val.kind_mk, Val.num_mk, Val.list_mk, Val.args_mk, ints])
      · cases h
    · cases h
  rw [if_neg h1] at h
  by_cases h2 : t.kind = 2
  · rw [if_pos h2] at h
    split at h
    · rename_i body r hargs
      simp only [Option.some.injEq, Prod.mk.injEq] at h
      obtain ⟨rfl, rfl, rfl⟩ := h
      have hg0 : t.args[0]? = some body := by rw [hargs]; rfl
      refine t_g (j2 @hum (j2 @h1 (j2 @h2 @hg0))) ?_
      repeat (first | refine W_seq ?_ | refine W_skip ?_ | refine W_block ?_ | refine W_inBlock ?_ | refine W_label ?_ | refine W_exit rfl ?_)
      first | refine W_retR hP hf hfn _ ([(b, [dint (u + 1), dint most, dbool false])]) (by first | (simp [go_sem, hP, hgl, hn, clo_dv]; done) | (simp [go_sem, hP, hgl, hn, clo_dv]; rfl)) (by simp [go_sem, hP, hgl, hn, clo_dv]) (by simp) ?_ hR.2 | refine W_endR hP hf hfn _ ([(b, [dint (u + 1), dint most, dbool false])]) (by first | (simp [go_sem, hP, hgl, hn, clo_dv]; done) | (simp [go_sem, hP, hgl, hn, clo_dv]; rfl)) (by simp [go_sem, hP, hgl, hn, clo_dv]) (by simp) ?_ hR.2
      rw [hR.1]
      refine ⟨?_, by simp [clo_dv]⟩
      try simp [clo_dv]
      try all_goals (simp [Ty.dv, Ty.cells_eq, Ty.kind_mk, Ty.args_mk, Tm.dv, Tm.cells_eq, Tm.kind_mk, Tm.index_mk, Tm.type_mk, Tm.args_mk, Val.dv, Val.cells_eq, Val.kind_mk, Val.num_mk, Val.list_mk, Val.args_mk, ints])
    · cases h
  rw [if_neg h2] at h
  obtain ⟨r, hall⟩ : ∃ r, allRun (ev6 most d) t.args e (u + 1) = some r := by
    cases hq : allRun (ev6 most d) t.args e (u + 1) with
    | none => rw [hq] at h; cases h
    | some r => exact ⟨r, rfl⟩
  rw [hall] at h
  obtain ⟨el, hela⟩ : ∃ el, el = e.reverse := ⟨_, rfl⟩
  refine t_g (j2 @hum (j2 @h1 @h2)) ?_
  refine t_a ?_
  refine t_sub [(1007, 0)] (j2 @vsD_nil @ukD_nil) (W_listI (t.args) (fun done => (∃ vs uk, allRun (ev6 most d) done e (u + 1) = some (vs, uk, false))) (fun done rest => [(.slot 66, .one (.v (dint done.length))), (.slot 65, .one (.v (dint t.args.length))), (.slot 64, .one (.v (.sl (t.args.map Tm.cells)))), (.slot 0, .one (.v (ptr b))), (.slot 2, .one (.v (.sl (e.reverse.map MV.cells)))), (.slot 4, .one (.loc 4 0)), (.loc 4, .row ([.v (dint t.kind), .v (dint t.index), .v (dint t.type.kind), .v (.sl (t.type.args.map Ty.cells)), .v (.sl (t.args.map Tm.cells))])), (.slot 6, .one (.loc 6 0)), (.loc 6, .row ([.v (dint 0), .own 0 [], .own 0 [], .v (dint 0), .v (dint 0), .v (dint 0), .own 0 [], .own 0 [], .own 0 []])), (.slot 7, .one (.own 1007 ((vsD (ev6 most d) e (u + 1) done).map MV.cells))), (.tok 1007, .tk 9 (vsD (ev6 most d) e (u + 1) done).length), (.heap  b, .row ([.v (dint (ukD (ev6 most d) e (u + 1) done)), .v (dint most), .v (dbool false)]))]) (⟨[], u + 1, rfl⟩) ?_ ?_)
  · intro done x rest hL hg0 hI hnext
    have hlt1 : done.length < t.args.length := by rw [hL]; simp
    have hd := allD hI
    rw [hL] at hall
    obtain ⟨v1, u1, o1, g1, g2, g3⟩ := allRun_split done hall hd
    obtain ⟨b1, b2, b3⟩ := allRun_bd B done hd (by omega) hM he hel
    have hlv := allRun_len hd
    have w := H b M g1 (by omega) b2 hM (by omega) he hel
    unfold mach6 at w
    have hfx := Tm.fold x
    refine t_rg0 ?_
    refine t_yes ?_
    refine t_g @hg0 ?_
    cases o1 with
    | true =>
      obtain ⟨k1, k2⟩ := g2 rfl
      obtain ⟨rv, ru, ro⟩ := r
      simp only at k1 k2
      subst k1 k2
      simp only [Option.some.injEq, Prod.mk.injEq] at h
      obtain ⟨rfl, rfl, rfl⟩ := h
      refine t_c1 (j2 @hg0 @hfx) w ?_
      refine t_g0 ?_
      repeat (first | refine W_seq ?_ | refine W_skip ?_ | refine W_block ?_ | refine W_inBlock ?_ | refine W_label ?_ | refine W_exit rfl ?_)
      first | refine W_retR hP hf hfn _ ([(b, [dint ru, dint most, dbool true])]) (by first | (simp [go_sem, hP, hgl, hn, zero_dv]; done) | (simp [go_sem, hP, hgl, hn, zero_dv]; rfl)) (by simp [go_sem, hP, hgl, hn, zero_dv]) (by simp) ?_ hR.2 | refine W_endR hP hf hfn _ ([(b, [dint ru, dint most, dbool true])]) (by first | (simp [go_sem, hP, hgl, hn, zero_dv]; done) | (simp [go_sem, hP, hgl, hn, zero_dv]; rfl)) (by simp [go_sem, hP, hgl, hn, zero_dv]) (by simp) ?_ hR.2
      rw [hR.1]
      refine ⟨?_, by simp [zero_dv]⟩
      try simp [zero_dv]
      try all_goals (simp [Ty.dv, Ty.cells_eq, Ty.kind_mk, Ty.args_mk, Tm.dv, Tm.cells_eq, Tm.kind_mk, Tm.index_mk, Tm.type_mk, Tm.args_mk, Val.dv, Val.cells_eq, Val.kind_mk, Val.num_mk, Val.list_mk, Val.args_mk, ints])
    | false =>
      have g3 := g3 rfl
      have e1 : vsD (ev6 most d) e (u + 1) (done ++ [x]) = vsD (ev6 most d) e (u + 1) done ++ [v1] := by simp only [vsD, g3, Option.getD_some]
      have e2 : ukD (ev6 most d) e (u + 1) (done ++ [x]) = u1 := by simp only [ukD, g3, Option.getD_some]
      have hv1 := MV.cells_eq v1
      refine t_c1 (j2 @hg0 @hfx) w ?_
      refine t_gt (wr [(1007, 76)]) (j2 @e1 (j2 @e2 (j2 @hlv @hv1))) @hlv (hnext ⟨_, _, g3⟩)
  · intro hI
    have hd := allD hI
    rw [hd] at hall
    obtain rfl := Option.some.inj hall
    simp only at h
    obtain ⟨b1, b2, b3⟩ := allRun_bd B _ hd (by omega) hM he hel
    have hll := allRun_len hd
    clear hall hI
    clear hd
    generalize vsD (ev6 most d) e (u + 1) t.args = l at *
    generalize ukD (ev6 most d) e (u + 1) t.args = u1 at *
    obtain ⟨M2, hM2⟩ : ∃ M2, M2 = M + (u1 - (u + 1)) := ⟨_, rfl⟩
    rw [← hM2] at b3
    have hM20 : 0 ≤ M2 := by omega
    have hM2b : M2 + (most - u1) ≤ 1073741824 := by omega
    unfold nodeRun at h
    refine t_rg0 ?_
    refine t_no ?_
    by_cases h3 : t.kind = 3
    · rw [if_pos h3] at h
      split at h
      · rename_i f x
        simp only [MV.les] at b3
        have w := call6_ok hm H b M2 h (by omega) b2 hM20 hM2b b3.1 b3.2.1
        unfold mach6 at w
        refine t_g @h3 ?_
        refine t_c1 @h3 w ?_
        repeat (first | refine W_seq ?_ | refine W_skip ?_ | refine W_block ?_ | refine W_inBlock ?_ | refine W_label ?_ | refine W_exit rfl ?_)
        first | refine W_retR hP hf hfn _ ([(b, [dint u', dint most, dbool o])]) (by first | (simp [go_sem, hP, hgl, hn]; done) | (simp [go_sem, hP, hgl, hn]; rfl)) (by simp [go_sem, hP, hgl, hn]) (by simp) ?_ hR.2 | refine W_endR hP hf hfn _ ([(b, [dint u', dint most, dbool o])]) (by first | (simp [go_sem, hP, hgl, hn]; done) | (simp [go_sem, hP, hgl, hn]; rfl)) (by simp [go_sem, hP, hgl, hn]) (by simp) ?_ hR.2
        rw [hR.1]
        refine ⟨?_, by simp⟩
        try simp
        try all_goals (simp [Ty.dv, Ty.cells_eq, Ty.kind_mk, Ty.args_mk, Tm.dv, Tm.cells_eq, Tm.kind_mk, Tm.index_mk, Tm.type_mk, Tm.args_mk, Val.dv, Val.cells_eq, Val.kind_mk, Val.num_mk, Val.list_mk, Val.args_mk, ints])
      · cases h
    rw [if_neg h3] at h
    by_cases h4 : t.kind = 4
    · rw [if_pos h4] at h
      simp only [Option.some.injEq, Prod.mk.injEq] at h
      obtain ⟨rfl, rfl, rfl⟩ := h
      have hz : (MV.num 0).dv = _ := zero_dv
      refine t_g @h4 ?_
      repeat (first | refine W_seq ?_ | refine W_skip ?_ | refine W_block ?_ | refine W_inBlock ?_ | refine W_label ?_ | refine W_exit rfl ?_)
      first | refine W_retR hP hf hfn _ ([(b, [dint u1, dint most, dbool false])]) (by first | (simp [go_sem, hP, hgl, hn, hz]; done) | (simp [go_sem, hP, hgl, hn, hz]; rfl)) (by simp [go_sem, hP, hgl, hn, hz]) (by simp) ?_ hR.2 | refine W_endR hP hf hfn _ ([(b, [dint u1, dint most, dbool false])]) (by first | (simp [go_sem, hP, hgl, hn, hz]; done) | (simp [go_sem, hP, hgl, hn, hz]; rfl)) (by simp [go_sem, hP, hgl, hn, hz]) (by simp) ?_ hR.2
      rw [hR.1]
      refine ⟨?_, by simp [hz]⟩
      try simp [hz]
      try all_goals (simp [Ty.dv, Ty.cells_eq, Ty.kind_mk, Ty.args_mk, Tm.dv, Tm.cells_eq, Tm.kind_mk, Tm.index_mk, Tm.type_mk, Tm.args_mk, Val.dv, Val.cells_eq, Val.kind_mk, Val.num_mk, Val.list_mk, Val.args_mk, ints])
    rw [if_neg h4] at h
    by_cases h5 : t.kind = 5
    · rw [if_pos h5] at h
      split at h
      · rename_i n
        simp only [Option.some.injEq, Prod.mk.injEq] at h
        obtain ⟨rfl, rfl, rfl⟩ := h
        simp only [MV.les, MV.le] at b3
        have hz := num_dv (n + 1)
        have hq : ((n + 1 : Nat) : Int) = (n : Int) + 1 := by omega
        rw [hq] at hz
        refine t_g @h5 ?_
        repeat (first | refine W_seq ?_ | refine W_skip ?_ | refine W_block ?_ | refine W_inBlock ?_ | refine W_label ?_ | refine W_exit rfl ?_)
        first | refine W_retR hP hf hfn _ ([(b, [dint u1, dint most, dbool false])]) (by first | (simp [go_sem, hP, hgl, hn, hz]; done) | (simp [go_sem, hP, hgl, hn, hz]; rfl)) (by simp [go_sem, hP, hgl, hn, hz]) (by simp) ?_ hR.2 | refine W_endR hP hf hfn _ ([(b, [dint u1, dint most, dbool false])]) (by first | (simp [go_sem, hP, hgl, hn, hz]; done) | (simp [go_sem, hP, hgl, hn, hz]; rfl)) (by simp [go_sem, hP, hgl, hn, hz]) (by simp) ?_ hR.2
        rw [hR.1]
        refine ⟨?_, by simp [hz]⟩
        try simp [hz]
        try all_goals (simp [Ty.dv, Ty.cells_eq, Ty.kind_mk, Ty.args_mk, Tm.dv, Tm.cells_eq, Tm.kind_mk, Tm.index_mk, Tm.type_mk, Tm.args_mk, Val.dv, Val.cells_eq, Val.kind_mk, Val.num_mk, Val.list_mk, Val.args_mk, ints])
      · cases h
    rw [if_neg h5] at h
    by_cases h6 : t.kind = 6
    · rw [if_pos h6] at h
      split at h
      · rename_i b0 f n
        simp only [MV.les] at b3
        obtain ⟨c1, c2, c3, -⟩ := b3
        simp only [MV.le] at c3
        have hq1 := MV.numF_num n
        have hc1 := MV.cells_eq f
        have hf1 := MV.fold f
        generalize hnn : MV.num n = nn at *
        refine t_g @h6 ?_
        refine t_a ?_
        refine t_sub [] trivial (W_rounds (fun x : Nat × MV × Int × Bool => x.1 ≤ n ∧ u1 ≤ x.2.2.1 ∧ x.2.2.1 ≤ most ∧ x.2.1.le (M2 + (x.2.2.1 - u1)) ∧ (x.2.2.2 = false → recRun (ev6 most d) f (n - x.1) x.1 x.2.1 x.2.2.1 = some (v, u', o)) ∧ (x.2.2.2 = true → v = x.2.1 ∧ u' = x.2.2.1 ∧ o = true)) (fun x : Nat × MV × Int × Bool => [(.slot 0, .one (.v (ptr b))), (.slot 6, .one (.loc 6 0)), (.loc 6, .row ([.v (dint 0), .own 0 [], .own 0 [], .v (dint 0), .v (dint 0), .v (dint 0), .own 0 [], .own 0 [], .own 0 []])), (.slot 7, .one (.v (.sl [b0.cells, f.cells, nn.cells]))), (.slot 10, .one (.loc 10 0)), (.loc 10, .row ([.v (dint x.2.1.numF), .v (.sl (ints x.2.1.listF)), .v (.sl (x.2.1.pairF.map MV.cells)), .v (dint x.2.1.bodyF.kind), .v (dint x.2.1.bodyF.index), .v (dint x.2.1.bodyF.type.kind), .v (.sl (x.2.1.bodyF.type.args.map Ty.cells)), .v (.sl (x.2.1.bodyF.args.map Tm.cells)), .v (.sl (x.2.1.envF.map MV.cells))])), (.slot 11, .one (.v (dint x.1))), (.heap  b, .row ([.v (dint x.2.2.1), .v (dint most), .v (dbool x.2.2.2)]))]) (fun x : Nat × MV × Int × Bool => n - x.1) (0, b0, u1, false) (⟨Nat.zero_le _, Int.le_refl u1, b2, MV.le_mono (by show M2 ≤ M2 + (u1 - u1); omega) c1, fun _ => h, fun h => (by cases h)⟩) ?_)
        rintro ⟨k, r, uk, ok⟩ ⟨i1, i2, i3, i4, i5, i6⟩ ih
        simp only at i1 i2 i3 i4 i5 i6
        have hr1 := MV.fold r
        cases ok with
        | true =>
          obtain ⟨rfl, rfl, rfl⟩ := i6 rfl
          by_cases hk : (k : Int) < n
          · refine t_g (j2 @hk @hq1) ?_
            repeat (first | refine W_seq ?_ | refine W_skip ?_ | refine W_block ?_ | refine W_inBlock ?_ | refine W_label ?_ | refine W_exit rfl ?_)
            first | refine W_retR hP hf hfn _ ([(b, [dint u', dint most, dbool true])]) (by first | (simp [go_sem, hP, hgl, hn]; done) | (simp [go_sem, hP, hgl, hn]; rfl)) (by simp [go_sem, hP, hgl, hn]) (by simp) ?_ hR.2 | refine W_endR hP hf hfn _ ([(b, [dint u', dint most, dbool true])]) (by first | (simp [go_sem, hP, hgl, hn]; done) | (simp [go_sem, hP, hgl, hn]; rfl)) (by simp [go_sem, hP, hgl, hn]) (by simp) ?_ hR.2
            rw [hR.1]
            refine ⟨?_, by simp⟩
            try simp
            try all_goals (simp [Ty.dv, Ty.cells_eq, Ty.kind_mk, Ty.args_mk, Tm.dv, Tm.cells_eq, Tm.kind_mk, Tm.index_mk, Tm.type_mk, Tm.args_mk, Val.dv, Val.cells_eq, Val.kind_mk, Val.num_mk, Val.list_mk, Val.args_mk, ints])
          · refine t_g (j2 @hk @hq1) ?_
            repeat (first | refine W_seq ?_ | refine W_skip ?_ | refine W_block ?_ | refine W_inBlock ?_ | refine W_label ?_ | refine W_exit rfl ?_)
            first | refine W_retR hP hf hfn _ ([(b, [dint u', dint most, dbool true])]) (by first | (simp [go_sem, hP, hgl, hn]; done) | (simp [go_sem, hP, hgl, hn]; rfl)) (by simp [go_sem, hP, hgl, hn]) (by simp) ?_ hR.2 | refine W_endR hP hf hfn _ ([(b, [dint u', dint most, dbool true])]) (by first | (simp [go_sem, hP, hgl, hn]; done) | (simp [go_sem, hP, hgl, hn]; rfl)) (by simp [go_sem, hP, hgl, hn]) (by simp) ?_ hR.2
            rw [hR.1]
            refine ⟨?_, by simp⟩
            try simp
            try all_goals (simp [Ty.dv, Ty.cells_eq, Ty.kind_mk, Ty.args_mk, Tm.dv, Tm.cells_eq, Tm.kind_mk, Tm.index_mk, Tm.type_mk, Tm.args_mk, Val.dv, Val.cells_eq, Val.kind_mk, Val.num_mk, Val.list_mk, Val.args_mk, ints])
        | false =>
          have i5 := i5 rfl
          by_cases hk : (k : Int) < n
          rotate_left
          · have hk0 : n - k = 0 := by omega
            rw [hk0] at i5
            simp only [recRun, Option.some.injEq, Prod.mk.injEq] at i5
            obtain ⟨rfl, rfl, rfl⟩ := i5
            refine t_g (j2 @hk @hq1) ?_
            repeat (first | refine W_seq ?_ | refine W_skip ?_ | refine W_block ?_ | refine W_inBlock ?_ | refine W_label ?_ | refine W_exit rfl ?_)
            first | refine W_retR hP hf hfn _ ([(b, [dint uk, dint most, dbool false])]) (by first | (simp [go_sem, hP, hgl, hn]; done) | (simp [go_sem, hP, hgl, hn]; rfl)) (by simp [go_sem, hP, hgl, hn]) (by simp) ?_ hR.2 | refine W_endR hP hf hfn _ ([(b, [dint uk, dint most, dbool false])]) (by first | (simp [go_sem, hP, hgl, hn]; done) | (simp [go_sem, hP, hgl, hn]; rfl)) (by simp [go_sem, hP, hgl, hn]) (by simp) ?_ hR.2
            rw [hR.1]
            refine ⟨?_, by simp⟩
            try simp
            try all_goals (simp [Ty.dv, Ty.cells_eq, Ty.kind_mk, Ty.args_mk, Tm.dv, Tm.cells_eq, Tm.kind_mk, Tm.index_mk, Tm.type_mk, Tm.args_mk, Val.dv, Val.cells_eq, Val.kind_mk, Val.num_mk, Val.list_mk, Val.args_mk, ints])
          · have hk0 : n - k = (n - (k + 1)) + 1 := by omega
            rw [hk0] at i5
            simp only [recRun] at i5
            have hk1 : ((k + 1 : Nat) : Int) = (k : Int) + 1 := by omega
            split at i5
            · cases i5
            · rename_i g u2 g1
              have w := call6_ok (gl := gl) hm H b (M2 + (uk - u1)) g1 (by omega) i3 (by omega) (by omega) (MV.le_mono (by omega) c2) (by simp only [MV.le]; omega)
              obtain ⟨d1, d2, d3⟩ := callRun_bd B g1 i3 (M := M2 + (uk - u1)) (by omega) (MV.le_mono (by omega) c2) (by simp only [MV.le]; omega)
              simp only [Option.some.injEq, Prod.mk.injEq] at i5
              obtain ⟨rfl, rfl, rfl⟩ := i5
              unfold mach6 at w
              have hkd := num_dv k
              refine t_g (j2 @hk @hq1) ?_
              refine t_c1 (j2 @hkd @hf1) w ?_
              refine t_gt (wr []) @hk1 trivial (ih (k + 1, r, u2, true) ⟨by show k + 1 ≤ n; omega, by show u1 ≤ u2; omega, d2, MV.le_mono (by show _ ≤ M2 + (u2 - u1); omega) i4, fun h => (by cases h), fun _ => ⟨rfl, rfl, rfl⟩⟩ (by show n - (k + 1) < n - k; omega))
            · rename_i g u2 g1
              have w := call6_ok (gl := gl) hm H b (M2 + (uk - u1)) g1 (by omega) i3 (by omega) (by omega) (MV.le_mono (by omega) c2) (by simp only [MV.le]; omega)
              obtain ⟨d1, d2, d3⟩ := callRun_bd B g1 i3 (M := M2 + (uk - u1)) (by omega) (MV.le_mono (by omega) c2) (by simp only [MV.le]; omega)
              have hg1 := MV.fold g
              have hkd := num_dv k
              split at i5
              · cases i5
              · rename_i r2 u3 g2
                have w2 := call6_ok (gl := gl) hm H b (M2 + (u2 - u1)) g2 (by omega) d2 (by omega) (by omega) (MV.le_mono (by omega) d3) (MV.le_mono (by omega) i4)
                obtain ⟨d4, d5, d6⟩ := callRun_bd B g2 d2 (M := M2 + (u2 - u1)) (by omega) (MV.le_mono (by omega) d3) (MV.le_mono (by omega) i4)
                simp only [Option.some.injEq, Prod.mk.injEq] at i5
                obtain ⟨rfl, rfl, rfl⟩ := i5
                unfold mach6 at w w2
                have hr2 := MV.cells_eq r2
                refine t_g (j2 @hk @hq1) ?_
                refine t_c1 (j2 @hkd @hf1) w ?_
                refine t_g0 ?_
                refine t_c1 (j2 @hg1 @hr1) w2 ?_
                refine t_gt (wr []) (j2 @hk1 @hr2) trivial (ih (k + 1, r2, u3, true) ⟨by show k + 1 ≤ n; omega, by show u1 ≤ u3; omega, d5, MV.le_mono (by show _ ≤ M2 + (u3 - u1); omega) d6, fun h => (by cases h), fun _ => ⟨rfl, rfl, rfl⟩⟩ (by show n - (k + 1) < n - k; omega))
              · rename_i r2 u3 g2
                have w2 := call6_ok (gl := gl) hm H b (M2 + (u2 - u1)) g2 (by omega) d2 (by omega) (by omega) (MV.le_mono (by omega) d3) (MV.le_mono (by omega) i4)
                obtain ⟨d4, d5, d6⟩ := callRun_bd B g2 d2 (M := M2 + (u2 - u1)) (by omega) (MV.le_mono (by omega) d3) (MV.le_mono (by omega) i4)
                unfold mach6 at w w2
                have hr2 := MV.cells_eq r2
                refine t_g (j2 @hk @hq1) ?_
                refine t_c1 (j2 @hkd @hf1) w ?_
                refine t_g0 ?_
                refine t_c1 (j2 @hg1 @hr1) w2 ?_
                refine t_gt (wr []) (j2 @hk1 @hr2) trivial (ih (k + 1, r2, u3, false) ⟨by show k + 1 ≤ n; omega, by show u1 ≤ u3; omega, d5, MV.le_mono (by show _ ≤ M2 + (u3 - u1); omega) d6, fun _ => i5, fun h => (by cases h)⟩ (by show n - (k + 1) < n - k; omega))
      · cases h
    rw [if_neg h6] at h
    by_cases h7 : t.kind = 7
    · rw [if_pos h7] at h
      simp only [Option.some.injEq, Prod.mk.injEq] at h
      obtain ⟨rfl, rfl, rfl⟩ := h
      have hz : (MV.list []).dv = .agg [dint 0, .sl [], .sl [], dint 0, dint 0, dint 0, .sl [], .sl [], .sl []] := list_dv []
      refine t_g @h7 ?_
      repeat (first | refine W_seq ?_ | refine W_skip ?_ | refine W_block ?_ | refine W_inBlock ?_ | refine W_label ?_ | refine W_exit rfl ?_)
      first | refine W_retR hP hf hfn _ ([(b, [dint u1, dint most, dbool false])]) (by first | (simp [go_sem, hP, hgl, hn, hz]; done) | (simp [go_sem, hP, hgl, hn, hz]; rfl)) (by simp [go_sem, hP, hgl, hn, hz]) (by simp) ?_ hR.2 | refine W_endR hP hf hfn _ ([(b, [dint u1, dint most, dbool false])]) (by first | (simp [go_sem, hP, hgl, hn, hz]; done) | (simp [go_sem, hP, hgl, hn, hz]; rfl)) (by simp [go_sem, hP, hgl, hn, hz]) (by simp) ?_ hR.2
      rw [hR.1]
      refine ⟨?_, by simp [hz]⟩
      try simp [hz]
      try all_goals (simp [Ty.dv, Ty.cells_eq, Ty.kind_mk, Ty.args_mk, Tm.dv, Tm.cells_eq, Tm.kind_mk, Tm.index_mk, Tm.type_mk, Tm.args_mk, Val.dv, Val.cells_eq, Val.kind_mk, Val.num_mk, Val.list_mk, Val.args_mk, ints])
    rw [if_neg h7] at h
    by_cases h8 : t.kind = 8
    · rw [if_pos h8] at h
      split at h
      · rename_i n rl
        simp only [Option.some.injEq, Prod.mk.injEq] at h
        obtain ⟨rfl, rfl, rfl⟩ := h
        simp only [MV.les, MV.le] at b3
        have hz := list_dv (n :: rl)
        have hq : ints (List.map Int.ofNat (n :: rl)) = [dint (n : Int)] :: ints (List.map Int.ofNat rl) := rfl
        rw [hq] at hz
        have hrl := b3.2.1.1
        refine t_g @h8 ?_
        refine W_regd (by rw [hP]; exact mixed) [146] fun K hK => ?_
        simp [go_sem, hP, hgl, hn]
        refine vcdC_litO (E := 1) (els := [[dint (n : Int)]]) (fun _ _ => vcd_sound) (by simp [go_sem, hP]; rfl) (by simp [go_sem, hP, hgl, hn]) ⟨rfl, by decide, by decide⟩ (by rw [hn]; exact Nat.le_of_ble_eq_true rfl) (by decide) (by rfl) ?_
        simp [go_sem, hP, hgl, hn]
        refine t_e ?_
        clear hK K
        repeat (first | refine W_seq ?_ | refine W_skip ?_ | refine W_block ?_ | refine W_inBlock ?_ | refine W_label ?_ | refine W_exit rfl ?_)
        first | refine W_retR hP hf hfn _ ([(b, [dint u1, dint most, dbool false])]) (by first | (simp [go_sem, hP, hgl, hn, hz]; done) | (simp [go_sem, hP, hgl, hn, hz]; rfl)) (by simp [go_sem, hP, hgl, hn, hz]) (by simp) ?_ hR.2 | refine W_endR hP hf hfn _ ([(b, [dint u1, dint most, dbool false])]) (by first | (simp [go_sem, hP, hgl, hn, hz]; done) | (simp [go_sem, hP, hgl, hn, hz]; rfl)) (by simp [go_sem, hP, hgl, hn, hz]) (by simp) ?_ hR.2
        rw [hR.1]
        refine ⟨?_, by simp [hz]⟩
        try simp [hz]
        try all_goals (simp [Ty.dv, Ty.cells_eq, Ty.kind_mk, Ty.args_mk, Tm.dv, Tm.cells_eq, Tm.kind_mk, Tm.index_mk, Tm.type_mk, Tm.args_mk, Val.dv, Val.cells_eq, Val.kind_mk, Val.num_mk, Val.list_mk, Val.args_mk, ints])
      · cases h
    rw [if_neg h8] at h
    by_cases h10 : t.kind = 10
    · rw [if_neg (show ¬ t.kind = 9 by omega), if_pos h10] at h
      split at h
      · rename_i p q
        simp only [Option.some.injEq, Prod.mk.injEq] at h
        obtain ⟨rfl, rfl, rfl⟩ := h
        have hz := both_dv p q
        have hp1 := MV.cells_eq p
        have hp2 := MV.cells_eq q
        refine t_g @h10 ?_
        repeat (first | refine W_seq ?_ | refine W_skip ?_ | refine W_block ?_ | refine W_inBlock ?_ | refine W_label ?_ | refine W_exit rfl ?_)
        first | refine W_retR hP hf hfn _ ([(b, [dint u1, dint most, dbool false])]) (by first | (simp [go_sem, hP, hgl, hn, hz, hp1, hp2]; done) | (simp [go_sem, hP, hgl, hn, hz, hp1, hp2]; rfl)) (by simp [go_sem, hP, hgl, hn, hz, hp1, hp2]) (by simp) ?_ hR.2 | refine W_endR hP hf hfn _ ([(b, [dint u1, dint most, dbool false])]) (by first | (simp [go_sem, hP, hgl, hn, hz, hp1, hp2]; done) | (simp [go_sem, hP, hgl, hn, hz, hp1, hp2]; rfl)) (by simp [go_sem, hP, hgl, hn, hz, hp1, hp2]) (by simp) ?_ hR.2
        rw [hR.1]
        refine ⟨?_, by simp [hz, hp1, hp2]⟩
        try simp [hz, hp1, hp2]
        try all_goals (simp [Ty.dv, Ty.cells_eq, Ty.kind_mk, Ty.args_mk, Tm.dv, Tm.cells_eq, Tm.kind_mk, Tm.index_mk, Tm.type_mk, Tm.args_mk, Val.dv, Val.cells_eq, Val.kind_mk, Val.num_mk, Val.list_mk, Val.args_mk, ints])
      · cases h
    by_cases h11 : t.kind = 11
    · rw [if_neg (show ¬ t.kind = 9 by omega), if_neg h10, if_pos h11] at h
      split at h
      · rename_i p q
        simp only [Option.some.injEq, Prod.mk.injEq] at h
        obtain ⟨rfl, rfl, rfl⟩ := h
        have hf1 := MV.fold p
        refine t_g @h11 ?_
        repeat (first | refine W_seq ?_ | refine W_skip ?_ | refine W_block ?_ | refine W_inBlock ?_ | refine W_label ?_ | refine W_exit rfl ?_)
        first | refine W_retR hP hf hfn _ ([(b, [dint u1, dint most, dbool false])]) (by first | (simp [go_sem, hP, hgl, hn, hf1]; done) | (simp [go_sem, hP, hgl, hn, hf1]; rfl)) (by simp [go_sem, hP, hgl, hn, hf1]) (by simp) ?_ hR.2 | refine W_endR hP hf hfn _ ([(b, [dint u1, dint most, dbool false])]) (by first | (simp [go_sem, hP, hgl, hn, hf1]; done) | (simp [go_sem, hP, hgl, hn, hf1]; rfl)) (by simp [go_sem, hP, hgl, hn, hf1]) (by simp) ?_ hR.2
        rw [hR.1]
        refine ⟨?_, by simp [hf1]⟩
        try simp [hf1]
        try all_goals (simp [Ty.dv, Ty.cells_eq, Ty.kind_mk, Ty.args_mk, Tm.dv, Tm.cells_eq, Tm.kind_mk, Tm.index_mk, Tm.type_mk, Tm.args_mk, Val.dv, Val.cells_eq, Val.kind_mk, Val.num_mk, Val.list_mk, Val.args_mk, ints])
      · cases h
    by_cases h12 : t.kind = 12
    · rw [if_neg (show ¬ t.kind = 9 by omega), if_neg h10, if_neg h11, if_pos h12] at h
      split at h
      · rename_i p q
        simp only [Option.some.injEq, Prod.mk.injEq] at h
        obtain ⟨rfl, rfl, rfl⟩ := h
        have hf1 := MV.fold q
        refine t_g @h12 ?_
        repeat (first | refine W_seq ?_ | refine W_skip ?_ | refine W_block ?_ | refine W_inBlock ?_ | refine W_label ?_ | refine W_exit rfl ?_)
        first | refine W_retR hP hf hfn _ ([(b, [dint u1, dint most, dbool false])]) (by first | (simp [go_sem, hP, hgl, hn, hf1]; done) | (simp [go_sem, hP, hgl, hn, hf1]; rfl)) (by simp [go_sem, hP, hgl, hn, hf1]) (by simp) ?_ hR.2 | refine W_endR hP hf hfn _ ([(b, [dint u1, dint most, dbool false])]) (by first | (simp [go_sem, hP, hgl, hn, hf1]; done) | (simp [go_sem, hP, hgl, hn, hf1]; rfl)) (by simp [go_sem, hP, hgl, hn, hf1]) (by simp) ?_ hR.2
        rw [hR.1]
        refine ⟨?_, by simp [hf1]⟩
        try simp [hf1]
        try all_goals (simp [Ty.dv, Ty.cells_eq, Ty.kind_mk, Ty.args_mk, Tm.dv, Tm.cells_eq, Tm.kind_mk, Tm.index_mk, Tm.type_mk, Tm.args_mk, Val.dv, Val.cells_eq, Val.kind_mk, Val.num_mk, Val.list_mk, Val.args_mk, ints])
      · cases h
    by_cases h9 : t.kind = 9
    rotate_left
    · rw [if_neg h9, if_neg h10, if_neg h11, if_neg h12] at h
      simp only [Option.some.injEq, Prod.mk.injEq] at h
      obtain ⟨rfl, rfl, rfl⟩ := h
      refine t_g (j2 @h3 (j2 @h4 (j2 @h5 (j2 @h6 (j2 @h7 (j2 @h8 (j2 @h9 (j2 @h10 (j2 @h11 @h12))))))))) ?_
      repeat (first | refine W_seq ?_ | refine W_skip ?_ | refine W_block ?_ | refine W_inBlock ?_ | refine W_label ?_ | refine W_exit rfl ?_)
      first | refine W_retR hP hf hfn _ ([(b, [dint u1, dint most, dbool false])]) (by first | (simp [go_sem, hP, hgl, hn, unit_dv]; done) | (simp [go_sem, hP, hgl, hn, unit_dv]; rfl)) (by simp [go_sem, hP, hgl, hn, unit_dv]) (by simp) ?_ hR.2 | refine W_endR hP hf hfn _ ([(b, [dint u1, dint most, dbool false])]) (by first | (simp [go_sem, hP, hgl, hn, unit_dv]; done) | (simp [go_sem, hP, hgl, hn, unit_dv]; rfl)) (by simp [go_sem, hP, hgl, hn, unit_dv]) (by simp) ?_ hR.2
      rw [hR.1]
      refine ⟨?_, by simp [unit_dv]⟩
      try simp [unit_dv]
      try all_goals (simp [Ty.dv, Ty.cells_eq, Ty.kind_mk, Ty.args_mk, Tm.dv, Tm.cells_eq, Tm.kind_mk, Tm.index_mk, Tm.type_mk, Tm.args_mk, Val.dv, Val.cells_eq, Val.kind_mk, Val.num_mk, Val.list_mk, Val.args_mk, ints])
    rw [if_pos h9] at h
    split at h
    · rename_i b0 f L
      simp only [MV.les] at b3
      obtain ⟨c1, c2, c3, -⟩ := b3
      simp only [MV.le] at c3
      obtain ⟨c3, c4⟩ := c3
      have hq1 := MV.listF_list L
      have hc1 := MV.cells_eq f
      have hf1 := MV.fold f
      generalize hnn : MV.list L = nn at *
      have hL8 := c3
      refine t_g (j2 @h9 @hq1) ?_
      refine t_a ?_
      refine t_sub [] @hq1 (W_rounds (fun x : Nat × MV × Int × Bool => x.1 ≤ L.length ∧ u1 ≤ x.2.2.1 ∧ x.2.2.1 ≤ most ∧ x.2.1.le (M2 + (x.2.2.1 - u1)) ∧ (x.2.2.2 = false → foldRun (ev6 most d) f (L.take x.1).reverse (L.drop x.1) x.2.1 x.2.2.1 = some (v, u', o)) ∧ (x.2.2.2 = true → v = x.2.1 ∧ u' = x.2.2.1 ∧ o = true)) (fun x : Nat × MV × Int × Bool => [(.slot 0, .one (.v (ptr b))), (.slot 6, .one (.loc 6 0)), (.loc 6, .row ([.v (dint 0), .own 0 [], .own 0 [], .v (dint 0), .v (dint 0), .v (dint 0), .own 0 [], .own 0 [], .own 0 []])), (.slot 7, .one (.v (.sl [b0.cells, f.cells, nn.cells]))), (.slot 13, .one (.loc 13 0)), (.loc 13, .row ([.v (dint x.2.1.numF), .v (.sl (ints x.2.1.listF)), .v (.sl (x.2.1.pairF.map MV.cells)), .v (dint x.2.1.bodyF.kind), .v (dint x.2.1.bodyF.index), .v (dint x.2.1.bodyF.type.kind), .v (.sl (x.2.1.bodyF.type.args.map Ty.cells)), .v (.sl (x.2.1.bodyF.args.map Tm.cells)), .v (.sl (x.2.1.envF.map MV.cells))])), (.slot 14, .one (.v (dint ((x.1 : Int) - 1)))), (.heap  b, .row ([.v (dint x.2.2.1), .v (dint most), .v (dbool x.2.2.2)]))]) (fun x : Nat × MV × Int × Bool => x.1) (L.length, b0, u1, false) (⟨Nat.le_refl _, Int.le_refl u1, b2, MV.le_mono (by show M2 ≤ M2 + (u1 - u1); omega) c1, fun _ => by simpa using h, fun h => (by cases h)⟩) ?_)
      rintro ⟨j, r, uk, ok⟩ ⟨i1, i2, i3, i4, i5, i6⟩ ih
      simp only at i1 i2 i3 i4 i5 i6
      have hr1 := MV.fold r
      cases ok with
      | true =>
        obtain ⟨rfl, rfl, rfl⟩ := i6 rfl
        cases j with
        | zero =>
          refine t_g0 ?_
          repeat (first | refine W_seq ?_ | refine W_skip ?_ | refine W_block ?_ | refine W_inBlock ?_ | refine W_label ?_ | refine W_exit rfl ?_)
          first | refine W_retR hP hf hfn _ ([(b, [dint u', dint most, dbool true])]) (by first | (simp [go_sem, hP, hgl, hn]; done) | (simp [go_sem, hP, hgl, hn]; rfl)) (by simp [go_sem, hP, hgl, hn]) (by simp) ?_ hR.2 | refine W_endR hP hf hfn _ ([(b, [dint u', dint most, dbool true])]) (by first | (simp [go_sem, hP, hgl, hn]; done) | (simp [go_sem, hP, hgl, hn]; rfl)) (by simp [go_sem, hP, hgl, hn]) (by simp) ?_ hR.2
          rw [hR.1]
          refine ⟨?_, by simp⟩
          try simp
          try all_goals (simp [Ty.dv, Ty.cells_eq, Ty.kind_mk, Ty.args_mk, Tm.dv, Tm.cells_eq, Tm.kind_mk, Tm.index_mk, Tm.type_mk, Tm.args_mk, Val.dv, Val.cells_eq, Val.kind_mk, Val.num_mk, Val.list_mk, Val.args_mk, ints])
        | succ m =>
          have hk : (0 : Int) ≤ m := by omega
          refine t_g @hk ?_
          repeat (first | refine W_seq ?_ | refine W_skip ?_ | refine W_block ?_ | refine W_inBlock ?_ | refine W_label ?_ | refine W_exit rfl ?_)
          first | refine W_retR hP hf hfn _ ([(b, [dint u', dint most, dbool true])]) (by first | (simp [go_sem, hP, hgl, hn]; done) | (simp [go_sem, hP, hgl, hn]; rfl)) (by simp [go_sem, hP, hgl, hn]) (by simp) ?_ hR.2 | refine W_endR hP hf hfn _ ([(b, [dint u', dint most, dbool true])]) (by first | (simp [go_sem, hP, hgl, hn]; done) | (simp [go_sem, hP, hgl, hn]; rfl)) (by simp [go_sem, hP, hgl, hn]) (by simp) ?_ hR.2
          rw [hR.1]
          refine ⟨?_, by simp⟩
          try simp
          try all_goals (simp [Ty.dv, Ty.cells_eq, Ty.kind_mk, Ty.args_mk, Tm.dv, Tm.cells_eq, Tm.kind_mk, Tm.index_mk, Tm.type_mk, Tm.args_mk, Val.dv, Val.cells_eq, Val.kind_mk, Val.num_mk, Val.list_mk, Val.args_mk, ints])
      | false =>
        have i5 := i5 rfl
        cases j with
        | zero =>
          simp only [List.take_zero, List.reverse_nil, foldRun, Option.some.injEq, Prod.mk.injEq] at i5
          obtain ⟨rfl, rfl, rfl⟩ := i5
          refine t_g0 ?_
          repeat (first | refine W_seq ?_ | refine W_skip ?_ | refine W_block ?_ | refine W_inBlock ?_ | refine W_label ?_ | refine W_exit rfl ?_)
          first | refine W_retR hP hf hfn _ ([(b, [dint uk, dint most, dbool false])]) (by first | (simp [go_sem, hP, hgl, hn]; done) | (simp [go_sem, hP, hgl, hn]; rfl)) (by simp [go_sem, hP, hgl, hn]) (by simp) ?_ hR.2 | refine W_endR hP hf hfn _ ([(b, [dint uk, dint most, dbool false])]) (by first | (simp [go_sem, hP, hgl, hn]; done) | (simp [go_sem, hP, hgl, hn]; rfl)) (by simp [go_sem, hP, hgl, hn]) (by simp) ?_ hR.2
          rw [hR.1]
          refine ⟨?_, by simp⟩
          try simp
          try all_goals (simp [Ty.dv, Ty.cells_eq, Ty.kind_mk, Ty.args_mk, Tm.dv, Tm.cells_eq, Tm.kind_mk, Tm.index_mk, Tm.type_mk, Tm.args_mk, Val.dv, Val.cells_eq, Val.kind_mk, Val.num_mk, Val.list_mk, Val.args_mk, ints])
        | succ m =>
          have hk : (0 : Int) ≤ m := by omega
          obtain ⟨y, hy⟩ : ∃ y, L[m]? = some y := ⟨_, List.getElem?_eq_getElem (by omega)⟩
          have htk : L.take (m + 1) = L.take m ++ [y] := by rw [List.take_add_one, hy]; rfl
          have hdr : L.drop m = y :: L.drop (m + 1) := by
            obtain ⟨q1, q2⟩ := List.getElem?_eq_some_iff.1 hy
            rw [List.drop_eq_getElem_cons q1, q2]
          rw [htk, List.reverse_append, List.reverse_singleton, List.singleton_append] at i5
          simp only [foldRun] at i5
          rw [← hdr] at i5
          have hyM : (y : Int) ≤ M2 := c4 y (List.mem_of_getElem? hy)
          have hgy : (ints (List.map Int.ofNat L))[m]? = some [dint (y : Int)] := by
            have : (List.map Int.ofNat L)[m]? = some (y : Int) := by rw [List.getElem?_map, hy]; rfl
            exact ints_get this
          have hsl : List.drop (m + 1) (List.take L.length (ints (List.map Int.ofNat L))) = ints (List.drop (m + 1) (List.map Int.ofNat L)) := by
            rw [List.take_of_length_le (by simp [ints])]
            simp only [ints, List.map_drop]
          have hm1 : ((m + 1 : Nat) : Int) - 1 = (m : Int) := by omega
          have hm2 : ((m + 1 : Nat) : Int) - 1 - 1 = (m : Int) - 1 := by omega
          have hyd := num_dv y
          have hrd := list_dv (L.drop (m + 1))
          have hle1 : (MV.num y).le (M2 + (uk - u1)) := by simp only [MV.le]; omega
          have hrest : ∀ N : Int, M2 ≤ N → (MV.list (L.drop (m + 1))).le N := by
            intro N hN
            simp only [MV.le, List.length_drop]
            exact ⟨by omega, fun z hz => by have := c4 z (List.mem_of_mem_drop hz); omega⟩
          split at i5
          · cases i5
          · rename_i g u2 g1
            have w1 := call6_ok (gl := gl) hm H b (M2 + (uk - u1)) g1 (by omega) i3 (by omega) (by omega) (MV.le_mono (by omega) c2) hle1
            obtain ⟨d1, d2, d3⟩ := callRun_bd B g1 i3 (M := M2 + (uk - u1)) (by omega) (MV.le_mono (by omega) c2) hle1
            simp only [Option.some.injEq, Prod.mk.injEq] at i5
            obtain ⟨rfl, rfl, rfl⟩ := i5
            unfold mach6 at w1
            refine t_g (j2 @hk @hq1) ?_
            refine t_c1 (j2 @hyd (j2 @hf1 (j2 @hq1 @hgy))) w1 ?_
            refine t_gt (wr []) @hq1 trivial (ih (m, r, u2, true) ⟨by show m ≤ L.length; omega, by show u1 ≤ u2; omega, d2, MV.le_mono (by show _ ≤ M2 + (u2 - u1); omega) i4, fun h => (by cases h), fun _ => ⟨rfl, rfl, rfl⟩⟩ (by show m < m + 1; omega))
          · rename_i g u2 g1
            have w1 := call6_ok (gl := gl) hm H b (M2 + (uk - u1)) g1 (by omega) i3 (by omega) (by omega) (MV.le_mono (by omega) c2) hle1
            obtain ⟨d1, d2, d3⟩ := callRun_bd B g1 i3 (M := M2 + (uk - u1)) (by omega) (MV.le_mono (by omega) c2) hle1
            have hg1 := MV.fold g
            have hle2 := hrest (M2 + (u2 - u1)) (by omega)
            split at i5
            · cases i5
            · rename_i g' u3 g2
              have w2 := call6_ok (gl := gl) hm H b (M2 + (u2 - u1)) g2 (by omega) d2 (by omega) (by omega) (MV.le_mono (by omega) d3) hle2
              obtain ⟨d4, d5, d6⟩ := callRun_bd B g2 d2 (M := M2 + (u2 - u1)) (by omega) (MV.le_mono (by omega) d3) hle2
              simp only [Option.some.injEq, Prod.mk.injEq] at i5
              obtain ⟨rfl, rfl, rfl⟩ := i5
              unfold mach6 at w1 w2
              refine t_g (j2 @hk @hq1) ?_
              refine t_c1 (j2 @hyd (j2 @hf1 (j2 @hq1 @hgy))) w1 ?_
              refine t_g0 ?_
              refine t_c1 (j2 @hg1 (j2 @hq1 (j2 @hsl @hrd))) w2 ?_
              refine t_gt (wr []) @hq1 trivial (ih (m, r, u3, true) ⟨by show m ≤ L.length; omega, by show u1 ≤ u3; omega, d5, MV.le_mono (by show _ ≤ M2 + (u3 - u1); omega) i4, fun h => (by cases h), fun _ => ⟨rfl, rfl, rfl⟩⟩ (by show m < m + 1; omega))
            · rename_i g' u3 g2
              have w2 := call6_ok (gl := gl) hm H b (M2 + (u2 - u1)) g2 (by omega) d2 (by omega) (by omega) (MV.le_mono (by omega) d3) hle2
              obtain ⟨d4, d5, d6⟩ := callRun_bd B g2 d2 (M := M2 + (u2 - u1)) (by omega) (MV.le_mono (by omega) d3) hle2
              have hg2 := MV.fold g'
              split at i5
              · cases i5
              · rename_i r2 u4 g3
                have w3 := call6_ok (gl := gl) hm H b (M2 + (u3 - u1)) g3 (by omega) d5 (by omega) (by omega) (MV.le_mono (by omega) d6) (MV.le_mono (by omega) i4)
                obtain ⟨d7, d8, d9⟩ := callRun_bd B g3 d5 (M := M2 + (u3 - u1)) (by omega) (MV.le_mono (by omega) d6) (MV.le_mono (by omega) i4)
                simp only [Option.some.injEq, Prod.mk.injEq] at i5
                obtain ⟨rfl, rfl, rfl⟩ := i5
                have hr2 := MV.cells_eq r2
                unfold mach6 at w1 w2 w3
                refine t_g (j2 @hk @hq1) ?_
                refine t_c1 (j2 @hyd (j2 @hf1 (j2 @hq1 @hgy))) w1 ?_
                refine t_g0 ?_
                refine t_c1 (j2 @hg1 (j2 @hq1 (j2 @hsl @hrd))) w2 ?_
                refine t_g0 ?_
                refine t_c1 (j2 @hg2 @hr1) w3 ?_
                refine t_gt (wr []) (j2 @hr2 @hq1) trivial (ih (m, r2, u4, true) ⟨by show m ≤ L.length; omega, by show u1 ≤ u4; omega, d8, MV.le_mono (by show _ ≤ M2 + (u4 - u1); omega) d9, fun h => (by cases h), fun _ => ⟨rfl, rfl, rfl⟩⟩ (by show m < m + 1; omega))
              · rename_i r2 u4 g3
                have w3 := call6_ok (gl := gl) hm H b (M2 + (u3 - u1)) g3 (by omega) d5 (by omega) (by omega) (MV.le_mono (by omega) d6) (MV.le_mono (by omega) i4)
                obtain ⟨d7, d8, d9⟩ := callRun_bd B g3 d5 (M := M2 + (u3 - u1)) (by omega) (MV.le_mono (by omega) d6) (MV.le_mono (by omega) i4)
                have hr2 := MV.cells_eq r2
                unfold mach6 at w1 w2 w3
                refine t_g (j2 @hk @hq1) ?_
                refine t_c1 (j2 @hyd (j2 @hf1 (j2 @hq1 @hgy))) w1 ?_
                refine t_g0 ?_
                refine t_c1 (j2 @hg1 (j2 @hq1 (j2 @hsl @hrd))) w2 ?_
                refine t_g0 ?_
                refine t_c1 (j2 @hg2 @hr1) w3 ?_
                refine t_gt (wr []) (j2 @hr2 @hq1) trivial (ih (m, r2, u4, false) ⟨by show m ≤ L.length; omega, by show u1 ≤ u4; omega, d8, MV.le_mono (by show _ ≤ M2 + (u4 - u1); omega) d9, fun _ => i5, fun h => (by cases h)⟩ (by show m < m + 1; omega))
    · cases h

theorem eval6_ok {most : Int} (hm : most ≤ 1073741824) : ∀ d : Nat, Walk6 Tryz.prog gl 81 most (ev6 most d)
  | 0 => fun t e u v u' o b M h => by cases h
  | d + 1 => eval6_step hm (eval6_ok hm d)
end Go.Proofs.YteoalfdaanlbjaaGreatDoor.Lift

namespace Go.Proofs.YteoalfdaanlbjaaGreatDoor.Lift
set_option linter.unusedSimpArgs false
set_option linter.unusedVariables false
set_option linter.unnecessarySimpa false
open Go
variable {gl : Globs}

theorem sh_tys (t : Tm) (h : t.shape = true) : t.tys := by
  induction t using Tm.ind with
  | h t ih =>
  obtain ⟨-, -, -, h4, h5⟩ := Tm.shape_node h
  rw [Tm.tys_eq]
  refine ⟨?_, fun a ha => ih a ha (h5 a ha)⟩
  split at h4
  · have := h4.2; omega
  · unfold Ty.zero at h4
    simp at h4
    rw [Ty.count_eq, h4.2]
    decide
theorem dn_tys {Γ : List T} {t : Tm} {a : T} {F : Env Γ → a.V} (h : Dn Γ t a F) : t.tys := sh_tys _ (dn_shape h)

set_option maxHeartbeats 4000000 in
set_option maxRecDepth 100000 in
theorem call6_walk (t : Tm) (l : List T) (r : T) (F : Env [] → (FnT l r).V) (Z : Env l) (work M : Int) (h : Dn [] t (FnT l r) F) (hc : t.count ≤ 536870912) (hl : Plains l) (hll : l.length ≤ 1000000) (hr : r.plain) (hro : r.ok) (hw0 : 0 ≤ work) (hw : work ≤ 65536) (hM : 0 ≤ M) (hMb : M + work ≤ 1073741824) (hX : MV.les M (mvsOf l Z)) :
    Con1 Tryz.prog gl 21 [t.dv, .sl ((valsOf l Z).map Val.cells), dint work] [] (.tup [(callOut t l (F ()) Z work).1.dv, dint (callOut t l (F ()) Z work).2.1, dint (callOut t l (F ()) Z work).2.2]) [] := by
  have hte := ref02_typeof_ok (gl := gl) t [] (by simp) (dn_tys h) (by omega)
  have hco := callOut_err h Z work
  have hvl := valsOf_len l Z
  have hml := mvsOf_len l Z
  have hft := Tm.fold t
  have hfz : (Ty.mk 0 []).cells = [dint 0, .sl []] := rfl
  refine t_in Tryz.func21 ?_
  intro X hP hgl hf hfn hn hR hids hfit
  unfold callOut at hR
  refine t_g0 ?_
  refine t_c1 @hft hte ?_
  by_cases he : (t.typeE []).2 = 0
  rotate_left
  · rw [if_neg he] at hR
    refine t_g @he ?_
    refine t_r ?_
    simp [go_sem, hP, hgl, hn, zeroV] <;> (try omega)
    all_goals exact t_f
  rw [if_pos he] at hR
  have hty : (t.typeE []).1 = (FnT l r).ty := by
    rcases typeE_dn h with h1 | h1
    · rw [h1]
    · rw [he] at h1; cases h1
  have hfr := Ty.fold (FnT l r).ty
  refine t_g @he ?_
  refine t_a ?_
  refine t_sub [] (j2 @hty @hvl) (W_upto (l.length) (fun i => True) (fun i => [(.slot 1, .one (.v (.sl ((valsOf l Z).map Val.cells)))), (.slot 2, .one (.v (dint work))), (.slot 3, .one (.loc 3 0)), (.loc 3, .row ([.v (dint t.kind), .v (dint t.index), .v (dint t.type.kind), .v (.sl (t.type.args.map Ty.cells)), .v (.sl (t.args.map Tm.cells))])), (.slot 6, .one (.loc 6 0)), (.loc 6, .row ([.v (dint 0), .v (dint 0), .own 0 [], .own 0 []])), (.slot 9, .one (.loc 9 0)), (.loc 9, .row ([.v (dint (FnT (l.drop i) r).ty.kind), .v (.sl ((FnT (l.drop i) r).ty.args.map Ty.cells))])), (.slot 30, .one (.v (.sl ((valsOf l Z).map Val.cells)))), (.slot 31, .one (.v (dint l.length))), (.slot 32, .one (.v (dint i)))]) (trivial) ?_ ?_)
  · intro i hi _ hnext
    obtain ⟨a, x, g1, g2, g3, g4, g5⟩ := args_at (r := r) l Z i hi hl
    have hvg : (List.map Val.cells (valsOf l Z))[i]? = some (valOf a x).cells := by rw [List.getElem?_map, g1]; rfl
    have hfv := Val.fold (valOf a x)
    have hcv := Val.cells_eq (valOf a x)
    have hvc := (valOf_nodes a x g4).2
    have hsz : a.size ≤ 64 := g5
    have w1 := typeE5_ok (gl := gl) (valOf a x) (by omega)
    rw [valOf_typeE x g4 g5] at w1
    have w2 := ref01_same_ok (gl := gl) a.ty a.ty
    rw [show a.ty.same a.ty = true from (Ty.same_iff _ _).2 rfl] at w2
    have hti : (FnT (l.drop i) r).ty = Ty.mk 4 [a.ty, (FnT (l.drop (i + 1)) r).ty] := by rw [g3, T.ty_fn]
    have hfa := Ty.fold a.ty
    generalize (FnT (l.drop (i + 1)) r).ty = ty' at *
    generalize (FnT (l.drop i) r).ty = ty0 at *
    generalize a.ty = ta at *
    subst hti
    have hct := Ty.cells_eq ty'
    refine t_rg0 ?_
    refine t_yes ?_
    refine t_g (j2 @hvg @hcv) ?_
    refine t_c1 @hfv w1 ?_
    refine t_g0 ?_
    refine t_c1 @hfa w2 ?_
    refine t_g0 ?_
    refine t_gt (wr []) @hct trivial (hnext trivial)
  · intro _
    have hdl : FnT (l.drop l.length) r = r := by rw [List.drop_length]; rfl
    rw [hdl]
    have wd := data_ok (gl := gl) r hro
    rw [show decide (r.level = 0) = true from decide_eq_true ((T.level_plain r).2 hr)] at wd
    have hfr := Ty.fold r.ty
    have hwn : ¬ (work < 0) := by omega
    have hwm : ¬ (65536 < work) := by omega
    have hH := eval6_ok (gl := gl) (most := work) (by omega) (work.toNat + 1)
    have hB := ev6_bd work (work.toNat + 1)
    obtain ⟨v0, u0, o0, e1, l1, m1, q1⟩ := ev6_ok work (work.toNat + 1) h .nil hw0 (by omega)
    obtain ⟨cr, hcr⟩ : ∃ cr, cr = call6N work t (mvsOf l Z) := ⟨_, rfl⟩
    have hout := call6_out hw0 h Z hl
    rw [← hcr] at hR hout
    obtain ⟨vf, uf, of, r1, r2, r3, r4⟩ := hout
    unfold call6N at hcr
    rw [e1] at hcr
    obtain ⟨k1, k2, k3⟩ := hB e1 hw0 hM trivial (by simp only [List.length_nil]; omega)
    refine t_rg0 ?_
    refine t_no ?_
    refine t_g0 ?_
    refine t_c1 @hfr wd ?_
    refine t_g (j2 @hwn @hwm) ?_
    refine W_expose 80 (by simp [go_sem]; rfl) ?_
    intro b hb
    simp [go_sem] at hb ⊢
    have we := hH b M e1 (by omega) hw0 hM (by omega) trivial (by simp only [List.length_nil]; omega)
    unfold mach6 at we
    have hv0 := MV.cells_eq v0
    refine t_c1 @hft we ?_
    refine t_g0 ?_
    refine t_a ?_
    refine t_sub [] (j2 @hv0 @hvl) (W_rounds (fun x : Nat × MV × Int × Bool => x.1 ≤ l.length ∧ 0 ≤ x.2.2.1 ∧ x.2.2.1 ≤ work ∧ x.2.1.le (M + x.2.2.1) ∧ (x.2.2.2 = false → callsRun (ev6 work (work.toNat + 1)) x.2.1 ((mvsOf l Z).drop x.1) x.2.2.1 = cr) ∧ (x.2.2.2 = true → of = true)) (fun x : Nat × MV × Int × Bool => [(.slot 17, .one (.v (ptr b))), (.slot 6, .one (.loc 6 0)), (.loc 6, .row ([.v (dint 0), .v (dint 0), .own 0 [], .own 0 []])), (.slot 9, .one (.loc 9 0)), (.loc 9, .row ([.v (dint r.ty.kind), .v (.sl (r.ty.args.map Ty.cells))])), (.slot 18, .one (.loc 18 0)), (.loc 18, .row ([.v (dint x.2.1.numF), .v (.sl (ints x.2.1.listF)), .v (.sl (x.2.1.pairF.map MV.cells)), .v (dint x.2.1.bodyF.kind), .v (dint x.2.1.bodyF.index), .v (dint x.2.1.bodyF.type.kind), .v (.sl (x.2.1.bodyF.type.args.map Ty.cells)), .v (.sl (x.2.1.bodyF.args.map Tm.cells)), .v (.sl (x.2.1.envF.map MV.cells))])), (.slot 84, .one (.v (.sl ((valsOf l Z).map Val.cells)))), (.slot 85, .one (.v (dint l.length))), (.slot 86, .one (.v (dint x.1))), (.heap  b, .row ([.v (dint x.2.2.1), .v (dint work), .v (dbool x.2.2.2)]))]) (fun x : Nat × MV × Int × Bool => l.length - x.1) (0, v0, u0, o0) (⟨Nat.zero_le _, by show 0 ≤ u0; omega, m1, MV.le_mono (by show M + (u0 - 0) ≤ M + u0; omega) k3, fun h => ?_, fun h => ?_⟩) ?_)
    · have h : o0 = false := h
      subst h
      exact hcr.symm
    · have h : o0 = true := h
      subst h
      have hcr : cr = some (v0, u0, true) := hcr
      rw [hcr] at r1
      cases r1
      rfl
    rintro ⟨i, m, u, ok⟩ ⟨i1, i2, i3, i4, i5, i6⟩ ih
    simp only at i1 i2 i3 i4 i5 i6
    by_cases hi : i < l.length
    · obtain ⟨a, x, g1, g2, -, g4, g5⟩ := args_at (r := r) l Z i hi hl
      have hvg : (List.map Val.cells (valsOf l Z))[i]? = some (valOf a x).cells := by rw [List.getElem?_map, g1]; rfl
      have hfv := Val.fold (valOf a x)
      have hcv := Val.cells_eq (valOf a x)
      cases ok with
      | true =>
        refine t_rg0 ?_
        refine t_yes ?_
        refine t_g (j2 @hvg @hcv) ?_
        refine t_gt (wr []) trivial trivial (ih (i + 1, m, u, true) ⟨by show i + 1 ≤ l.length; omega, i2, i3, i4, fun h => (by cases h), fun _ => i6 rfl⟩ (by show l.length - (i + 1) < l.length - i; omega))
      | false =>
        have i5 := i5 rfl
        have hdr : (mvsOf l Z).drop i = ofM a x :: (mvsOf l Z).drop (i + 1) := by
          obtain ⟨p1, p2⟩ := List.getElem?_eq_some_iff.1 g2
          rw [List.drop_eq_getElem_cons p1, p2]
        rw [hdr] at i5
        simp only [callsRun] at i5
        have hxM : (ofM a x).le (M + u) := MV.le_mono (by omega) (MV.les_iff.1 hX _ (List.mem_of_getElem? g2))
        have wo := of6_ok (gl := gl) a x g4
        have hfm := MV.fold m
        split at i5
        · rw [← i5] at r1; cases r1
        · rename_i v1 u1 c1
          have w := call6_ok (gl := gl) (by omega) hH b (M + u) c1 i2 i3 (by omega) (by omega) i4 hxM
          obtain ⟨d1, d2, d3⟩ := callRun_bd hB c1 i3 (M := M + u) (by omega) i4 hxM
          have hof : of = true := by rw [← i5] at r1; cases r1; rfl
          have hv1 := MV.cells_eq v1
          unfold mach6 at w
          generalize valOf a x = vx at *
          generalize ofM a x = mx at *
          refine t_rg0 ?_
          refine t_yes ?_
          refine t_g (j2 @hvg @hcv) ?_
          refine t_c2 (j2 @hfv @hfm) wo w ?_
          refine t_gt (wr []) @hv1 trivial (ih (i + 1, v1, u1, true) ⟨by show i + 1 ≤ l.length; omega, by show 0 ≤ u1; omega, d2, MV.le_mono (by show _ ≤ M + u1; omega) d3, fun h => (by cases h), fun _ => hof⟩ (by show l.length - (i + 1) < l.length - i; omega))
        · rename_i v1 u1 c1
          have w := call6_ok (gl := gl) (by omega) hH b (M + u) c1 i2 i3 (by omega) (by omega) i4 hxM
          obtain ⟨d1, d2, d3⟩ := callRun_bd hB c1 i3 (M := M + u) (by omega) i4 hxM
          have hv1 := MV.cells_eq v1
          unfold mach6 at w
          generalize valOf a x = vx at *
          generalize ofM a x = mx at *
          refine t_rg0 ?_
          refine t_yes ?_
          refine t_g (j2 @hvg @hcv) ?_
          refine t_c2 (j2 @hfv @hfm) wo w ?_
          refine t_gt (wr []) @hv1 trivial (ih (i + 1, v1, u1, false) ⟨by show i + 1 ≤ l.length; omega, by show 0 ≤ u1; omega, d2, MV.le_mono (by show _ ≤ M + u1; omega) d3, fun _ => i5, fun h => (by cases h)⟩ (by show l.length - (i + 1) < l.length - i; omega))
    · have hin : i = l.length := by omega
      subst hin
      cases ok with
      | true =>
        have hof := i6 rfl
        subst hof
        rw [r1] at hR
        refine t_rg0 ?_
        refine t_no ?_
        refine t_g0 ?_
        refine t_r ?_
        simp [go_sem, hP, hgl, hn, zeroV] <;> (try omega)
        all_goals exact t_f
      | false =>
        have i5 := i5 rfl
        have hdr : (mvsOf l Z).drop l.length = [] := by rw [← hml, List.drop_length]
        rw [hdr] at i5
        simp only [callsRun] at i5
        rw [← i5] at r1 hR
        have hq : m = vf ∧ of = false := by cases r1; exact ⟨rfl, rfl⟩
        have r4 := r4 hq.2
        rw [← hq.1] at r4
        have wp := plain6_ok (gl := gl) r4 hr
        have hfm := MV.fold m
        generalize valOf r (appl l (F ()) Z) = vr at *
        refine t_rg0 ?_
        refine t_no ?_
        refine t_g0 ?_
        refine t_c1 (j2 @hfm @hfr) wp ?_
        refine t_r ?_
        simp [go_sem, hP, hgl, hn] <;> (try omega)
        all_goals exact t_f
end Go.Proofs.YteoalfdaanlbjaaGreatDoor.Lift

/-
  Plain law: the theorem of majorants, for what is denoted.
-/
namespace Go.Proofs.YteoalfdaanlbjaaGreatDoor.Lift
set_option linter.unusedSimpArgs false
set_option linter.unusedVariables false
set_option linter.unnecessarySimpa false
open Go

/-- the majorant type -/
def T.maj : T → T
  | .nat => .nat
  | .list => .nat
  | .unit => .unit
  | .pair a b => .pair a.maj b.maj
  | .fn a b => .fn a.maj b.maj

/-- at least as great, in each part -/
def Ge : (b : T) → b.V → b.V → Prop
  | .nat, x, y => Nat.le y x
  | .list, x, y => x = y
  | .unit, _, _ => True
  | .pair a b, x, y => Ge a x.1 y.1 ∧ Ge b x.2 y.2
  | .fn a b, F, G => (∀ x y : a.V, Ge a x y → Ge b (F x) (G y)) ∧ ∀ x y : a.V, Ge a x y → Ge b (F x) (F y)
/-- a value bounds another one -/
def Mj : (a : T) → a.maj.V → a.V → Prop
  | .nat, m, n => Nat.le n m
  | .list, m, l => Nat.le (List.length l) m ∧ ∀ x : Nat, List.Mem x l → Nat.le x m
  | .unit, _, _ => True
  | .pair a b, x, y => Mj a x.1 y.1 ∧ Mj b x.2 y.2
  | .fn a b, F, f => (∀ (X : a.maj.V) (x : a.V), Mj a X x → Mj b (F X) (f x)) ∧ ∀ X Y : a.maj.V, Ge a.maj X Y → Ge b.maj (F X) (F Y)

theorem Ge.left : ∀ {b : T} {x y : b.V}, Ge b x y → Ge b x x
  | .nat, x, _, _ => Nat.le_refl x
  | .list, _, _, _ => rfl
  | .unit, _, _, _ => trivial
  | .pair _ _, _, _, h => ⟨Ge.left h.1, Ge.left h.2⟩
  | .fn _ _, _, _, h => ⟨h.2, h.2⟩
theorem Ge.trans : ∀ {b : T} {x y z : b.V}, Ge b x y → Ge b y z → Ge b x z
  | .nat, _, _, _, h, k => Nat.le_trans k h
  | .list, _, _, _, h, k => Eq.trans h k
  | .unit, _, _, _, _, _ => trivial
  | .pair _ _, _, _, _, h, k => ⟨Ge.trans h.1 k.1, Ge.trans h.2 k.2⟩
  | .fn _ _, _, _, _, h, k => ⟨fun x y hxy => Ge.trans (h.1 x x hxy.left) (k.1 x y hxy), h.2⟩
theorem Mj.left : ∀ {a : T} {X : a.maj.V} {x : a.V}, Mj a X x → Ge a.maj X X
  | .nat, X, _, _ => Nat.le_refl X
  | .list, X, _, _ => Nat.le_refl X
  | .unit, _, _, _ => trivial
  | .pair _ _, _, _, h => ⟨Mj.left h.1, Mj.left h.2⟩
  | .fn _ _, _, _, h => ⟨h.2, h.2⟩
theorem Ge.mj : ∀ {a : T} {X Y : a.maj.V} {y : a.V}, Ge a.maj X Y → Mj a Y y → Mj a X y
  | .nat, _, _, _, h, k => Nat.le_trans k h
  | .list, _, _, _, h, k => ⟨Nat.le_trans k.1 h, fun x hx => Nat.le_trans (k.2 x hx) h⟩
  | .unit, _, _, _, _, _ => trivial
  | .pair _ _, _, _, _, h, k => ⟨Ge.mj h.1 k.1, Ge.mj h.2 k.2⟩
  | .fn _ _, _, _, _, h, k => ⟨fun U u hu => Ge.mj (h.1 U U hu.left) (k.1 U u hu), h.2⟩

/-- the greater one of two values, in each part -/
def maxD : (b : T) → b.V → b.V → b.V
  | .nat, x, y => Nat.add x (Nat.sub y x)
  | .list, x, _ => x
  | .unit, _, _ => ()
  | .pair a b, x, y => (maxD a x.1 y.1, maxD b x.2 y.2)
  | .fn _ b, F, G => fun x => maxD b (F x) (G x)

/-- a type without lists -/
def T.bare : T → Prop
  | .nat => True
  | .list => False
  | .unit => True
  | .pair a b => a.bare ∧ b.bare
  | .fn a b => a.bare ∧ b.bare
theorem T.maj_bare : ∀ a : T, a.maj.bare
  | .nat => trivial
  | .list => trivial
  | .unit => trivial
  | .pair a b => ⟨a.maj_bare, b.maj_bare⟩
  | .fn a b => ⟨a.maj_bare, b.maj_bare⟩

theorem nmax_mono {x x' y y' : Nat} (h : x' ≤ x) (k : y' ≤ y) : Nat.add x' (Nat.sub y' x') ≤ Nat.add x (Nat.sub y x) := by
  show x' + (y' - x') ≤ x + (y - x)
  omega
theorem nmax_left {x y z : Nat} (h : z ≤ x) : z ≤ Nat.add x (Nat.sub y x) := by
  show z ≤ x + (y - x)
  omega
theorem nmax_right {x y z : Nat} (h : z ≤ y) : z ≤ Nat.add x (Nat.sub y x) := by
  show z ≤ x + (y - x)
  omega
theorem nat_ok0 : T.nat.ok := by unfold T.ok; decide
theorem max_mono : ∀ {b : T} {x x' y y' : b.V}, Ge b x x' → Ge b y y' → Ge b (maxD b x y) (maxD b x' y')
  | .nat, _, _, _, _, h, k => nmax_mono h k
  | .list, _, _, _, _, h, _ => h
  | .unit, _, _, _, _, _, _ => trivial
  | .pair _ _, _, _, _, _, h, k => ⟨max_mono h.1 k.1, max_mono h.2 k.2⟩
  | .fn _ _, _, _, _, _, h, k => ⟨fun u v huv => max_mono (h.1 u v huv) (k.1 u v huv), fun u v huv => max_mono (h.2 u v huv) (k.2 u v huv)⟩
theorem max_left : ∀ {b : T} {x y z : b.V}, Ge b x z → Ge b y y → Ge b (maxD b x y) z
  | .nat, _, _, _, h, _ => nmax_left h
  | .list, _, _, _, h, _ => h
  | .unit, _, _, _, _, _ => trivial
  | .pair _ _, _, _, _, h, k => ⟨max_left h.1 k.1, max_left h.2 k.2⟩
  | .fn _ _, _, _, _, h, k => ⟨fun u v huv => max_left (h.1 u v huv) (k.2 u u huv.left), fun u v huv => max_mono (h.2 u v huv) (k.2 u v huv)⟩
theorem max_right : ∀ {b : T}, b.bare → ∀ {x y z : b.V}, Ge b x x → Ge b y z → Ge b (maxD b x y) z
  | .nat, _, _, _, _, _, h => nmax_right h
  | .list, hb, _, _, _, _, _ => hb.elim
  | .unit, _, _, _, _, _, _ => trivial
  | .pair _ _, hb, _, _, _, h, k => ⟨max_right hb.1 h.1 k.1, max_right hb.2 h.2 k.2⟩
  | .fn _ _, hb, _, _, _, h, k => ⟨fun u v huv => max_right hb.2 (h.2 u u huv.left) (k.1 u v huv), fun u v huv => max_mono (h.2 u v huv) (k.2 u v huv)⟩

/-- the values of variables, bounded -/
def MjE : (Γ : List T) → Env (Γ.map T.maj) → Env Γ → Prop
  | [], _, _ => True
  | a :: Γ, X, x => Mj a X.1 x.1 ∧ MjE Γ X.2 x.2
def GeE : (Γ : List T) → Env Γ → Env Γ → Prop
  | [], _, _ => True
  | a :: Γ, X, x => Ge a X.1 x.1 ∧ GeE Γ X.2 x.2
theorem GeE.drop {Γ : List T} : ∀ (Ξ : List T) {X Y : Env (Ξ ++ Γ)}, GeE (Ξ ++ Γ) X Y → GeE Γ (Env.drop Ξ X) (Env.drop Ξ Y)
  | [], _, _, h => h
  | _ :: Ξ, _, _, h => GeE.drop Ξ h.2

/-! the closed terms of chapter 5 -/
theorem dn_pred (Γ : List T) : Dn Γ predT (.fn .nat .nat) (fun _ (n : Nat) => Nat.pred n) := by
  have h : Dn Γ predT (.fn .nat .nat) _ := .lam nat_ok0 (.rc (a := .nat) nat_ok0 .zero (.lam nat_ok0 (.lam nat_ok0 (.var (.succ .zero)))) (.var .zero))
  refine h.eq fun ρ => funext fun n => ?_
  have key : ∀ n : Nat, natRec (0 : Nat) (fun k _ => k) n = Nat.pred n := by intro n; cases n <;> rfl
  exact key n
theorem dn_plus (Γ : List T) : Dn Γ plusT (.fn .nat (.fn .nat .nat)) (fun _ (m n : Nat) => Nat.add m n) := by
  have h : Dn Γ plusT (.fn .nat (.fn .nat .nat)) _ := .lam nat_ok0 (.lam nat_ok0 (.rc (a := .nat) nat_ok0 (.var (.succ .zero)) (.lam nat_ok0 (.lam nat_ok0 (.succ (.var .zero)))) (.var .zero)))
  refine h.eq fun ρ => funext fun m => funext fun n => ?_
  have key : ∀ n : Nat, natRec (α := Nat) m (fun _ r => Nat.succ r) n = Nat.add m n := by
    intro n
    induction n with
    | zero => rfl
    | succ n ih => simp only [natRec, ih]; rfl
  exact key n
theorem dn_sub (Γ : List T) : Dn Γ subT (.fn .nat (.fn .nat .nat)) (fun _ (m n : Nat) => Nat.sub m n) := by
  have h : Dn Γ subT (.fn .nat (.fn .nat .nat)) _ := .lam nat_ok0 (.lam nat_ok0 (.rc (a := .nat) nat_ok0 (.var (.succ .zero)) (.lam nat_ok0 (.lam nat_ok0 (.app (dn_pred _) (.var .zero)))) (.var .zero)))
  refine h.eq fun ρ => funext fun m => funext fun n => ?_
  have key : ∀ n : Nat, natRec (α := Nat) m (fun _ r => Nat.pred r) n = Nat.sub m n := by
    intro n
    induction n with
    | zero => rfl
    | succ n ih => simp only [natRec, ih]; rfl
  exact key n

/-- the function that returns the greater one of two numbers -/
def greatT : Tm := lamT .nat (lamT .nat (appsT plusT [vT 1, appsT subT [vT 0, vT 1]]))
theorem dn_great (Γ : List T) : Dn Γ greatT (.fn .nat (.fn .nat .nat)) (fun _ (m n : Nat) => maxD .nat m n) :=
  .lam nat_ok0 (.lam nat_ok0 (.app (.app (dn_plus _) (.var (.succ .zero))) (.app (.app (dn_sub _) (.var .zero)) (.var (.succ .zero)))))

/-- the greatest of two terms -/
def maxT : T → Tm → Tm → Tm
  | .nat, a, b => appsT greatT [a, b]
  | .list, _, _ => nT 13 []
  | .unit, _, _ => nT 13 []
  | .pair s t, a, b => nT 10 [maxT s (nT 11 [a]) (nT 11 [b]), maxT t (nT 12 [a]) (nT 12 [b])]
  | .fn s t, a, b => lamT s (maxT t (nT 3 [a.upN 0 1, vT 0]) (nT 3 [b.upN 0 1, vT 0]))
/-- types whose parts are small enough -/
theorem dn_max : ∀ {b : T}, b.bare → b.ok → ∀ {Γ : List T} {x y : Tm} {X Y : Env Γ → b.V}, Dn Γ x b X → Dn Γ y b Y → Dn Γ (maxT b x y) b (fun e => maxD b (X e) (Y e))
  | .nat, _, _, Γ, x, y, X, Y, hx, hy => .app (.app (dn_great Γ) hx) hy
  | .list, hb, _, _, _, _, _, _, _, _ => hb.elim
  | .unit, _, _, _, _, _, _, _, _, _ => .unit
  | .pair s t, hb, ho, _, _, _, _, _, hx, hy => by
    simp only [T.ok, T.size] at ho
    exact .pair (dn_max hb.1 (by unfold T.ok; omega) (.fst hx) (.fst hy)) (dn_max hb.2 (by unfold T.ok; omega) (.snd hx) (.snd hy))
  | .fn s t, hb, ho, Γ, x, y, X, Y, hx, hy => by
    simp only [T.ok, T.size] at ho
    exact .lam (by unfold T.ok; omega) (dn_max hb.2 (by unfold T.ok; omega) (.app (dn_up hx [s]) (.var .zero)) (.app (dn_up hy [s]) (.var .zero)))

/-- numbers in place of lists -/
def bareN : Ty → Ty
  | .mk k a => if k = 2 then Ty.mk 1 [] else Ty.mk k (bares a)
where
  bares : List Ty → List Ty
    | [] => []
    | x :: r => bareN x :: bares r
theorem maj_ty (a : T) : a.maj.ty = bareN a.ty := by
  induction a with
  | nat => rfl
  | list => rfl
  | unit => rfl
  | pair a b iha ihb => show Ty.mk 3 [a.maj.ty, b.maj.ty] = Ty.mk 3 [bareN a.ty, bareN b.ty]; rw [iha, ihb]
  | fn a b iha ihb => show Ty.mk 4 [a.maj.ty, b.maj.ty] = Ty.mk 4 [bareN a.ty, bareN b.ty]; rw [iha, ihb]
theorem maj_size (a : T) : a.maj.size = a.size := by
  induction a with
  | nat => rfl
  | list => rfl
  | unit => rfl
  | pair a b iha ihb => show 1 + _ + _ = 1 + _ + _; rw [iha, ihb]
  | fn a b iha ihb => show 1 + _ + _ = 1 + _ + _; rw [iha, ihb]
theorem maj_ok {a : T} (h : a.ok) : a.maj.ok := by unfold T.ok; rw [maj_size]; exact h

/-- the greatest of two terms, by the type as it is written -/
def maxY (y : Ty) (a b : Tm) : Tm :=
  match y with
  | .mk k ts =>
    if k = 1 then appsT greatT [a, b]
    else match ts with
      | [s, t] =>
        if k = 3 then nT 10 [maxY s (nT 11 [a]) (nT 11 [b]), maxY t (nT 12 [a]) (nT 12 [b])]
        else if k = 4 then Tm.mk 2 0 s [maxY t (nT 3 [a.upN 0 1, vT 0]) (nT 3 [b.upN 0 1, vT 0])]
        else nT 13 []
      | _ => nT 13 []
termination_by SizeOf.sizeOf y
theorem maxY_ty : ∀ (a : T) (x y : Tm), maxY a.ty x y = maxT a x y
  | .nat, x, y => by rw [maxY.eq_def]; rfl
  | .list, x, y => by rw [maxY.eq_def]; rfl
  | .unit, x, y => by rw [maxY.eq_def]; rfl
  | .pair s t, x, y => by
    rw [maxY.eq_def]
    show nT 10 [maxY s.ty _ _, maxY t.ty _ _] = _
    rw [maxY_ty s, maxY_ty t]
    rfl
  | .fn s t, x, y => by
    rw [maxY.eq_def]
    show Tm.mk 2 0 s.ty [maxY t.ty _ _] = _
    rw [maxY_ty t]
    rfl

/-- the step of a recursion whose results grow -/
def stepY (s : Ty) (next : Tm) : Tm := Tm.mk 2 0 (Ty.mk 1 []) [Tm.mk 2 0 s [maxY s (vT 0) next]]

/-- the majorant of a node whose parts have theirs -/
def majNode (k i : Int) (y : Ty) (a l : List Tm) : Tm :=
  if k = 1 then Tm.mk k i y a
  else if k = 2 then Tm.mk 2 0 (bareN y) l
  else if k = 6 then Tm.mk 6 0 (bareN y) [l.getD 0 zeroTm, stepY (bareN y) (appsT ((l.getD 1 zeroTm).upN 0 2) [vT 1, vT 0]), l.getD 2 zeroTm]
  else if k = 7 then nT 4 []
  else if k = 8 then maxY (Ty.mk 1 []) (l.getD 0 zeroTm) (nT 5 [l.getD 1 zeroTm])
  else if k = 9 then nT 3 [Tm.mk 2 0 (Ty.mk 1 []) [Tm.mk 6 0 (bareN y) [(l.getD 0 zeroTm).upN 0 1, stepY (bareN y) (appsT ((l.getD 1 zeroTm).upN 0 3) [vT 2, vT 2, vT 0]), vT 0]], l.getD 2 zeroTm]
  else Tm.mk k 0 (Ty.mk 0 []) l
/-- the majorant of a term -/
def majT : Tm → Tm
  | .mk k i y a => majNode k i y a (majs a)
where
  majs : List Tm → List Tm
    | [] => []
    | x :: r => majT x :: majs r
theorem majs_map (l : List Tm) : majT.majs l = l.map majT := by
  induction l with
  | nil => rfl
  | cons a r ih => simp [majT.majs, ih]
theorem majT_eq (t : Tm) : majT t = majNode t.kind t.index t.type t.args (t.args.map majT) := by
  cases t; rw [majT, majs_map]; rfl

/-- the rounds of a recursion whose results grow -/
def growR {b : T} (B : b.V) (S : Nat → b.V → b.V) (n : Nat) : b.V := natRec B (fun k r => maxD b r (S k r)) n
theorem grow_self {b : T} {B : b.V} {S : Nat → b.V → b.V} (hB : Ge b B B) (hS : ∀ k r r', Ge b r r' → Ge b (S k r) (S k r')) : ∀ n, Ge b (growR B S n) (growR B S n)
  | 0 => hB
  | n + 1 => max_mono (grow_self hB hS n) (hS n _ _ (grow_self hB hS n))
theorem grow_up {b : T} {B : b.V} {S : Nat → b.V → b.V} (hB : Ge b B B) (hS : ∀ k r r', Ge b r r' → Ge b (S k r) (S k r')) (n : Nat) : ∀ m, Ge b (growR B S (n + m)) (growR B S n)
  | 0 => grow_self hB hS n
  | m + 1 => max_left (grow_up hB hS n m) (hS _ _ _ (grow_self hB hS (n + m)))
theorem grow_mono {b : T} {B B' : b.V} {S S' : Nat → b.V → b.V} (hB : Ge b B B') (hS : ∀ k r r', Ge b r r' → Ge b (S k r) (S' k r')) : ∀ n, Ge b (growR B S n) (growR B' S' n)
  | 0 => hB
  | n + 1 => max_mono (grow_mono hB hS n) (hS n _ _ (grow_mono hB hS n))

theorem dn_step {Γ : List T} {s : T} (hs : s.bare) (ho : s.ok) {next : Tm} {N : Env (s :: .nat :: Γ) → s.V} (h : Dn (s :: .nat :: Γ) next s N) :
    Dn Γ (stepY s.ty next) (.fn .nat (.fn s s)) (fun e (k : Nat) r => maxD s r (N (r, k, e))) := by
  unfold stepY
  rw [maxY_ty]
  exact .lam (a := .nat) nat_ok0 (.lam ho (dn_max hs ho (.var .zero) h))

theorem cons_le {x p q : Nat} {l : List Nat} (h1 : x ≤ p) (h2 : l.length ≤ q ∧ ∀ y : Nat, List.Mem y l → y ≤ q) : (x :: l).length ≤ Nat.add p (Nat.sub (Nat.succ q) p) ∧ ∀ y : Nat, List.Mem y (x :: l) → y ≤ Nat.add p (Nat.sub (Nat.succ q) p) := by
  have m1 : p ≤ Nat.add p (Nat.sub (Nat.succ q) p) := Nat.le_add_right _ _
  have m2 : q + 1 ≤ Nat.add p (Nat.sub (Nat.succ q) p) := by show q + 1 ≤ p + (q + 1 - p); omega
  refine ⟨Nat.le_trans (Nat.succ_le_succ h2.1) m2, fun y hy => ?_⟩
  cases hy with
  | head => exact Nat.le_trans h1 m1
  | tail _ hy => exact Nat.le_trans (h2.2 y hy) (Nat.le_trans (Nat.le_succ _) m2)
theorem at_maj {Γ : List T} {i : Nat} {a : T} {p : Env Γ → a.V} (h : At Γ i a p) : ∃ P : Env (Γ.map T.maj) → a.maj.V, At (Γ.map T.maj) i a.maj P ∧ (∀ X x, MjE Γ X x → Mj a (P X) (p x)) ∧ ∀ X Y, GeE (Γ.map T.maj) X Y → Ge a.maj (P X) (P Y) := by
  induction h with
  | zero => exact ⟨_, .zero, fun X x h => h.1, fun X Y h => h.1⟩
  | succ h ih =>
    obtain ⟨P, h1, h2, h3⟩ := ih
    exact ⟨_, .succ h1, fun X x h => h2 _ _ h.2, fun X Y h => h3 _ _ h.2⟩
theorem MjE.left : ∀ {Γ : List T} {X : Env (Γ.map T.maj)} {x : Env Γ}, MjE Γ X x → GeE (Γ.map T.maj) X X
  | [], _, _, _ => trivial
  | _ :: _, _, _, h => ⟨Mj.left h.1, MjE.left h.2⟩
theorem GeE.left : ∀ {Γ : List T} {X Y : Env Γ}, GeE Γ X Y → GeE Γ X X
  | [], _, _, _ => trivial
  | _ :: _, _, _, h => ⟨Ge.left h.1, GeE.left h.2⟩

/-- THE THEOREM OF MAJORANTS -/
theorem dn_maj {Γ : List T} {t : Tm} {a : T} {F : Env Γ → a.V} (h : Dn Γ t a F) : ∃ P : Env (Γ.map T.maj) → a.maj.V, Dn (Γ.map T.maj) (majT t) a.maj P ∧ (∀ X x, MjE Γ X x → Mj a (P X) (F x)) ∧ ∀ X Y, GeE (Γ.map T.maj) X Y → Ge a.maj (P X) (P Y) := by
  induction h with
  | var h =>
    obtain ⟨P, h1, h2, h3⟩ := at_maj h
    exact ⟨P, .var h1, h2, h3⟩
  | lam ha hb ih =>
    obtain ⟨P, h1, h2, h3⟩ := ih
    rename_i Γ a r b f
    have e : majT (lamT a b) = lamT a.maj (majT b) := by
      rw [majT_eq]
      show Tm.mk 2 0 (bareN a.ty) [majT b] = _
      rw [← maj_ty]
      rfl
    rw [e]
    refine ⟨_, .lam (maj_ok ha) h1, fun X x hX => ⟨fun U u hU => h2 (U, X) (u, x) ⟨hU, hX⟩, fun U V hUV => h3 (U, X) (V, X) ⟨hUV, hX.left⟩⟩, fun X Y hXY => ⟨fun U V hUV => h3 (U, X) (V, Y) ⟨hUV, hXY⟩, fun U V hUV => h3 (U, X) (V, X) ⟨hUV, hXY.left⟩⟩⟩
  | app hf hx ihf ihx =>
    obtain ⟨P, p1, p2, p3⟩ := ihf
    obtain ⟨Q, q1, q2, q3⟩ := ihx
    rename_i Γ a b f x F X
    have e : majT (nT 3 [f, x]) = nT 3 [majT f, majT x] := by rw [majT_eq]; rfl
    rw [e]
    exact ⟨_, .app p1 q1, fun X x hX => (p2 X x hX).1 _ _ (q2 X x hX), fun X Y hXY => (p3 X Y hXY).1 _ _ (q3 X Y hXY)⟩
  | zero =>
    have e : majT (nT 4 []) = nT 4 [] := by rw [majT_eq]; rfl
    rw [e]
    exact ⟨_, .zero, fun X x hX => Nat.le_refl 0, fun X Y hXY => Nat.le_refl 0⟩
  | succ hx ih =>
    obtain ⟨P, p1, p2, p3⟩ := ih
    rename_i Γ x X
    have e : majT (nT 5 [x]) = nT 5 [majT x] := by rw [majT_eq]; rfl
    rw [e]
    exact ⟨_, .succ p1, fun X x hX => Nat.succ_le_succ (p2 X x hX), fun X Y hXY => Nat.succ_le_succ (p3 X Y hXY)⟩
  | rc ha hb hf hn ihb ihf ihn =>
    obtain ⟨B', b1, b2, b3⟩ := ihb
    obtain ⟨F', f1, f2, f3⟩ := ihf
    obtain ⟨N', n1, n2, n3⟩ := ihn
    rename_i Γ a b f n B F N
    have e : majT (Tm.mk 6 0 a.ty [b, f, n]) = Tm.mk 6 0 a.maj.ty [majT b, stepY a.maj.ty (appsT ((majT f).upN 0 2) [vT 1, vT 0]), majT n] := by
      rw [majT_eq, maj_ty]; rfl
    rw [e]
    have hs := dn_step (Γ := Γ.map T.maj) a.maj_bare (maj_ok ha) (.app (.app (dn_up f1 [a.maj, .nat]) (.var (.succ .zero))) (.var .zero))
    have hS : ∀ X Y, GeE (Γ.map T.maj) X Y → ∀ (k : Nat) (r r' : a.maj.V), Ge a.maj r r' → Ge a.maj (F' X k r) (F' Y k r') := fun X Y hXY k r r' hr => ((f3 X Y hXY).1 k k (Nat.le_refl k)).1 r r' hr
    refine ⟨fun X => growR (B' X) (F' X) (N' X), .rc (maj_ok ha) b1 hs n1, fun X x hX => ?_, fun X Y hXY => ?_⟩
    · have hB := (b3 X X hX.left)
      have hSX := hS X X hX.left
      have key : ∀ k : Nat, Mj a (growR (B' X) (F' X) k) (natRec (B x) (F x) k) := by
        intro k
        induction k with
        | zero => exact b2 X x hX
        | succ k ih =>
          have h1 := ((f2 X x hX).1 k k (Nat.le_refl k)).1 _ _ ih
          exact Ge.mj (max_right a.maj_bare (grow_self hB hSX k) (hSX k _ _ (grow_self hB hSX k))) h1
      have main : ∀ k M : Nat, k ≤ M → Mj a (growR (B' X) (F' X) M) (natRec (B x) (F x) k) := by
        intro k M hN
        obtain ⟨m, hm⟩ := Nat.le.dest hN
        have := grow_up hB hSX k m
        rw [hm] at this
        exact Ge.mj this (key k)
      exact main (N x) (N' X) (n2 X x hX)
    · have main : ∀ M M' : Nat, M' ≤ M → Ge a.maj (growR (B' X) (F' X) M) (growR (B' Y) (F' Y) M') := by
        intro M M' hN
        obtain ⟨m, hm⟩ := Nat.le.dest hN
        have h1 := grow_up (b3 X X hXY.left) (hS X X hXY.left) M' m
        rw [hm] at h1
        exact Ge.trans h1 (grow_mono (b3 X Y hXY) (hS X Y hXY) M')
      exact main (N' X) (N' Y) (n3 X Y hXY)
  | nil =>
    have e : majT (nT 7 []) = nT 4 [] := by rw [majT_eq]; rfl
    rw [e]
    exact ⟨_, .zero, fun X x hX => ⟨Nat.le_refl 0, fun y hy => by cases hy⟩, fun X Y hXY => Nat.le_refl 0⟩
  | cons hx hl ihx ihl =>
    obtain ⟨P, p1, p2, p3⟩ := ihx
    obtain ⟨Q, q1, q2, q3⟩ := ihl
    rename_i Γ x l X L
    have e : majT (nT 8 [x, l]) = maxT .nat (majT x) (nT 5 [majT l]) := by
      rw [majT_eq]
      show maxY (T.ty .nat) (majT x) (nT 5 [majT l]) = _
      rw [maxY_ty]
    rw [e]
    refine ⟨_, dn_max (b := .nat) trivial nat_ok0 p1 (.succ q1), fun U u hU => ?_, fun U V hUV => ?_⟩
    · exact cons_le (p2 U u hU) (q2 U u hU)
    · exact max_mono (b := .nat) (p3 U V hUV) (Nat.succ_le_succ (q3 U V hUV))
  | fold ha hb hf hn ihb ihf ihn =>
    obtain ⟨B', b1, b2, b3⟩ := ihb
    obtain ⟨F', f1, f2, f3⟩ := ihf
    obtain ⟨N', n1, n2, n3⟩ := ihn
    rename_i Γ a b f n B F N
    have e : majT (Tm.mk 9 0 a.ty [b, f, n]) = nT 3 [lamT .nat (Tm.mk 6 0 a.maj.ty [(majT b).upN 0 1, stepY a.maj.ty (appsT ((majT f).upN 0 3) [vT 2, vT 2, vT 0]), vT 0]), majT n] := by
      rw [majT_eq, maj_ty]; rfl
    rw [e]
    have hs := dn_step (Γ := .nat :: Γ.map T.maj) a.maj_bare (maj_ok ha) (.app (.app (.app (dn_up f1 [a.maj, .nat, .nat]) (.var (.succ (.succ .zero)))) (.var (.succ (.succ .zero)))) (.var .zero))
    have hS : ∀ X Y, GeE (Γ.map T.maj) X Y → ∀ (M M' : Nat), M' ≤ M → ∀ (_ : Nat) (r r' : a.maj.V), Ge a.maj r r' → Ge a.maj (F' X M M r) (F' Y M' M' r') := fun X Y hXY M M' hM _ r r' hr => (((f3 X Y hXY).1 M M' hM).1 M M' hM).1 r r' hr
    have h0 : Dn (.nat :: Γ.map T.maj) (Tm.mk 6 0 a.maj.ty [(majT b).upN 0 1, stepY a.maj.ty (appsT ((majT f).upN 0 3) [vT 2, vT 2, vT 0]), vT 0]) a.maj _ := .rc (maj_ok ha) (dn_up b1 [.nat]) hs (.var .zero)
    have h1 := Dn.app (.lam (a := .nat) nat_ok0 h0) n1
    refine ⟨fun X => growR (B' X) (fun _ r => F' X (N' X) (N' X) r) (N' X), h1, fun X x hX => ?_, fun X Y hXY => ?_⟩
    · have hB := (b3 X X hX.left)
      have main : ∀ (M : Nat) (L : List Nat), L.length ≤ M → (∀ y, List.Mem y L → y ≤ M) → Mj a (growR (B' X) (fun _ r => F' X M M r) M) (listRec (B x) (F x) L) := by
        intro M L l1 l2
        have hSX := hS X X hX.left M M (Nat.le_refl _)
        have key : ∀ l : List Nat, l.length ≤ M → (∀ y, List.Mem y l → y ≤ M) → Mj a (growR (B' X) (fun _ r => F' X M M r) l.length) (listRec (B x) (F x) l) := by
          intro l
          induction l with
          | nil => intro _ _; exact b2 X x hX
          | cons y r ih =>
            intro h1 h2
            have h1' : r.length + 1 ≤ M := h1
            have hr := ih (by omega) fun z hz => h2 z (.tail _ hz)
            have h3 := (((f2 X x hX).1 M y (h2 y (.head _))).1 M r ⟨show r.length ≤ M by omega, fun z hz => h2 z (.tail _ hz)⟩).1 _ _ hr
            exact Ge.mj (max_right a.maj_bare (grow_self hB hSX r.length) (hSX r.length _ _ (grow_self hB hSX r.length))) h3
        obtain ⟨m, hm⟩ := Nat.le.dest l1
        have := grow_up hB hSX L.length m
        rw [hm] at this
        exact Ge.mj this (key L l1 l2)
      exact main (N' X) (N x) (n2 X x hX).1 (n2 X x hX).2
    · have main : ∀ M M' : Nat, M' ≤ M → Ge a.maj (growR (B' X) (fun _ r => F' X M M r) M) (growR (B' Y) (fun _ r => F' Y M' M' r) M') := by
        intro M M' hN
        obtain ⟨m, hm⟩ := Nat.le.dest hN
        have h1 := grow_up (b3 X X hXY.left) (hS X X hXY.left M M (Nat.le_refl _)) M' m
        rw [hm] at h1
        exact Ge.trans h1 (grow_mono (b3 X Y hXY) (hS X Y hXY M M' hN) M')
      exact main (N' X) (N' Y) (n3 X Y hXY)
  | pair hx hy ihx ihy =>
    obtain ⟨P, p1, p2, p3⟩ := ihx
    obtain ⟨Q, q1, q2, q3⟩ := ihy
    rename_i Γ a b x y X Y
    have e : majT (nT 10 [x, y]) = nT 10 [majT x, majT y] := by rw [majT_eq]; rfl
    rw [e]
    exact ⟨_, .pair p1 q1, fun X x hX => ⟨p2 X x hX, q2 X x hX⟩, fun X Y hXY => ⟨p3 X Y hXY, q3 X Y hXY⟩⟩
  | fst hx ih =>
    obtain ⟨P, p1, p2, p3⟩ := ih
    rename_i Γ a b x X
    have e : majT (nT 11 [x]) = nT 11 [majT x] := by rw [majT_eq]; rfl
    rw [e]
    exact ⟨_, .fst p1, fun X x hX => (p2 X x hX).1, fun X Y hXY => (p3 X Y hXY).1⟩
  | snd hx ih =>
    obtain ⟨P, p1, p2, p3⟩ := ih
    rename_i Γ a b x X
    have e : majT (nT 12 [x]) = nT 12 [majT x] := by rw [majT_eq]; rfl
    rw [e]
    exact ⟨_, .snd p1, fun X x hX => (p2 X x hX).2, fun X Y hXY => (p3 X Y hXY).2⟩
  | unit =>
    have e : majT (nT 13 []) = nT 13 [] := by rw [majT_eq]; rfl
    rw [e]
    exact ⟨_, .unit, fun X x hX => trivial, fun X Y hXY => trivial⟩
end Go.Proofs.YteoalfdaanlbjaaGreatDoor.Lift

