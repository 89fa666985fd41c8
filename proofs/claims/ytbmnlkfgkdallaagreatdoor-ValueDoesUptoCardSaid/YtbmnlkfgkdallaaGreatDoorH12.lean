import Derived.Test.YtbmnlkfgkdallaaGreatDoorH11
namespace Go.Proofs.YtbmnlkfgkdallaaGreatDoor.Lift
set_option linter.unusedSimpArgs false
set_option linter.unusedVariables false
set_option linter.unnecessarySimpa false
open Go
variable {gl : Globs}

def lamsT (b : Tm) (l : List Ty) : Tm := l.foldr (fun s b => Tm.mk 2 0 s [b]) b
def appsT (f : Tm) (l : List Tm) : Tm := l.foldl appT f
theorem appsT_snoc (f : Tm) (l : List Tm) (x : Tm) : appsT f (l ++ [x]) = appT (appsT f l) x := by simp [appsT]
theorem appsT_nil (f : Tm) : appsT f [] = f := rfl
theorem lamsT_drop (b : Tm) (l : List Ty) (j : Nat) (s : Ty) (h : l[j]? = some s) : lamsT b (l.drop j) = Tm.mk 2 0 s [lamsT b (l.drop (j + 1))] := by
  obtain ⟨hj, hs⟩ := List.getElem?_eq_some_iff.1 h
  rw [List.drop_eq_getElem_cons hj, hs]
  rfl

theorem tree_var_ok (i : Int) : Con1 Tryz.prog gl 74 [dint i] [] (Tm.mk 1 i (Ty.mk 0 []) []).dv [] := by
  refine t_in Tryz.func74 ?_
  intro X hP hgl hf hfn hn hR hids hfit
  refine t_g0 ?_
  refine t_r ?_
  simp [go_sem, hP, hgl, hn] <;> (try omega)
  all_goals exact t_f

theorem tree_rec_ok (k : Int) (s : Ty) (a b c : Tm) : Con1 Tryz.prog gl 94 [dint k, s.dv, a.dv, b.dv, c.dv] [] (Tm.mk k 0 s [a, b, c]).dv [] := by
  refine t_in Tryz.func94 ?_
  intro X hP hgl hf hfn hn hR hids hfit
  refine t_g0 ?_
  refine t_r ?_
  simp [go_sem, hP, hgl, hn] <;> (try omega)
  all_goals exact t_f

theorem tree_lam_ok (b : Tm) (l : List Ty) : Con1 Tryz.prog gl 71 [b.dv, .sl (l.map Ty.cells)] [] (lamsT b l).dv [] := by
  refine t_in Tryz.func71 ?_
  intro X hP hgl hf hfn hn hR hids hfit
  have hlen := sl_len (hfit (.sl (l.map Ty.cells)) (by simp))
  simp only [List.length_map] at hlen
  have h0 : lamsT b [] = b := rfl
  refine t_g0 ?_
  refine t_a ?_
  refine t_sub [] @h0 (W_rounds (fun k : Nat => k ≤ l.length) (fun k : Nat => [(.slot 1, .one (.v (.sl (l.map Ty.cells)))), (.slot 5, .one (.v (dint ((k : Int) - 1)))), (.loc 2, .row ([.v (dint (lamsT b (l.drop k)).kind), .v (dint (lamsT b (l.drop k)).index), .v (dint (lamsT b (l.drop k)).type.kind), .v (.sl ((lamsT b (l.drop k)).type.args.map Ty.cells)), .v (.sl ((lamsT b (l.drop k)).args.map Tm.cells))])), (.slot 2, .one (.loc 2 0)), (.loc 4, .row ([.v (dint 0), .v (dint 0), .v (dint 0), .own 0 [], .own 0 []])), (.slot 4, .one (.loc 4 0))]) (fun k : Nat => k) l.length (Nat.le_refl _) ?_)
  intro k hk ih2
  cases k with
  | zero =>
    refine t_g0 ?_
    refine t_r ?_
    simp [go_sem, hP, hgl, hn] <;> (try omega)
    all_goals exact t_f
  | succ j =>
    have hj : l[j]? = some l[j] := List.getElem?_eq_getElem hk
    generalize l[j] = s at hj
    have hd := lamsT_drop b l j s hj
    have hj' : ((j + 1 : Nat) : Int) - 1 = j := by omega
    rw [hj']
    refine t_gt (wr []) (j2 @hd (j2 @Tm.kind_mk (j2 @Tm.index_mk (j2 @Tm.type_mk (j2 @Tm.args_mk (Tm.cells_eq (lamsT b (l.drop (j + 1))))))))) @hj (ih2 j (by omega) (by omega))

theorem tree_app_ok (f : Tm) (l : List Tm) : Con1 Tryz.prog gl 79 [f.dv, .sl (l.map Tm.cells)] [] (appsT f l).dv [] := by
  refine t_in Tryz.func79 ?_
  intro X hP hgl hf hfn hn hR hids hfit
  have hlen := sl_len (hfit (.sl (l.map Tm.cells)) (by simp))
  simp only [List.length_map] at hlen
  refine t_g0 ?_
  refine t_a ?_
  refine t_sub [] @appsT_nil (W_list (l) (fun done rest => [(.slot 9, .one (.v (dint done.length))), (.slot 8, .one (.v (dint l.length))), (.slot 7, .one (.v (.sl (l.map Tm.cells)))), (.loc 2, .row ([.v (dint (appsT f done).kind), .v (dint (appsT f done).index), .v (dint (appsT f done).type.kind), .v (.sl ((appsT f done).type.args.map Ty.cells)), .v (.sl ((appsT f done).args.map Tm.cells))])), (.slot 2, .one (.loc 2 0)), (.loc 4, .row ([.v (dint 0), .v (dint 0), .v (dint 0), .own 0 [], .own 0 []])), (.slot 4, .one (.loc 4 0))]) ?_ ?_)
  · intro done x rest hL hg0 hnext
    have hlt : done.length < l.length := by rw [hL]; simp
    refine t_rg0 ?_
    refine t_yes ?_
    refine t_g @hg0 ?_
    refine t_c1 @hg0 (of_ok 3 [appsT f done, x]) ?_
    repeat (first | (refine W_sub [] (by simp [go_sem]) (by simp [go_sem, appsT_snoc, appT, Tm.kind_mk, Tm.index_mk, Tm.type_mk, Tm.args_mk] <;> omega) (by simp [go_sem]) hnext) | refine W_seq ?_ | refine W_skip ?_ | refine W_block ?_ | refine W_inBlock ?_ | refine W_label ?_ | refine W_exit rfl ?_ | ((first | refine W_reg [] fun K hK => ?_ | refine W_regd (by rw [hP]; exact mixed) [] fun K hK => ?_); simp [go_sem, hP, hgl, hn]; (repeat (refine ⟨by omega, ?_⟩)); (first | refine hK _ ?_ | refine ⟨by rfl, hK _ ?_⟩); clear hK K) | refine W_cond rfl (fun _ => ?_) (fun hq => False.elim (by first | (simp; done) | (simp; omega) | (simp at hq; done) | (simp at hq; omega))) | refine W_cond rfl (fun hq => False.elim (by first | (simp; done) | (simp; omega) | (simp at hq; done) | (simp at hq; omega))) (fun _ => ?_))
  · refine t_rg0 ?_
    refine t_no ?_
    refine t_g0 ?_
    refine t_r ?_
    simp [go_sem, hP, hgl, hn] <;> (try omega)
    all_goals exact t_f

theorem mk_app_ok (f : Tm) (l : List Tm) : Con1 Tryz.prog gl 63 [f.dv, .sl (l.map Tm.cells)] [] (appsT f l).dv [] := by
  refine t_in Tryz.func63 ?_
  intro X hP hgl hf hfn hn hR hids hfit
  have hlen := sl_len (hfit (.sl (l.map Tm.cells)) (by simp))
  simp only [List.length_map] at hlen
  refine t_g0 ?_
  refine t_a ?_
  refine t_sub [] @appsT_nil (W_list (l) (fun done rest => [(.slot 9, .one (.v (dint done.length))), (.slot 8, .one (.v (dint l.length))), (.slot 7, .one (.v (.sl (l.map Tm.cells)))), (.loc 2, .row ([.v (dint (appsT f done).kind), .v (dint (appsT f done).index), .v (dint (appsT f done).type.kind), .v (.sl ((appsT f done).type.args.map Ty.cells)), .v (.sl ((appsT f done).args.map Tm.cells))])), (.slot 2, .one (.loc 2 0)), (.loc 4, .row ([.v (dint 0), .v (dint 0), .v (dint 0), .own 0 [], .own 0 []])), (.slot 4, .one (.loc 4 0))]) ?_ ?_)
  · intro done x rest hL hg0 hnext
    have hlt : done.length < l.length := by rw [hL]; simp
    refine t_rg0 ?_
    refine t_yes ?_
    refine t_g @hg0 ?_
    refine t_c1 @hg0 (ref02_n_ok 3 [appsT f done, x]) ?_
    repeat (first | (refine W_sub [] (by simp [go_sem]) (by simp [go_sem, appsT_snoc, appT, Tm.kind_mk, Tm.index_mk, Tm.type_mk, Tm.args_mk] <;> omega) (by simp [go_sem]) hnext) | refine W_seq ?_ | refine W_skip ?_ | refine W_block ?_ | refine W_inBlock ?_ | refine W_label ?_ | refine W_exit rfl ?_ | ((first | refine W_reg [] fun K hK => ?_ | refine W_regd (by rw [hP]; exact mixed) [] fun K hK => ?_); simp [go_sem, hP, hgl, hn]; (repeat (refine ⟨by omega, ?_⟩)); (first | refine hK _ ?_ | refine ⟨by rfl, hK _ ?_⟩); clear hK K) | refine W_cond rfl (fun _ => ?_) (fun hq => False.elim (by first | (simp; done) | (simp; omega) | (simp at hq; done) | (simp at hq; omega))) | refine W_cond rfl (fun hq => False.elim (by first | (simp; done) | (simp; omega) | (simp at hq; done) | (simp at hq; omega))) (fun _ => ?_))
  · refine t_rg0 ?_
    refine t_no ?_
    refine t_g0 ?_
    refine t_r ?_
    simp [go_sem, hP, hgl, hn] <;> (try omega)
    all_goals exact t_f

def numberE (n : Int) : Tm × Int := if n < 0 then (zeroTm, 1) else if 4096 ≤ n then (zeroTm, 4) else (numTm n.toNat, 0)
theorem numberE_ok (n : Int) : Con1 Tryz.prog gl 27 [dint n] [] (.tup [(numberE n).1.dv, dint (numberE n).2]) [] := by
  refine t_in Tryz.func27 ?_
  intro X hP hgl hf hfn hn hR hids hfit
  by_cases h0 : n < 0
  · refine t_g @h0 ?_
    refine t_r ?_
    simp [go_sem, hP, hgl, hn, numberE, h0, zeroTm] <;> (try omega)
    all_goals exact t_f
  · by_cases h1 : 4096 ≤ n
    · refine t_g (j2 @h0 @h1) ?_
      refine t_r ?_
      simp [go_sem, hP, hgl, hn, numberE, h0, h1, zeroTm] <;> (try omega)
      all_goals exact t_f
    · refine t_g (j2 @h0 @h1) ?_
      refine t_c1 trivial (number_ok n) ?_
      refine t_r ?_
      simp [go_sem, hP, hgl, hn, numberE, h0, h1] <;> (try omega)
      all_goals exact t_f

def vT (i : Int) : Tm := Tm.mk 1 i (Ty.mk 0 []) []
def nT (k : Int) (l : List Tm) : Tm := Tm.mk k 0 (Ty.mk 0 []) l
def recT (b s o : Tm) : Tm := Tm.mk 6 0 (Ty.mk 1 []) [b, lamsT s [Ty.mk 1 [], Ty.mk 1 []], o]
def twoT (b : Tm) : Tm := lamsT b [Ty.mk 1 [], Ty.mk 1 []]
def predT : Tm := lamsT (recT (nT 4 []) (vT 1) (vT 0)) [Ty.mk 1 []]
def plusT : Tm := twoT (recT (vT 1) (nT 5 [vT 0]) (vT 0))
def timesT : Tm := twoT (recT (nT 4 []) (appsT plusT [vT 0, vT 3]) (vT 0))
def subT : Tm := twoT (recT (vT 1) (appsT predT [vT 0]) (vT 0))
def distT : Tm := twoT (appsT plusT [appsT subT [vT 1, vT 0], appsT subT [vT 0, vT 1]])

theorem recursion_ok (a b c : Tm) : Con1 Tryz.prog gl 72 [a.dv, b.dv, c.dv] [] (recT a b c).dv [] := by
  refine t_in Tryz.func72 ?_
  intro X hP hgl hf hfn hn hR hids hfit
  refine t_g0 ?_
  refine t_c5 @nat_v nat_ok nat_ok nat_ok (tree_lam_ok b [Ty.mk 1 [], Ty.mk 1 []]) (tree_rec_ok 6 (Ty.mk 1 []) a (lamsT b [Ty.mk 1 [], Ty.mk 1 []]) c) ?_
  refine t_r ?_
  simp [go_sem, hP, hgl, hn, recT] <;> (try omega)
  all_goals exact t_f
theorem two_ok (b : Tm) : Con1 Tryz.prog gl 78 [b.dv] [] (twoT b).dv [] := by
  refine t_in Tryz.func78 ?_
  intro X hP hgl hf hfn hn hR hids hfit
  refine t_g0 ?_
  refine t_c3 @nat_v nat_ok nat_ok (tree_lam_ok b [Ty.mk 1 [], Ty.mk 1 []]) ?_
  refine t_r ?_
  simp [go_sem, hP, hgl, hn, twoT] <;> (try omega)
theorem pred_ok : Con1 Tryz.prog gl 29 [] [] predT.dv [] := by
  refine t_in Tryz.func29 ?_
  intro X hP hgl hf hfn hn hR hids hfit
  refine t_g0 ?_
  refine t_a ?_
  first | refine W_reg [] fun K hK => ?_ | refine W_regd (by rw [hP]; exact mixed) [] fun K hK => ?_
  simp [go_sem, hP, hgl, hn, nat_v, nT, vT]
  repeat (refine ⟨by omega, ?_⟩)
  first | refine vcK_call hP hgl (of_ok 4 []) (by simp [go_sem, hP, hgl, hn, nat_v, nT, vT]) rfl (by simp [go_sem]) (by simp) (by rw [hn]; exact Nat.le_of_ble_eq_true rfl) ?_ | refine vcdC_call (fun _ _ => vcd_sound) hP hgl (of_ok 4 []) (by simp [go_sem, hP, hgl, hn, nat_v, nT, vT]) rfl (by simp [go_sem]) (by simp) (by rw [hn]; exact Nat.le_of_ble_eq_true rfl) ?_ | refine vcK_callG hP hgl (of_ok 4 []) (by simp [go_sem, hP, hgl, hn, nat_v, nT, vT]) rfl (by simp [go_sem]) (by simp) (by rw [hn]; exact Nat.le_of_ble_eq_true rfl) (by simp [go_sem]; rfl) (by rw [hn]; exact Nat.le_of_ble_eq_true rfl) (by simp [go_sem]) ?_ | refine vcdC_callG (fun _ _ => vcd_sound) hP hgl (of_ok 4 []) (by simp [go_sem, hP, hgl, hn, nat_v, nT, vT]) rfl (by simp [go_sem]) (by simp) (by rw [hn]; exact Nat.le_of_ble_eq_true rfl) (by simp [go_sem]; rfl) (by rw [hn]; exact Nat.le_of_ble_eq_true rfl) (by simp [go_sem]) ?_
  simp [go_sem, hP, hgl, hn, nat_v, nT, vT]
  repeat (refine ⟨by omega, ?_⟩)
  first | refine vcK_call hP hgl (tree_var_ok 1) (by simp [go_sem, hP, hgl, hn, nat_v, nT, vT]) rfl (by simp [go_sem]) (by simp) (by rw [hn]; exact Nat.le_of_ble_eq_true rfl) ?_ | refine vcdC_call (fun _ _ => vcd_sound) hP hgl (tree_var_ok 1) (by simp [go_sem, hP, hgl, hn, nat_v, nT, vT]) rfl (by simp [go_sem]) (by simp) (by rw [hn]; exact Nat.le_of_ble_eq_true rfl) ?_ | refine vcK_callG hP hgl (tree_var_ok 1) (by simp [go_sem, hP, hgl, hn, nat_v, nT, vT]) rfl (by simp [go_sem]) (by simp) (by rw [hn]; exact Nat.le_of_ble_eq_true rfl) (by simp [go_sem]; rfl) (by rw [hn]; exact Nat.le_of_ble_eq_true rfl) (by simp [go_sem]) ?_ | refine vcdC_callG (fun _ _ => vcd_sound) hP hgl (tree_var_ok 1) (by simp [go_sem, hP, hgl, hn, nat_v, nT, vT]) rfl (by simp [go_sem]) (by simp) (by rw [hn]; exact Nat.le_of_ble_eq_true rfl) (by simp [go_sem]; rfl) (by rw [hn]; exact Nat.le_of_ble_eq_true rfl) (by simp [go_sem]) ?_
  simp [go_sem, hP, hgl, hn, nat_v, nT, vT]
  repeat (refine ⟨by omega, ?_⟩)
  first | refine vcK_call hP hgl (tree_var_ok 0) (by simp [go_sem, hP, hgl, hn, nat_v, nT, vT]) rfl (by simp [go_sem]) (by simp) (by rw [hn]; exact Nat.le_of_ble_eq_true rfl) ?_ | refine vcdC_call (fun _ _ => vcd_sound) hP hgl (tree_var_ok 0) (by simp [go_sem, hP, hgl, hn, nat_v, nT, vT]) rfl (by simp [go_sem]) (by simp) (by rw [hn]; exact Nat.le_of_ble_eq_true rfl) ?_ | refine vcK_callG hP hgl (tree_var_ok 0) (by simp [go_sem, hP, hgl, hn, nat_v, nT, vT]) rfl (by simp [go_sem]) (by simp) (by rw [hn]; exact Nat.le_of_ble_eq_true rfl) (by simp [go_sem]; rfl) (by rw [hn]; exact Nat.le_of_ble_eq_true rfl) (by simp [go_sem]) ?_ | refine vcdC_callG (fun _ _ => vcd_sound) hP hgl (tree_var_ok 0) (by simp [go_sem, hP, hgl, hn, nat_v, nT, vT]) rfl (by simp [go_sem]) (by simp) (by rw [hn]; exact Nat.le_of_ble_eq_true rfl) (by simp [go_sem]; rfl) (by rw [hn]; exact Nat.le_of_ble_eq_true rfl) (by simp [go_sem]) ?_
  simp [go_sem, hP, hgl, hn, nat_v, nT, vT]
  repeat (refine ⟨by omega, ?_⟩)
  first | refine vcK_call hP hgl (recursion_ok (nT 4 []) (vT 1) (vT 0)) (by simp [go_sem, hP, hgl, hn, nat_v, nT, vT]) rfl (by simp [go_sem]) (by simp) (by rw [hn]; exact Nat.le_of_ble_eq_true rfl) ?_ | refine vcdC_call (fun _ _ => vcd_sound) hP hgl (recursion_ok (nT 4 []) (vT 1) (vT 0)) (by simp [go_sem, hP, hgl, hn, nat_v, nT, vT]) rfl (by simp [go_sem]) (by simp) (by rw [hn]; exact Nat.le_of_ble_eq_true rfl) ?_ | refine vcK_callG hP hgl (recursion_ok (nT 4 []) (vT 1) (vT 0)) (by simp [go_sem, hP, hgl, hn, nat_v, nT, vT]) rfl (by simp [go_sem]) (by simp) (by rw [hn]; exact Nat.le_of_ble_eq_true rfl) (by simp [go_sem]; rfl) (by rw [hn]; exact Nat.le_of_ble_eq_true rfl) (by simp [go_sem]) ?_ | refine vcdC_callG (fun _ _ => vcd_sound) hP hgl (recursion_ok (nT 4 []) (vT 1) (vT 0)) (by simp [go_sem, hP, hgl, hn, nat_v, nT, vT]) rfl (by simp [go_sem]) (by simp) (by rw [hn]; exact Nat.le_of_ble_eq_true rfl) (by simp [go_sem]; rfl) (by rw [hn]; exact Nat.le_of_ble_eq_true rfl) (by simp [go_sem]) ?_
  simp [go_sem, hP, hgl, hn, nat_v, nT, vT]
  repeat (refine ⟨by omega, ?_⟩)
  first | refine vcK_call hP hgl (nat_ok) (by simp [go_sem, hP, hgl, hn, nat_v, nT, vT]) rfl (by simp [go_sem]) (by simp) (by rw [hn]; exact Nat.le_of_ble_eq_true rfl) ?_ | refine vcdC_call (fun _ _ => vcd_sound) hP hgl (nat_ok) (by simp [go_sem, hP, hgl, hn, nat_v, nT, vT]) rfl (by simp [go_sem]) (by simp) (by rw [hn]; exact Nat.le_of_ble_eq_true rfl) ?_ | refine vcK_callG hP hgl (nat_ok) (by simp [go_sem, hP, hgl, hn, nat_v, nT, vT]) rfl (by simp [go_sem]) (by simp) (by rw [hn]; exact Nat.le_of_ble_eq_true rfl) (by simp [go_sem]; rfl) (by rw [hn]; exact Nat.le_of_ble_eq_true rfl) (by simp [go_sem]) ?_ | refine vcdC_callG (fun _ _ => vcd_sound) hP hgl (nat_ok) (by simp [go_sem, hP, hgl, hn, nat_v, nT, vT]) rfl (by simp [go_sem]) (by simp) (by rw [hn]; exact Nat.le_of_ble_eq_true rfl) (by simp [go_sem]; rfl) (by rw [hn]; exact Nat.le_of_ble_eq_true rfl) (by simp [go_sem]) ?_
  simp [go_sem, hP, hgl, hn, nat_v, nT, vT]
  repeat (refine ⟨by omega, ?_⟩)
  first | refine vcK_call hP hgl (tree_lam_ok (recT (nT 4 []) (vT 1) (vT 0)) [Ty.mk 1 []]) (by simp [go_sem, hP, hgl, hn, nat_v, nT, vT]) rfl (by simp [go_sem]) (by simp) (by rw [hn]; exact Nat.le_of_ble_eq_true rfl) ?_ | refine vcdC_call (fun _ _ => vcd_sound) hP hgl (tree_lam_ok (recT (nT 4 []) (vT 1) (vT 0)) [Ty.mk 1 []]) (by simp [go_sem, hP, hgl, hn, nat_v, nT, vT]) rfl (by simp [go_sem]) (by simp) (by rw [hn]; exact Nat.le_of_ble_eq_true rfl) ?_ | refine vcK_callG hP hgl (tree_lam_ok (recT (nT 4 []) (vT 1) (vT 0)) [Ty.mk 1 []]) (by simp [go_sem, hP, hgl, hn, nat_v, nT, vT]) rfl (by simp [go_sem]) (by simp) (by rw [hn]; exact Nat.le_of_ble_eq_true rfl) (by simp [go_sem]; rfl) (by rw [hn]; exact Nat.le_of_ble_eq_true rfl) (by simp [go_sem]) ?_ | refine vcdC_callG (fun _ _ => vcd_sound) hP hgl (tree_lam_ok (recT (nT 4 []) (vT 1) (vT 0)) [Ty.mk 1 []]) (by simp [go_sem, hP, hgl, hn, nat_v, nT, vT]) rfl (by simp [go_sem]) (by simp) (by rw [hn]; exact Nat.le_of_ble_eq_true rfl) (by simp [go_sem]; rfl) (by rw [hn]; exact Nat.le_of_ble_eq_true rfl) (by simp [go_sem]) ?_
  simp [go_sem, hP, hgl, hn, nat_v, nT, vT]
  refine t_e ?_
  clear hK K
  refine t_r ?_
  simp [go_sem, hP, hgl, hn, predT, nT, vT] <;> (try omega)
theorem plus_ok : Con1 Tryz.prog gl 31 [] [] plusT.dv [] := by
  refine t_in Tryz.func31 ?_
  intro X hP hgl hf hfn hn hR hids hfit
  refine t_g0 ?_
  refine t_a ?_
  first | refine W_reg [] fun K hK => ?_ | refine W_regd (by rw [hP]; exact mixed) [] fun K hK => ?_
  simp [go_sem, hP, hgl, hn, nT, vT]
  repeat (refine ⟨by omega, ?_⟩)
  first | refine vcK_call hP hgl (tree_var_ok 1) (by simp [go_sem, hP, hgl, hn, nT, vT]) rfl (by simp [go_sem]) (by simp) (by rw [hn]; exact Nat.le_of_ble_eq_true rfl) ?_ | refine vcdC_call (fun _ _ => vcd_sound) hP hgl (tree_var_ok 1) (by simp [go_sem, hP, hgl, hn, nT, vT]) rfl (by simp [go_sem]) (by simp) (by rw [hn]; exact Nat.le_of_ble_eq_true rfl) ?_ | refine vcK_callG hP hgl (tree_var_ok 1) (by simp [go_sem, hP, hgl, hn, nT, vT]) rfl (by simp [go_sem]) (by simp) (by rw [hn]; exact Nat.le_of_ble_eq_true rfl) (by simp [go_sem]; rfl) (by rw [hn]; exact Nat.le_of_ble_eq_true rfl) (by simp [go_sem]) ?_ | refine vcdC_callG (fun _ _ => vcd_sound) hP hgl (tree_var_ok 1) (by simp [go_sem, hP, hgl, hn, nT, vT]) rfl (by simp [go_sem]) (by simp) (by rw [hn]; exact Nat.le_of_ble_eq_true rfl) (by simp [go_sem]; rfl) (by rw [hn]; exact Nat.le_of_ble_eq_true rfl) (by simp [go_sem]) ?_
  simp [go_sem, hP, hgl, hn, nT, vT]
  repeat (refine ⟨by omega, ?_⟩)
  first | refine vcK_call hP hgl (tree_var_ok 0) (by simp [go_sem, hP, hgl, hn, nT, vT]) rfl (by simp [go_sem]) (by simp) (by rw [hn]; exact Nat.le_of_ble_eq_true rfl) ?_ | refine vcdC_call (fun _ _ => vcd_sound) hP hgl (tree_var_ok 0) (by simp [go_sem, hP, hgl, hn, nT, vT]) rfl (by simp [go_sem]) (by simp) (by rw [hn]; exact Nat.le_of_ble_eq_true rfl) ?_ | refine vcK_callG hP hgl (tree_var_ok 0) (by simp [go_sem, hP, hgl, hn, nT, vT]) rfl (by simp [go_sem]) (by simp) (by rw [hn]; exact Nat.le_of_ble_eq_true rfl) (by simp [go_sem]; rfl) (by rw [hn]; exact Nat.le_of_ble_eq_true rfl) (by simp [go_sem]) ?_ | refine vcdC_callG (fun _ _ => vcd_sound) hP hgl (tree_var_ok 0) (by simp [go_sem, hP, hgl, hn, nT, vT]) rfl (by simp [go_sem]) (by simp) (by rw [hn]; exact Nat.le_of_ble_eq_true rfl) (by simp [go_sem]; rfl) (by rw [hn]; exact Nat.le_of_ble_eq_true rfl) (by simp [go_sem]) ?_
  simp [go_sem, hP, hgl, hn, nT, vT]
  repeat (refine ⟨by omega, ?_⟩)
  first | refine vcK_call hP hgl (of_ok 5 [vT 0]) (by simp [go_sem, hP, hgl, hn, nT, vT]) rfl (by simp [go_sem]) (by simp) (by rw [hn]; exact Nat.le_of_ble_eq_true rfl) ?_ | refine vcdC_call (fun _ _ => vcd_sound) hP hgl (of_ok 5 [vT 0]) (by simp [go_sem, hP, hgl, hn, nT, vT]) rfl (by simp [go_sem]) (by simp) (by rw [hn]; exact Nat.le_of_ble_eq_true rfl) ?_ | refine vcK_callG hP hgl (of_ok 5 [vT 0]) (by simp [go_sem, hP, hgl, hn, nT, vT]) rfl (by simp [go_sem]) (by simp) (by rw [hn]; exact Nat.le_of_ble_eq_true rfl) (by simp [go_sem]; rfl) (by rw [hn]; exact Nat.le_of_ble_eq_true rfl) (by simp [go_sem]) ?_ | refine vcdC_callG (fun _ _ => vcd_sound) hP hgl (of_ok 5 [vT 0]) (by simp [go_sem, hP, hgl, hn, nT, vT]) rfl (by simp [go_sem]) (by simp) (by rw [hn]; exact Nat.le_of_ble_eq_true rfl) (by simp [go_sem]; rfl) (by rw [hn]; exact Nat.le_of_ble_eq_true rfl) (by simp [go_sem]) ?_
  simp [go_sem, hP, hgl, hn, nT, vT]
  repeat (refine ⟨by omega, ?_⟩)
  first | refine vcK_call hP hgl (tree_var_ok 0) (by simp [go_sem, hP, hgl, hn, nT, vT]) rfl (by simp [go_sem]) (by simp) (by rw [hn]; exact Nat.le_of_ble_eq_true rfl) ?_ | refine vcdC_call (fun _ _ => vcd_sound) hP hgl (tree_var_ok 0) (by simp [go_sem, hP, hgl, hn, nT, vT]) rfl (by simp [go_sem]) (by simp) (by rw [hn]; exact Nat.le_of_ble_eq_true rfl) ?_ | refine vcK_callG hP hgl (tree_var_ok 0) (by simp [go_sem, hP, hgl, hn, nT, vT]) rfl (by simp [go_sem]) (by simp) (by rw [hn]; exact Nat.le_of_ble_eq_true rfl) (by simp [go_sem]; rfl) (by rw [hn]; exact Nat.le_of_ble_eq_true rfl) (by simp [go_sem]) ?_ | refine vcdC_callG (fun _ _ => vcd_sound) hP hgl (tree_var_ok 0) (by simp [go_sem, hP, hgl, hn, nT, vT]) rfl (by simp [go_sem]) (by simp) (by rw [hn]; exact Nat.le_of_ble_eq_true rfl) (by simp [go_sem]; rfl) (by rw [hn]; exact Nat.le_of_ble_eq_true rfl) (by simp [go_sem]) ?_
  simp [go_sem, hP, hgl, hn, nT, vT]
  repeat (refine ⟨by omega, ?_⟩)
  first | refine vcK_call hP hgl (recursion_ok (vT 1) (nT 5 [vT 0]) (vT 0)) (by simp [go_sem, hP, hgl, hn, nT, vT]) rfl (by simp [go_sem]) (by simp) (by rw [hn]; exact Nat.le_of_ble_eq_true rfl) ?_ | refine vcdC_call (fun _ _ => vcd_sound) hP hgl (recursion_ok (vT 1) (nT 5 [vT 0]) (vT 0)) (by simp [go_sem, hP, hgl, hn, nT, vT]) rfl (by simp [go_sem]) (by simp) (by rw [hn]; exact Nat.le_of_ble_eq_true rfl) ?_ | refine vcK_callG hP hgl (recursion_ok (vT 1) (nT 5 [vT 0]) (vT 0)) (by simp [go_sem, hP, hgl, hn, nT, vT]) rfl (by simp [go_sem]) (by simp) (by rw [hn]; exact Nat.le_of_ble_eq_true rfl) (by simp [go_sem]; rfl) (by rw [hn]; exact Nat.le_of_ble_eq_true rfl) (by simp [go_sem]) ?_ | refine vcdC_callG (fun _ _ => vcd_sound) hP hgl (recursion_ok (vT 1) (nT 5 [vT 0]) (vT 0)) (by simp [go_sem, hP, hgl, hn, nT, vT]) rfl (by simp [go_sem]) (by simp) (by rw [hn]; exact Nat.le_of_ble_eq_true rfl) (by simp [go_sem]; rfl) (by rw [hn]; exact Nat.le_of_ble_eq_true rfl) (by simp [go_sem]) ?_
  simp [go_sem, hP, hgl, hn, nT, vT]
  repeat (refine ⟨by omega, ?_⟩)
  first | refine vcK_call hP hgl (two_ok (recT (vT 1) (nT 5 [vT 0]) (vT 0))) (by simp [go_sem, hP, hgl, hn, nT, vT]) rfl (by simp [go_sem]) (by simp) (by rw [hn]; exact Nat.le_of_ble_eq_true rfl) ?_ | refine vcdC_call (fun _ _ => vcd_sound) hP hgl (two_ok (recT (vT 1) (nT 5 [vT 0]) (vT 0))) (by simp [go_sem, hP, hgl, hn, nT, vT]) rfl (by simp [go_sem]) (by simp) (by rw [hn]; exact Nat.le_of_ble_eq_true rfl) ?_ | refine vcK_callG hP hgl (two_ok (recT (vT 1) (nT 5 [vT 0]) (vT 0))) (by simp [go_sem, hP, hgl, hn, nT, vT]) rfl (by simp [go_sem]) (by simp) (by rw [hn]; exact Nat.le_of_ble_eq_true rfl) (by simp [go_sem]; rfl) (by rw [hn]; exact Nat.le_of_ble_eq_true rfl) (by simp [go_sem]) ?_ | refine vcdC_callG (fun _ _ => vcd_sound) hP hgl (two_ok (recT (vT 1) (nT 5 [vT 0]) (vT 0))) (by simp [go_sem, hP, hgl, hn, nT, vT]) rfl (by simp [go_sem]) (by simp) (by rw [hn]; exact Nat.le_of_ble_eq_true rfl) (by simp [go_sem]; rfl) (by rw [hn]; exact Nat.le_of_ble_eq_true rfl) (by simp [go_sem]) ?_
  simp [go_sem, hP, hgl, hn, nT, vT]
  refine t_e ?_
  clear hK K
  refine t_r ?_
  simp [go_sem, hP, hgl, hn, plusT, nT, vT] <;> (try omega)
theorem times5_ok : Con1 Tryz.prog gl 33 [] [] timesT.dv [] := by
  refine t_in Tryz.func33 ?_
  intro X hP hgl hf hfn hn hR hids hfit
  refine t_g0 ?_
  refine t_a ?_
  first | refine W_reg [] fun K hK => ?_ | refine W_regd (by rw [hP]; exact mixed) [] fun K hK => ?_
  simp [go_sem, hP, hgl, hn, nT, vT]
  repeat (refine ⟨by omega, ?_⟩)
  first | refine vcK_call hP hgl (of_ok 4 []) (by simp [go_sem, hP, hgl, hn, nT, vT]) rfl (by simp [go_sem]) (by simp) (by rw [hn]; exact Nat.le_of_ble_eq_true rfl) ?_ | refine vcdC_call (fun _ _ => vcd_sound) hP hgl (of_ok 4 []) (by simp [go_sem, hP, hgl, hn, nT, vT]) rfl (by simp [go_sem]) (by simp) (by rw [hn]; exact Nat.le_of_ble_eq_true rfl) ?_ | refine vcK_callG hP hgl (of_ok 4 []) (by simp [go_sem, hP, hgl, hn, nT, vT]) rfl (by simp [go_sem]) (by simp) (by rw [hn]; exact Nat.le_of_ble_eq_true rfl) (by simp [go_sem]; rfl) (by rw [hn]; exact Nat.le_of_ble_eq_true rfl) (by simp [go_sem]) ?_ | refine vcdC_callG (fun _ _ => vcd_sound) hP hgl (of_ok 4 []) (by simp [go_sem, hP, hgl, hn, nT, vT]) rfl (by simp [go_sem]) (by simp) (by rw [hn]; exact Nat.le_of_ble_eq_true rfl) (by simp [go_sem]; rfl) (by rw [hn]; exact Nat.le_of_ble_eq_true rfl) (by simp [go_sem]) ?_
  simp [go_sem, hP, hgl, hn, nT, vT]
  repeat (refine ⟨by omega, ?_⟩)
  first | refine vcK_call hP hgl (plus_ok) (by simp [go_sem, hP, hgl, hn, nT, vT]) rfl (by simp [go_sem]) (by simp) (by rw [hn]; exact Nat.le_of_ble_eq_true rfl) ?_ | refine vcdC_call (fun _ _ => vcd_sound) hP hgl (plus_ok) (by simp [go_sem, hP, hgl, hn, nT, vT]) rfl (by simp [go_sem]) (by simp) (by rw [hn]; exact Nat.le_of_ble_eq_true rfl) ?_ | refine vcK_callG hP hgl (plus_ok) (by simp [go_sem, hP, hgl, hn, nT, vT]) rfl (by simp [go_sem]) (by simp) (by rw [hn]; exact Nat.le_of_ble_eq_true rfl) (by simp [go_sem]; rfl) (by rw [hn]; exact Nat.le_of_ble_eq_true rfl) (by simp [go_sem]) ?_ | refine vcdC_callG (fun _ _ => vcd_sound) hP hgl (plus_ok) (by simp [go_sem, hP, hgl, hn, nT, vT]) rfl (by simp [go_sem]) (by simp) (by rw [hn]; exact Nat.le_of_ble_eq_true rfl) (by simp [go_sem]; rfl) (by rw [hn]; exact Nat.le_of_ble_eq_true rfl) (by simp [go_sem]) ?_
  simp [go_sem, hP, hgl, hn, nT, vT]
  repeat (refine ⟨by omega, ?_⟩)
  first | refine vcK_call hP hgl (tree_var_ok 0) (by simp [go_sem, hP, hgl, hn, nT, vT]) rfl (by simp [go_sem]) (by simp) (by rw [hn]; exact Nat.le_of_ble_eq_true rfl) ?_ | refine vcdC_call (fun _ _ => vcd_sound) hP hgl (tree_var_ok 0) (by simp [go_sem, hP, hgl, hn, nT, vT]) rfl (by simp [go_sem]) (by simp) (by rw [hn]; exact Nat.le_of_ble_eq_true rfl) ?_ | refine vcK_callG hP hgl (tree_var_ok 0) (by simp [go_sem, hP, hgl, hn, nT, vT]) rfl (by simp [go_sem]) (by simp) (by rw [hn]; exact Nat.le_of_ble_eq_true rfl) (by simp [go_sem]; rfl) (by rw [hn]; exact Nat.le_of_ble_eq_true rfl) (by simp [go_sem]) ?_ | refine vcdC_callG (fun _ _ => vcd_sound) hP hgl (tree_var_ok 0) (by simp [go_sem, hP, hgl, hn, nT, vT]) rfl (by simp [go_sem]) (by simp) (by rw [hn]; exact Nat.le_of_ble_eq_true rfl) (by simp [go_sem]; rfl) (by rw [hn]; exact Nat.le_of_ble_eq_true rfl) (by simp [go_sem]) ?_
  simp [go_sem, hP, hgl, hn, nT, vT]
  repeat (refine ⟨by omega, ?_⟩)
  first | refine vcK_call hP hgl (tree_var_ok 3) (by simp [go_sem, hP, hgl, hn, nT, vT]) rfl (by simp [go_sem]) (by simp) (by rw [hn]; exact Nat.le_of_ble_eq_true rfl) ?_ | refine vcdC_call (fun _ _ => vcd_sound) hP hgl (tree_var_ok 3) (by simp [go_sem, hP, hgl, hn, nT, vT]) rfl (by simp [go_sem]) (by simp) (by rw [hn]; exact Nat.le_of_ble_eq_true rfl) ?_ | refine vcK_callG hP hgl (tree_var_ok 3) (by simp [go_sem, hP, hgl, hn, nT, vT]) rfl (by simp [go_sem]) (by simp) (by rw [hn]; exact Nat.le_of_ble_eq_true rfl) (by simp [go_sem]; rfl) (by rw [hn]; exact Nat.le_of_ble_eq_true rfl) (by simp [go_sem]) ?_ | refine vcdC_callG (fun _ _ => vcd_sound) hP hgl (tree_var_ok 3) (by simp [go_sem, hP, hgl, hn, nT, vT]) rfl (by simp [go_sem]) (by simp) (by rw [hn]; exact Nat.le_of_ble_eq_true rfl) (by simp [go_sem]; rfl) (by rw [hn]; exact Nat.le_of_ble_eq_true rfl) (by simp [go_sem]) ?_
  simp [go_sem, hP, hgl, hn, nT, vT]
  repeat (refine ⟨by omega, ?_⟩)
  first | refine vcK_call hP hgl (tree_app_ok plusT [vT 0, vT 3]) (by simp [go_sem, hP, hgl, hn, nT, vT]) rfl (by simp [go_sem]) (by simp) (by rw [hn]; exact Nat.le_of_ble_eq_true rfl) ?_ | refine vcdC_call (fun _ _ => vcd_sound) hP hgl (tree_app_ok plusT [vT 0, vT 3]) (by simp [go_sem, hP, hgl, hn, nT, vT]) rfl (by simp [go_sem]) (by simp) (by rw [hn]; exact Nat.le_of_ble_eq_true rfl) ?_ | refine vcK_callG hP hgl (tree_app_ok plusT [vT 0, vT 3]) (by simp [go_sem, hP, hgl, hn, nT, vT]) rfl (by simp [go_sem]) (by simp) (by rw [hn]; exact Nat.le_of_ble_eq_true rfl) (by simp [go_sem]; rfl) (by rw [hn]; exact Nat.le_of_ble_eq_true rfl) (by simp [go_sem]) ?_ | refine vcdC_callG (fun _ _ => vcd_sound) hP hgl (tree_app_ok plusT [vT 0, vT 3]) (by simp [go_sem, hP, hgl, hn, nT, vT]) rfl (by simp [go_sem]) (by simp) (by rw [hn]; exact Nat.le_of_ble_eq_true rfl) (by simp [go_sem]; rfl) (by rw [hn]; exact Nat.le_of_ble_eq_true rfl) (by simp [go_sem]) ?_
  simp [go_sem, hP, hgl, hn, nT, vT]
  repeat (refine ⟨by omega, ?_⟩)
  first | refine vcK_call hP hgl (tree_var_ok 0) (by simp [go_sem, hP, hgl, hn, nT, vT]) rfl (by simp [go_sem]) (by simp) (by rw [hn]; exact Nat.le_of_ble_eq_true rfl) ?_ | refine vcdC_call (fun _ _ => vcd_sound) hP hgl (tree_var_ok 0) (by simp [go_sem, hP, hgl, hn, nT, vT]) rfl (by simp [go_sem]) (by simp) (by rw [hn]; exact Nat.le_of_ble_eq_true rfl) ?_ | refine vcK_callG hP hgl (tree_var_ok 0) (by simp [go_sem, hP, hgl, hn, nT, vT]) rfl (by simp [go_sem]) (by simp) (by rw [hn]; exact Nat.le_of_ble_eq_true rfl) (by simp [go_sem]; rfl) (by rw [hn]; exact Nat.le_of_ble_eq_true rfl) (by simp [go_sem]) ?_ | refine vcdC_callG (fun _ _ => vcd_sound) hP hgl (tree_var_ok 0) (by simp [go_sem, hP, hgl, hn, nT, vT]) rfl (by simp [go_sem]) (by simp) (by rw [hn]; exact Nat.le_of_ble_eq_true rfl) (by simp [go_sem]; rfl) (by rw [hn]; exact Nat.le_of_ble_eq_true rfl) (by simp [go_sem]) ?_
  simp [go_sem, hP, hgl, hn, nT, vT]
  repeat (refine ⟨by omega, ?_⟩)
  first | refine vcK_call hP hgl (recursion_ok (nT 4 []) (appsT plusT [vT 0, vT 3]) (vT 0)) (by simp [go_sem, hP, hgl, hn, nT, vT]) rfl (by simp [go_sem]) (by simp) (by rw [hn]; exact Nat.le_of_ble_eq_true rfl) ?_ | refine vcdC_call (fun _ _ => vcd_sound) hP hgl (recursion_ok (nT 4 []) (appsT plusT [vT 0, vT 3]) (vT 0)) (by simp [go_sem, hP, hgl, hn, nT, vT]) rfl (by simp [go_sem]) (by simp) (by rw [hn]; exact Nat.le_of_ble_eq_true rfl) ?_ | refine vcK_callG hP hgl (recursion_ok (nT 4 []) (appsT plusT [vT 0, vT 3]) (vT 0)) (by simp [go_sem, hP, hgl, hn, nT, vT]) rfl (by simp [go_sem]) (by simp) (by rw [hn]; exact Nat.le_of_ble_eq_true rfl) (by simp [go_sem]; rfl) (by rw [hn]; exact Nat.le_of_ble_eq_true rfl) (by simp [go_sem]) ?_ | refine vcdC_callG (fun _ _ => vcd_sound) hP hgl (recursion_ok (nT 4 []) (appsT plusT [vT 0, vT 3]) (vT 0)) (by simp [go_sem, hP, hgl, hn, nT, vT]) rfl (by simp [go_sem]) (by simp) (by rw [hn]; exact Nat.le_of_ble_eq_true rfl) (by simp [go_sem]; rfl) (by rw [hn]; exact Nat.le_of_ble_eq_true rfl) (by simp [go_sem]) ?_
  simp [go_sem, hP, hgl, hn, nT, vT]
  repeat (refine ⟨by omega, ?_⟩)
  first | refine vcK_call hP hgl (two_ok (recT (nT 4 []) (appsT plusT [vT 0, vT 3]) (vT 0))) (by simp [go_sem, hP, hgl, hn, nT, vT]) rfl (by simp [go_sem]) (by simp) (by rw [hn]; exact Nat.le_of_ble_eq_true rfl) ?_ | refine vcdC_call (fun _ _ => vcd_sound) hP hgl (two_ok (recT (nT 4 []) (appsT plusT [vT 0, vT 3]) (vT 0))) (by simp [go_sem, hP, hgl, hn, nT, vT]) rfl (by simp [go_sem]) (by simp) (by rw [hn]; exact Nat.le_of_ble_eq_true rfl) ?_ | refine vcK_callG hP hgl (two_ok (recT (nT 4 []) (appsT plusT [vT 0, vT 3]) (vT 0))) (by simp [go_sem, hP, hgl, hn, nT, vT]) rfl (by simp [go_sem]) (by simp) (by rw [hn]; exact Nat.le_of_ble_eq_true rfl) (by simp [go_sem]; rfl) (by rw [hn]; exact Nat.le_of_ble_eq_true rfl) (by simp [go_sem]) ?_ | refine vcdC_callG (fun _ _ => vcd_sound) hP hgl (two_ok (recT (nT 4 []) (appsT plusT [vT 0, vT 3]) (vT 0))) (by simp [go_sem, hP, hgl, hn, nT, vT]) rfl (by simp [go_sem]) (by simp) (by rw [hn]; exact Nat.le_of_ble_eq_true rfl) (by simp [go_sem]; rfl) (by rw [hn]; exact Nat.le_of_ble_eq_true rfl) (by simp [go_sem]) ?_
  simp [go_sem, hP, hgl, hn, nT, vT]
  refine t_e ?_
  clear hK K
  refine t_r ?_
  simp [go_sem, hP, hgl, hn, timesT, nT, vT] <;> (try omega)
theorem sub_ok : Con1 Tryz.prog gl 35 [] [] subT.dv [] := by
  refine t_in Tryz.func35 ?_
  intro X hP hgl hf hfn hn hR hids hfit
  refine t_g0 ?_
  refine t_a ?_
  first | refine W_reg [] fun K hK => ?_ | refine W_regd (by rw [hP]; exact mixed) [] fun K hK => ?_
  simp [go_sem, hP, hgl, hn, nT, vT]
  repeat (refine ⟨by omega, ?_⟩)
  first | refine vcK_call hP hgl (tree_var_ok 1) (by simp [go_sem, hP, hgl, hn, nT, vT]) rfl (by simp [go_sem]) (by simp) (by rw [hn]; exact Nat.le_of_ble_eq_true rfl) ?_ | refine vcdC_call (fun _ _ => vcd_sound) hP hgl (tree_var_ok 1) (by simp [go_sem, hP, hgl, hn, nT, vT]) rfl (by simp [go_sem]) (by simp) (by rw [hn]; exact Nat.le_of_ble_eq_true rfl) ?_ | refine vcK_callG hP hgl (tree_var_ok 1) (by simp [go_sem, hP, hgl, hn, nT, vT]) rfl (by simp [go_sem]) (by simp) (by rw [hn]; exact Nat.le_of_ble_eq_true rfl) (by simp [go_sem]; rfl) (by rw [hn]; exact Nat.le_of_ble_eq_true rfl) (by simp [go_sem]) ?_ | refine vcdC_callG (fun _ _ => vcd_sound) hP hgl (tree_var_ok 1) (by simp [go_sem, hP, hgl, hn, nT, vT]) rfl (by simp [go_sem]) (by simp) (by rw [hn]; exact Nat.le_of_ble_eq_true rfl) (by simp [go_sem]; rfl) (by rw [hn]; exact Nat.le_of_ble_eq_true rfl) (by simp [go_sem]) ?_
  simp [go_sem, hP, hgl, hn, nT, vT]
  repeat (refine ⟨by omega, ?_⟩)
  first | refine vcK_call hP hgl (pred_ok) (by simp [go_sem, hP, hgl, hn, nT, vT]) rfl (by simp [go_sem]) (by simp) (by rw [hn]; exact Nat.le_of_ble_eq_true rfl) ?_ | refine vcdC_call (fun _ _ => vcd_sound) hP hgl (pred_ok) (by simp [go_sem, hP, hgl, hn, nT, vT]) rfl (by simp [go_sem]) (by simp) (by rw [hn]; exact Nat.le_of_ble_eq_true rfl) ?_ | refine vcK_callG hP hgl (pred_ok) (by simp [go_sem, hP, hgl, hn, nT, vT]) rfl (by simp [go_sem]) (by simp) (by rw [hn]; exact Nat.le_of_ble_eq_true rfl) (by simp [go_sem]; rfl) (by rw [hn]; exact Nat.le_of_ble_eq_true rfl) (by simp [go_sem]) ?_ | refine vcdC_callG (fun _ _ => vcd_sound) hP hgl (pred_ok) (by simp [go_sem, hP, hgl, hn, nT, vT]) rfl (by simp [go_sem]) (by simp) (by rw [hn]; exact Nat.le_of_ble_eq_true rfl) (by simp [go_sem]; rfl) (by rw [hn]; exact Nat.le_of_ble_eq_true rfl) (by simp [go_sem]) ?_
  simp [go_sem, hP, hgl, hn, nT, vT]
  repeat (refine ⟨by omega, ?_⟩)
  first | refine vcK_call hP hgl (tree_var_ok 0) (by simp [go_sem, hP, hgl, hn, nT, vT]) rfl (by simp [go_sem]) (by simp) (by rw [hn]; exact Nat.le_of_ble_eq_true rfl) ?_ | refine vcdC_call (fun _ _ => vcd_sound) hP hgl (tree_var_ok 0) (by simp [go_sem, hP, hgl, hn, nT, vT]) rfl (by simp [go_sem]) (by simp) (by rw [hn]; exact Nat.le_of_ble_eq_true rfl) ?_ | refine vcK_callG hP hgl (tree_var_ok 0) (by simp [go_sem, hP, hgl, hn, nT, vT]) rfl (by simp [go_sem]) (by simp) (by rw [hn]; exact Nat.le_of_ble_eq_true rfl) (by simp [go_sem]; rfl) (by rw [hn]; exact Nat.le_of_ble_eq_true rfl) (by simp [go_sem]) ?_ | refine vcdC_callG (fun _ _ => vcd_sound) hP hgl (tree_var_ok 0) (by simp [go_sem, hP, hgl, hn, nT, vT]) rfl (by simp [go_sem]) (by simp) (by rw [hn]; exact Nat.le_of_ble_eq_true rfl) (by simp [go_sem]; rfl) (by rw [hn]; exact Nat.le_of_ble_eq_true rfl) (by simp [go_sem]) ?_
  simp [go_sem, hP, hgl, hn, nT, vT]
  repeat (refine ⟨by omega, ?_⟩)
  first | refine vcK_call hP hgl (tree_app_ok predT [vT 0]) (by simp [go_sem, hP, hgl, hn, nT, vT]) rfl (by simp [go_sem]) (by simp) (by rw [hn]; exact Nat.le_of_ble_eq_true rfl) ?_ | refine vcdC_call (fun _ _ => vcd_sound) hP hgl (tree_app_ok predT [vT 0]) (by simp [go_sem, hP, hgl, hn, nT, vT]) rfl (by simp [go_sem]) (by simp) (by rw [hn]; exact Nat.le_of_ble_eq_true rfl) ?_ | refine vcK_callG hP hgl (tree_app_ok predT [vT 0]) (by simp [go_sem, hP, hgl, hn, nT, vT]) rfl (by simp [go_sem]) (by simp) (by rw [hn]; exact Nat.le_of_ble_eq_true rfl) (by simp [go_sem]; rfl) (by rw [hn]; exact Nat.le_of_ble_eq_true rfl) (by simp [go_sem]) ?_ | refine vcdC_callG (fun _ _ => vcd_sound) hP hgl (tree_app_ok predT [vT 0]) (by simp [go_sem, hP, hgl, hn, nT, vT]) rfl (by simp [go_sem]) (by simp) (by rw [hn]; exact Nat.le_of_ble_eq_true rfl) (by simp [go_sem]; rfl) (by rw [hn]; exact Nat.le_of_ble_eq_true rfl) (by simp [go_sem]) ?_
  simp [go_sem, hP, hgl, hn, nT, vT]
  repeat (refine ⟨by omega, ?_⟩)
  first | refine vcK_call hP hgl (tree_var_ok 0) (by simp [go_sem, hP, hgl, hn, nT, vT]) rfl (by simp [go_sem]) (by simp) (by rw [hn]; exact Nat.le_of_ble_eq_true rfl) ?_ | refine vcdC_call (fun _ _ => vcd_sound) hP hgl (tree_var_ok 0) (by simp [go_sem, hP, hgl, hn, nT, vT]) rfl (by simp [go_sem]) (by simp) (by rw [hn]; exact Nat.le_of_ble_eq_true rfl) ?_ | refine vcK_callG hP hgl (tree_var_ok 0) (by simp [go_sem, hP, hgl, hn, nT, vT]) rfl (by simp [go_sem]) (by simp) (by rw [hn]; exact Nat.le_of_ble_eq_true rfl) (by simp [go_sem]; rfl) (by rw [hn]; exact Nat.le_of_ble_eq_true rfl) (by simp [go_sem]) ?_ | refine vcdC_callG (fun _ _ => vcd_sound) hP hgl (tree_var_ok 0) (by simp [go_sem, hP, hgl, hn, nT, vT]) rfl (by simp [go_sem]) (by simp) (by rw [hn]; exact Nat.le_of_ble_eq_true rfl) (by simp [go_sem]; rfl) (by rw [hn]; exact Nat.le_of_ble_eq_true rfl) (by simp [go_sem]) ?_
  simp [go_sem, hP, hgl, hn, nT, vT]
  repeat (refine ⟨by omega, ?_⟩)
  first | refine vcK_call hP hgl (recursion_ok (vT 1) (appsT predT [vT 0]) (vT 0)) (by simp [go_sem, hP, hgl, hn, nT, vT]) rfl (by simp [go_sem]) (by simp) (by rw [hn]; exact Nat.le_of_ble_eq_true rfl) ?_ | refine vcdC_call (fun _ _ => vcd_sound) hP hgl (recursion_ok (vT 1) (appsT predT [vT 0]) (vT 0)) (by simp [go_sem, hP, hgl, hn, nT, vT]) rfl (by simp [go_sem]) (by simp) (by rw [hn]; exact Nat.le_of_ble_eq_true rfl) ?_ | refine vcK_callG hP hgl (recursion_ok (vT 1) (appsT predT [vT 0]) (vT 0)) (by simp [go_sem, hP, hgl, hn, nT, vT]) rfl (by simp [go_sem]) (by simp) (by rw [hn]; exact Nat.le_of_ble_eq_true rfl) (by simp [go_sem]; rfl) (by rw [hn]; exact Nat.le_of_ble_eq_true rfl) (by simp [go_sem]) ?_ | refine vcdC_callG (fun _ _ => vcd_sound) hP hgl (recursion_ok (vT 1) (appsT predT [vT 0]) (vT 0)) (by simp [go_sem, hP, hgl, hn, nT, vT]) rfl (by simp [go_sem]) (by simp) (by rw [hn]; exact Nat.le_of_ble_eq_true rfl) (by simp [go_sem]; rfl) (by rw [hn]; exact Nat.le_of_ble_eq_true rfl) (by simp [go_sem]) ?_
  simp [go_sem, hP, hgl, hn, nT, vT]
  repeat (refine ⟨by omega, ?_⟩)
  first | refine vcK_call hP hgl (two_ok (recT (vT 1) (appsT predT [vT 0]) (vT 0))) (by simp [go_sem, hP, hgl, hn, nT, vT]) rfl (by simp [go_sem]) (by simp) (by rw [hn]; exact Nat.le_of_ble_eq_true rfl) ?_ | refine vcdC_call (fun _ _ => vcd_sound) hP hgl (two_ok (recT (vT 1) (appsT predT [vT 0]) (vT 0))) (by simp [go_sem, hP, hgl, hn, nT, vT]) rfl (by simp [go_sem]) (by simp) (by rw [hn]; exact Nat.le_of_ble_eq_true rfl) ?_ | refine vcK_callG hP hgl (two_ok (recT (vT 1) (appsT predT [vT 0]) (vT 0))) (by simp [go_sem, hP, hgl, hn, nT, vT]) rfl (by simp [go_sem]) (by simp) (by rw [hn]; exact Nat.le_of_ble_eq_true rfl) (by simp [go_sem]; rfl) (by rw [hn]; exact Nat.le_of_ble_eq_true rfl) (by simp [go_sem]) ?_ | refine vcdC_callG (fun _ _ => vcd_sound) hP hgl (two_ok (recT (vT 1) (appsT predT [vT 0]) (vT 0))) (by simp [go_sem, hP, hgl, hn, nT, vT]) rfl (by simp [go_sem]) (by simp) (by rw [hn]; exact Nat.le_of_ble_eq_true rfl) (by simp [go_sem]; rfl) (by rw [hn]; exact Nat.le_of_ble_eq_true rfl) (by simp [go_sem]) ?_
  simp [go_sem, hP, hgl, hn, nT, vT]
  refine t_e ?_
  clear hK K
  refine t_r ?_
  simp [go_sem, hP, hgl, hn, subT, nT, vT] <;> (try omega)
theorem dist_ok : Con1 Tryz.prog gl 37 [] [] distT.dv [] := by
  refine t_in Tryz.func37 ?_
  intro X hP hgl hf hfn hn hR hids hfit
  refine t_g0 ?_
  refine t_a ?_
  first | refine W_reg [] fun K hK => ?_ | refine W_regd (by rw [hP]; exact mixed) [] fun K hK => ?_
  simp [go_sem, hP, hgl, hn, nT, vT]
  repeat (refine ⟨by omega, ?_⟩)
  first | refine vcK_call hP hgl (plus_ok) (by simp [go_sem, hP, hgl, hn, nT, vT]) rfl (by simp [go_sem]) (by simp) (by rw [hn]; exact Nat.le_of_ble_eq_true rfl) ?_ | refine vcdC_call (fun _ _ => vcd_sound) hP hgl (plus_ok) (by simp [go_sem, hP, hgl, hn, nT, vT]) rfl (by simp [go_sem]) (by simp) (by rw [hn]; exact Nat.le_of_ble_eq_true rfl) ?_ | refine vcK_callG hP hgl (plus_ok) (by simp [go_sem, hP, hgl, hn, nT, vT]) rfl (by simp [go_sem]) (by simp) (by rw [hn]; exact Nat.le_of_ble_eq_true rfl) (by simp [go_sem]; rfl) (by rw [hn]; exact Nat.le_of_ble_eq_true rfl) (by simp [go_sem]) ?_ | refine vcdC_callG (fun _ _ => vcd_sound) hP hgl (plus_ok) (by simp [go_sem, hP, hgl, hn, nT, vT]) rfl (by simp [go_sem]) (by simp) (by rw [hn]; exact Nat.le_of_ble_eq_true rfl) (by simp [go_sem]; rfl) (by rw [hn]; exact Nat.le_of_ble_eq_true rfl) (by simp [go_sem]) ?_
  simp [go_sem, hP, hgl, hn, nT, vT]
  repeat (refine ⟨by omega, ?_⟩)
  first | refine vcK_call hP hgl (sub_ok) (by simp [go_sem, hP, hgl, hn, nT, vT]) rfl (by simp [go_sem]) (by simp) (by rw [hn]; exact Nat.le_of_ble_eq_true rfl) ?_ | refine vcdC_call (fun _ _ => vcd_sound) hP hgl (sub_ok) (by simp [go_sem, hP, hgl, hn, nT, vT]) rfl (by simp [go_sem]) (by simp) (by rw [hn]; exact Nat.le_of_ble_eq_true rfl) ?_ | refine vcK_callG hP hgl (sub_ok) (by simp [go_sem, hP, hgl, hn, nT, vT]) rfl (by simp [go_sem]) (by simp) (by rw [hn]; exact Nat.le_of_ble_eq_true rfl) (by simp [go_sem]; rfl) (by rw [hn]; exact Nat.le_of_ble_eq_true rfl) (by simp [go_sem]) ?_ | refine vcdC_callG (fun _ _ => vcd_sound) hP hgl (sub_ok) (by simp [go_sem, hP, hgl, hn, nT, vT]) rfl (by simp [go_sem]) (by simp) (by rw [hn]; exact Nat.le_of_ble_eq_true rfl) (by simp [go_sem]; rfl) (by rw [hn]; exact Nat.le_of_ble_eq_true rfl) (by simp [go_sem]) ?_
  simp [go_sem, hP, hgl, hn, nT, vT]
  repeat (refine ⟨by omega, ?_⟩)
  first | refine vcK_call hP hgl (tree_var_ok 1) (by simp [go_sem, hP, hgl, hn, nT, vT]) rfl (by simp [go_sem]) (by simp) (by rw [hn]; exact Nat.le_of_ble_eq_true rfl) ?_ | refine vcdC_call (fun _ _ => vcd_sound) hP hgl (tree_var_ok 1) (by simp [go_sem, hP, hgl, hn, nT, vT]) rfl (by simp [go_sem]) (by simp) (by rw [hn]; exact Nat.le_of_ble_eq_true rfl) ?_ | refine vcK_callG hP hgl (tree_var_ok 1) (by simp [go_sem, hP, hgl, hn, nT, vT]) rfl (by simp [go_sem]) (by simp) (by rw [hn]; exact Nat.le_of_ble_eq_true rfl) (by simp [go_sem]; rfl) (by rw [hn]; exact Nat.le_of_ble_eq_true rfl) (by simp [go_sem]) ?_ | refine vcdC_callG (fun _ _ => vcd_sound) hP hgl (tree_var_ok 1) (by simp [go_sem, hP, hgl, hn, nT, vT]) rfl (by simp [go_sem]) (by simp) (by rw [hn]; exact Nat.le_of_ble_eq_true rfl) (by simp [go_sem]; rfl) (by rw [hn]; exact Nat.le_of_ble_eq_true rfl) (by simp [go_sem]) ?_
  simp [go_sem, hP, hgl, hn, nT, vT]
  repeat (refine ⟨by omega, ?_⟩)
  first | refine vcK_call hP hgl (tree_var_ok 0) (by simp [go_sem, hP, hgl, hn, nT, vT]) rfl (by simp [go_sem]) (by simp) (by rw [hn]; exact Nat.le_of_ble_eq_true rfl) ?_ | refine vcdC_call (fun _ _ => vcd_sound) hP hgl (tree_var_ok 0) (by simp [go_sem, hP, hgl, hn, nT, vT]) rfl (by simp [go_sem]) (by simp) (by rw [hn]; exact Nat.le_of_ble_eq_true rfl) ?_ | refine vcK_callG hP hgl (tree_var_ok 0) (by simp [go_sem, hP, hgl, hn, nT, vT]) rfl (by simp [go_sem]) (by simp) (by rw [hn]; exact Nat.le_of_ble_eq_true rfl) (by simp [go_sem]; rfl) (by rw [hn]; exact Nat.le_of_ble_eq_true rfl) (by simp [go_sem]) ?_ | refine vcdC_callG (fun _ _ => vcd_sound) hP hgl (tree_var_ok 0) (by simp [go_sem, hP, hgl, hn, nT, vT]) rfl (by simp [go_sem]) (by simp) (by rw [hn]; exact Nat.le_of_ble_eq_true rfl) (by simp [go_sem]; rfl) (by rw [hn]; exact Nat.le_of_ble_eq_true rfl) (by simp [go_sem]) ?_
  simp [go_sem, hP, hgl, hn, nT, vT]
  repeat (refine ⟨by omega, ?_⟩)
  first | refine vcK_call hP hgl (tree_app_ok subT [vT 1, vT 0]) (by simp [go_sem, hP, hgl, hn, nT, vT]) rfl (by simp [go_sem]) (by simp) (by rw [hn]; exact Nat.le_of_ble_eq_true rfl) ?_ | refine vcdC_call (fun _ _ => vcd_sound) hP hgl (tree_app_ok subT [vT 1, vT 0]) (by simp [go_sem, hP, hgl, hn, nT, vT]) rfl (by simp [go_sem]) (by simp) (by rw [hn]; exact Nat.le_of_ble_eq_true rfl) ?_ | refine vcK_callG hP hgl (tree_app_ok subT [vT 1, vT 0]) (by simp [go_sem, hP, hgl, hn, nT, vT]) rfl (by simp [go_sem]) (by simp) (by rw [hn]; exact Nat.le_of_ble_eq_true rfl) (by simp [go_sem]; rfl) (by rw [hn]; exact Nat.le_of_ble_eq_true rfl) (by simp [go_sem]) ?_ | refine vcdC_callG (fun _ _ => vcd_sound) hP hgl (tree_app_ok subT [vT 1, vT 0]) (by simp [go_sem, hP, hgl, hn, nT, vT]) rfl (by simp [go_sem]) (by simp) (by rw [hn]; exact Nat.le_of_ble_eq_true rfl) (by simp [go_sem]; rfl) (by rw [hn]; exact Nat.le_of_ble_eq_true rfl) (by simp [go_sem]) ?_
  simp [go_sem, hP, hgl, hn, nT, vT]
  repeat (refine ⟨by omega, ?_⟩)
  first | refine vcK_call hP hgl (sub_ok) (by simp [go_sem, hP, hgl, hn, nT, vT]) rfl (by simp [go_sem]) (by simp) (by rw [hn]; exact Nat.le_of_ble_eq_true rfl) ?_ | refine vcdC_call (fun _ _ => vcd_sound) hP hgl (sub_ok) (by simp [go_sem, hP, hgl, hn, nT, vT]) rfl (by simp [go_sem]) (by simp) (by rw [hn]; exact Nat.le_of_ble_eq_true rfl) ?_ | refine vcK_callG hP hgl (sub_ok) (by simp [go_sem, hP, hgl, hn, nT, vT]) rfl (by simp [go_sem]) (by simp) (by rw [hn]; exact Nat.le_of_ble_eq_true rfl) (by simp [go_sem]; rfl) (by rw [hn]; exact Nat.le_of_ble_eq_true rfl) (by simp [go_sem]) ?_ | refine vcdC_callG (fun _ _ => vcd_sound) hP hgl (sub_ok) (by simp [go_sem, hP, hgl, hn, nT, vT]) rfl (by simp [go_sem]) (by simp) (by rw [hn]; exact Nat.le_of_ble_eq_true rfl) (by simp [go_sem]; rfl) (by rw [hn]; exact Nat.le_of_ble_eq_true rfl) (by simp [go_sem]) ?_
  simp [go_sem, hP, hgl, hn, nT, vT]
  repeat (refine ⟨by omega, ?_⟩)
  first | refine vcK_call hP hgl (tree_var_ok 0) (by simp [go_sem, hP, hgl, hn, nT, vT]) rfl (by simp [go_sem]) (by simp) (by rw [hn]; exact Nat.le_of_ble_eq_true rfl) ?_ | refine vcdC_call (fun _ _ => vcd_sound) hP hgl (tree_var_ok 0) (by simp [go_sem, hP, hgl, hn, nT, vT]) rfl (by simp [go_sem]) (by simp) (by rw [hn]; exact Nat.le_of_ble_eq_true rfl) ?_ | refine vcK_callG hP hgl (tree_var_ok 0) (by simp [go_sem, hP, hgl, hn, nT, vT]) rfl (by simp [go_sem]) (by simp) (by rw [hn]; exact Nat.le_of_ble_eq_true rfl) (by simp [go_sem]; rfl) (by rw [hn]; exact Nat.le_of_ble_eq_true rfl) (by simp [go_sem]) ?_ | refine vcdC_callG (fun _ _ => vcd_sound) hP hgl (tree_var_ok 0) (by simp [go_sem, hP, hgl, hn, nT, vT]) rfl (by simp [go_sem]) (by simp) (by rw [hn]; exact Nat.le_of_ble_eq_true rfl) (by simp [go_sem]; rfl) (by rw [hn]; exact Nat.le_of_ble_eq_true rfl) (by simp [go_sem]) ?_
  simp [go_sem, hP, hgl, hn, nT, vT]
  repeat (refine ⟨by omega, ?_⟩)
  first | refine vcK_call hP hgl (tree_var_ok 1) (by simp [go_sem, hP, hgl, hn, nT, vT]) rfl (by simp [go_sem]) (by simp) (by rw [hn]; exact Nat.le_of_ble_eq_true rfl) ?_ | refine vcdC_call (fun _ _ => vcd_sound) hP hgl (tree_var_ok 1) (by simp [go_sem, hP, hgl, hn, nT, vT]) rfl (by simp [go_sem]) (by simp) (by rw [hn]; exact Nat.le_of_ble_eq_true rfl) ?_ | refine vcK_callG hP hgl (tree_var_ok 1) (by simp [go_sem, hP, hgl, hn, nT, vT]) rfl (by simp [go_sem]) (by simp) (by rw [hn]; exact Nat.le_of_ble_eq_true rfl) (by simp [go_sem]; rfl) (by rw [hn]; exact Nat.le_of_ble_eq_true rfl) (by simp [go_sem]) ?_ | refine vcdC_callG (fun _ _ => vcd_sound) hP hgl (tree_var_ok 1) (by simp [go_sem, hP, hgl, hn, nT, vT]) rfl (by simp [go_sem]) (by simp) (by rw [hn]; exact Nat.le_of_ble_eq_true rfl) (by simp [go_sem]; rfl) (by rw [hn]; exact Nat.le_of_ble_eq_true rfl) (by simp [go_sem]) ?_
  simp [go_sem, hP, hgl, hn, nT, vT]
  repeat (refine ⟨by omega, ?_⟩)
  first | refine vcK_call hP hgl (tree_app_ok subT [vT 0, vT 1]) (by simp [go_sem, hP, hgl, hn, nT, vT]) rfl (by simp [go_sem]) (by simp) (by rw [hn]; exact Nat.le_of_ble_eq_true rfl) ?_ | refine vcdC_call (fun _ _ => vcd_sound) hP hgl (tree_app_ok subT [vT 0, vT 1]) (by simp [go_sem, hP, hgl, hn, nT, vT]) rfl (by simp [go_sem]) (by simp) (by rw [hn]; exact Nat.le_of_ble_eq_true rfl) ?_ | refine vcK_callG hP hgl (tree_app_ok subT [vT 0, vT 1]) (by simp [go_sem, hP, hgl, hn, nT, vT]) rfl (by simp [go_sem]) (by simp) (by rw [hn]; exact Nat.le_of_ble_eq_true rfl) (by simp [go_sem]; rfl) (by rw [hn]; exact Nat.le_of_ble_eq_true rfl) (by simp [go_sem]) ?_ | refine vcdC_callG (fun _ _ => vcd_sound) hP hgl (tree_app_ok subT [vT 0, vT 1]) (by simp [go_sem, hP, hgl, hn, nT, vT]) rfl (by simp [go_sem]) (by simp) (by rw [hn]; exact Nat.le_of_ble_eq_true rfl) (by simp [go_sem]; rfl) (by rw [hn]; exact Nat.le_of_ble_eq_true rfl) (by simp [go_sem]) ?_
  simp [go_sem, hP, hgl, hn, nT, vT]
  repeat (refine ⟨by omega, ?_⟩)
  first | refine vcK_call hP hgl (tree_app_ok plusT [appsT subT [vT 1, vT 0], appsT subT [vT 0, vT 1]]) (by simp [go_sem, hP, hgl, hn, nT, vT]) rfl (by simp [go_sem]) (by simp) (by rw [hn]; exact Nat.le_of_ble_eq_true rfl) ?_ | refine vcdC_call (fun _ _ => vcd_sound) hP hgl (tree_app_ok plusT [appsT subT [vT 1, vT 0], appsT subT [vT 0, vT 1]]) (by simp [go_sem, hP, hgl, hn, nT, vT]) rfl (by simp [go_sem]) (by simp) (by rw [hn]; exact Nat.le_of_ble_eq_true rfl) ?_ | refine vcK_callG hP hgl (tree_app_ok plusT [appsT subT [vT 1, vT 0], appsT subT [vT 0, vT 1]]) (by simp [go_sem, hP, hgl, hn, nT, vT]) rfl (by simp [go_sem]) (by simp) (by rw [hn]; exact Nat.le_of_ble_eq_true rfl) (by simp [go_sem]; rfl) (by rw [hn]; exact Nat.le_of_ble_eq_true rfl) (by simp [go_sem]) ?_ | refine vcdC_callG (fun _ _ => vcd_sound) hP hgl (tree_app_ok plusT [appsT subT [vT 1, vT 0], appsT subT [vT 0, vT 1]]) (by simp [go_sem, hP, hgl, hn, nT, vT]) rfl (by simp [go_sem]) (by simp) (by rw [hn]; exact Nat.le_of_ble_eq_true rfl) (by simp [go_sem]; rfl) (by rw [hn]; exact Nat.le_of_ble_eq_true rfl) (by simp [go_sem]) ?_
  simp [go_sem, hP, hgl, hn, nT, vT]
  repeat (refine ⟨by omega, ?_⟩)
  first | refine vcK_call hP hgl (two_ok (appsT plusT [appsT subT [vT 1, vT 0], appsT subT [vT 0, vT 1]])) (by simp [go_sem, hP, hgl, hn, nT, vT]) rfl (by simp [go_sem]) (by simp) (by rw [hn]; exact Nat.le_of_ble_eq_true rfl) ?_ | refine vcdC_call (fun _ _ => vcd_sound) hP hgl (two_ok (appsT plusT [appsT subT [vT 1, vT 0], appsT subT [vT 0, vT 1]])) (by simp [go_sem, hP, hgl, hn, nT, vT]) rfl (by simp [go_sem]) (by simp) (by rw [hn]; exact Nat.le_of_ble_eq_true rfl) ?_ | refine vcK_callG hP hgl (two_ok (appsT plusT [appsT subT [vT 1, vT 0], appsT subT [vT 0, vT 1]])) (by simp [go_sem, hP, hgl, hn, nT, vT]) rfl (by simp [go_sem]) (by simp) (by rw [hn]; exact Nat.le_of_ble_eq_true rfl) (by simp [go_sem]; rfl) (by rw [hn]; exact Nat.le_of_ble_eq_true rfl) (by simp [go_sem]) ?_ | refine vcdC_callG (fun _ _ => vcd_sound) hP hgl (two_ok (appsT plusT [appsT subT [vT 1, vT 0], appsT subT [vT 0, vT 1]])) (by simp [go_sem, hP, hgl, hn, nT, vT]) rfl (by simp [go_sem]) (by simp) (by rw [hn]; exact Nat.le_of_ble_eq_true rfl) (by simp [go_sem]; rfl) (by rw [hn]; exact Nat.le_of_ble_eq_true rfl) (by simp [go_sem]) ?_
  simp [go_sem, hP, hgl, hn, nT, vT]
  refine t_e ?_
  clear hK K
  refine t_r ?_
  simp [go_sem, hP, hgl, hn, distT, nT, vT] <;> (try omega)
end Go.Proofs.YtbmnlkfgkdallaaGreatDoor.Lift
