import Derived.Test.YtbmnlkfgkdallaaDoorP6
import Derived.Test.YtbmnlkfgkdallaaDoorK1
namespace Go.Proofs.YtbmnlkfgkdallaaDoor.Lift
set_option linter.unusedSimpArgs false
set_option linter.unusedVariables false
set_option linter.unnecessarySimpa false
open Go
variable {gl : Globs}

def pairC (p : Tm × Int) : List DV := [dint p.1.kind, dint p.1.index, dint p.1.type.kind, .sl (p.1.type.args.map Ty.cells), .sl (p.1.args.map Tm.cells), dint p.2]
theorem pairC_len (p : Tm × Int) : (pairC p).length = 6 := rfl

theorem valueCounts_ok (har : globOf gl 1 = some arEls) (a b : Int) (ha : 0 ≤ a ∧ a ≤ 255) (hb : 0 ≤ b ∧ b ≤ 255) : Con1 Tryd.prog gl 9 [.prim (.int .u8 a), .prim (.int .u8 b)] [] (dbool true) [] := by
  have qa1 : 0 ≤ a.tmod 5 := Int.tmod_nonneg 5 ha.1
  have qa2 : a.tmod 5 < 5 := Int.tmod_lt_of_pos a (by decide)
  have qb1 : 0 ≤ b.tmod 5 := Int.tmod_nonneg 5 hb.1
  have qb2 : b.tmod 5 < 5 := Int.tmod_lt_of_pos b (by decide)
  obtain ⟨m, hm, hm5⟩ : ∃ m : Nat, a.tmod 5 = m ∧ m < 5 := ⟨(a.tmod 5).toNat, by omega, by omega⟩
  obtain ⟨n, hn1, hn5⟩ : ∃ n : Nat, b.tmod 5 = n ∧ n < 5 := ⟨(b.tmod 5).toNat, by omega, by omega⟩
  have hE : ∀ k : Nat, k < 5 → numberE k = (numTm k, 0) := fun k hk => by unfold numberE; rw [if_neg (by omega), if_neg (by omega)]; simp
  have em := numberE_ok (gl := gl) m
  have en := numberE_ok (gl := gl) n
  rw [hE m hm5] at em
  rw [hE n hn5] at en
  refine t_in Tryd.func9 ?_
  intro X hP hgl hf hfn hn hR hids hfit
  refine t_g0 ?_
  refine t_c1 trivial sane05_ok ?_
  refine t_g (j2 @hm @hn1) ?_
  refine t_c1 trivial em ?_
  refine t_g0 ?_
  refine t_c1 trivial en ?_
  refine t_g0 ?_
  have hp : 0 ≤ (m : Int) * n ∧ (m : Int) * n ≤ 16 := by
    have h1 : m * n ≤ 4 * 4 := Nat.mul_le_mul (by omega) (by omega)
    have h2 : (m : Int) * n = ((m * n : Nat) : Int) := by simp
    rw [h2]; omega
  refine t_a ?_
  first | refine W_reg [] fun K hK => ?_ | refine W_regd (by rw [hP]; exact mixed) [] fun K hK => ?_
  refine t_s0 ?_
  refine t_c trivial (pred_ok) ?_
  refine t_c trivial (mk_app_ok predT [numTm m]) ?_
  refine t_c trivial (plus_ok) ?_
  refine t_c trivial (mk_app_ok plusT [numTm m, numTm n]) ?_
  refine t_c trivial (times5_ok) ?_
  refine t_c trivial (mk_app_ok timesT [numTm m, numTm n]) ?_
  refine t_c trivial (sub_ok) ?_
  refine t_c trivial (mk_app_ok subT [numTm m, numTm n]) ?_
  refine t_c trivial (dist_ok) ?_
  refine t_c trivial (mk_app_ok distT [numTm m, numTm n]) ?_
  refine t_e ?_
  clear hK K
  have hl5 : (fiveL m n).length = 5 := rfl
  refine t_a ?_
  refine W_sub [] (by simp [go_sem]) (by simp [go_sem, fiveL, pairC] <;> omega) (by simp [go_sem]) (W_list (fiveL m n) (fun done rest => [(.slot 93, .one (.v (dint done.length))), (.slot 92, .one (.v (dint (fiveL m n).length))), (.slot 91, .one (.v (.sl ((fiveL m n).map pairC))))]) ?_ ?_)
  · intro done x rest hL hg0 hnext
    have hlt : done.length < (fiveL m n).length := by rw [hL]; simp
    obtain ⟨g1, g2, g3, r, c, g4, g5, g6, g7⟩ := goodP_facts (five_good hm5 hn5 (List.mem_of_getElem? hg0))
    have hno := normal_ok (gl := gl) x.1 2000 g3 g1 (by decide) g2
    rw [g4] at hno
    have hre := readE_ok (gl := gl) har r g5 (by omega)
    rw [g7] at hre
    have hgp : ((fiveL m n).map pairC)[done.length]? = some (pairC x) := by simp [hg0]
    simp only [pairC] at hgp
    have hfd := Tm.fold x.1
    refine t_rg0 ?_
    refine t_yes ?_
    repeat (first | refine W_seq ?_ | refine W_skip ?_ | refine W_block ?_ | refine W_inBlock ?_ | refine W_label ?_ | refine W_exit rfl ?_ | ((first | refine W_reg [] fun K hK => ?_ | refine W_regd (by rw [hP]; exact mixed) [] fun K hK => ?_); simp [go_sem, hP, hgl, hn, hg0, pairC]; (repeat (refine ⟨by omega, ?_⟩)); (first | refine hK _ ?_ | refine ⟨by rfl, hK _ ?_⟩); clear hK K) | refine W_cond rfl (fun _ => ?_) (fun hq => False.elim (by first | (simp [hg0, pairC]; done) | (simp [hg0, pairC]; omega) | (simp [hg0, pairC] at hq; done) | (simp [hg0, pairC] at hq; omega))) | refine W_cond rfl (fun hq => False.elim (by first | (simp [hg0, pairC]; done) | (simp [hg0, pairC]; omega) | (simp [hg0, pairC] at hq; done) | (simp [hg0, pairC] at hq; omega))) (fun _ => ?_))
    refine t_a ?_
    first | refine W_reg [] fun K hK => ?_ | refine W_regd (by rw [hP]; exact mixed) [] fun K hK => ?_
    simp [go_sem, hP, hgl, hn, hg0, pairC, hfd]
    repeat (refine ⟨by omega, ?_⟩)
    first | refine vcK_call hP hgl (hno) (by simp [go_sem, hP, hgl, hn, hg0, pairC, hfd]) rfl (by simp [go_sem]) (by simp) (by rw [hn]; exact Nat.le_of_ble_eq_true rfl) ?_ | refine vcdC_call (fun _ _ => vcd_sound) hP hgl (hno) (by simp [go_sem, hP, hgl, hn, hg0, pairC, hfd]) rfl (by simp [go_sem]) (by simp) (by rw [hn]; exact Nat.le_of_ble_eq_true rfl) ?_ | refine vcK_callG hP hgl (hno) (by simp [go_sem, hP, hgl, hn, hg0, pairC, hfd]) rfl (by simp [go_sem]) (by simp) (by rw [hn]; exact Nat.le_of_ble_eq_true rfl) (by simp [go_sem]; rfl) (by rw [hn]; exact Nat.le_of_ble_eq_true rfl) (by simp [go_sem]) ?_ | refine vcdC_callG (fun _ _ => vcd_sound) hP hgl (hno) (by simp [go_sem, hP, hgl, hn, hg0, pairC, hfd]) rfl (by simp [go_sem]) (by simp) (by rw [hn]; exact Nat.le_of_ble_eq_true rfl) (by simp [go_sem]; rfl) (by rw [hn]; exact Nat.le_of_ble_eq_true rfl) (by simp [go_sem]) ?_
    simp [go_sem, hP, hgl, hn, hg0, pairC, hfd]
    refine t_e ?_
    clear hK K
    refine t_c1 trivial hre ?_
    refine t_gt (wr []) trivial @hfd hnext
  · refine t_rg0 ?_
    refine t_no ?_
    refine t_g0 ?_
    refine t_r ?_
    simp [go_sem, hP, hgl, hn] <;> (try omega)
end Go.Proofs.YtbmnlkfgkdallaaDoor.Lift
