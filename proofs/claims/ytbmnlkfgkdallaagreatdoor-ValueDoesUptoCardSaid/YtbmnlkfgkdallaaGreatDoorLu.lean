/-
  Part U of the small logic: steps of a walk as lemmas whose last argument, a tactic text, fills itself.
-/
import Derived.Test.YtbmnlkfgkdallaaGreatDoorL4
namespace Go.Proofs.YtbmnlkfgkdallaaGreatDoor.Lift
set_option linter.unusedSimpArgs false
set_option linter.unusedVariables false
set_option linter.unnecessarySimpa false
open Go

/-- what is left, hidden from tactics that would try it -/
structure Hid (p : Prop) : Prop where
  out : p
theorem j2 {p q : Prop} (a : p) (b : q) : p ∧ q := ⟨a, b⟩
/-- a list of renames, carried by a proof -/
def Wren (_ : List (Nat × Nat)) : Prop := True
theorem wr (l : List (Nat × Nat)) : Wren l := trivial
theorem t_a {q p : Prop} (k : q) (h : Hid q → p := by
  intro zk
  repeat (first | refine W_seq ?_ | refine W_skip ?_ | refine W_block ?_ | refine W_inBlock ?_ | refine W_label ?_ | refine W_exit rfl ?_)
  exact zk.out) : p := h ⟨k⟩
theorem t_b {q p : Prop} (k : q) (h : Hid q → p := by
  intro zk
  repeat (first | refine W_inBlock ?_ | refine W_skip ?_ | refine W_label ?_ | refine W_exit rfl ?_)
  exact zk.out) : p := h ⟨k⟩
theorem t_e {q p : Prop} (k : q) (h : Hid q → p := by
  intro zk
  repeat (refine ⟨by omega, ?_⟩)
  first | refine hK _ ?_ | refine ⟨by rfl, hK _ ?_⟩
  exact zk.out) : p := h ⟨k⟩
theorem t_s0 {q p : Prop} (k : q) (h : Hid q → p := by
  intro zk
  simp [go_sem, hP, hgl, hn]
  exact zk.out) : p := h ⟨k⟩
theorem t_rg0 {q p : Prop} (k : q) (h : Hid q → p := by
  intro zk
  repeat (first | refine W_seq ?_ | refine W_skip ?_ | refine W_block ?_ | refine W_inBlock ?_ | refine W_label ?_ | refine W_exit rfl ?_)
  first | refine W_reg [] fun K hK => ?_ | refine W_regd (by rw [hP]; exact mixed) [] fun K hK => ?_
  simp [go_sem, hP, hgl, hn]
  repeat (refine ⟨by omega, ?_⟩)
  first | refine hK _ ?_ | refine ⟨by rfl, hK _ ?_⟩
  clear hK K
  exact zk.out) : p := h ⟨k⟩
theorem t_g0 {q p : Prop} (k : q) (h : Hid q → p := by
  intro zk
  repeat (first | refine W_seq ?_ | refine W_skip ?_ | refine W_block ?_ | refine W_inBlock ?_ | refine W_label ?_ | refine W_exit rfl ?_ | ((first | refine W_reg [] fun K hK => ?_ | refine W_regd (by rw [hP]; exact mixed) [] fun K hK => ?_); simp [go_sem, hP, hgl, hn]; (repeat (refine ⟨by omega, ?_⟩)); (first | refine hK _ ?_ | refine ⟨by rfl, hK _ ?_⟩); clear hK K) | refine W_cond rfl (fun _ => ?_) (fun hq => False.elim (by first | (simp; done) | (simp; omega) | (simp at hq; done) | (simp at hq; omega))) | refine W_cond rfl (fun hq => False.elim (by first | (simp; done) | (simp; omega) | (simp at hq; done) | (simp at hq; omega))) (fun _ => ?_))
  exact zk.out) : p := h ⟨k⟩
theorem t_y0 {q p : Prop} (k : q) (h : Hid q → p := by
  intro zk
  repeat (first | refine W_seq ?_ | refine W_skip ?_ | refine W_block ?_ | refine W_inBlock ?_ | refine W_label ?_ | refine W_exit rfl ?_)
  refine W_cond rfl ?_ ?_
  rotate_left
  · intro hq; first | (simp at hq; done) | (simp at hq; omega)
  intro _
  exact zk.out) : p := h ⟨k⟩
theorem t_n0 {q p : Prop} (k : q) (h : Hid q → p := by
  intro zk
  repeat (first | refine W_seq ?_ | refine W_skip ?_ | refine W_block ?_ | refine W_inBlock ?_ | refine W_label ?_ | refine W_exit rfl ?_)
  refine W_cond rfl ?_ ?_
  · intro hq; first | (simp at hq; done) | (simp at hq; omega)
  intro _
  exact zk.out) : p := h ⟨k⟩
theorem t_s {pze q p : Prop} (ze : pze) (k : q) (h : pze → Hid q → p := by
  intro ze zk
  simp [go_sem, hP, hgl, hn, ze]
  exact zk.out) : p := h ze ⟨k⟩
theorem t_rg {pze q p : Prop} (ze : pze) (k : q) (h : pze → Hid q → p := by
  intro ze zk
  repeat (first | refine W_seq ?_ | refine W_skip ?_ | refine W_block ?_ | refine W_inBlock ?_ | refine W_label ?_ | refine W_exit rfl ?_)
  first | refine W_reg [] fun K hK => ?_ | refine W_regd (by rw [hP]; exact mixed) [] fun K hK => ?_
  simp [go_sem, hP, hgl, hn, ze]
  repeat (refine ⟨by omega, ?_⟩)
  first | refine hK _ ?_ | refine ⟨by rfl, hK _ ?_⟩
  clear hK K
  exact zk.out) : p := h ze ⟨k⟩
theorem t_g {pze q p : Prop} (ze : pze) (k : q) (h : pze → Hid q → p := by
  intro ze zk
  repeat (first | refine W_seq ?_ | refine W_skip ?_ | refine W_block ?_ | refine W_inBlock ?_ | refine W_label ?_ | refine W_exit rfl ?_ | ((first | refine W_reg [] fun K hK => ?_ | refine W_regd (by rw [hP]; exact mixed) [] fun K hK => ?_); simp [go_sem, hP, hgl, hn, ze]; (repeat (refine ⟨by omega, ?_⟩)); (first | refine hK _ ?_ | refine ⟨by rfl, hK _ ?_⟩); clear hK K) | refine W_cond rfl (fun _ => ?_) (fun hq => False.elim (by first | (simp [ze]; done) | (simp [ze]; omega) | (simp [ze] at hq; done) | (simp [ze] at hq; omega))) | refine W_cond rfl (fun hq => False.elim (by first | (simp [ze]; done) | (simp [ze]; omega) | (simp [ze] at hq; done) | (simp [ze] at hq; omega))) (fun _ => ?_))
  exact zk.out) : p := h ze ⟨k⟩
theorem t_y {pze q p : Prop} (ze : pze) (k : q) (h : pze → Hid q → p := by
  intro ze zk
  repeat (first | refine W_seq ?_ | refine W_skip ?_ | refine W_block ?_ | refine W_inBlock ?_ | refine W_label ?_ | refine W_exit rfl ?_)
  refine W_cond rfl ?_ ?_
  rotate_left
  · intro hq; first | (simp [ze] at hq; done) | (simp [ze] at hq; omega)
  intro _
  exact zk.out) : p := h ze ⟨k⟩
theorem t_n {pze q p : Prop} (ze : pze) (k : q) (h : pze → Hid q → p := by
  intro ze zk
  repeat (first | refine W_seq ?_ | refine W_skip ?_ | refine W_block ?_ | refine W_inBlock ?_ | refine W_label ?_ | refine W_exit rfl ?_)
  refine W_cond rfl ?_ ?_
  · intro hq; first | (simp [ze] at hq; done) | (simp [ze] at hq; omega)
  intro _
  exact zk.out) : p := h ze ⟨k⟩
theorem t_yes {q p : Prop} (k : q) (h : Hid q → p := by
  intro zk
  repeat (first | refine W_seq ?_ | refine W_skip ?_ | refine W_block ?_ | refine W_inBlock ?_ | refine W_label ?_ | refine W_exit rfl ?_)
  refine W_cond rfl ?_ ?_
  rotate_left
  · intro h; simp at h; try omega
  intro _
  exact zk.out) : p := h ⟨k⟩
theorem t_no {q p : Prop} (k : q) (h : Hid q → p := by
  intro zk
  repeat (first | refine W_seq ?_ | refine W_skip ?_ | refine W_block ?_ | refine W_inBlock ?_ | refine W_label ?_ | refine W_exit rfl ?_)
  refine W_cond rfl ?_ ?_
  · intro h; simp at h; try omega
  intro _
  exact zk.out) : p := h ⟨k⟩
theorem t_c {pze pc q p : Prop} (ze : pze) (c : pc) (k : q) (h : pze → pc → Hid q → p := by
  intro ze c zk
  repeat (refine ⟨by omega, ?_⟩)
  first | refine vcK_call hP hgl c (by simp [go_sem, hP, hgl, hn, ze]) rfl (by simp [go_sem]) (by simp) (by rw [hn]; exact Nat.le_of_ble_eq_true rfl) ?_ | refine vcdC_call (fun _ _ => vcd_sound) hP hgl c (by simp [go_sem, hP, hgl, hn, ze]) rfl (by simp [go_sem]) (by simp) (by rw [hn]; exact Nat.le_of_ble_eq_true rfl) ?_ | refine vcK_callG hP hgl c (by simp [go_sem, hP, hgl, hn, ze]) rfl (by simp [go_sem]) (by simp) (by rw [hn]; exact Nat.le_of_ble_eq_true rfl) (by simp [go_sem]; rfl) (by rw [hn]; exact Nat.le_of_ble_eq_true rfl) (by simp [go_sem]) ?_ | refine vcdC_callG (fun _ _ => vcd_sound) hP hgl c (by simp [go_sem, hP, hgl, hn, ze]) rfl (by simp [go_sem]) (by simp) (by rw [hn]; exact Nat.le_of_ble_eq_true rfl) (by simp [go_sem]; rfl) (by rw [hn]; exact Nat.le_of_ble_eq_true rfl) (by simp [go_sem]) ?_
  simp [go_sem, hP, hgl, hn, ze]
  exact zk.out) : p := h ze c ⟨k⟩
theorem t_c1 {pze pc1 q p : Prop} (ze : pze) (c1 : pc1) (k : q) (h : pze → pc1 → Hid q → p := by
  intro ze c1 zk
  repeat (first | refine W_seq ?_ | refine W_skip ?_ | refine W_block ?_ | refine W_inBlock ?_ | refine W_label ?_ | refine W_exit rfl ?_)
  first | refine W_reg [] fun K hK => ?_ | refine W_regd (by rw [hP]; exact mixed) [] fun K hK => ?_
  simp [go_sem, hP, hgl, hn, ze]
  refine t_c ze c1 ?_
  repeat (refine ⟨by omega, ?_⟩)
  first | refine hK _ ?_ | refine ⟨by rfl, hK _ ?_⟩
  clear hK K
  exact zk.out) : p := h ze c1 ⟨k⟩
theorem t_c2 {pze pc1 pc2 q p : Prop} (ze : pze) (c1 : pc1) (c2 : pc2) (k : q) (h : pze → pc1 → pc2 → Hid q → p := by
  intro ze c1 c2 zk
  repeat (first | refine W_seq ?_ | refine W_skip ?_ | refine W_block ?_ | refine W_inBlock ?_ | refine W_label ?_ | refine W_exit rfl ?_)
  first | refine W_reg [] fun K hK => ?_ | refine W_regd (by rw [hP]; exact mixed) [] fun K hK => ?_
  simp [go_sem, hP, hgl, hn, ze]
  refine t_c ze c1 ?_
  refine t_c ze c2 ?_
  repeat (refine ⟨by omega, ?_⟩)
  first | refine hK _ ?_ | refine ⟨by rfl, hK _ ?_⟩
  clear hK K
  exact zk.out) : p := h ze c1 c2 ⟨k⟩
theorem t_c3 {pze pc1 pc2 pc3 q p : Prop} (ze : pze) (c1 : pc1) (c2 : pc2) (c3 : pc3) (k : q) (h : pze → pc1 → pc2 → pc3 → Hid q → p := by
  intro ze c1 c2 c3 zk
  repeat (first | refine W_seq ?_ | refine W_skip ?_ | refine W_block ?_ | refine W_inBlock ?_ | refine W_label ?_ | refine W_exit rfl ?_)
  first | refine W_reg [] fun K hK => ?_ | refine W_regd (by rw [hP]; exact mixed) [] fun K hK => ?_
  simp [go_sem, hP, hgl, hn, ze]
  refine t_c ze c1 ?_
  refine t_c ze c2 ?_
  refine t_c ze c3 ?_
  repeat (refine ⟨by omega, ?_⟩)
  first | refine hK _ ?_ | refine ⟨by rfl, hK _ ?_⟩
  clear hK K
  exact zk.out) : p := h ze c1 c2 c3 ⟨k⟩
theorem t_c4 {pze pc1 pc2 pc3 pc4 q p : Prop} (ze : pze) (c1 : pc1) (c2 : pc2) (c3 : pc3) (c4 : pc4) (k : q) (h : pze → pc1 → pc2 → pc3 → pc4 → Hid q → p := by
  intro ze c1 c2 c3 c4 zk
  repeat (first | refine W_seq ?_ | refine W_skip ?_ | refine W_block ?_ | refine W_inBlock ?_ | refine W_label ?_ | refine W_exit rfl ?_)
  first | refine W_reg [] fun K hK => ?_ | refine W_regd (by rw [hP]; exact mixed) [] fun K hK => ?_
  simp [go_sem, hP, hgl, hn, ze]
  refine t_c ze c1 ?_
  refine t_c ze c2 ?_
  refine t_c ze c3 ?_
  refine t_c ze c4 ?_
  repeat (refine ⟨by omega, ?_⟩)
  first | refine hK _ ?_ | refine ⟨by rfl, hK _ ?_⟩
  clear hK K
  exact zk.out) : p := h ze c1 c2 c3 c4 ⟨k⟩
theorem t_c5 {pze pc1 pc2 pc3 pc4 pc5 q p : Prop} (ze : pze) (c1 : pc1) (c2 : pc2) (c3 : pc3) (c4 : pc4) (c5 : pc5) (k : q) (h : pze → pc1 → pc2 → pc3 → pc4 → pc5 → Hid q → p := by
  intro ze c1 c2 c3 c4 c5 zk
  repeat (first | refine W_seq ?_ | refine W_skip ?_ | refine W_block ?_ | refine W_inBlock ?_ | refine W_label ?_ | refine W_exit rfl ?_)
  first | refine W_reg [] fun K hK => ?_ | refine W_regd (by rw [hP]; exact mixed) [] fun K hK => ?_
  simp [go_sem, hP, hgl, hn, ze]
  refine t_c ze c1 ?_
  refine t_c ze c2 ?_
  refine t_c ze c3 ?_
  refine t_c ze c4 ?_
  refine t_c ze c5 ?_
  repeat (refine ⟨by omega, ?_⟩)
  first | refine hK _ ?_ | refine ⟨by rfl, hK _ ?_⟩
  clear hK K
  exact zk.out) : p := h ze c1 c2 c3 c4 c5 ⟨k⟩
theorem t_c6 {pze pc1 pc2 pc3 pc4 pc5 pc6 q p : Prop} (ze : pze) (c1 : pc1) (c2 : pc2) (c3 : pc3) (c4 : pc4) (c5 : pc5) (c6 : pc6) (k : q) (h : pze → pc1 → pc2 → pc3 → pc4 → pc5 → pc6 → Hid q → p := by
  intro ze c1 c2 c3 c4 c5 c6 zk
  repeat (first | refine W_seq ?_ | refine W_skip ?_ | refine W_block ?_ | refine W_inBlock ?_ | refine W_label ?_ | refine W_exit rfl ?_)
  first | refine W_reg [] fun K hK => ?_ | refine W_regd (by rw [hP]; exact mixed) [] fun K hK => ?_
  simp [go_sem, hP, hgl, hn, ze]
  refine t_c ze c1 ?_
  refine t_c ze c2 ?_
  refine t_c ze c3 ?_
  refine t_c ze c4 ?_
  refine t_c ze c5 ?_
  refine t_c ze c6 ?_
  repeat (refine ⟨by omega, ?_⟩)
  first | refine hK _ ?_ | refine ⟨by rfl, hK _ ?_⟩
  clear hK K
  exact zk.out) : p := h ze c1 c2 c3 c4 c5 c6 ⟨k⟩
theorem t_c7 {pze pc1 pc2 pc3 pc4 pc5 pc6 pc7 q p : Prop} (ze : pze) (c1 : pc1) (c2 : pc2) (c3 : pc3) (c4 : pc4) (c5 : pc5) (c6 : pc6) (c7 : pc7) (k : q) (h : pze → pc1 → pc2 → pc3 → pc4 → pc5 → pc6 → pc7 → Hid q → p := by
  intro ze c1 c2 c3 c4 c5 c6 c7 zk
  repeat (first | refine W_seq ?_ | refine W_skip ?_ | refine W_block ?_ | refine W_inBlock ?_ | refine W_label ?_ | refine W_exit rfl ?_)
  first | refine W_reg [] fun K hK => ?_ | refine W_regd (by rw [hP]; exact mixed) [] fun K hK => ?_
  simp [go_sem, hP, hgl, hn, ze]
  refine t_c ze c1 ?_
  refine t_c ze c2 ?_
  refine t_c ze c3 ?_
  refine t_c ze c4 ?_
  refine t_c ze c5 ?_
  refine t_c ze c6 ?_
  refine t_c ze c7 ?_
  repeat (refine ⟨by omega, ?_⟩)
  first | refine hK _ ?_ | refine ⟨by rfl, hK _ ?_⟩
  clear hK K
  exact zk.out) : p := h ze c1 c2 c3 c4 c5 c6 c7 ⟨k⟩
theorem t_c8 {pze pc1 pc2 pc3 pc4 pc5 pc6 pc7 pc8 q p : Prop} (ze : pze) (c1 : pc1) (c2 : pc2) (c3 : pc3) (c4 : pc4) (c5 : pc5) (c6 : pc6) (c7 : pc7) (c8 : pc8) (k : q) (h : pze → pc1 → pc2 → pc3 → pc4 → pc5 → pc6 → pc7 → pc8 → Hid q → p := by
  intro ze c1 c2 c3 c4 c5 c6 c7 c8 zk
  repeat (first | refine W_seq ?_ | refine W_skip ?_ | refine W_block ?_ | refine W_inBlock ?_ | refine W_label ?_ | refine W_exit rfl ?_)
  first | refine W_reg [] fun K hK => ?_ | refine W_regd (by rw [hP]; exact mixed) [] fun K hK => ?_
  simp [go_sem, hP, hgl, hn, ze]
  refine t_c ze c1 ?_
  refine t_c ze c2 ?_
  refine t_c ze c3 ?_
  refine t_c ze c4 ?_
  refine t_c ze c5 ?_
  refine t_c ze c6 ?_
  refine t_c ze c7 ?_
  refine t_c ze c8 ?_
  repeat (refine ⟨by omega, ?_⟩)
  first | refine hK _ ?_ | refine ⟨by rfl, hK _ ?_⟩
  clear hK K
  exact zk.out) : p := h ze c1 c2 c3 c4 c5 c6 c7 c8 ⟨k⟩
theorem t_c9 {pze pc1 pc2 pc3 pc4 pc5 pc6 pc7 pc8 pc9 q p : Prop} (ze : pze) (c1 : pc1) (c2 : pc2) (c3 : pc3) (c4 : pc4) (c5 : pc5) (c6 : pc6) (c7 : pc7) (c8 : pc8) (c9 : pc9) (k : q) (h : pze → pc1 → pc2 → pc3 → pc4 → pc5 → pc6 → pc7 → pc8 → pc9 → Hid q → p := by
  intro ze c1 c2 c3 c4 c5 c6 c7 c8 c9 zk
  repeat (first | refine W_seq ?_ | refine W_skip ?_ | refine W_block ?_ | refine W_inBlock ?_ | refine W_label ?_ | refine W_exit rfl ?_)
  first | refine W_reg [] fun K hK => ?_ | refine W_regd (by rw [hP]; exact mixed) [] fun K hK => ?_
  simp [go_sem, hP, hgl, hn, ze]
  refine t_c ze c1 ?_
  refine t_c ze c2 ?_
  refine t_c ze c3 ?_
  refine t_c ze c4 ?_
  refine t_c ze c5 ?_
  refine t_c ze c6 ?_
  refine t_c ze c7 ?_
  refine t_c ze c8 ?_
  refine t_c ze c9 ?_
  repeat (refine ⟨by omega, ?_⟩)
  first | refine hK _ ?_ | refine ⟨by rfl, hK _ ?_⟩
  clear hK K
  exact zk.out) : p := h ze c1 c2 c3 c4 c5 c6 c7 c8 c9 ⟨k⟩
theorem t_c10 {pze pc1 pc2 pc3 pc4 pc5 pc6 pc7 pc8 pc9 pc10 q p : Prop} (ze : pze) (c1 : pc1) (c2 : pc2) (c3 : pc3) (c4 : pc4) (c5 : pc5) (c6 : pc6) (c7 : pc7) (c8 : pc8) (c9 : pc9) (c10 : pc10) (k : q) (h : pze → pc1 → pc2 → pc3 → pc4 → pc5 → pc6 → pc7 → pc8 → pc9 → pc10 → Hid q → p := by
  intro ze c1 c2 c3 c4 c5 c6 c7 c8 c9 c10 zk
  repeat (first | refine W_seq ?_ | refine W_skip ?_ | refine W_block ?_ | refine W_inBlock ?_ | refine W_label ?_ | refine W_exit rfl ?_)
  first | refine W_reg [] fun K hK => ?_ | refine W_regd (by rw [hP]; exact mixed) [] fun K hK => ?_
  simp [go_sem, hP, hgl, hn, ze]
  refine t_c ze c1 ?_
  refine t_c ze c2 ?_
  refine t_c ze c3 ?_
  refine t_c ze c4 ?_
  refine t_c ze c5 ?_
  refine t_c ze c6 ?_
  refine t_c ze c7 ?_
  refine t_c ze c8 ?_
  refine t_c ze c9 ?_
  refine t_c ze c10 ?_
  repeat (refine ⟨by omega, ?_⟩)
  first | refine hK _ ?_ | refine ⟨by rfl, hK _ ?_⟩
  clear hK K
  exact zk.out) : p := h ze c1 c2 c3 c4 c5 c6 c7 c8 c9 c10 ⟨k⟩
theorem t_c11 {pze pc1 pc2 pc3 pc4 pc5 pc6 pc7 pc8 pc9 pc10 pc11 q p : Prop} (ze : pze) (c1 : pc1) (c2 : pc2) (c3 : pc3) (c4 : pc4) (c5 : pc5) (c6 : pc6) (c7 : pc7) (c8 : pc8) (c9 : pc9) (c10 : pc10) (c11 : pc11) (k : q) (h : pze → pc1 → pc2 → pc3 → pc4 → pc5 → pc6 → pc7 → pc8 → pc9 → pc10 → pc11 → Hid q → p := by
  intro ze c1 c2 c3 c4 c5 c6 c7 c8 c9 c10 c11 zk
  repeat (first | refine W_seq ?_ | refine W_skip ?_ | refine W_block ?_ | refine W_inBlock ?_ | refine W_label ?_ | refine W_exit rfl ?_)
  first | refine W_reg [] fun K hK => ?_ | refine W_regd (by rw [hP]; exact mixed) [] fun K hK => ?_
  simp [go_sem, hP, hgl, hn, ze]
  refine t_c ze c1 ?_
  refine t_c ze c2 ?_
  refine t_c ze c3 ?_
  refine t_c ze c4 ?_
  refine t_c ze c5 ?_
  refine t_c ze c6 ?_
  refine t_c ze c7 ?_
  refine t_c ze c8 ?_
  refine t_c ze c9 ?_
  refine t_c ze c10 ?_
  refine t_c ze c11 ?_
  repeat (refine ⟨by omega, ?_⟩)
  first | refine hK _ ?_ | refine ⟨by rfl, hK _ ?_⟩
  clear hK K
  exact zk.out) : p := h ze c1 c2 c3 c4 c5 c6 c7 c8 c9 c10 c11 ⟨k⟩
theorem t_c12 {pze pc1 pc2 pc3 pc4 pc5 pc6 pc7 pc8 pc9 pc10 pc11 pc12 q p : Prop} (ze : pze) (c1 : pc1) (c2 : pc2) (c3 : pc3) (c4 : pc4) (c5 : pc5) (c6 : pc6) (c7 : pc7) (c8 : pc8) (c9 : pc9) (c10 : pc10) (c11 : pc11) (c12 : pc12) (k : q) (h : pze → pc1 → pc2 → pc3 → pc4 → pc5 → pc6 → pc7 → pc8 → pc9 → pc10 → pc11 → pc12 → Hid q → p := by
  intro ze c1 c2 c3 c4 c5 c6 c7 c8 c9 c10 c11 c12 zk
  repeat (first | refine W_seq ?_ | refine W_skip ?_ | refine W_block ?_ | refine W_inBlock ?_ | refine W_label ?_ | refine W_exit rfl ?_)
  first | refine W_reg [] fun K hK => ?_ | refine W_regd (by rw [hP]; exact mixed) [] fun K hK => ?_
  simp [go_sem, hP, hgl, hn, ze]
  refine t_c ze c1 ?_
  refine t_c ze c2 ?_
  refine t_c ze c3 ?_
  refine t_c ze c4 ?_
  refine t_c ze c5 ?_
  refine t_c ze c6 ?_
  refine t_c ze c7 ?_
  refine t_c ze c8 ?_
  refine t_c ze c9 ?_
  refine t_c ze c10 ?_
  refine t_c ze c11 ?_
  refine t_c ze c12 ?_
  repeat (refine ⟨by omega, ?_⟩)
  first | refine hK _ ?_ | refine ⟨by rfl, hK _ ?_⟩
  clear hK K
  exact zk.out) : p := h ze c1 c2 c3 c4 c5 c6 c7 c8 c9 c10 c11 c12 ⟨k⟩
theorem t_c13 {pze pc1 pc2 pc3 pc4 pc5 pc6 pc7 pc8 pc9 pc10 pc11 pc12 pc13 q p : Prop} (ze : pze) (c1 : pc1) (c2 : pc2) (c3 : pc3) (c4 : pc4) (c5 : pc5) (c6 : pc6) (c7 : pc7) (c8 : pc8) (c9 : pc9) (c10 : pc10) (c11 : pc11) (c12 : pc12) (c13 : pc13) (k : q) (h : pze → pc1 → pc2 → pc3 → pc4 → pc5 → pc6 → pc7 → pc8 → pc9 → pc10 → pc11 → pc12 → pc13 → Hid q → p := by
  intro ze c1 c2 c3 c4 c5 c6 c7 c8 c9 c10 c11 c12 c13 zk
  repeat (first | refine W_seq ?_ | refine W_skip ?_ | refine W_block ?_ | refine W_inBlock ?_ | refine W_label ?_ | refine W_exit rfl ?_)
  first | refine W_reg [] fun K hK => ?_ | refine W_regd (by rw [hP]; exact mixed) [] fun K hK => ?_
  simp [go_sem, hP, hgl, hn, ze]
  refine t_c ze c1 ?_
  refine t_c ze c2 ?_
  refine t_c ze c3 ?_
  refine t_c ze c4 ?_
  refine t_c ze c5 ?_
  refine t_c ze c6 ?_
  refine t_c ze c7 ?_
  refine t_c ze c8 ?_
  refine t_c ze c9 ?_
  refine t_c ze c10 ?_
  refine t_c ze c11 ?_
  refine t_c ze c12 ?_
  refine t_c ze c13 ?_
  repeat (refine ⟨by omega, ?_⟩)
  first | refine hK _ ?_ | refine ⟨by rfl, hK _ ?_⟩
  clear hK K
  exact zk.out) : p := h ze c1 c2 c3 c4 c5 c6 c7 c8 c9 c10 c11 c12 c13 ⟨k⟩
theorem t_c14 {pze pc1 pc2 pc3 pc4 pc5 pc6 pc7 pc8 pc9 pc10 pc11 pc12 pc13 pc14 q p : Prop} (ze : pze) (c1 : pc1) (c2 : pc2) (c3 : pc3) (c4 : pc4) (c5 : pc5) (c6 : pc6) (c7 : pc7) (c8 : pc8) (c9 : pc9) (c10 : pc10) (c11 : pc11) (c12 : pc12) (c13 : pc13) (c14 : pc14) (k : q) (h : pze → pc1 → pc2 → pc3 → pc4 → pc5 → pc6 → pc7 → pc8 → pc9 → pc10 → pc11 → pc12 → pc13 → pc14 → Hid q → p := by
  intro ze c1 c2 c3 c4 c5 c6 c7 c8 c9 c10 c11 c12 c13 c14 zk
  repeat (first | refine W_seq ?_ | refine W_skip ?_ | refine W_block ?_ | refine W_inBlock ?_ | refine W_label ?_ | refine W_exit rfl ?_)
  first | refine W_reg [] fun K hK => ?_ | refine W_regd (by rw [hP]; exact mixed) [] fun K hK => ?_
  simp [go_sem, hP, hgl, hn, ze]
  refine t_c ze c1 ?_
  refine t_c ze c2 ?_
  refine t_c ze c3 ?_
  refine t_c ze c4 ?_
  refine t_c ze c5 ?_
  refine t_c ze c6 ?_
  refine t_c ze c7 ?_
  refine t_c ze c8 ?_
  refine t_c ze c9 ?_
  refine t_c ze c10 ?_
  refine t_c ze c11 ?_
  refine t_c ze c12 ?_
  refine t_c ze c13 ?_
  refine t_c ze c14 ?_
  repeat (refine ⟨by omega, ?_⟩)
  first | refine hK _ ?_ | refine ⟨by rfl, hK _ ?_⟩
  clear hK K
  exact zk.out) : p := h ze c1 c2 c3 c4 c5 c6 c7 c8 c9 c10 c11 c12 c13 c14 ⟨k⟩
theorem t_gt {pzl pz2 pze pzt p : Prop} (zl : pzl) (z2 : pz2) (ze : pze) (zt : pzt) (h : pzl → pz2 → pze → pzt → p := by
  intro zl z2 ze zt
  repeat (first | (refine W_subT zl (by simp [go_sem]) (by simp [go_sem, z2] <;> omega) (by simp [go_sem]) zt) | refine W_seq ?_ | refine W_skip ?_ | refine W_block ?_ | refine W_inBlock ?_ | refine W_label ?_ | refine W_exit rfl ?_ | ((first | refine W_reg [] fun K hK => ?_ | refine W_regd (by rw [hP]; exact mixed) [] fun K hK => ?_); simp [go_sem, hP, hgl, hn, ze]; (repeat (refine ⟨by omega, ?_⟩)); (first | refine hK _ ?_ | refine ⟨by rfl, hK _ ?_⟩); clear hK K) | refine W_cond rfl (fun _ => ?_) (fun hq => False.elim (by first | (simp [ze]; done) | (simp [ze]; omega) | (simp [ze] at hq; done) | (simp [ze] at hq; omega))) | refine W_cond rfl (fun hq => False.elim (by first | (simp [ze]; done) | (simp [ze]; omega) | (simp [ze] at hq; done) | (simp [ze] at hq; omega))) (fun _ => ?_))) : p := h zl z2 ze zt
theorem t_r {q p : Prop} (k : q) (h : Hid q → p := by
  intro zk
  repeat (first | refine W_seq ?_ | refine W_skip ?_ | refine W_block ?_ | refine W_inBlock ?_ | refine W_label ?_ | refine W_exit rfl ?_)
  first | refine W_ret1 hP hf hfn hR ?_ | refine W_end1 hP hf hfn hR ?_
  exact zk.out) : p := h ⟨k⟩
theorem t_f {p : Prop} (h : p := by simp [Ty.dv, Ty.cells_eq, Ty.kind_mk, Ty.args_mk, Tm.dv, Tm.cells_eq, Tm.kind_mk, Tm.index_mk, Tm.type_mk, Tm.args_mk, Val.dv, Val.cells_eq, Val.kind_mk, Val.num_mk, Val.list_mk, Val.args_mk, ints]) : p := h

theorem W_subT {X : Ctx} {k : List Item} {s s' : St} {l : List (Nat × Nat)} (_ : Wren l) (h0 : ren l 0 = 0) (hs : subLe (ren l) s s') (hi : tokInj (ren l) (toksOf s')) (h : W X k s') : W X k s := W_sub l h0 hs hi h
theorem t_sub {X : Ctx} {k : List Item} {s s' : St} {e : Prop} (l : List (Nat × Nat)) (ze : e) (h : W X k s') (h0 : ren l 0 = 0 := by simp [go_sem]) (hs : e → subLe (ren l) s s' := by
  intro ze
  simp [go_sem, ze] <;> omega) (hi : tokInj (ren l) (toksOf s') := by simp [go_sem]) : W X k s := W_sub l h0 (hs ze) hi h
theorem t_in {P : Program} {gl : Globs} {f : FuncId} {args : List DV} {φ : Objs} {R : DV → Objs → Prop} {fn : Func} {body : Code} (hf : P.funcs[f]? = some fn)
    (h : ∀ X : Ctx, X.P = P → X.gl = gl → X.f = f → X.fn = fn → X.n = fn.ntmps → X.R = R ∧ X.md = .fn → X.ids = φ.map (·.1) → (∀ x ∈ args, DV.fit x) → W X [.code body] (entry args φ))
    (hb : fn.body = some body := by rfl) (hname : (fn.name == "runtime.NumGoroutine") = false := by kernel_rfl) (hn : args.length ≤ fn.ntmps := by exact Nat.le_of_ble_eq_true rfl) : Con P gl f args φ R :=
  Con_intro hf hb hname hn h
end Go.Proofs.YtbmnlkfgkdallaaGreatDoor.Lift
