import Derived.Test.YtbmnlkfgkdallaaDoorH8
namespace Go.Proofs.YtbmnlkfgkdallaaDoor.Lift
set_option linter.unusedSimpArgs false
set_option linter.unusedVariables false
set_option linter.unnecessarySimpa false
open Go
variable {gl : Globs}

def Tm.argN (t : Tm) (i : Nat) : Tm := t.args.getD i zeroTm

/-- whether a valid term's root is a redex -/
def Tm.rootN (t : Tm) : Bool :=
  if t.kind = 3 then decide ((t.argN 0).kind = 2)
  else if t.kind = 6 then decide ((t.argN 2).kind = 4) || decide ((t.argN 2).kind = 5)
  else if t.kind = 9 then decide ((t.argN 2).kind = 7) || decide ((t.argN 2).kind = 8)
  else if t.kind = 11 then decide ((t.argN 0).kind = 10)
  else if t.kind = 12 then decide ((t.argN 0).kind = 10)
  else false

theorem Tm.parts1 {t : Tm} (h : t.shape = true) (hk : arityI t.kind = 1) : ∃ x, t.args = [x] := by
  have := (Tm.shape_node h).1
  rw [hk] at this
  match ha : t.args, this with
  | [x], _ => exact ⟨x, rfl⟩
theorem Tm.parts2 {t : Tm} (h : t.shape = true) (hk : arityI t.kind = 2) : ∃ x y, t.args = [x, y] := by
  have := (Tm.shape_node h).1
  rw [hk] at this
  match ha : t.args, this with
  | [x, y], _ => exact ⟨x, y, rfl⟩
theorem Tm.parts3 {t : Tm} (h : t.shape = true) (hk : arityI t.kind = 3) : ∃ x y z, t.args = [x, y, z] := by
  have := (Tm.shape_node h).1
  rw [hk] at this
  match ha : t.args, this with
  | [x, y, z], _ => exact ⟨x, y, z, rfl⟩

theorem root_ok (t : Tm) (ht : t.shape = true) : Con1 Tryd.prog gl 119 [t.dv] [] (dbool t.rootN) [] := by
  refine Con_intro Tryd.func119 rfl (by kernel_rfl) (Nat.le_of_ble_eq_true rfl) ?_
  intro X hP hgl hf hfn hn hR hids hfit
  by_cases h3 : t.kind = 3
  · obtain ⟨x, y, hx⟩ := Tm.parts2 ht (by rw [h3]; rfl)
    repeat (first | refine W_seq ?_ | refine W_skip ?_ | refine W_block ?_ | refine W_inBlock ?_ | refine W_label ?_ | refine W_exit rfl ?_ | ((first | refine W_reg [] fun K hK => ?_ | refine W_regd (by rw [hP]; exact mixed) [] fun K hK => ?_); simp [go_sem, hP, hgl, hn, h3, hx]; (repeat (refine ⟨by omega, ?_⟩)); (first | refine hK _ ?_ | refine ⟨by rfl, hK _ ?_⟩); clear hK K) | refine W_cond rfl (fun _ => ?_) (fun hq => False.elim (by first | (simp [h3, hx]; done) | (simp [h3, hx]; omega) | (simp [h3, hx] at hq; done) | (simp [h3, hx] at hq; omega))) | refine W_cond rfl (fun hq => False.elim (by first | (simp [h3, hx]; done) | (simp [h3, hx]; omega) | (simp [h3, hx] at hq; done) | (simp [h3, hx] at hq; omega))) (fun _ => ?_))
    repeat (first | refine W_seq ?_ | refine W_skip ?_ | refine W_block ?_ | refine W_inBlock ?_ | refine W_label ?_ | refine W_exit rfl ?_)
    first | refine W_ret1 hP hf hfn hR ?_ | refine W_end1 hP hf hfn hR ?_
    simp [go_sem, hP, hgl, hn, Tm.rootN, h3, Tm.argN, hx] <;> (try omega)
  by_cases h6 : t.kind = 6
  · obtain ⟨x, y, z, hx⟩ := Tm.parts3 ht (by rw [h6]; rfl)
    by_cases hz : z.kind = 4
    · repeat (first | refine W_seq ?_ | refine W_skip ?_ | refine W_block ?_ | refine W_inBlock ?_ | refine W_label ?_ | refine W_exit rfl ?_ | ((first | refine W_reg [] fun K hK => ?_ | refine W_regd (by rw [hP]; exact mixed) [] fun K hK => ?_); simp [go_sem, hP, hgl, hn, h6, hx, hz]; (repeat (refine ⟨by omega, ?_⟩)); (first | refine hK _ ?_ | refine ⟨by rfl, hK _ ?_⟩); clear hK K) | refine W_cond rfl (fun _ => ?_) (fun hq => False.elim (by first | (simp [h6, hx, hz]; done) | (simp [h6, hx, hz]; omega) | (simp [h6, hx, hz] at hq; done) | (simp [h6, hx, hz] at hq; omega))) | refine W_cond rfl (fun hq => False.elim (by first | (simp [h6, hx, hz]; done) | (simp [h6, hx, hz]; omega) | (simp [h6, hx, hz] at hq; done) | (simp [h6, hx, hz] at hq; omega))) (fun _ => ?_))
      repeat (first | refine W_seq ?_ | refine W_skip ?_ | refine W_block ?_ | refine W_inBlock ?_ | refine W_label ?_ | refine W_exit rfl ?_)
      first | refine W_ret1 hP hf hfn hR ?_ | refine W_end1 hP hf hfn hR ?_
      simp [go_sem, hP, hgl, hn, Tm.rootN, h6, Tm.argN, hx, hz] <;> (try omega)
    · repeat (first | refine W_seq ?_ | refine W_skip ?_ | refine W_block ?_ | refine W_inBlock ?_ | refine W_label ?_ | refine W_exit rfl ?_ | ((first | refine W_reg [] fun K hK => ?_ | refine W_regd (by rw [hP]; exact mixed) [] fun K hK => ?_); simp [go_sem, hP, hgl, hn, h6, hx, hz]; (repeat (refine ⟨by omega, ?_⟩)); (first | refine hK _ ?_ | refine ⟨by rfl, hK _ ?_⟩); clear hK K) | refine W_cond rfl (fun _ => ?_) (fun hq => False.elim (by first | (simp [h6, hx, hz]; done) | (simp [h6, hx, hz]; omega) | (simp [h6, hx, hz] at hq; done) | (simp [h6, hx, hz] at hq; omega))) | refine W_cond rfl (fun hq => False.elim (by first | (simp [h6, hx, hz]; done) | (simp [h6, hx, hz]; omega) | (simp [h6, hx, hz] at hq; done) | (simp [h6, hx, hz] at hq; omega))) (fun _ => ?_))
      repeat (first | refine W_seq ?_ | refine W_skip ?_ | refine W_block ?_ | refine W_inBlock ?_ | refine W_label ?_ | refine W_exit rfl ?_)
      first | refine W_ret1 hP hf hfn hR ?_ | refine W_end1 hP hf hfn hR ?_
      simp [go_sem, hP, hgl, hn, Tm.rootN, h6, Tm.argN, hx, hz] <;> (try omega)
  by_cases h9 : t.kind = 9
  · obtain ⟨x, y, z, hx⟩ := Tm.parts3 ht (by rw [h9]; rfl)
    by_cases hz : z.kind = 7
    · repeat (first | refine W_seq ?_ | refine W_skip ?_ | refine W_block ?_ | refine W_inBlock ?_ | refine W_label ?_ | refine W_exit rfl ?_ | ((first | refine W_reg [] fun K hK => ?_ | refine W_regd (by rw [hP]; exact mixed) [] fun K hK => ?_); simp [go_sem, hP, hgl, hn, h9, hx, hz]; (repeat (refine ⟨by omega, ?_⟩)); (first | refine hK _ ?_ | refine ⟨by rfl, hK _ ?_⟩); clear hK K) | refine W_cond rfl (fun _ => ?_) (fun hq => False.elim (by first | (simp [h9, hx, hz]; done) | (simp [h9, hx, hz]; omega) | (simp [h9, hx, hz] at hq; done) | (simp [h9, hx, hz] at hq; omega))) | refine W_cond rfl (fun hq => False.elim (by first | (simp [h9, hx, hz]; done) | (simp [h9, hx, hz]; omega) | (simp [h9, hx, hz] at hq; done) | (simp [h9, hx, hz] at hq; omega))) (fun _ => ?_))
      repeat (first | refine W_seq ?_ | refine W_skip ?_ | refine W_block ?_ | refine W_inBlock ?_ | refine W_label ?_ | refine W_exit rfl ?_)
      first | refine W_ret1 hP hf hfn hR ?_ | refine W_end1 hP hf hfn hR ?_
      simp [go_sem, hP, hgl, hn, Tm.rootN, h9, Tm.argN, hx, hz] <;> (try omega)
    · repeat (first | refine W_seq ?_ | refine W_skip ?_ | refine W_block ?_ | refine W_inBlock ?_ | refine W_label ?_ | refine W_exit rfl ?_ | ((first | refine W_reg [] fun K hK => ?_ | refine W_regd (by rw [hP]; exact mixed) [] fun K hK => ?_); simp [go_sem, hP, hgl, hn, h9, hx, hz]; (repeat (refine ⟨by omega, ?_⟩)); (first | refine hK _ ?_ | refine ⟨by rfl, hK _ ?_⟩); clear hK K) | refine W_cond rfl (fun _ => ?_) (fun hq => False.elim (by first | (simp [h9, hx, hz]; done) | (simp [h9, hx, hz]; omega) | (simp [h9, hx, hz] at hq; done) | (simp [h9, hx, hz] at hq; omega))) | refine W_cond rfl (fun hq => False.elim (by first | (simp [h9, hx, hz]; done) | (simp [h9, hx, hz]; omega) | (simp [h9, hx, hz] at hq; done) | (simp [h9, hx, hz] at hq; omega))) (fun _ => ?_))
      repeat (first | refine W_seq ?_ | refine W_skip ?_ | refine W_block ?_ | refine W_inBlock ?_ | refine W_label ?_ | refine W_exit rfl ?_)
      first | refine W_ret1 hP hf hfn hR ?_ | refine W_end1 hP hf hfn hR ?_
      simp [go_sem, hP, hgl, hn, Tm.rootN, h9, Tm.argN, hx, hz] <;> (try omega)
  by_cases h11 : t.kind = 11
  · obtain ⟨x, hx⟩ := Tm.parts1 ht (by rw [h11]; rfl)
    repeat (first | refine W_seq ?_ | refine W_skip ?_ | refine W_block ?_ | refine W_inBlock ?_ | refine W_label ?_ | refine W_exit rfl ?_ | ((first | refine W_reg [] fun K hK => ?_ | refine W_regd (by rw [hP]; exact mixed) [] fun K hK => ?_); simp [go_sem, hP, hgl, hn, h11, hx]; (repeat (refine ⟨by omega, ?_⟩)); (first | refine hK _ ?_ | refine ⟨by rfl, hK _ ?_⟩); clear hK K) | refine W_cond rfl (fun _ => ?_) (fun hq => False.elim (by first | (simp [h11, hx]; done) | (simp [h11, hx]; omega) | (simp [h11, hx] at hq; done) | (simp [h11, hx] at hq; omega))) | refine W_cond rfl (fun hq => False.elim (by first | (simp [h11, hx]; done) | (simp [h11, hx]; omega) | (simp [h11, hx] at hq; done) | (simp [h11, hx] at hq; omega))) (fun _ => ?_))
    repeat (first | refine W_seq ?_ | refine W_skip ?_ | refine W_block ?_ | refine W_inBlock ?_ | refine W_label ?_ | refine W_exit rfl ?_)
    first | refine W_ret1 hP hf hfn hR ?_ | refine W_end1 hP hf hfn hR ?_
    simp [go_sem, hP, hgl, hn, Tm.rootN, h11, Tm.argN, hx] <;> (try omega)
  by_cases h12 : t.kind = 12
  · obtain ⟨x, hx⟩ := Tm.parts1 ht (by rw [h12]; rfl)
    repeat (first | refine W_seq ?_ | refine W_skip ?_ | refine W_block ?_ | refine W_inBlock ?_ | refine W_label ?_ | refine W_exit rfl ?_ | ((first | refine W_reg [] fun K hK => ?_ | refine W_regd (by rw [hP]; exact mixed) [] fun K hK => ?_); simp [go_sem, hP, hgl, hn, h12, hx]; (repeat (refine ⟨by omega, ?_⟩)); (first | refine hK _ ?_ | refine ⟨by rfl, hK _ ?_⟩); clear hK K) | refine W_cond rfl (fun _ => ?_) (fun hq => False.elim (by first | (simp [h12, hx]; done) | (simp [h12, hx]; omega) | (simp [h12, hx] at hq; done) | (simp [h12, hx] at hq; omega))) | refine W_cond rfl (fun hq => False.elim (by first | (simp [h12, hx]; done) | (simp [h12, hx]; omega) | (simp [h12, hx] at hq; done) | (simp [h12, hx] at hq; omega))) (fun _ => ?_))
    repeat (first | refine W_seq ?_ | refine W_skip ?_ | refine W_block ?_ | refine W_inBlock ?_ | refine W_label ?_ | refine W_exit rfl ?_)
    first | refine W_ret1 hP hf hfn hR ?_ | refine W_end1 hP hf hfn hR ?_
    simp [go_sem, hP, hgl, hn, Tm.rootN, h12, Tm.argN, hx] <;> (try omega)
  repeat (first | refine W_seq ?_ | refine W_skip ?_ | refine W_block ?_ | refine W_inBlock ?_ | refine W_label ?_ | refine W_exit rfl ?_ | ((first | refine W_reg [] fun K hK => ?_ | refine W_regd (by rw [hP]; exact mixed) [] fun K hK => ?_); simp [go_sem, hP, hgl, hn, h3, h6, h9, h11, h12]; (repeat (refine ⟨by omega, ?_⟩)); (first | refine hK _ ?_ | refine ⟨by rfl, hK _ ?_⟩); clear hK K) | refine W_cond rfl (fun _ => ?_) (fun hq => False.elim (by first | (simp [h3, h6, h9, h11, h12]; done) | (simp [h3, h6, h9, h11, h12]; omega) | (simp [h3, h6, h9, h11, h12] at hq; done) | (simp [h3, h6, h9, h11, h12] at hq; omega))) | refine W_cond rfl (fun hq => False.elim (by first | (simp [h3, h6, h9, h11, h12]; done) | (simp [h3, h6, h9, h11, h12]; omega) | (simp [h3, h6, h9, h11, h12] at hq; done) | (simp [h3, h6, h9, h11, h12] at hq; omega))) (fun _ => ?_))
  repeat (first | refine W_seq ?_ | refine W_skip ?_ | refine W_block ?_ | refine W_inBlock ?_ | refine W_label ?_ | refine W_exit rfl ?_)
  first | refine W_ret1 hP hf hfn hR ?_ | refine W_end1 hP hf hfn hR ?_
  simp [go_sem, hP, hgl, hn, Tm.rootN, h3, h6, h9, h11, h12] <;> (try omega)

/-- whether a term has no redex -/
def Tm.nf : Tm → Bool
  | .mk k i ty a => !(Tm.mk k i ty a).rootN && nfs a
where
  nfs : List Tm → Bool
    | [] => true
    | a :: r => a.nf && nfs r
theorem Tm.nf_eq (t : Tm) : t.nf = (!t.rootN && nf.nfs t.args) := by cases t; rfl
theorem Tm.nfs_iff (l : List Tm) : nf.nfs l = true ↔ ∀ a ∈ l, a.nf = true := by
  induction l with
  | nil => simp [nf.nfs]
  | cons a r ih => simp [nf.nfs, ih]

theorem next_nf_ok (t : Tm) (room : Int) (ht : t.shape = true) (hn0 : t.nf = true) : Con1 Tryd.prog gl 87 [t.dv, dint room] [] (.tup [t.dv, dbool false, dbool true]) [] := by
  induction t using Tm.ind with
  | h t ih =>
  have hs := (Tm.shape_node ht).2.2.2.2
  have hn1 := hn0
  rw [Tm.nf_eq, Bool.and_eq_true, Tm.nfs_iff] at hn1
  have hr : t.rootN = false := by simpa using hn1.1
  refine Con_intro Tryd.func87 rfl (by kernel_rfl) (Nat.le_of_ble_eq_true rfl) ?_
  intro X hP hgl hf hfn hn hR hids hfit
  have hlen := Tm.fit_len (hfit t.dv (by simp))
  repeat (first | refine W_seq ?_ | refine W_skip ?_ | refine W_block ?_ | refine W_inBlock ?_ | refine W_label ?_ | refine W_exit rfl ?_ | ((first | refine W_reg [] fun K hK => ?_ | refine W_regd (by rw [hP]; exact mixed) [] fun K hK => ?_); simp [go_sem, hP, hgl, hn]; (repeat (refine ⟨by omega, ?_⟩)); (first | refine hK _ ?_ | refine ⟨by rfl, hK _ ?_⟩); clear hK K) | refine W_cond rfl (fun _ => ?_) (fun hq => False.elim (by first | (simp; done) | (simp; omega) | (simp at hq; done) | (simp at hq; omega))) | refine W_cond rfl (fun hq => False.elim (by first | (simp; done) | (simp; omega) | (simp at hq; done) | (simp at hq; omega))) (fun _ => ?_))
  repeat (first | refine W_seq ?_ | refine W_skip ?_ | refine W_block ?_ | refine W_inBlock ?_ | refine W_label ?_ | refine W_exit rfl ?_)
  first | refine W_reg [] fun K hK => ?_ | refine W_regd (by rw [hP]; exact mixed) [] fun K hK => ?_
  simp [go_sem, hP, hgl, hn]
  repeat (refine ⟨by omega, ?_⟩)
  first | refine vcK_call hP hgl (root_ok t ht) (by simp [go_sem, hP, hgl, hn]) rfl (by simp [go_sem]) (by simp) (by rw [hn]; exact Nat.le_of_ble_eq_true rfl) ?_ | refine vcdC_call (fun _ _ => vcd_sound) hP hgl (root_ok t ht) (by simp [go_sem, hP, hgl, hn]) rfl (by simp [go_sem]) (by simp) (by rw [hn]; exact Nat.le_of_ble_eq_true rfl) ?_ | refine vcK_callG hP hgl (root_ok t ht) (by simp [go_sem, hP, hgl, hn]) rfl (by simp [go_sem]) (by simp) (by rw [hn]; exact Nat.le_of_ble_eq_true rfl) (by simp [go_sem]; rfl) (by rw [hn]; exact Nat.le_of_ble_eq_true rfl) (by simp [go_sem]) ?_ | refine vcdC_callG (fun _ _ => vcd_sound) hP hgl (root_ok t ht) (by simp [go_sem, hP, hgl, hn]) rfl (by simp [go_sem]) (by simp) (by rw [hn]; exact Nat.le_of_ble_eq_true rfl) (by simp [go_sem]; rfl) (by rw [hn]; exact Nat.le_of_ble_eq_true rfl) (by simp [go_sem]) ?_
  simp [go_sem, hP, hgl, hn]
  repeat (refine ⟨by omega, ?_⟩)
  first | refine hK _ ?_ | refine ⟨by rfl, hK _ ?_⟩
  clear hK K
  repeat (first | refine W_seq ?_ | refine W_skip ?_ | refine W_block ?_ | refine W_inBlock ?_ | refine W_label ?_ | refine W_exit rfl ?_ | ((first | refine W_reg [] fun K hK => ?_ | refine W_regd (by rw [hP]; exact mixed) [] fun K hK => ?_); simp [go_sem, hP, hgl, hn, hr]; (repeat (refine ⟨by omega, ?_⟩)); (first | refine hK _ ?_ | refine ⟨by rfl, hK _ ?_⟩); clear hK K) | refine W_cond rfl (fun _ => ?_) (fun hq => False.elim (by first | (simp [hr]; done) | (simp [hr]; omega) | (simp [hr] at hq; done) | (simp [hr] at hq; omega))) | refine W_cond rfl (fun hq => False.elim (by first | (simp [hr]; done) | (simp [hr]; omega) | (simp [hr] at hq; done) | (simp [hr] at hq; omega))) (fun _ => ?_))
  repeat (first | refine W_seq ?_ | refine W_skip ?_ | refine W_block ?_ | refine W_inBlock ?_ | refine W_label ?_ | refine W_exit rfl ?_)
  refine W_sub [] (by simp [go_sem]) (by simp [go_sem] <;> omega) (by simp [go_sem]) (W_list (t.args) (fun done rest => [(.slot 1, .one (.v (dint room))), (.slot 25, .one (.v (dint done.length))), (.slot 24, .one (.v (dint t.args.length))), (.slot 23, .one (.v (.sl (t.args.map Tm.cells)))), (.loc 4, .row ([.v (dint 0), .v (dint 0), .v (dint 0), .own 0 [], .own 0 []])), (.slot 4, .one (.loc 4 0)), (.loc 2, .row ([.v (dint t.kind), .v (dint t.index), .v (dint t.type.kind), .v (.sl (t.type.args.map Ty.cells)), .v (.sl (t.args.map Tm.cells))])), (.slot 2, .one (.loc 2 0))]) ?_ ?_)
  · intro done x rest hL hg0 hnext
    have hlt : done.length < t.args.length := by rw [hL]; simp
    have hxm := List.mem_of_getElem? hg0
    repeat (first | refine W_seq ?_ | refine W_skip ?_ | refine W_block ?_ | refine W_inBlock ?_ | refine W_label ?_ | refine W_exit rfl ?_)
    first | refine W_reg [] fun K hK => ?_ | refine W_regd (by rw [hP]; exact mixed) [] fun K hK => ?_
    simp [go_sem, hP, hgl, hn]
    repeat (refine ⟨by omega, ?_⟩)
    first | refine hK _ ?_ | refine ⟨by rfl, hK _ ?_⟩
    clear hK K
    repeat (first | refine W_seq ?_ | refine W_skip ?_ | refine W_block ?_ | refine W_inBlock ?_ | refine W_label ?_ | refine W_exit rfl ?_)
    refine W_cond rfl ?_ ?_
    rotate_left
    · intro h; simp at h; try omega
    intro _
    repeat (first | refine W_seq ?_ | refine W_skip ?_ | refine W_block ?_ | refine W_inBlock ?_ | refine W_label ?_ | refine W_exit rfl ?_ | ((first | refine W_reg [] fun K hK => ?_ | refine W_regd (by rw [hP]; exact mixed) [] fun K hK => ?_); simp [go_sem, hP, hgl, hn, hg0]; (repeat (refine ⟨by omega, ?_⟩)); (first | refine hK _ ?_ | refine ⟨by rfl, hK _ ?_⟩); clear hK K) | refine W_cond rfl (fun _ => ?_) (fun hq => False.elim (by first | (simp [hg0]; done) | (simp [hg0]; omega) | (simp [hg0] at hq; done) | (simp [hg0] at hq; omega))) | refine W_cond rfl (fun hq => False.elim (by first | (simp [hg0]; done) | (simp [hg0]; omega) | (simp [hg0] at hq; done) | (simp [hg0] at hq; omega))) (fun _ => ?_))
    repeat (first | refine W_seq ?_ | refine W_skip ?_ | refine W_block ?_ | refine W_inBlock ?_ | refine W_label ?_ | refine W_exit rfl ?_)
    first | refine W_reg [] fun K hK => ?_ | refine W_regd (by rw [hP]; exact mixed) [] fun K hK => ?_
    simp [go_sem, hP, hgl, hn, hg0]
    repeat (refine ⟨by omega, ?_⟩)
    first | refine vcK_call hP hgl (ih x hxm (hs x hxm) (hn1.2 x hxm)) (by simp [go_sem, hP, hgl, hn, hg0]) rfl (by simp [go_sem]) (by simp) (by rw [hn]; exact Nat.le_of_ble_eq_true rfl) ?_ | refine vcdC_call (fun _ _ => vcd_sound) hP hgl (ih x hxm (hs x hxm) (hn1.2 x hxm)) (by simp [go_sem, hP, hgl, hn, hg0]) rfl (by simp [go_sem]) (by simp) (by rw [hn]; exact Nat.le_of_ble_eq_true rfl) ?_ | refine vcK_callG hP hgl (ih x hxm (hs x hxm) (hn1.2 x hxm)) (by simp [go_sem, hP, hgl, hn, hg0]) rfl (by simp [go_sem]) (by simp) (by rw [hn]; exact Nat.le_of_ble_eq_true rfl) (by simp [go_sem]; rfl) (by rw [hn]; exact Nat.le_of_ble_eq_true rfl) (by simp [go_sem]) ?_ | refine vcdC_callG (fun _ _ => vcd_sound) hP hgl (ih x hxm (hs x hxm) (hn1.2 x hxm)) (by simp [go_sem, hP, hgl, hn, hg0]) rfl (by simp [go_sem]) (by simp) (by rw [hn]; exact Nat.le_of_ble_eq_true rfl) (by simp [go_sem]; rfl) (by rw [hn]; exact Nat.le_of_ble_eq_true rfl) (by simp [go_sem]) ?_
    simp [go_sem, hP, hgl, hn, hg0]
    repeat (refine ⟨by omega, ?_⟩)
    first | refine hK _ ?_ | refine ⟨by rfl, hK _ ?_⟩
    clear hK K
    repeat (first | (refine W_sub [] (by simp [go_sem]) (by simp [go_sem] <;> omega) (by simp [go_sem]) hnext) | refine W_seq ?_ | refine W_skip ?_ | refine W_block ?_ | refine W_inBlock ?_ | refine W_label ?_ | refine W_exit rfl ?_ | ((first | refine W_reg [] fun K hK => ?_ | refine W_regd (by rw [hP]; exact mixed) [] fun K hK => ?_); simp [go_sem, hP, hgl, hn]; (repeat (refine ⟨by omega, ?_⟩)); (first | refine hK _ ?_ | refine ⟨by rfl, hK _ ?_⟩); clear hK K) | refine W_cond rfl (fun _ => ?_) (fun hq => False.elim (by first | (simp; done) | (simp; omega) | (simp at hq; done) | (simp at hq; omega))) | refine W_cond rfl (fun hq => False.elim (by first | (simp; done) | (simp; omega) | (simp at hq; done) | (simp at hq; omega))) (fun _ => ?_))
  · repeat (first | refine W_seq ?_ | refine W_skip ?_ | refine W_block ?_ | refine W_inBlock ?_ | refine W_label ?_ | refine W_exit rfl ?_)
    first | refine W_reg [] fun K hK => ?_ | refine W_regd (by rw [hP]; exact mixed) [] fun K hK => ?_
    simp [go_sem, hP, hgl, hn]
    repeat (refine ⟨by omega, ?_⟩)
    first | refine hK _ ?_ | refine ⟨by rfl, hK _ ?_⟩
    clear hK K
    repeat (first | refine W_seq ?_ | refine W_skip ?_ | refine W_block ?_ | refine W_inBlock ?_ | refine W_label ?_ | refine W_exit rfl ?_)
    refine W_cond rfl ?_ ?_
    · intro h; simp at h; try omega
    intro _
    repeat (first | refine W_seq ?_ | refine W_skip ?_ | refine W_block ?_ | refine W_inBlock ?_ | refine W_label ?_ | refine W_exit rfl ?_ | ((first | refine W_reg [] fun K hK => ?_ | refine W_regd (by rw [hP]; exact mixed) [] fun K hK => ?_); simp [go_sem, hP, hgl, hn]; (repeat (refine ⟨by omega, ?_⟩)); (first | refine hK _ ?_ | refine ⟨by rfl, hK _ ?_⟩); clear hK K) | refine W_cond rfl (fun _ => ?_) (fun hq => False.elim (by first | (simp; done) | (simp; omega) | (simp at hq; done) | (simp at hq; omega))) | refine W_cond rfl (fun hq => False.elim (by first | (simp; done) | (simp; omega) | (simp at hq; done) | (simp at hq; omega))) (fun _ => ?_))
    repeat (first | refine W_seq ?_ | refine W_skip ?_ | refine W_block ?_ | refine W_inBlock ?_ | refine W_label ?_ | refine W_exit rfl ?_)
    first | refine W_ret1 hP hf hfn hR ?_ | refine W_end1 hP hf hfn hR ?_
    simp [go_sem, hP, hgl, hn] <;> (try omega)
    all_goals (simp [Ty.dv, Ty.cells_eq, Ty.kind_mk, Ty.args_mk, Tm.dv, Tm.cells_eq, Tm.kind_mk, Tm.index_mk, Tm.type_mk, Tm.args_mk, Val.dv, Val.cells_eq, Val.kind_mk, Val.num_mk, Val.list_mk, Val.args_mk, ints])

theorem normal_nf_ok (t : Tm) (n : Int) (ht : t.tys) (hk : t.checkN = 0) (h0 : t.nf = true) (hm : t.leastN 536870912 = true) (hn1 : 0 ≤ n) (hn2 : n ≤ 65536) : Con1 Tryd.prog gl 40 [t.dv, dint n] [] (.tup [t.dv, dint 0, dint 0]) [] := by
  have hck := (Tm.checkN_iff t).1 hk
  refine Con_intro Tryd.func40 rfl (by kernel_rfl) (Nat.le_of_ble_eq_true rfl) ?_
  intro X hP hgl hf hfn hn hR hids hfit
  repeat (first | refine W_seq ?_ | refine W_skip ?_ | refine W_block ?_ | refine W_inBlock ?_ | refine W_label ?_ | refine W_exit rfl ?_ | ((first | refine W_reg [] fun K hK => ?_ | refine W_regd (by rw [hP]; exact mixed) [] fun K hK => ?_); simp [go_sem, hP, hgl, hn]; (repeat (refine ⟨by omega, ?_⟩)); (first | refine hK _ ?_ | refine ⟨by rfl, hK _ ?_⟩); clear hK K) | refine W_cond rfl (fun _ => ?_) (fun hq => False.elim (by first | (simp; done) | (simp; omega) | (simp at hq; done) | (simp at hq; omega))) | refine W_cond rfl (fun hq => False.elim (by first | (simp; done) | (simp; omega) | (simp at hq; done) | (simp at hq; omega))) (fun _ => ?_))
  repeat (first | refine W_seq ?_ | refine W_skip ?_ | refine W_block ?_ | refine W_inBlock ?_ | refine W_label ?_ | refine W_exit rfl ?_)
  first | refine W_reg [] fun K hK => ?_ | refine W_regd (by rw [hP]; exact mixed) [] fun K hK => ?_
  simp [go_sem, hP, hgl, hn]
  repeat (refine ⟨by omega, ?_⟩)
  first | refine vcK_call hP hgl (ref02_check_ok t ht (by omega)) (by simp [go_sem, hP, hgl, hn]) rfl (by simp [go_sem]) (by simp) (by rw [hn]; exact Nat.le_of_ble_eq_true rfl) ?_ | refine vcdC_call (fun _ _ => vcd_sound) hP hgl (ref02_check_ok t ht (by omega)) (by simp [go_sem, hP, hgl, hn]) rfl (by simp [go_sem]) (by simp) (by rw [hn]; exact Nat.le_of_ble_eq_true rfl) ?_ | refine vcK_callG hP hgl (ref02_check_ok t ht (by omega)) (by simp [go_sem, hP, hgl, hn]) rfl (by simp [go_sem]) (by simp) (by rw [hn]; exact Nat.le_of_ble_eq_true rfl) (by simp [go_sem]; rfl) (by rw [hn]; exact Nat.le_of_ble_eq_true rfl) (by simp [go_sem]) ?_ | refine vcdC_callG (fun _ _ => vcd_sound) hP hgl (ref02_check_ok t ht (by omega)) (by simp [go_sem, hP, hgl, hn]) rfl (by simp [go_sem]) (by simp) (by rw [hn]; exact Nat.le_of_ble_eq_true rfl) (by simp [go_sem]; rfl) (by rw [hn]; exact Nat.le_of_ble_eq_true rfl) (by simp [go_sem]) ?_
  simp [go_sem, hP, hgl, hn]
  repeat (refine ⟨by omega, ?_⟩)
  first | refine hK _ ?_ | refine ⟨by rfl, hK _ ?_⟩
  clear hK K
  have e1 : ¬ n < 0 := by omega
  have e2 : ¬ 65536 < n := by omega
  repeat (first | refine W_seq ?_ | refine W_skip ?_ | refine W_block ?_ | refine W_inBlock ?_ | refine W_label ?_ | refine W_exit rfl ?_ | ((first | refine W_reg [] fun K hK => ?_ | refine W_regd (by rw [hP]; exact mixed) [] fun K hK => ?_); simp [go_sem, hP, hgl, hn, hk]; (repeat (refine ⟨by omega, ?_⟩)); (first | refine hK _ ?_ | refine ⟨by rfl, hK _ ?_⟩); clear hK K) | refine W_cond rfl (fun _ => ?_) (fun hq => False.elim (by first | (simp [hk]; done) | (simp [hk]; omega) | (simp [hk] at hq; done) | (simp [hk] at hq; omega))) | refine W_cond rfl (fun hq => False.elim (by first | (simp [hk]; done) | (simp [hk]; omega) | (simp [hk] at hq; done) | (simp [hk] at hq; omega))) (fun _ => ?_))
  repeat (first | refine W_seq ?_ | refine W_skip ?_ | refine W_block ?_ | refine W_inBlock ?_ | refine W_label ?_ | refine W_exit rfl ?_)
  first | refine W_reg [] fun K hK => ?_ | refine W_regd (by rw [hP]; exact mixed) [] fun K hK => ?_
  simp [go_sem, hP, hgl, hn, e1, e2, hm]
  repeat (refine ⟨by omega, ?_⟩)
  first | refine vcK_call hP hgl (least_ok t 536870912) (by simp [go_sem, hP, hgl, hn, e1, e2, hm]) rfl (by simp [go_sem]) (by simp) (by rw [hn]; exact Nat.le_of_ble_eq_true rfl) ?_ | refine vcdC_call (fun _ _ => vcd_sound) hP hgl (least_ok t 536870912) (by simp [go_sem, hP, hgl, hn, e1, e2, hm]) rfl (by simp [go_sem]) (by simp) (by rw [hn]; exact Nat.le_of_ble_eq_true rfl) ?_ | refine vcK_callG hP hgl (least_ok t 536870912) (by simp [go_sem, hP, hgl, hn, e1, e2, hm]) rfl (by simp [go_sem]) (by simp) (by rw [hn]; exact Nat.le_of_ble_eq_true rfl) (by simp [go_sem]; rfl) (by rw [hn]; exact Nat.le_of_ble_eq_true rfl) (by simp [go_sem]) ?_ | refine vcdC_callG (fun _ _ => vcd_sound) hP hgl (least_ok t 536870912) (by simp [go_sem, hP, hgl, hn, e1, e2, hm]) rfl (by simp [go_sem]) (by simp) (by rw [hn]; exact Nat.le_of_ble_eq_true rfl) (by simp [go_sem]; rfl) (by rw [hn]; exact Nat.le_of_ble_eq_true rfl) (by simp [go_sem]) ?_
  simp [go_sem, hP, hgl, hn, e1, e2, hm]
  repeat (refine ⟨by omega, ?_⟩)
  first | refine hK _ ?_ | refine ⟨by rfl, hK _ ?_⟩
  clear hK K
  repeat (first | refine W_seq ?_ | refine W_skip ?_ | refine W_block ?_ | refine W_inBlock ?_ | refine W_label ?_ | refine W_exit rfl ?_ | ((first | refine W_reg [] fun K hK => ?_ | refine W_regd (by rw [hP]; exact mixed) [] fun K hK => ?_); simp [go_sem, hP, hgl, hn, hm]; (repeat (refine ⟨by omega, ?_⟩)); (first | refine hK _ ?_ | refine ⟨by rfl, hK _ ?_⟩); clear hK K) | refine W_cond rfl (fun _ => ?_) (fun hq => False.elim (by first | (simp [hm]; done) | (simp [hm]; omega) | (simp [hm] at hq; done) | (simp [hm] at hq; omega))) | refine W_cond rfl (fun hq => False.elim (by first | (simp [hm]; done) | (simp [hm]; omega) | (simp [hm] at hq; done) | (simp [hm] at hq; omega))) (fun _ => ?_))
  repeat (first | refine W_seq ?_ | refine W_skip ?_ | refine W_block ?_ | refine W_inBlock ?_ | refine W_label ?_ | refine W_exit rfl ?_)
  refine W_sub [] (by simp [go_sem]) (by simp [go_sem] <;> omega) (by simp [go_sem]) (W_rounds (fun _u : Unit => True) (fun _u : Unit => [(.slot 1, .one (.v (dint n))), (.slot 8, .one (.v (dint 0))), (.loc 4, .row ([.v (dint 0), .v (dint 0), .v (dint 0), .own 0 [], .own 0 []])), (.slot 4, .one (.loc 4 0)), (.loc 2, .row ([.v (dint t.kind), .v (dint t.index), .v (dint t.type.kind), .v (.sl (t.type.args.map Ty.cells)), .v (.sl (t.args.map Tm.cells))])), (.slot 2, .one (.loc 2 0))]) (fun _u : Unit => 0) () (trivial) ?_)
  intro _ _ ih2
  repeat (first | refine W_seq ?_ | refine W_skip ?_ | refine W_block ?_ | refine W_inBlock ?_ | refine W_label ?_ | refine W_exit rfl ?_ | ((first | refine W_reg [] fun K hK => ?_ | refine W_regd (by rw [hP]; exact mixed) [] fun K hK => ?_); simp [go_sem, hP, hgl, hn]; (repeat (refine ⟨by omega, ?_⟩)); (first | refine hK _ ?_ | refine ⟨by rfl, hK _ ?_⟩); clear hK K) | refine W_cond rfl (fun _ => ?_) (fun hq => False.elim (by first | (simp; done) | (simp; omega) | (simp at hq; done) | (simp at hq; omega))) | refine W_cond rfl (fun hq => False.elim (by first | (simp; done) | (simp; omega) | (simp at hq; done) | (simp at hq; omega))) (fun _ => ?_))
  repeat (first | refine W_seq ?_ | refine W_skip ?_ | refine W_block ?_ | refine W_inBlock ?_ | refine W_label ?_ | refine W_exit rfl ?_)
  first | refine W_reg [] fun K hK => ?_ | refine W_regd (by rw [hP]; exact mixed) [] fun K hK => ?_
  simp [go_sem, hP, hgl, hn]
  repeat (refine ⟨by omega, ?_⟩)
  first | refine vcK_call hP hgl (ref02_count_ok t (by omega)) (by simp [go_sem, hP, hgl, hn]) rfl (by simp [go_sem]) (by simp) (by rw [hn]; exact Nat.le_of_ble_eq_true rfl) ?_ | refine vcdC_call (fun _ _ => vcd_sound) hP hgl (ref02_count_ok t (by omega)) (by simp [go_sem, hP, hgl, hn]) rfl (by simp [go_sem]) (by simp) (by rw [hn]; exact Nat.le_of_ble_eq_true rfl) ?_ | refine vcK_callG hP hgl (ref02_count_ok t (by omega)) (by simp [go_sem, hP, hgl, hn]) rfl (by simp [go_sem]) (by simp) (by rw [hn]; exact Nat.le_of_ble_eq_true rfl) (by simp [go_sem]; rfl) (by rw [hn]; exact Nat.le_of_ble_eq_true rfl) (by simp [go_sem]) ?_ | refine vcdC_callG (fun _ _ => vcd_sound) hP hgl (ref02_count_ok t (by omega)) (by simp [go_sem, hP, hgl, hn]) rfl (by simp [go_sem]) (by simp) (by rw [hn]; exact Nat.le_of_ble_eq_true rfl) (by simp [go_sem]; rfl) (by rw [hn]; exact Nat.le_of_ble_eq_true rfl) (by simp [go_sem]) ?_
  simp [go_sem, hP, hgl, hn]
  repeat (refine ⟨by omega, ?_⟩)
  first | refine vcK_call hP hgl (next_nf_ok t (4096 - t.count) hck.1 h0) (by simp [go_sem, hP, hgl, hn]) rfl (by simp [go_sem]) (by simp) (by rw [hn]; exact Nat.le_of_ble_eq_true rfl) ?_ | refine vcdC_call (fun _ _ => vcd_sound) hP hgl (next_nf_ok t (4096 - t.count) hck.1 h0) (by simp [go_sem, hP, hgl, hn]) rfl (by simp [go_sem]) (by simp) (by rw [hn]; exact Nat.le_of_ble_eq_true rfl) ?_ | refine vcK_callG hP hgl (next_nf_ok t (4096 - t.count) hck.1 h0) (by simp [go_sem, hP, hgl, hn]) rfl (by simp [go_sem]) (by simp) (by rw [hn]; exact Nat.le_of_ble_eq_true rfl) (by simp [go_sem]; rfl) (by rw [hn]; exact Nat.le_of_ble_eq_true rfl) (by simp [go_sem]) ?_ | refine vcdC_callG (fun _ _ => vcd_sound) hP hgl (next_nf_ok t (4096 - t.count) hck.1 h0) (by simp [go_sem, hP, hgl, hn]) rfl (by simp [go_sem]) (by simp) (by rw [hn]; exact Nat.le_of_ble_eq_true rfl) (by simp [go_sem]; rfl) (by rw [hn]; exact Nat.le_of_ble_eq_true rfl) (by simp [go_sem]) ?_
  simp [go_sem, hP, hgl, hn]
  repeat (refine ⟨by omega, ?_⟩)
  first | refine hK _ ?_ | refine ⟨by rfl, hK _ ?_⟩
  clear hK K
  repeat (first | refine W_seq ?_ | refine W_skip ?_ | refine W_block ?_ | refine W_inBlock ?_ | refine W_label ?_ | refine W_exit rfl ?_ | ((first | refine W_reg [] fun K hK => ?_ | refine W_regd (by rw [hP]; exact mixed) [] fun K hK => ?_); simp [go_sem, hP, hgl, hn]; (repeat (refine ⟨by omega, ?_⟩)); (first | refine hK _ ?_ | refine ⟨by rfl, hK _ ?_⟩); clear hK K) | refine W_cond rfl (fun _ => ?_) (fun hq => False.elim (by first | (simp; done) | (simp; omega) | (simp at hq; done) | (simp at hq; omega))) | refine W_cond rfl (fun hq => False.elim (by first | (simp; done) | (simp; omega) | (simp at hq; done) | (simp at hq; omega))) (fun _ => ?_))
  repeat (first | refine W_seq ?_ | refine W_skip ?_ | refine W_block ?_ | refine W_inBlock ?_ | refine W_label ?_ | refine W_exit rfl ?_)
  first | refine W_reg [] fun K hK => ?_ | refine W_regd (by rw [hP]; exact mixed) [] fun K hK => ?_
  simp [go_sem, hP, hgl, hn]
  repeat (refine ⟨by omega, ?_⟩)
  first | refine vcK_call hP hgl (ref02_copy_ok t) (by simp [go_sem, hP, hgl, hn]) rfl (by simp [go_sem]) (by simp) (by rw [hn]; exact Nat.le_of_ble_eq_true rfl) ?_ | refine vcdC_call (fun _ _ => vcd_sound) hP hgl (ref02_copy_ok t) (by simp [go_sem, hP, hgl, hn]) rfl (by simp [go_sem]) (by simp) (by rw [hn]; exact Nat.le_of_ble_eq_true rfl) ?_ | refine vcK_callG hP hgl (ref02_copy_ok t) (by simp [go_sem, hP, hgl, hn]) rfl (by simp [go_sem]) (by simp) (by rw [hn]; exact Nat.le_of_ble_eq_true rfl) (by simp [go_sem]; rfl) (by rw [hn]; exact Nat.le_of_ble_eq_true rfl) (by simp [go_sem]) ?_ | refine vcdC_callG (fun _ _ => vcd_sound) hP hgl (ref02_copy_ok t) (by simp [go_sem, hP, hgl, hn]) rfl (by simp [go_sem]) (by simp) (by rw [hn]; exact Nat.le_of_ble_eq_true rfl) (by simp [go_sem]; rfl) (by rw [hn]; exact Nat.le_of_ble_eq_true rfl) (by simp [go_sem]) ?_
  simp [go_sem, hP, hgl, hn]
  repeat (refine ⟨by omega, ?_⟩)
  first | refine hK _ ?_ | refine ⟨by rfl, hK _ ?_⟩
  clear hK K
  repeat (first | refine W_seq ?_ | refine W_skip ?_ | refine W_block ?_ | refine W_inBlock ?_ | refine W_label ?_ | refine W_exit rfl ?_)
  first | refine W_ret1 hP hf hfn hR ?_ | refine W_end1 hP hf hfn hR ?_
  simp [go_sem, hP, hgl, hn] <;> (try omega)
  all_goals (simp [Ty.dv, Ty.cells_eq, Ty.kind_mk, Ty.args_mk, Tm.dv, Tm.cells_eq, Tm.kind_mk, Tm.index_mk, Tm.type_mk, Tm.args_mk, Val.dv, Val.cells_eq, Val.kind_mk, Val.num_mk, Val.list_mk, Val.args_mk, ints])
end Go.Proofs.YtbmnlkfgkdallaaDoor.Lift
