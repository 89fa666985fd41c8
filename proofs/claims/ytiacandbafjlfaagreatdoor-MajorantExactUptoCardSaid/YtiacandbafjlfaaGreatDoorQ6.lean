import Derived.Test.YtiacandbafjlfaaGreatDoorQ5
/-
  The reference's Max, Term, bounds and Majorizes, walked.
-/
namespace Go.Proofs.YtiacandbafjlfaaGreatDoor.Lift
set_option linter.unusedSimpArgs false
set_option linter.unusedVariables false
set_option linter.unnecessarySimpa false
open Go
variable {gl : Globs}

theorem term33E_ok (t : Tm) (ht : t.tys) (hc : t.count ≤ 1073741824) : Con1 Tryz.prog gl 22 [t.dv] [] (.tup [t.mTermE.1.dv, dint t.mTermE.2]) [] := by
  have hfo := Tm.fold t
  have wc := ref02_check_ok (gl := gl) t ht (by omega)
  have wl := large24_ok (gl := gl) t
  unfold Tm.mTermE
  by_cases h : t.checkN = 0
  · rw [if_pos h]
    obtain ⟨hs, hcc⟩ := (Tm.checkN_iff t).1 h
    rw [h] at wc
    by_cases h2 : t.leastN 268435456 = true
    · rw [if_pos h2]
      have wt := term33_ok (gl := gl) t (M := 268435456) hs (Tm.idx_of t _ hs h2) (by decide) (by omega) hcc
      rw [h2] at wl
      generalize runT (majE t) = z at *
      obtain ⟨z1, z2⟩ := z
      simp only at wt ⊢
      refine t_in Tryz.func22 ?_
      intro X hP hgl hf hfn hn hR hids hfit
      refine t_g0 ?_
      refine t_c1 @hfo wc ?_
      refine t_g0 ?_
      refine t_c1 @hfo wl ?_
      refine t_g0 ?_
      refine t_c1 @hfo wt ?_
      refine t_r ?_
      simp [go_sem, hP, hgl, hn] <;> (try omega)
      all_goals exact t_f
    · rw [if_neg h2]
      have h2' : t.leastN 268435456 = false := by simpa using h2
      rw [h2'] at wl
      refine t_in Tryz.func22 ?_
      intro X hP hgl hf hfn hn hR hids hfit
      refine t_g0 ?_
      refine t_c1 @hfo wc ?_
      refine t_g0 ?_
      refine t_c1 @hfo wl ?_
      refine t_g0 ?_
      refine t_r ?_
      simp [go_sem, hP, hgl, hn, zeroTm] <;> (try omega)
      all_goals exact t_f
  · rw [if_neg h]
    generalize t.checkN = e at *
    refine t_in Tryz.func22 ?_
    intro X hP hgl hf hfn hn hR hids hfit
    refine t_g0 ?_
    refine t_c1 @hfo wc ?_
    refine t_g @h ?_
    refine t_r ?_
    simp [go_sem, hP, hgl, hn, zeroTm] <;> (try omega)
    all_goals exact t_f

theorem bare_of_listed : ∀ (c : T), c.ty.listedN = false → c.bare
  | .nat, _ => trivial
  | .list, h => by cases h
  | .unit, _ => trivial
  | .pair a b, h => by
    rw [Ty.listedN_eq] at h
    have h : (false || (a.ty.listedN || (b.ty.listedN || false))) = false := h
    simp at h
    exact ⟨bare_of_listed a h.1, bare_of_listed b h.2⟩
  | .fn a b, h => by
    rw [Ty.listedN_eq] at h
    have h : (false || (a.ty.listedN || (b.ty.listedN || false))) = false := h
    simp at h
    exact ⟨bare_of_listed a h.1, bare_of_listed b h.2⟩

theorem max33E_ok (s : Ty) (x y : Tm) (hsc : s.count ≤ 1073741824) (hx : x.tys) (hxc : x.count ≤ 1073741824) (hy : y.tys) (hyc : y.count ≤ 1073741824) :
    Con1 Tryz.prog gl 18 [s.dv, x.dv, y.dv] [] (.tup [(mMaxE s x y).1.dv, dint (mMaxE s x y).2]) [] := by
  have hfs := Ty.fold s
  have hfx := Tm.fold x
  have hfy := Tm.fold y
  have ws := ref01_check_ok (gl := gl) s (by omega)
  have wl := lists33_ok (gl := gl) s
  have wx := ref02_check_ok (gl := gl) x hx (by omega)
  have wy := ref02_check_ok (gl := gl) y hy (by omega)
  have w1 := large24_ok (gl := gl) x
  have w2 := large24_ok (gl := gl) y
  unfold mMaxE
  by_cases h : s.checkN = 0
  rotate_left
  · rw [if_neg h]
    generalize s.checkN = e at *
    refine t_in Tryz.func18 ?_
    intro X hP hgl hf hfn hn hR hids hfit
    refine t_g0 ?_
    refine t_c1 @hfs ws ?_
    refine t_g @h ?_
    refine t_r ?_
    simp [go_sem, hP, hgl, hn, zeroTm] <;> (try omega)
    all_goals exact t_f
  rw [if_pos h]
  rw [h] at ws
  by_cases hl : s.listedN = true
  · rw [if_pos hl]
    rw [hl] at wl
    refine t_in Tryz.func18 ?_
    intro X hP hgl hf hfn hn hR hids hfit
    refine t_g0 ?_
    refine t_c1 @hfs ws ?_
    refine t_g0 ?_
    refine t_c1 @hfs wl ?_
    refine t_g0 ?_
    refine t_r ?_
    simp [go_sem, hP, hgl, hn, zeroTm] <;> (try omega)
    all_goals exact t_f
  rw [if_neg hl]
  have hl' : s.listedN = false := by simpa using hl
  rw [hl'] at wl
  by_cases hkx : x.checkN = 0
  rotate_left
  · have hfe : firstErr [x, y] = x.checkN := by simp only [firstErr]; rw [if_neg hkx]
    rw [hfe, if_neg hkx]
    generalize x.checkN = e at *
    refine t_in Tryz.func18 ?_
    intro X hP hgl hf hfn hn hR hids hfit
    refine t_g0 ?_
    refine t_c1 @hfs ws ?_
    refine t_g0 ?_
    refine t_c1 @hfs wl ?_
    refine t_g0 ?_
    refine t_c1 @hfx wx ?_
    refine t_g @hkx ?_
    refine t_r ?_
    simp [go_sem, hP, hgl, hn, zeroTm] <;> (try omega)
    all_goals exact t_f
  by_cases hky : y.checkN = 0
  rotate_left
  · have hfe : firstErr [x, y] = y.checkN := by simp only [firstErr]; rw [if_pos hkx, if_neg hky]
    rw [hfe, if_neg hky]
    rw [hkx] at wx
    generalize y.checkN = e at *
    refine t_in Tryz.func18 ?_
    intro X hP hgl hf hfn hn hR hids hfit
    refine t_g0 ?_
    refine t_c1 @hfs ws ?_
    refine t_g0 ?_
    refine t_c1 @hfs wl ?_
    refine t_g0 ?_
    refine t_c1 @hfx wx ?_
    refine t_g0 ?_
    refine t_c1 @hfy wy ?_
    refine t_g @hky ?_
    refine t_r ?_
    simp [go_sem, hP, hgl, hn, zeroTm] <;> (try omega)
    all_goals exact t_f
  have hfe : firstErr [x, y] = 0 := by simp only [firstErr]; rw [if_pos hkx, if_pos hky]
  rw [hfe, if_pos rfl]
  rw [hkx] at wx
  rw [hky] at wy
  obtain ⟨sx, cx⟩ := (Tm.checkN_iff x).1 hkx
  obtain ⟨sy, cy⟩ := (Tm.checkN_iff y).1 hky
  by_cases hlx : x.leastN 268435456 = true
  rotate_left
  · rw [if_neg hlx]
    have hlx' : x.leastN 268435456 = false := by simpa using hlx
    rw [hlx'] at w1
    refine t_in Tryz.func18 ?_
    intro X hP hgl hf hfn hn hR hids hfit
    refine t_g0 ?_
    refine t_c1 @hfs ws ?_
    refine t_g0 ?_
    refine t_c1 @hfs wl ?_
    refine t_g0 ?_
    refine t_c1 @hfx wx ?_
    refine t_g0 ?_
    refine t_c1 @hfy wy ?_
    refine t_g0 ?_
    refine t_c1 @hfx w1 ?_
    refine t_g0 ?_
    refine t_r ?_
    simp [go_sem, hP, hgl, hn, zeroTm] <;> (try omega)
    all_goals exact t_f
  rw [if_pos hlx]
  rw [hlx] at w1
  by_cases hly : y.leastN 268435456 = true
  rotate_left
  · rw [if_neg hly]
    have hly' : y.leastN 268435456 = false := by simpa using hly
    rw [hly'] at w2
    refine t_in Tryz.func18 ?_
    intro X hP hgl hf hfn hn hR hids hfit
    refine t_g0 ?_
    refine t_c1 @hfs ws ?_
    refine t_g0 ?_
    refine t_c1 @hfs wl ?_
    refine t_g0 ?_
    refine t_c1 @hfx wx ?_
    refine t_g0 ?_
    refine t_c1 @hfy wy ?_
    refine t_g0 ?_
    refine t_c2 (j2 @hfx @hfy) w1 w2 ?_
    refine t_g0 ?_
    refine t_r ?_
    simp [go_sem, hP, hgl, hn, zeroTm] <;> (try omega)
    all_goals exact t_f
  rw [if_pos hly]
  rw [hly] at w2
  have so := (Ty.checkN_iff s).1 h
  obtain ⟨c, rfl⟩ := T.of_shape s so.1
  have hco : c.ok := by have := so.2; rw [T.ty_count] at this; exact this
  have hcb := bare_of_listed c hl'
  have hcs : c.size ≤ 64 := hco
  have wm := maximum33_ok (gl := gl) c x y 268435456 hco hcb (by decide) (by omega) sx (Tm.idx_of x _ sx hlx) (by omega) sy (Tm.idx_of y _ sy hly) (by omega)
  rw [← run_max c hco hcb, max33_ok (by omega)] at wm
  generalize runT (maxE c.ty x y 0) = z at *
  obtain ⟨z1, z2⟩ := z
  simp only at wm ⊢
  generalize c.ty = s at *
  refine t_in Tryz.func18 ?_
  intro X hP hgl hf hfn hn hR hids hfit
  refine t_g0 ?_
  refine t_c1 @hfs ws ?_
  refine t_g0 ?_
  refine t_c1 @hfs wl ?_
  refine t_g0 ?_
  refine t_c1 @hfx wx ?_
  refine t_g0 ?_
  refine t_c1 @hfy wy ?_
  refine t_g0 ?_
  refine t_c2 (j2 @hfx @hfy) w1 w2 ?_
  refine t_g0 ?_
  refine t_c1 (j2 @hfs (j2 @hfx @hfy)) wm ?_
  refine t_r ?_
  simp [go_sem, hP, hgl, hn] <;> (try omega)
  all_goals exact t_f

/-- what is known of a valid value -/
theorem val_form {v : Val} (h : v.nodesN.2 = true) : ((v.kind = 1 ∧ v.args = []) ∨ (v.kind = 2 ∧ v.num = 0 ∧ v.args = []) ∨ (v.kind = 3 ∧ v.num = 0 ∧ v.args.length = 2) ∨ (v.kind = 4 ∧ v.num = 0 ∧ v.args = [])) ∧ ∀ a ∈ v.args, a.nodesN.2 = true := by
  rw [Val.nodesN_eq] at h
  obtain ⟨h1, h2⟩ := Val.nodesL_ok h
  refine ⟨?_, h2⟩
  unfold Val.okB at h1
  by_cases k1 : v.kind = 1
  · rw [if_pos k1] at h1
    simp at h1
    exact .inl ⟨k1, h1.2⟩
  rw [if_neg k1] at h1
  by_cases k2 : v.kind = 2
  · rw [if_pos k2] at h1
    simp at h1
    exact .inr (.inl ⟨k2, h1.1.1, h1.2⟩)
  rw [if_neg k2] at h1
  by_cases k3 : v.kind = 3
  · rw [if_pos k3] at h1
    simp at h1
    exact .inr (.inr (.inl ⟨k3, h1.1.1, h1.2⟩))
  rw [if_neg k3] at h1
  by_cases k4 : v.kind = 4
  · rw [if_pos k4] at h1
    simp at h1
    exact .inr (.inr (.inr ⟨k4, h1.1.1, h1.2⟩))
  rw [if_neg k4] at h1
  cases h1

set_option maxHeartbeats 1000000 in
theorem bounds33_ok (a : Val) : ∀ (v : Val), a.nodesN.2 = true → v.nodesN.2 = true → Con1 Tryz.prog gl 72 [a.dv, v.dv] [] (dbool (a.overN v)) [] := by
  induction a using Val.ind with
  | h a ih =>
  intro v ha hv
  obtain ⟨fa, ga⟩ := val_form ha
  obtain ⟨fv, gv⟩ := val_form hv
  have hfv := Val.fold v
  have hfa := Val.fold a
  refine t_in Tryz.func72 ?_
  intro X hP hgl hf hfn hn hR hids hfit
  rw [Val.overN_eq] at hR
  by_cases k2 : v.kind = 2
  · have wv := value33_ok (gl := gl) v
    have hfv2 := hfv
    rw [k2] at hfv2
    have hb := (Val.boundN_eq v).trans (if_pos k2)
    have h33 := (Val.val33N_eq v).trans (if_pos k2)
    have hbn : v.boundN.num = mostOf v.list.length v.list := by rw [hb]; rfl
    rw [h33] at wv
    have wv : Con1 Tryz.prog gl 67 [v.dv] [] (.agg [dint 1, dint (mostOf v.list.length v.list), .sl [], .sl []]) [] := wv
    by_cases k1 : a.kind = 1
    · rw [if_pos ⟨k1, .inr k2⟩, hbn] at hR
      refine t_g @k2 ?_
      refine t_c1 (j2 @hfv2 @k1) wv ?_
      refine t_r ?_
      simp [go_sem, hP, hgl, hn, k1] <;> (try omega)
    · have hnf : ¬ (a.kind = 1 ∧ (v.kind = 1 ∨ v.kind = 2)) := fun h => k1 h.1
      have hf3 : ¬ (a.kind = 3 ∧ v.kind = 3) := fun h => by rw [k2] at h; exact absurd h.2 (by decide)
      have hf4 : decide (a.kind = 4 ∧ v.kind = 4) = false := decide_eq_false fun h => by rw [k2] at h; exact absurd h.2 (by decide)
      rw [if_neg hnf, if_neg hf3, hf4] at hR
      refine t_g (j2 @k2 @k1) ?_
      refine t_r ?_
      simp [go_sem, hP, hgl, hn, k1] <;> (try omega)
  by_cases hk : a.kind = v.kind
  rotate_left
  · have hov : (if a.kind = 1 ∧ (v.kind = 1 ∨ v.kind = 2) then decide (v.boundN.num ≤ a.num) else if a.kind = 3 ∧ v.kind = 3 then Val.overN.overs a.args v.args else decide (a.kind = 4 ∧ v.kind = 4)) = false := by
      rw [if_neg (by rintro ⟨h1, h2 | h2⟩; exact hk (by rw [h1, h2]); exact k2 h2), if_neg (by rintro ⟨h1, h2⟩; exact hk (by rw [h1, h2]))]
      exact decide_eq_false (by rintro ⟨h1, h2⟩; exact hk (by rw [h1, h2]))
    rw [hov] at hR
    refine t_g (j2 @k2 @hk) ?_
    refine t_r ?_
    simp [go_sem, hP, hgl, hn] <;> (try omega)
  rcases fv with ⟨v1, vA⟩ | ⟨v1, -, -⟩ | ⟨v1, v0, vA⟩ | ⟨v1, v0, vA⟩
  · have a1 : a.kind = 1 := by rw [hk, v1]
    have hb : v.boundN.num = v.num := by rw [Val.boundN_eq, if_neg k2, if_neg (by rw [v1]; decide)]
    rw [if_pos ⟨a1, .inl v1⟩, hb] at hR
    by_cases hlt : a.num < v.num
    · have hd : decide (v.num ≤ a.num) = false := decide_eq_false (by omega)
      rw [hd] at hR
      refine t_g (j2 @a1 (j2 @v1 @hlt)) ?_
      refine t_r ?_
      simp [go_sem, hP, hgl, hn] <;> (try omega)
    · have hd : decide (v.num ≤ a.num) = true := decide_eq_true (by omega)
      rw [hd] at hR
      repeat (first | refine W_seq ?_ | refine W_skip ?_ | refine W_block ?_ | refine W_inBlock ?_ | refine W_label ?_ | refine W_exit rfl ?_ | ((first | refine W_reg [] fun K hK => ?_ | refine W_regd (by rw [hP]; exact mixed) [] fun K hK => ?_); simp [go_sem, hP, hgl, hn, a1, v1, hlt, vA]; (repeat (refine ⟨by omega, ?_⟩)); (first | refine hK _ ?_ | refine ⟨by rfl, hK _ ?_⟩); clear hK K) | refine W_cond rfl (fun _ => ?_) (fun hq => False.elim (by first | (simp [a1, v1, hlt, vA]; done) | (simp [a1, v1, hlt, vA]; omega) | (simp [a1, v1, hlt, vA] at hq; done) | (simp [a1, v1, hlt, vA] at hq; omega))) | refine W_cond rfl (fun hq => False.elim (by first | (simp [a1, v1, hlt, vA]; done) | (simp [a1, v1, hlt, vA]; omega) | (simp [a1, v1, hlt, vA] at hq; done) | (simp [a1, v1, hlt, vA] at hq; omega))) (fun _ => ?_))
      refine W_loop ?_
      repeat (first | refine W_seq ?_ | refine W_skip ?_ | refine W_block ?_ | refine W_inBlock ?_ | refine W_label ?_ | refine W_exit rfl ?_ | ((first | refine W_reg [] fun K hK => ?_ | refine W_regd (by rw [hP]; exact mixed) [] fun K hK => ?_); simp [go_sem, hP, hgl, hn, vA]; (repeat (refine ⟨by omega, ?_⟩)); (first | refine hK _ ?_ | refine ⟨by rfl, hK _ ?_⟩); clear hK K) | refine W_cond rfl (fun _ => ?_) (fun hq => False.elim (by first | (simp [vA]; done) | (simp [vA]; omega) | (simp [vA] at hq; done) | (simp [vA] at hq; omega))) | refine W_cond rfl (fun hq => False.elim (by first | (simp [vA]; done) | (simp [vA]; omega) | (simp [vA] at hq; done) | (simp [vA] at hq; omega))) (fun _ => ?_))
      refine t_r ?_
      simp [go_sem, hP, hgl, hn] <;> (try omega)
  · exact absurd v1 k2
  · have a1 : a.kind = 3 := by rw [hk, v1]
    have aA : a.num = 0 ∧ a.args.length = 2 := by
      rcases fa with ⟨h, -⟩ | ⟨h, -, -⟩ | ⟨-, h1, h2⟩ | ⟨h, -, -⟩
      · rw [a1] at h; cases h
      · rw [a1] at h; cases h
      · exact ⟨h1, h2⟩
      · rw [a1] at h; cases h
    obtain ⟨a0, aL⟩ := aA
    rw [if_neg (by rw [a1]; rintro ⟨h, -⟩; cases h), if_pos ⟨a1, v1⟩] at hR
    match hargs : a.args, aL, hargs2 : v.args, vA with
    | [x, y], _, [x', y'], _ =>
    have hx : x ∈ a.args := by rw [hargs]; simp
    have hy : y ∈ a.args := by rw [hargs]; simp
    have hx' : x' ∈ v.args := by rw [hargs2]; simp
    have hy' : y' ∈ v.args := by rw [hargs2]; simp
    rw [hargs, hargs2] at hR
    simp only [Val.overN.overs, Bool.and_true] at hR
    have w1 := ih x hx x' (ga x hx) (gv x' hx')
    have w2 := ih y hy y' (ga y hy) (gv y' hy')
    have hfx := Val.fold x
    have hfy := Val.fold y
    have hfx' := Val.fold x'
    have hfy' := Val.fold y'
    by_cases hq : x.overN x' = true
    · rw [hq] at w1 hR
      by_cases hq2 : y.overN y' = true
      · rw [hq2] at w2 hR
        refine t_g (j2 @a1 (j2 @v1 (j2 @a0 (j2 @v0 (j2 @hargs @hargs2))))) ?_
        refine W_loop ?_
        refine t_g (j2 @hargs @hargs2) ?_
        refine t_c1 (j2 @hargs (j2 @hargs2 (j2 @hfx @hfx'))) w1 ?_
        refine t_g (j2 @hargs @hargs2) ?_
        refine W_inLoop ?_
        refine t_g (j2 @hargs @hargs2) ?_
        refine t_c1 (j2 @hargs (j2 @hargs2 (j2 @hfy @hfy'))) w2 ?_
        refine t_g (j2 @hargs @hargs2) ?_
        refine W_inLoop ?_
        refine t_g (j2 @hargs @hargs2) ?_
        refine t_r ?_
        simp [go_sem, hP, hgl, hn] <;> (try omega)
      · have hq2' : y.overN y' = false := by simpa using hq2
        rw [hq2'] at w2 hR
        refine t_g (j2 @a1 (j2 @v1 (j2 @a0 (j2 @v0 (j2 @hargs @hargs2))))) ?_
        refine W_loop ?_
        refine t_g (j2 @hargs @hargs2) ?_
        refine t_c1 (j2 @hargs (j2 @hargs2 (j2 @hfx @hfx'))) w1 ?_
        refine t_g (j2 @hargs @hargs2) ?_
        refine W_inLoop ?_
        refine t_g (j2 @hargs @hargs2) ?_
        refine t_c1 (j2 @hargs (j2 @hargs2 (j2 @hfy @hfy'))) w2 ?_
        refine t_g (j2 @hargs @hargs2) ?_
        refine t_r ?_
        simp [go_sem, hP, hgl, hn] <;> (try omega)
    · have hq' : x.overN x' = false := by simpa using hq
      rw [hq'] at w1 hR
      refine t_g (j2 @a1 (j2 @v1 (j2 @a0 (j2 @v0 (j2 @hargs @hargs2))))) ?_
      refine W_loop ?_
      refine t_g (j2 @hargs @hargs2) ?_
      refine t_c1 (j2 @hargs (j2 @hargs2 (j2 @hfx @hfx'))) w1 ?_
      refine t_g (j2 @hargs @hargs2) ?_
      refine t_r ?_
      simp [go_sem, hP, hgl, hn] <;> (try omega)
  · have a1 : a.kind = 4 := by rw [hk, v1]
    have a0 : a.num = 0 := by
      rcases fa with ⟨h, -⟩ | ⟨h, -, -⟩ | ⟨h, -, -⟩ | ⟨-, h1, -⟩
      · rw [a1] at h; cases h
      · rw [a1] at h; cases h
      · rw [a1] at h; cases h
      · exact h1
    rw [if_neg (by rw [a1]; rintro ⟨h, -⟩; cases h), if_neg (by rw [a1]; rintro ⟨h, -⟩; cases h), decide_eq_true (show a.kind = 4 ∧ v.kind = 4 from ⟨a1, v1⟩)] at hR
    repeat (first | refine W_seq ?_ | refine W_skip ?_ | refine W_block ?_ | refine W_inBlock ?_ | refine W_label ?_ | refine W_exit rfl ?_ | ((first | refine W_reg [] fun K hK => ?_ | refine W_regd (by rw [hP]; exact mixed) [] fun K hK => ?_); simp [go_sem, hP, hgl, hn, a1, v1, a0, v0, vA]; (repeat (refine ⟨by omega, ?_⟩)); (first | refine hK _ ?_ | refine ⟨by rfl, hK _ ?_⟩); clear hK K) | refine W_cond rfl (fun _ => ?_) (fun hq => False.elim (by first | (simp [a1, v1, a0, v0, vA]; done) | (simp [a1, v1, a0, v0, vA]; omega) | (simp [a1, v1, a0, v0, vA] at hq; done) | (simp [a1, v1, a0, v0, vA] at hq; omega))) | refine W_cond rfl (fun hq => False.elim (by first | (simp [a1, v1, a0, v0, vA]; done) | (simp [a1, v1, a0, v0, vA]; omega) | (simp [a1, v1, a0, v0, vA] at hq; done) | (simp [a1, v1, a0, v0, vA] at hq; omega))) (fun _ => ?_))
    refine W_loop ?_
    repeat (first | refine W_seq ?_ | refine W_skip ?_ | refine W_block ?_ | refine W_inBlock ?_ | refine W_label ?_ | refine W_exit rfl ?_ | ((first | refine W_reg [] fun K hK => ?_ | refine W_regd (by rw [hP]; exact mixed) [] fun K hK => ?_); simp [go_sem, hP, hgl, hn, vA]; (repeat (refine ⟨by omega, ?_⟩)); (first | refine hK _ ?_ | refine ⟨by rfl, hK _ ?_⟩); clear hK K) | refine W_cond rfl (fun _ => ?_) (fun hq => False.elim (by first | (simp [vA]; done) | (simp [vA]; omega) | (simp [vA] at hq; done) | (simp [vA] at hq; omega))) | refine W_cond rfl (fun hq => False.elim (by first | (simp [vA]; done) | (simp [vA]; omega) | (simp [vA] at hq; done) | (simp [vA] at hq; omega))) (fun _ => ?_))
    refine t_r ?_
    simp [go_sem, hP, hgl, hn] <;> (try omega)

theorem majorizes33_ok (a v : Val) (hc : a.count ≤ 1073741824) (hc2 : v.count ≤ 1073741824) : Con1 Tryz.prog gl 29 [a.dv, v.dv] [] (dbool (a.majorizesN v)) [] := by
  have ca := check5_ok (gl := gl) a hc
  have cv := check5_ok (gl := gl) v hc2
  have hfv := Val.fold v
  have hfa := Val.fold a
  have hn0 : ∀ v : Val, v.checkN = 0 → v.nodesN.2 = true := by
    intro v h
    unfold Val.checkN at h
    by_cases hk : v.nodesN.2 = true
    · exact hk
    · rw [if_neg hk] at h; exact absurd h (by decide)
  unfold Val.majorizesN
  refine t_in Tryz.func29 ?_
  intro X hP hgl hf hfn hn hR hids hfit
  by_cases h1 : a.checkN = 0
  · by_cases h2 : v.checkN = 0
    · have wb := bounds33_ok (gl := gl) a v (hn0 a h1) (hn0 v h2)
      rw [h1] at ca
      rw [h2] at cv
      refine t_g0 ?_
      refine t_c3 (j2 @hfa @hfv) ca cv wb ?_
      refine t_r ?_
      simp [go_sem, hP, hgl, hn, h1, h2] <;> (try omega)
    · rw [h1] at ca
      generalize v.checkN = e at *
      refine t_g0 ?_
      refine t_c2 (j2 @hfa (j2 @hfv @h2)) ca cv ?_
      refine t_r ?_
      simp [go_sem, hP, hgl, hn, h1, h2] <;> (try omega)
  · generalize a.checkN = e at *
    refine t_g0 ?_
    refine t_c1 (j2 @hfa @h1) ca ?_
    refine t_r ?_
    simp [go_sem, hP, hgl, hn, h1] <;> (try omega)
end Go.Proofs.YtiacandbafjlfaaGreatDoor.Lift

/-
  play.Sum: nodes of raw values, counted.
-/
namespace Go.Proofs.YtiacandbafjlfaaGreatDoor.Lift
set_option linter.unusedSimpArgs false
set_option linter.unusedVariables false
set_option linter.unnecessarySimpa false
open Go
variable {gl : Globs}

/-- a sum that is not counted on beyond 20000 -/
def sumF {α : Type} (f : α → Int) : List α → Int → Int
  | [], n => n
  | x :: r, n => if n ≤ 20000 then sumF f r (n + f x) else n
theorem sumF_stop {α : Type} (f : α → Int) (l : List α) (n : Int) (h : ¬ n ≤ 20000) : sumF f l n = n := by cases l <;> simp [sumF, h]
theorem sumF_bd {α : Type} (f : α → Int) : ∀ (l : List α) (n : Int), (∀ x ∈ l, 1 ≤ f x ∧ f x ≤ 2000000) → 0 ≤ n → n ≤ 3000000 → 0 ≤ sumF f l n ∧ sumF f l n ≤ 3000000
  | [], n, _, h0, h1 => ⟨h0, h1⟩
  | x :: r, n, h, h0, h1 => by
    simp only [sumF]
    by_cases hn : n ≤ 20000
    · rw [if_pos hn]
      obtain ⟨k1, k2⟩ := h x (by simp)
      exact sumF_bd f r (n + f x) (fun y hy => h y (by simp [hy])) (by omega) (by omega)
    · rw [if_neg hn]; exact ⟨h0, h1⟩
theorem count0_ok : Con1 Tryz.prog gl 6 [] [] (.agg [dint 0]) [] := by
  refine t_in Tryz.func6 ?_
  intro X hP hgl hf hfn hn hR hids hfit
  refine t_g0 ?_
  refine t_r ?_
  simp [go_sem, hP, hgl, hn] <;> (try omega)
  all_goals exact t_f
theorem sumfew_ok (n : Int) : Con1 Tryz.prog gl 10 [.agg [dint n]] [] (dbool (decide (n ≤ 20000))) [] := by
  refine t_in Tryz.func10 ?_
  intro X hP hgl hf hfn hn hR hids hfit
  refine t_g0 ?_
  refine t_r ?_
  simp [go_sem, hP, hgl, hn] <;> (try omega)

set_option maxHeartbeats 1000000 in
theorem sumtype_ok (l : List Ty) (n : Int) (hl : l.length ≤ 1000) (ht : ∀ x ∈ l, x.tot ≤ 2000000) (h0 : 0 ≤ n) (hn3 : n ≤ 3000000) :
    Con1 Tryz.prog gl 7 [.agg [dint n], .sl (l.map Ty.cells)] [] (.agg [dint (sumF (fun t => t.cntN 20000) l n)]) [] := by
  refine t_in Tryz.func7 ?_
  intro X hP hgl hf hfn hn hR hids hfit
  refine t_g0 ?_
  refine t_a ?_
  refine t_sub [] trivial (W_rounds (fun x : Nat × Int => x.1 ≤ l.length ∧ 0 ≤ x.2 ∧ x.2 ≤ 3000000 ∧ sumF (fun t => Ty.cntN t 20000) (l.drop x.1) x.2 = sumF (fun t => Ty.cntN t 20000) l n) (fun x : Nat × Int => [(.slot 1, .one (.v (.sl (l.map Ty.cells)))), (.slot 5, .one (.v (dint x.1))), (.slot 2, .one (.loc 2 0)), (.loc 2, .row ([.v (dint x.2)])), (.slot 4, .one (.loc 4 0)), (.loc 4, .row ([.v (dint 0)]))]) (fun x : Nat × Int => l.length - x.1) (0, n) (⟨Nat.zero_le _, h0, hn3, rfl⟩) ?_)
  rintro ⟨i, m⟩ ⟨i1, i2, i3, i4⟩ ih
  simp only at i1 i2 i3 i4
  have wf := sumfew_ok (gl := gl) m
  by_cases hi : i < l.length
  · have hg : l[i]? = some l[i] := List.getElem?_eq_getElem hi
    have hd : l.drop i = l[i] :: l.drop (i + 1) := List.drop_eq_getElem_cons hi
    generalize hx : l[i] = x at *
    have hxm : x ∈ l := List.mem_of_getElem? hg
    rw [hd] at i4
    by_cases hm : m ≤ 20000
    · simp only [sumF] at i4
      rw [if_pos hm] at i4
      have hb := Ty.cnt_bd x 20000
      have hxt := ht x hxm
      have w := counttype_ok (gl := gl) x 20000 (by omega) (by omega)
      rw [decide_eq_true hm] at wf
      have hgm : (l.map Ty.cells)[i]? = some x.cells := by rw [List.getElem?_map, hg]; rfl
      have hcx := Ty.cells_eq x
      have hfx := Ty.fold x
      have hnx := ih (i + 1, m + x.cntN 20000) ⟨by show i + 1 ≤ l.length; omega, by show 0 ≤ m + x.cntN 20000; omega, by show m + x.cntN 20000 ≤ 3000000; omega, i4⟩ (by show l.length - (i + 1) < l.length - i; omega)
      generalize x.cntN 20000 = cx at *
      refine t_g0 ?_
      refine t_c1 @hi wf ?_
      refine t_yes ?_
      refine t_g0 ?_
      refine t_c1 (j2 @hgm (j2 @hcx @hfx)) w ?_
      refine t_gt (wr []) trivial trivial hnx
    · rw [sumF_stop _ _ _ hm] at i4
      rw [decide_eq_false hm] at wf
      rw [← i4] at hR
      refine t_g0 ?_
      refine t_c1 @hi wf ?_
      refine t_no ?_
      refine t_g0 ?_
      refine t_r ?_
      simp [go_sem, hP, hgl, hn] <;> (try omega)
  · have hil : i = l.length := by omega
    subst hil
    rw [List.drop_length] at i4
    simp only [sumF] at i4
    rw [← i4] at hR
    refine t_g0 ?_
    refine t_r ?_
    simp [go_sem, hP, hgl, hn] <;> (try omega)

set_option maxHeartbeats 1000000 in
theorem sumterm_ok (l : List Tm) (n : Int) (hl : l.length ≤ 1000) (ht : ∀ x ∈ l, x.tot ≤ 2000000) (h0 : 0 ≤ n) (hn3 : n ≤ 3000000) :
    Con1 Tryz.prog gl 8 [.agg [dint n], .sl (l.map Tm.cells)] [] (.agg [dint (sumF (fun t => t.cntN 20000) l n)]) [] := by
  refine t_in Tryz.func8 ?_
  intro X hP hgl hf hfn hn hR hids hfit
  refine t_g0 ?_
  refine t_a ?_
  refine t_sub [] trivial (W_rounds (fun x : Nat × Int => x.1 ≤ l.length ∧ 0 ≤ x.2 ∧ x.2 ≤ 3000000 ∧ sumF (fun t => Tm.cntN t 20000) (l.drop x.1) x.2 = sumF (fun t => Tm.cntN t 20000) l n) (fun x : Nat × Int => [(.slot 1, .one (.v (.sl (l.map Tm.cells)))), (.slot 5, .one (.v (dint x.1))), (.slot 2, .one (.loc 2 0)), (.loc 2, .row ([.v (dint x.2)])), (.slot 4, .one (.loc 4 0)), (.loc 4, .row ([.v (dint 0)]))]) (fun x : Nat × Int => l.length - x.1) (0, n) (⟨Nat.zero_le _, h0, hn3, rfl⟩) ?_)
  rintro ⟨i, m⟩ ⟨i1, i2, i3, i4⟩ ih
  simp only at i1 i2 i3 i4
  have wf := sumfew_ok (gl := gl) m
  by_cases hi : i < l.length
  · have hg : l[i]? = some l[i] := List.getElem?_eq_getElem hi
    have hd : l.drop i = l[i] :: l.drop (i + 1) := List.drop_eq_getElem_cons hi
    generalize hx : l[i] = x at *
    have hxm : x ∈ l := List.mem_of_getElem? hg
    rw [hd] at i4
    by_cases hm : m ≤ 20000
    · simp only [sumF] at i4
      rw [if_pos hm] at i4
      have hb := Tm.cnt_bd x 20000
      have hxt := ht x hxm
      have w := countterm_ok (gl := gl) x 20000 (by omega) (by omega)
      rw [decide_eq_true hm] at wf
      have hgm : (l.map Tm.cells)[i]? = some x.cells := by rw [List.getElem?_map, hg]; rfl
      have hcx := Tm.cells_eq x
      have hfx := Tm.fold x
      have hnx := ih (i + 1, m + x.cntN 20000) ⟨by show i + 1 ≤ l.length; omega, by show 0 ≤ m + x.cntN 20000; omega, by show m + x.cntN 20000 ≤ 3000000; omega, i4⟩ (by show l.length - (i + 1) < l.length - i; omega)
      generalize x.cntN 20000 = cx at *
      refine t_g0 ?_
      refine t_c1 @hi wf ?_
      refine t_yes ?_
      refine t_g0 ?_
      refine t_c1 (j2 @hgm (j2 @hcx @hfx)) w ?_
      refine t_gt (wr []) trivial trivial hnx
    · rw [sumF_stop _ _ _ hm] at i4
      rw [decide_eq_false hm] at wf
      rw [← i4] at hR
      refine t_g0 ?_
      refine t_c1 @hi wf ?_
      refine t_no ?_
      refine t_g0 ?_
      refine t_r ?_
      simp [go_sem, hP, hgl, hn] <;> (try omega)
  · have hil : i = l.length := by omega
    subst hil
    rw [List.drop_length] at i4
    simp only [sumF] at i4
    rw [← i4] at hR
    refine t_g0 ?_
    refine t_r ?_
    simp [go_sem, hP, hgl, hn] <;> (try omega)

set_option maxHeartbeats 1000000 in
theorem sumvalue_ok (l : List Val) (n : Int) (hl : l.length ≤ 1000) (ht : ∀ x ∈ l, x.tot ≤ 2000000) (h0 : 0 ≤ n) (hn3 : n ≤ 3000000) :
    Con1 Tryz.prog gl 9 [.agg [dint n], .sl (l.map Val.cells)] [] (.agg [dint (sumF (fun t => t.cntN 20000) l n)]) [] := by
  refine t_in Tryz.func9 ?_
  intro X hP hgl hf hfn hn hR hids hfit
  refine t_g0 ?_
  refine t_a ?_
  refine t_sub [] trivial (W_rounds (fun x : Nat × Int => x.1 ≤ l.length ∧ 0 ≤ x.2 ∧ x.2 ≤ 3000000 ∧ sumF (fun t => Val.cntN t 20000) (l.drop x.1) x.2 = sumF (fun t => Val.cntN t 20000) l n) (fun x : Nat × Int => [(.slot 1, .one (.v (.sl (l.map Val.cells)))), (.slot 5, .one (.v (dint x.1))), (.slot 2, .one (.loc 2 0)), (.loc 2, .row ([.v (dint x.2)])), (.slot 4, .one (.loc 4 0)), (.loc 4, .row ([.v (dint 0)]))]) (fun x : Nat × Int => l.length - x.1) (0, n) (⟨Nat.zero_le _, h0, hn3, rfl⟩) ?_)
  rintro ⟨i, m⟩ ⟨i1, i2, i3, i4⟩ ih
  simp only at i1 i2 i3 i4
  have wf := sumfew_ok (gl := gl) m
  by_cases hi : i < l.length
  · have hg : l[i]? = some l[i] := List.getElem?_eq_getElem hi
    have hd : l.drop i = l[i] :: l.drop (i + 1) := List.drop_eq_getElem_cons hi
    generalize hx : l[i] = x at *
    have hxm : x ∈ l := List.mem_of_getElem? hg
    rw [hd] at i4
    by_cases hm : m ≤ 20000
    · simp only [sumF] at i4
      rw [if_pos hm] at i4
      have hb := Val.cnt_bd x 20000
      have hxt := ht x hxm
      have w := countvalue_ok (gl := gl) x 20000 (by omega) (by omega)
      rw [decide_eq_true hm] at wf
      have hgm : (l.map Val.cells)[i]? = some x.cells := by rw [List.getElem?_map, hg]; rfl
      have hcx := Val.cells_eq x
      have hfx := Val.fold x
      have hnx := ih (i + 1, m + x.cntN 20000) ⟨by show i + 1 ≤ l.length; omega, by show 0 ≤ m + x.cntN 20000; omega, by show m + x.cntN 20000 ≤ 3000000; omega, i4⟩ (by show l.length - (i + 1) < l.length - i; omega)
      generalize x.cntN 20000 = cx at *
      refine t_g0 ?_
      refine t_c1 @hi wf ?_
      refine t_yes ?_
      refine t_g0 ?_
      refine t_c1 (j2 @hgm (j2 @hcx @hfx)) w ?_
      refine t_gt (wr []) trivial trivial hnx
    · rw [sumF_stop _ _ _ hm] at i4
      rw [decide_eq_false hm] at wf
      rw [← i4] at hR
      refine t_g0 ?_
      refine t_c1 @hi wf ?_
      refine t_no ?_
      refine t_g0 ?_
      refine t_r ?_
      simp [go_sem, hP, hgl, hn] <;> (try omega)
  · have hil : i = l.length := by omega
    subst hil
    rw [List.drop_length] at i4
    simp only [sumF] at i4
    rw [← i4] at hR
    refine t_g0 ?_
    refine t_r ?_
    simp [go_sem, hP, hgl, hn] <;> (try omega)
end Go.Proofs.YtiacandbafjlfaaGreatDoor.Lift

/-
  Law 33: MajorantExact, walked.
-/
namespace Go.Proofs.YtiacandbafjlfaaGreatDoor.Lift
set_option linter.unusedSimpArgs false
set_option linter.unusedVariables false
set_option linter.unnecessarySimpa false
open Go
variable {gl : Globs}

theorem val_list {v : Val} (h : v.nodesN.2 = true) (hk : v.kind = 1 ∨ v.kind = 4) : v.list = [] ∧ v.args = [] := by
  rw [Val.nodesN_eq] at h
  obtain ⟨h1, -⟩ := Val.nodesL_ok h
  unfold Val.okB at h1
  rcases hk with k | k
  · rw [if_pos k] at h1; simp at h1; exact ⟨h1.1.2, h1.2⟩
  · rw [if_neg (by omega), if_neg (by omega), if_neg (by omega), if_pos k] at h1; simp at h1; exact ⟨h1.1.2, h1.2⟩
theorem val33_bound (v : Val) : v.nodesN.2 = true → v.val33N = v.boundN := by
  induction v using Val.ind with
  | h v ih =>
  intro h
  obtain ⟨hv, hg⟩ := val_form h
  rw [Val.val33N_eq, Val.boundN_eq]
  by_cases k2 : v.kind = 2
  · rw [if_pos k2, if_pos k2]
  rw [if_neg k2, if_neg k2]
  have hall : ∀ l : List Val, (∀ a ∈ l, a ∈ v.args) → Val.val33N.vals l = Val.boundN.bounds l := by
    intro l
    induction l with
    | nil => intro _; rfl
    | cons a r ihr =>
      intro hl
      simp only [Val.val33N.vals, Val.boundN.bounds]
      rw [ih a (hl a (by simp)) (hg a (hl a (by simp))), ihr fun z hz => hl z (by simp [hz])]
  by_cases k3 : v.kind = 3
  · rw [if_pos k3, hall v.args fun _ h => h]
    rcases hv with ⟨k, -⟩ | ⟨k, -, -⟩ | ⟨-, k0, -⟩ | ⟨k, -, -⟩
    · omega
    · omega
    · rw [k3, k0]
    · omega
  rw [if_neg k3]
  have k14 : v.kind = 1 ∨ v.kind = 4 := by rcases hv with ⟨k, -⟩ | ⟨k, -, -⟩ | ⟨k, -, -⟩ | ⟨k, -, -⟩ <;> omega
  obtain ⟨h1, h2⟩ := val_list h k14
  rw [h2]
  cases v with
  | mk k n l a =>
    simp only [Val.list, Val.args] at h1 h2
    subst h1 h2
    rfl
theorem check_nodes {v : Val} (h : v.checkN = 0) : v.nodesN.2 = true := by
  unfold Val.checkN at h
  by_cases hk : v.nodesN.2 = true
  · exact hk
  · rw [if_neg hk] at h; exact absurd h (by decide)
theorem value33_eq (v : Val) : v.value33E = v.mValueE := by
  unfold Val.value33E Val.mValueE
  by_cases h : v.checkN = 0
  · rw [if_pos h, if_pos h, val33_bound v (check_nodes h)]
  · rw [if_neg h, if_neg h]
theorem bound_count (v : Val) : v.boundN.count ≤ v.count := by
  induction v using Val.ind with
  | h v ih =>
  rw [Val.boundN_eq]
  by_cases k2 : v.kind = 2
  · rw [if_pos k2, Val.count_eq v]; show 1 + 0 ≤ _; omega
  rw [if_neg k2]
  by_cases k3 : v.kind = 3
  · rw [if_pos k3, Val.count_eq v]
    have hall : ∀ l : List Val, (∀ a ∈ l, a ∈ v.args) → Val.count.counts (Val.boundN.bounds l) ≤ Val.count.counts l := by
      intro l
      induction l with
      | nil => intro _; exact Nat.le_refl _
      | cons a r ihr =>
        intro hl
        have h1 := ih a (hl a (by simp))
        have h2 := ihr fun z hz => hl z (by simp [hz])
        show a.boundN.count + Val.count.counts (Val.boundN.bounds r) ≤ a.count + Val.count.counts r
        omega
    have := hall v.args fun _ h => h
    show 1 + Val.count.counts (Val.boundN.bounds v.args) ≤ _
    omega
  · rw [if_neg k3]
    exact Nat.le_refl _
theorem mvalue_count (v : Val) : v.mValueE.1.count ≤ v.count + 1 := by
  unfold Val.mValueE
  split
  · have := bound_count v; show v.boundN.count ≤ _; omega
  · show (zV).count ≤ _
    have : zV.count = 1 := rfl
    omega
theorem mtype_count (t : Ty) : t.mTypeE.1.count ≤ 64 := by
  unfold Ty.mTypeE
  by_cases h : t.checkN = 0
  · rw [if_pos h]
    obtain ⟨c, hc, hco, -⟩ := bare_T ((Ty.checkN_iff t).1 h)
    show (bareN t).count ≤ 64
    rw [hc, T.ty_count]
    exact hco
  · rw [if_neg h]; exact (show zY.count ≤ 64 by decide)
theorem ty_selfG (t : Ty) : t.same t = true := (Ty.same_iff t t).2 rfl
theorem tm_selfG (t : Tm) : t.same t = true := (Tm.same_iff t t).2 rfl
theorem val_selfG (t : Val) : t.same t = true := (Val.same_iff t t).2 rfl
def farV : Tm := Tm.mk 1 268435457 (Ty.mk 0 []) []

set_option maxHeartbeats 8000000 in
set_option maxRecDepth 100000 in
theorem majorantExact_ok (har : globOf gl 0 = some arEls) (l : List Int) (s : Ty) (c1 d1 : Tm) (x y : Val) (hs : s.tot ≤ 1048576) (hc1 : c1.tot ≤ 1048576) (hd1 : d1.tot ≤ 1048576) (hx : x.tot ≤ 1048576) (hy : y.tot ≤ 1048576) :
    Con1 Tryz.prog gl 3 [.sl (ints l), s.dv, c1.dv, d1.dv, x.dv, y.dv] [] (dbool true) [] := by
  have wa := awake33_ok (gl := gl) har
  have hsc : s.count ≤ 1048576 := by rw [← Ty.tot_count]; exact hs
  obtain ⟨cc1, ct1⟩ := Tm.tot_count c1
  obtain ⟨cd1, dt1⟩ := Tm.tot_count d1
  have ct1 := ct1 (by omega)
  have dt1 := dt1 (by omega)
  have cx := Val.tot_count x
  have cy := Val.tot_count y
  have hfs := Ty.fold s
  have hfc := Tm.fold c1
  have hfd := Tm.fold d1
  have hfx := Val.fold x
  have hfy := Val.fold y
  have q0 := count0_ok (gl := gl)
  have q1 := sumtype_ok (gl := gl) [s] 0 (by simp) (by simp; omega) (by decide) (by decide)
  obtain ⟨s1a, s1b⟩ := sumF_bd (fun t => Ty.cntN t 20000) [s] 0 (by simp; have := Ty.cnt_bd s 20000; omega) (by decide) (by decide)
  generalize sumF (fun t => Ty.cntN t 20000) [s] 0 = S1 at *
  have q2 := sumterm_ok (gl := gl) [c1, d1] S1 (by simp) (by simp; omega) s1a s1b
  obtain ⟨s2a, s2b⟩ := sumF_bd (fun t => Tm.cntN t 20000) [c1, d1] S1 (by simp; have := Tm.cnt_bd c1 20000; have := Tm.cnt_bd d1 20000; omega) s1a s1b
  generalize sumF (fun t => Tm.cntN t 20000) [c1, d1] S1 = S2 at *
  have q3 := sumvalue_ok (gl := gl) [x, y] S2 (by simp) (by simp; omega) s2a s2b
  generalize sumF (fun t => Val.cntN t 20000) [x, y] S2 = S3 at *
  have q4 := sumfew_ok (gl := gl) S3
  simp only [List.map_cons, List.map_nil, Ty.cells_eq s] at q1
  simp only [List.map_cons, List.map_nil, Tm.cells_eq c1, Tm.cells_eq d1] at q2
  simp only [List.map_cons, List.map_nil, Val.cells_eq x, Val.cells_eq y] at q3
  refine t_in Tryz.func3 ?_
  intro X hP hgl hf hfn hn hR hids hfit
  by_cases hl : l.length ≤ 500
  rotate_left
  · refine t_g0 ?_
    refine t_c2 @hl wa (few_ok l) ?_
    refine t_g0 ?_
    refine t_c1 trivial wa ?_
    refine t_r ?_
    simp [go_sem, hP, hgl, hn] <;> (try omega)
  by_cases hS : S3 ≤ 20000
  rotate_left
  · rw [decide_eq_false hS] at q4
    refine t_g0 ?_
    refine t_c7 (j2 @hl (j2 @hfs (j2 @hfc (j2 @hfd (j2 @hfx @hfy))))) wa (few_ok l) q0 q1 q2 q3 q4 ?_
    refine t_g0 ?_
    refine t_c1 trivial wa ?_
    refine t_r ?_
    simp [go_sem, hP, hgl, hn] <;> (try omega)
  rw [decide_eq_true hS] at q4
  have hxl : x.list.length ≤ 1048576 := by have := Val.tot_eq x; omega
  have hyl : y.list.length ≤ 1048576 := by have := Val.tot_eq y; omega
  by_cases hlx : (1000 : Int) < (x.list.length : Int)
  · refine t_g0 ?_
    refine t_c7 (j2 @hl (j2 @hfs (j2 @hfc (j2 @hfd (j2 @hfx (j2 @hfy @hlx)))))) wa (few_ok l) q0 q1 q2 q3 q4 ?_
    refine t_g0 ?_
    refine t_c1 trivial wa ?_
    refine t_r ?_
    simp [go_sem, hP, hgl, hn] <;> (try omega)
  by_cases hly : (1000 : Int) < (y.list.length : Int)
  · refine t_g0 ?_
    refine t_c7 (j2 @hl (j2 @hfs (j2 @hfc (j2 @hfd (j2 @hfx (j2 @hfy (j2 @hlx @hly))))))) wa (few_ok l) q0 q1 q2 q3 q4 ?_
    refine t_g0 ?_
    refine t_c1 trivial wa ?_
    refine t_r ?_
    simp [go_sem, hP, hgl, hn] <;> (try omega)
  refine t_g0 ?_
  refine t_c7 (j2 @hl (j2 @hfs (j2 @hfc (j2 @hfd (j2 @hfx (j2 @hfy (j2 @hlx @hly))))))) wa (few_ok l) q0 q1 q2 q3 q4 ?_
  refine t_g0 ?_
  clear q0 q1 q2 q3 q4
  refine t_a ?_
  first | refine W_reg [] fun K hK => ?_ | refine W_regd (by rw [hP]; exact mixed) [] fun K hK => ?_
  refine t_s0 ?_
  repeat (refine ⟨by omega, ?_⟩)
  refine vcK_callR hP hgl (new_ok l) (by simp [go_sem]) rfl (by simp [go_sem]) (by simp) (by rw [hn]; exact Nat.le_of_ble_eq_true rfl) ?_
  rintro rr φ ⟨b, rfl, rfl⟩ -
  simp [go_sem, hP, hgl, hn]
  refine t_e ?_
  clear hK K
  obtain ⟨g1, g2, g3⟩ := ctxD_facts l (p := 0) (by omega)
  have wg := mk_context_ok (gl := gl) b l 0 hl (by omega)
  generalize ctxD l 0 = cd at *
  obtain ⟨g, p1⟩ := cd
  simp only at g1 g2 g3 wg
  obtain ⟨t1, t2⟩ := typeD_small l (n := 2) g1 (by decide)
  have wt := mk_type_ok (gl := gl) 2 b l p1 hl g1 (by decide)
  generalize typeD l 2 p1 = td at *
  obtain ⟨t, p2⟩ := td
  simp only at t1 t2 wt
  have hc2 : ((2 : Nat) : Int) = 2 := rfl
  rw [hc2] at wt
  have hft := Ty.fold t
  have hct := Ty.cells_eq t
  have hcs := Ty.cells_eq s
  have htc : t.count ≤ 15 := t2.2
  obtain ⟨us, hus⟩ : ∃ us, us = [s, t] := ⟨_, rfl⟩
  have hul : us.length = 2 := by rw [hus]; rfl
  have huc : ∀ u ∈ us, u.count ≤ 1048576 := by
    intro u hu
    rw [hus] at hu
    simp at hu
    rcases hu with rfl | rfl <;> omega
  have husm : List.map Ty.cells us = [s.cells, t.cells] := by rw [hus]; rfl
  clear hus
  refine t_g0 ?_
  refine t_c1 trivial wg ?_
  refine t_g0 ?_
  refine t_c1 trivial wt ?_
  refine t_g @hct ?_
  refine t_a ?_
  refine t_sub [] (j2 @husm (j2 @hcs @hct)) (W_rounds (fun z : Nat × Nat => z.1 ≤ 2 ∧ z.2 ≤ l.length) (fun z : Nat × Nat => [(.slot 8, .one (.loc 8 0)), (.loc 8, .row ([.v (dint c1.kind), .v (dint c1.index), .v (dint c1.type.kind), .v (.sl (c1.type.args.map Ty.cells)), .v (.sl (c1.args.map Tm.cells))])), (.slot 9, .one (.loc 9 0)), (.loc 9, .row ([.v (dint d1.kind), .v (dint d1.index), .v (dint d1.type.kind), .v (.sl (d1.type.args.map Ty.cells)), .v (.sl (d1.args.map Tm.cells))])), (.slot 10, .one (.loc 10 0)), (.loc 10, .row ([.v (dint x.kind), .v (dint x.num), .v (.sl (ints x.list)), .v (.sl (x.args.map Val.cells))])), (.slot 11, .one (.loc 11 0)), (.loc 11, .row ([.v (dint y.kind), .v (dint y.num), .v (.sl (ints y.list)), .v (.sl (y.args.map Val.cells))])), (.slot 13, .one (.v (ptr b))), (.slot 14, .one (.v (.sl (g.map Ty.cells)))), (.slot 15, .one (.loc 15 0)), (.loc 15, .row ([.v (dint t.kind), .v (.sl (t.args.map Ty.cells))])), (.slot 93, .one (.v (.sl (us.map Ty.cells)))), (.slot 94, .one (.v (dint 2))), (.slot 95, .one (.v (dint z.1))), (.heap  b, .row ([.v (.sl (ints l)), .v (dint z.2)]))]) (fun z : Nat × Nat => 2 - z.1) (0, p2) (⟨Nat.zero_le _, t1⟩) ?_)
  rintro ⟨i, p⟩ ⟨i1, i2⟩ ih
  simp only at i1 i2
  by_cases hi : i < 2
  · have hg0 : us[i]? = some us[i] := List.getElem?_eq_getElem (by omega)
    generalize us[i] = u at hg0
    have hum := huc u (List.mem_of_getElem? hg0)
    have hgu : (us.map Ty.cells)[i]? = some u.cells := by rw [List.getElem?_map, hg0]; rfl
    generalize List.map Ty.cells us = U at *
    have hcu := Ty.cells_eq u
    have hfu := Ty.fold u
    have w1 := mtype_ok (gl := gl) u (by omega)
    have w2 := type33_ok (gl := gl) u (by omega)
    have hmc := mtype_count u
    generalize u.mTypeE = me at *
    obtain ⟨m, e⟩ := me
    simp only at w1 w2 hmc
    have hfm := Ty.fold m
    have hcm := Ty.cells_eq m
    have w3 := ref01_same_ok (gl := gl) m m
    rw [ty_selfG] at w3
    have w4 := mmax_ok (gl := gl) har m c1 d1 (by omega) ct1 (by omega) dt1 (by omega)
    have w5 := max33E_ok (gl := gl) m c1 d1 (by omega) ct1 (by omega) dt1 (by omega)
    generalize mMaxE m c1 d1 = pe at *
    obtain ⟨pm, e2⟩ := pe
    simp only at w4 w5
    have hfp := Tm.fold pm
    have hcp := Tm.cells_eq pm
    have w6 := ref02_same_ok (gl := gl) pm pm
    rw [tm_selfG] at w6
    have hg00 : ∀ z ∈ ([] : List Ty), z.small := fun z h => by cases h
    have wa1 := mk_term_ok (gl := gl) b l hl 1 (by decide) t [] p t2 hg00 (by simp) i2
    have k1 := (termD_facts closed_shape 1 t [] p t2 hg00 i2)
    have k2 := termD_count l 1 t [] p t2 hg00 i2
    generalize termD l 1 t [] p = fd at *
    obtain ⟨ff, p3⟩ := fd
    simp only [List.map_nil] at wa1 k1 k2
    have wa2 := mk_term_ok (gl := gl) b l hl 1 (by decide) t [] p3 t2 hg00 (by simp) k1.1
    have j1 := (termD_facts closed_shape 1 t [] p3 t2 hg00 k1.1)
    have k4 := termD_count l 1 t [] p3 t2 hg00 k1.1
    generalize termD l 1 t [] p3 = fd at *
    obtain ⟨gg, p4⟩ := fd
    simp only [List.map_nil] at wa2 j1 k4
    rw [show drawB 1 = 155 from rfl] at k2 k4
    have hc1' : ((1 : Nat) : Int) = 1 := rfl
    rw [hc1'] at wa1 wa2
    have w7 := mmax_ok (gl := gl) har u ff gg (by omega) (shape_tys ff k1.2) (by omega) (shape_tys gg j1.2) (by omega)
    have w8 := max33E_ok (gl := gl) u ff gg (by omega) (shape_tys ff k1.2) (by omega) (shape_tys gg j1.2) (by omega)
    generalize mMaxE u ff gg = qe at *
    obtain ⟨qm, e3⟩ := qe
    simp only at w7 w8
    have hfq := Tm.fold qm
    have hcq := Tm.cells_eq qm
    have w9 := ref02_same_ok (gl := gl) qm qm
    rw [tm_selfG] at w9
    have hff := Tm.fold ff
    have hgg := Tm.fold gg
    have hcff := Tm.cells_eq ff
    have hcgg := Tm.cells_eq gg
    have hnx := ih (i + 1, p4) ⟨by show i + 1 ≤ 2; omega, j1.1⟩ (by show 2 - (i + 1) < 2 - i; omega)
    have hlt : (i : Int) < 2 := by omega
    refine t_rg @hlt ?_
    refine t_yes ?_
    refine t_g (j2 @hgu @hcu) ?_
    refine t_c1 @hfu w1 ?_
    refine t_g0 ?_
    refine t_c1 @hfu w2 ?_
    refine t_g0 ?_
    refine t_c1 @hfm w3 ?_
    refine t_g0 ?_
    refine t_c1 (j2 @hfm (j2 @hfc @hfd)) w4 ?_
    refine t_g0 ?_
    refine t_c1 (j2 @hfm (j2 @hfc @hfd)) w5 ?_
    refine t_g0 ?_
    refine t_c2 @hft wa1 wa2 ?_
    refine t_g0 ?_
    refine t_c1 (j2 @hfu (j2 @hff @hgg)) w7 ?_
    refine t_g0 ?_
    refine t_c1 (j2 @hfu (j2 @hff @hgg)) w8 ?_
    refine t_g0 ?_
    refine t_c2 (j2 @hfp @hfq) w6 w9 ?_
    refine t_g0 ?_
    refine t_gt (wr []) trivial trivial hnx
  · have hi2 : i = 2 := by omega
    subst hi2
    clear ih
    have wz := mk_term_ok (gl := gl) b l hl 3 (by decide) t g p t2 g2 (by omega) i2
    have z1 := (termD_facts closed_shape 3 t g p t2 g2 i2)
    have z2 := termD_count l 3 t g p t2 g2 i2
    generalize termD l 3 t g p = zd at *
    obtain ⟨zz, p3⟩ := zd
    simp only at wz z1 z2
    rw [show drawB 3 = 1475 from rfl] at z2
    have hc3' : ((3 : Nat) : Int) = 3 := rfl
    rw [hc3'] at wz
    have hfz := Tm.fold zz
    have hcz := Tm.cells_eq zz
    have hcc := Tm.cells_eq c1
    have hcd := Tm.cells_eq d1
    have hcf : farV.cells = [dint 1, dint 268435457, dint 0, .sl [], .sl []] := rfl
    have htf : farV.tys := shape_tys _ rfl
    obtain ⟨ts, hts⟩ : ∃ ts, ts = [c1, d1, zz, farV] := ⟨_, rfl⟩
    have htl : ts.length = 4 := by rw [hts]; rfl
    have htc4 : ∀ u ∈ ts, u.tys ∧ u.count ≤ 1048576 := by
      intro u hu
      rw [hts] at hu
      simp at hu
      rcases hu with rfl | rfl | rfl | rfl
      · exact ⟨ct1, by omega⟩
      · exact ⟨dt1, by omega⟩
      · exact ⟨shape_tys _ z1.2, by omega⟩
      · exact ⟨htf, by decide⟩
    have htsm : List.map Tm.cells ts = [c1.cells, d1.cells, zz.cells, farV.cells] := by rw [hts]; rfl
    clear hts
    have hp3 := z1.1
    refine t_rg0 ?_
    refine t_no ?_
    refine t_g0 ?_
    refine t_c1 (j2 @hfc (j2 @hfd @hft)) wz ?_
    refine t_g0 ?_
    refine t_a ?_
    refine t_sub [] (j2 @htsm (j2 @hcc (j2 @hcd (j2 @hcz @hcf)))) (W_upto (4) (fun i => True) (fun i => [(.slot 10, .one (.loc 10 0)), (.loc 10, .row ([.v (dint x.kind), .v (dint x.num), .v (.sl (ints x.list)), .v (.sl (x.args.map Val.cells))])), (.slot 11, .one (.loc 11 0)), (.loc 11, .row ([.v (dint y.kind), .v (dint y.num), .v (.sl (ints y.list)), .v (.sl (y.args.map Val.cells))])), (.slot 13, .one (.v (ptr b))), (.slot 180, .one (.v (.sl (ts.map Tm.cells)))), (.slot 181, .one (.v (dint 4))), (.slot 182, .one (.v (dint i))), (.heap  b, .row ([.v (.sl (ints l)), .v (dint p3)]))]) (trivial) ?_ ?_)
    · intro i hi4 _ hnext
      have hg0 : ts[i]? = some ts[i] := List.getElem?_eq_getElem (by omega)
      generalize ts[i] = u at hg0
      obtain ⟨u1, u2⟩ := htc4 u (List.mem_of_getElem? hg0)
      have hgu : (ts.map Tm.cells)[i]? = some u.cells := by rw [List.getElem?_map, hg0]; rfl
      generalize List.map Tm.cells ts = U at *
      have hcu := Tm.cells_eq u
      have hfu := Tm.fold u
      have w1 := mterm_ok (gl := gl) har u u1 (by omega)
      have w2 := term33E_ok (gl := gl) u u1 (by omega)
      generalize u.mTermE = me at *
      obtain ⟨m, e⟩ := me
      simp only at w1 w2
      have hfm := Tm.fold m
      have w3 := ref02_same_ok (gl := gl) m m
      rw [tm_selfG] at w3
      have hlt : (i : Int) < 4 := by omega
      refine t_rg @hlt ?_
      refine t_yes ?_
      refine t_g (j2 @hgu @hcu) ?_
      refine t_c1 @hfu w1 ?_
      refine t_g0 ?_
      refine t_c1 @hfu w2 ?_
      refine t_g0 ?_
      refine t_c1 @hfm w3 ?_
      refine t_g0 ?_
      refine t_gt (wr []) trivial trivial (hnext trivial)
    · intro _
      have wp := plain_ok (gl := gl) b l p3 hl hp3
      have hq1 := plainD_le (l := l) hp3
      have hpp := plainD_plain l p3
      have hgo := mkVal_good l p3
      obtain ⟨a, ha, hpl, hsz⟩ := plainD_T l p3
      generalize plainD l p3 = pd at *
      obtain ⟨s0, q1⟩ := pd
      simp only at ha hq1 wp hpp hgo
      have wv := mkval_ok (gl := gl) s0 b l q1 hl hq1 hpp
      have hgo := hgo q1
      generalize mkVal l s0 q1 = vd at *
      obtain ⟨own, q2⟩ := vd
      simp only at wv hgo
      obtain ⟨-, -, oc, -⟩ := Val.good_facts hgo
      have hf0 := Ty.fold s0
      have hfo := Val.fold own
      have hco := Val.cells_eq own
      have wb := refvalue33_ok (gl := gl) own (by omega)
      rw [value33_eq] at wb
      have hbc := mvalue_count own
      generalize own.mValueE = be at *
      obtain ⟨bnd, be2⟩ := be
      simp only at wb hbc
      have hfb := Val.fold bnd
      have hcb := Val.cells_eq bnd
      have hcx := Val.cells_eq x
      have hcy := Val.cells_eq y
      obtain ⟨vs, hvs⟩ : ∃ vs, vs = [x, y, own, bnd] := ⟨_, rfl⟩
      have hvl : vs.length = 4 := by rw [hvs]; rfl
      have hvc : ∀ u ∈ vs, u.count ≤ 1048577 := by
        intro u hu
        rw [hvs] at hu
        simp at hu
        rcases hu with rfl | rfl | rfl | rfl <;> omega
      have hvsm : List.map Val.cells vs = [x.cells, y.cells, own.cells, bnd.cells] := by rw [hvs]; rfl
      clear hvs
      refine t_rg0 ?_
      refine t_no ?_
      refine t_g0 ?_
      refine t_c2 @hf0 wp wv ?_
      refine t_g0 ?_
      refine t_c1 @hfo wb ?_
      refine t_g0 ?_
      refine t_a ?_
      refine t_sub [] (j2 @hvsm (j2 @hcx (j2 @hcy (j2 @hco @hcb)))) (W_upto (4) (fun i => True) (fun i => [(.slot 10, .one (.loc 10 0)), (.loc 10, .row ([.v (dint x.kind), .v (dint x.num), .v (.sl (ints x.list)), .v (.sl (x.args.map Val.cells))])), (.slot 11, .one (.loc 11 0)), (.loc 11, .row ([.v (dint y.kind), .v (dint y.num), .v (.sl (ints y.list)), .v (.sl (y.args.map Val.cells))])), (.slot 38, .one (.loc 38 0)), (.loc 38, .row ([.v (dint own.kind), .v (dint own.num), .v (.sl (ints own.list)), .v (.sl (own.args.map Val.cells))])), (.slot 219, .one (.v (.sl (vs.map Val.cells)))), (.slot 220, .one (.v (dint 4))), (.slot 221, .one (.v (dint i)))]) (trivial) ?_ ?_)
      · intro i0 hi4 _ hnext
        have hg0 : vs[i0]? = some vs[i0] := List.getElem?_eq_getElem (by omega)
        generalize vs[i0] = u at hg0
        have hum := hvc u (List.mem_of_getElem? hg0)
        have hgu : (vs.map Val.cells)[i0]? = some u.cells := by rw [List.getElem?_map, hg0]; rfl
        clear hvsm
        generalize List.map Val.cells vs = U at *
        have hcu := Val.cells_eq u
        have hfu := Val.fold u
        have w1 := mvalue_ok (gl := gl) u (by omega)
        have w2 := refvalue33_ok (gl := gl) u (by omega)
        rw [value33_eq] at w2
        have hmc := mvalue_count u
        generalize u.mValueE = me at *
        obtain ⟨m, e⟩ := me
        simp only at w1 w2 hmc
        have hfm := Val.fold m
        have hcm := Val.cells_eq m
        have w3 := ref05_same_ok (gl := gl) m m
        rw [val_selfG] at w3
        obtain ⟨ws, hws⟩ : ∃ ws, ws = [x, y, own, m] := ⟨_, rfl⟩
        have hwl : ws.length = 4 := by rw [hws]; rfl
        have hwc : ∀ w ∈ ws, w.count ≤ 1048600 := by
          intro w hw
          rw [hws] at hw
          simp at hw
          rcases hw with rfl | rfl | rfl | rfl <;> omega
        have hwsm : List.map Val.cells ws = [x.cells, y.cells, own.cells, m.cells] := by rw [hws]; rfl
        clear hws
        have hlt : (i0 : Int) < 4 := by omega
        refine t_rg @hlt ?_
        refine t_yes ?_
        refine t_g (j2 @hgu @hcu) ?_
        refine t_c1 @hfu w1 ?_
        refine t_g0 ?_
        refine t_c1 @hfu w2 ?_
        refine t_g0 ?_
        refine t_c1 @hfm w3 ?_
        refine t_g0 ?_
        refine t_a ?_
        refine t_sub [] (j2 @hwsm (j2 @hcx (j2 @hcy (j2 @hco @hcm)))) (W_upto (4) (fun i => True) (fun i => [(.slot 10, .one (.loc 10 0)), (.loc 10, .row ([.v (dint x.kind), .v (dint x.num), .v (.sl (ints x.list)), .v (.sl (x.args.map Val.cells))])), (.slot 11, .one (.loc 11 0)), (.loc 11, .row ([.v (dint y.kind), .v (dint y.num), .v (.sl (ints y.list)), .v (.sl (y.args.map Val.cells))])), (.slot 38, .one (.loc 38 0)), (.loc 38, .row ([.v (dint own.kind), .v (dint own.num), .v (.sl (ints own.list)), .v (.sl (own.args.map Val.cells))])), (.slot 42, .one (.loc 42 0)), (.loc 42, .row ([.v (dint u.kind), .v (dint u.num), .v (.sl (ints u.list)), .v (.sl (u.args.map Val.cells))])), (.slot 219, .one (.v (.sl U))), (.slot 220, .one (.v (dint 4))), (.slot 221, .one (.v (dint (i0 : Nat)))), (.slot 248, .one (.v (.sl (ws.map Val.cells)))), (.slot 249, .one (.v (dint 4))), (.slot 250, .one (.v (dint i)))]) (trivial) ?_ ?_)
        · intro j hj4 _ hnx
          have hg1 : ws[j]? = some ws[j] := List.getElem?_eq_getElem (by omega)
          generalize ws[j] = w at hg1
          have hwm := hwc w (List.mem_of_getElem? hg1)
          have hgw : (ws.map Val.cells)[j]? = some w.cells := by rw [List.getElem?_map, hg1]; rfl
          clear hwsm
          generalize List.map Val.cells ws = V at *
          have hcw := Val.cells_eq w
          have hfw := Val.fold w
          have v1 := majorizes_ok (gl := gl) u w (by omega) (by omega)
          have v2 := majorizes33_ok (gl := gl) u w (by omega) (by omega)
          have hlj : (j : Int) < 4 := by omega
          generalize u.majorizesN w = qb at *
          cases qb with
          | true =>
            refine t_rg @hlj ?_
            refine t_yes ?_
            refine t_g (j2 @hgw @hcw) ?_
            refine t_c2 (j2 @hfu @hfw) v1 v2 ?_
            refine t_g0 ?_
            refine t_gt (wr []) trivial trivial (hnx trivial)
          | false =>
            refine t_rg @hlj ?_
            refine t_yes ?_
            refine t_g (j2 @hgw @hcw) ?_
            refine t_c2 (j2 @hfu @hfw) v1 v2 ?_
            refine t_g0 ?_
            refine t_gt (wr []) trivial trivial (hnx trivial)
        · intro _
          refine t_rg0 ?_
          refine t_no ?_
          refine t_g0 ?_
          refine t_gt (wr []) trivial trivial (hnext trivial)
      · intro _
        refine t_rg0 ?_
        refine t_no ?_
        refine t_g0 ?_
        refine t_r ?_
        simp [go_sem, hP, hgl, hn] <;> (try omega)
end Go.Proofs.YtiacandbafjlfaaGreatDoor.Lift

