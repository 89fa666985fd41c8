import Derived.Test.YtbmnlkfgkdallaaGreatDoorM2
namespace Go.Proofs.YtbmnlkfgkdallaaGreatDoor.Lift
set_option linter.unusedSimpArgs false
set_option linter.unusedVariables false
set_option linter.unnecessarySimpa false
open Go
variable {gl : Globs}

theorem pickD_none {l : List Int} {t : Ty} {g : List Ty} {p q : Nat} (h : pickD l t g p = (none, q)) : ((varsN g t).length = 0 ∧ q = p) ∨ ((varsN g t).length ≠ 0 ∧ (nextD l p 3).1 = 0 ∧ q = (nextD l p 3).2) := by
  unfold pickD at h
  split at h
  · rename_i h0; cases h; exact .inl ⟨h0, rfl⟩
  · rename_i h0
    split at h
    · rename_i h1; cases h; exact .inr ⟨h0, h1, rfl⟩
    · cases h
theorem pickD_some' {l : List Int} {t : Ty} {g : List Ty} {p q : Nat} {x : Tm} (h : pickD l t g p = (some x, q)) : (varsN g t).length ≠ 0 ∧ (nextD l p 3).1 ≠ 0 ∧ ∃ k i : Nat, (nextD l (nextD l p 3).2 (varsN g t).length).1 = k ∧ (varsN g t)[k]? = some i ∧ x = vT i ∧ q = (nextD l (nextD l p 3).2 (varsN g t).length).2 := by
  unfold pickD at h
  split at h
  · cases h
  · rename_i h0
    split at h
    · cases h
    · rename_i h1
      have hb := nextD_bd (l := l) (p := (nextD l p 3).2) (n := (varsN g t).length) (by omega)
      cases h
      obtain ⟨k, hk⟩ : ∃ k : Nat, (nextD l (nextD l p 3).2 (varsN g t).length).1 = k := ⟨_, (Int.toNat_of_nonneg hb.1).symm⟩
      rw [hk] at hb
      have hlt : k < (varsN g t).length := by omega
      refine ⟨h0, h1, k, (varsN g t)[k], hk, List.getElem?_eq_getElem hlt, ?_, rfl⟩
      rw [hk, Int.toNat_natCast, List.getD_eq_getElem?_getD, List.getElem?_eq_getElem hlt, Option.getD_some]

set_option maxHeartbeats 1000000 in
theorem mk_term_leaf (b : Nat) (l : List Int) (hl : l.length ≤ 500) (t : Ty) : ∀ (z : Int) (g : List Ty) (p : Nat), z ≤ 0 → t.count ≤ z + 1000 → t.small → (∀ x ∈ g, x.small) → g.length + t.count ≤ 1000000 → p ≤ l.length →
    Con1 Tryz.prog gl 22 [ptr b, .sl (g.map Ty.cells), t.dv, dint z] [(b, deck l p)] (leafD l t g p).1.dv [(b, deck l (leafD l t g p).2)] := by
  induction t using Ty.ind with
  | h t ih =>
  intro z g p hz hz1 ht hg hgl1 hp
  refine t_in Tryz.func22 ?_
  intro X hP hgl hf hfn hn hR hids hfit
  rw [leafD_eq l t g p ht.ok] at hR
  have hvl : (varsN g t).length ≤ g.length := varsP_le g t g.length
  have hq3 := nextD_le (n := 3) hp
  have hb3 := nextD_bd (l := l) (p := p) (n := 3) (by decide)
  rcases hpk : pickD l t g p with ⟨_ | x, q⟩
  · rw [hpk] at hR
    simp only at hR
    have hq : q ≤ l.length := by have := pickD_le (t := t) (g := g) hp; rw [hpk] at this; exact this
    apply W_cutX [(.slot 215, .one (.v (dbool (decide (t.kind = 1))))), (.slot 214, .one (.v (dint t.kind))), (.slot 0, .one (.v (ptr b))), (.slot 1, .one (.v (.sl (g.map Ty.cells)))), (.slot 3, .one (.v (dint z))), (.slot 6, .one (.loc 6 0)), (.loc 6, .row ([.v (dint t.kind), .v (.sl (t.args.map Ty.cells))])), (.slot 8, .one (.loc 8 0)), (.loc 8, .row ([.v (dint 0), .v (dint 0), .v (dint 0), .own 0 [], .own 0 []])), (.heap  b, .row ([.v (.sl (ints l)), .v (dint q)]))]
    · intro hrest
      refine t_g0 ?_
      refine t_c1 trivial (mk_vars_ok g t (by omega)) ?_
      rcases pickD_none hpk with ⟨h0, rfl⟩ | ⟨h0, h1, rfl⟩
      · refine t_g (j2 @natI_len @h0) ?_
        refine t_b ?_
        refine t_sub [] trivial hrest
      · have hpos : 0 < (varsN g t).length := by omega
        refine t_g0 ?_
        refine t_c1 (j2 @natI_len (j2 @hpos @h1)) (next_ok b l p 3 (by decide) (by omega)) ?_
        refine t_g @h1 ?_
        refine t_b ?_
        refine t_sub [] trivial hrest
    · have hz2 : ¬ 0 < z := by omega
      rcases small_kinds ht with ⟨h, e⟩ | ⟨h, e⟩ | ⟨h, e⟩ | ⟨h, e⟩ | ⟨h, e⟩
      · rw [if_pos h] at hR
        have hb := nextD_bd (l := l) (p := q) (n := 3) (by decide)
        obtain ⟨k, hk⟩ : ∃ k : Nat, (nextD l q 3).1 = k := ⟨_, (Int.toNat_of_nonneg hb.1).symm⟩
        rw [hk] at hb
        refine t_g (j2 @hz2 @h) ?_
        refine t_c2 @hk (next_ok b l q 3 (by decide) (by omega)) (mk_num_ok k (by omega)) ?_
        repeat (first | refine W_seq ?_ | refine W_skip ?_ | refine W_block ?_ | refine W_inBlock ?_ | refine W_label ?_ | refine W_exit rfl ?_)
        first | refine W_retR hP hf hfn _ ([(b, deck l (nextD l q 3).2)]) (by first | (simp [go_sem, hP, hgl, hn, numD, hk]; done) | (simp [go_sem, hP, hgl, hn, numD, hk]; rfl)) (by simp [go_sem, hP, hgl, hn, numD, hk]) (by simp) ?_ hR.2 | refine W_endR hP hf hfn _ ([(b, deck l (nextD l q 3).2)]) (by first | (simp [go_sem, hP, hgl, hn, numD, hk]; done) | (simp [go_sem, hP, hgl, hn, numD, hk]; rfl)) (by simp [go_sem, hP, hgl, hn, numD, hk]) (by simp) ?_ hR.2
        rw [hR.1]
        refine ⟨?_, by simp [numD, hk]⟩
        try simp [numD, hk]
        try all_goals (simp [Ty.dv, Ty.cells_eq, Ty.kind_mk, Ty.args_mk, Tm.dv, Tm.cells_eq, Tm.kind_mk, Tm.index_mk, Tm.type_mk, Tm.args_mk, Val.dv, Val.cells_eq, Val.kind_mk, Val.num_mk, Val.list_mk, Val.args_mk, ints])
      · rw [if_neg (by omega), if_pos h] at hR
        refine t_g (j2 @hz2 @h) ?_
        refine t_c1 trivial (ref02_n_ok 7 []) ?_
        repeat (first | refine W_seq ?_ | refine W_skip ?_ | refine W_block ?_ | refine W_inBlock ?_ | refine W_label ?_ | refine W_exit rfl ?_)
        first | refine W_retR hP hf hfn _ ([(b, deck l q)]) (by first | (simp [go_sem, hP, hgl, hn, nT]; done) | (simp [go_sem, hP, hgl, hn, nT]; rfl)) (by simp [go_sem, hP, hgl, hn, nT]) (by simp) ?_ hR.2 | refine W_endR hP hf hfn _ ([(b, deck l q)]) (by first | (simp [go_sem, hP, hgl, hn, nT]; done) | (simp [go_sem, hP, hgl, hn, nT]; rfl)) (by simp [go_sem, hP, hgl, hn, nT]) (by simp) ?_ hR.2
        rw [hR.1]
        refine ⟨?_, by simp [nT]⟩
        try simp [nT]
        try all_goals (simp [Ty.dv, Ty.cells_eq, Ty.kind_mk, Ty.args_mk, Tm.dv, Tm.cells_eq, Tm.kind_mk, Tm.index_mk, Tm.type_mk, Tm.args_mk, Val.dv, Val.cells_eq, Val.kind_mk, Val.num_mk, Val.list_mk, Val.args_mk, ints])
      · rw [if_neg (by omega), if_neg (by omega), if_neg (by omega), if_neg (by omega)] at hR
        refine t_g (j2 @hz2 @h) ?_
        refine t_c1 trivial (ref02_n_ok 13 []) ?_
        repeat (first | refine W_seq ?_ | refine W_skip ?_ | refine W_block ?_ | refine W_inBlock ?_ | refine W_label ?_ | refine W_exit rfl ?_)
        first | refine W_retR hP hf hfn _ ([(b, deck l q)]) (by first | (simp [go_sem, hP, hgl, hn, nT]; done) | (simp [go_sem, hP, hgl, hn, nT]; rfl)) (by simp [go_sem, hP, hgl, hn, nT]) (by simp) ?_ hR.2 | refine W_endR hP hf hfn _ ([(b, deck l q)]) (by first | (simp [go_sem, hP, hgl, hn, nT]; done) | (simp [go_sem, hP, hgl, hn, nT]; rfl)) (by simp [go_sem, hP, hgl, hn, nT]) (by simp) ?_ hR.2
        rw [hR.1]
        refine ⟨?_, by simp [nT]⟩
        try simp [nT]
        try all_goals (simp [Ty.dv, Ty.cells_eq, Ty.kind_mk, Ty.args_mk, Tm.dv, Tm.cells_eq, Tm.kind_mk, Tm.index_mk, Tm.type_mk, Tm.args_mk, Val.dv, Val.cells_eq, Val.kind_mk, Val.num_mk, Val.list_mk, Val.args_mk, ints])
      · rw [if_neg (by omega), if_neg (by omega), if_pos h] at hR
        obtain ⟨s0, s1, hc⟩ := ht.arg (.inl h)
        have p0 := Ty.count_eq (t.arg 0)
        have p1 := Ty.count_eq (t.arg 1)
        have ha : t.args = [t.arg 0, t.arg 1] := by rw [e]; rfl
        obtain ⟨a1, -⟩ := leafD_facts closed_shape (t.arg 0) g q s0 hg hq
        refine t_g (j2 @hz2 @h) ?_
        refine t_c3 @ha (ih (t.arg 0) (by rw [ha]; simp) (z - 1) g q (by omega) (by omega) s0 hg (by omega) hq) (ih (t.arg 1) (by rw [ha]; simp) (z - 1) g (leafD l (t.arg 0) g q).2 (by omega) (by omega) s1 hg (by omega) a1) (ref02_n_ok 10 [(leafD l (t.arg 0) g q).1, (leafD l (t.arg 1) g (leafD l (t.arg 0) g q).2).1]) ?_
        repeat (first | refine W_seq ?_ | refine W_skip ?_ | refine W_block ?_ | refine W_inBlock ?_ | refine W_label ?_ | refine W_exit rfl ?_)
        first | refine W_retR hP hf hfn _ ([(b, deck l (leafD l (t.arg 1) g (leafD l (t.arg 0) g q).2).2)]) (by first | (simp [go_sem, hP, hgl, hn, nT]; done) | (simp [go_sem, hP, hgl, hn, nT]; rfl)) (by simp [go_sem, hP, hgl, hn, nT]) (by simp) ?_ hR.2 | refine W_endR hP hf hfn _ ([(b, deck l (leafD l (t.arg 1) g (leafD l (t.arg 0) g q).2).2)]) (by first | (simp [go_sem, hP, hgl, hn, nT]; done) | (simp [go_sem, hP, hgl, hn, nT]; rfl)) (by simp [go_sem, hP, hgl, hn, nT]) (by simp) ?_ hR.2
        rw [hR.1]
        refine ⟨?_, by simp [nT]⟩
        try simp [nT]
        try all_goals (simp [Ty.dv, Ty.cells_eq, Ty.kind_mk, Ty.args_mk, Tm.dv, Tm.cells_eq, Tm.kind_mk, Tm.index_mk, Tm.type_mk, Tm.args_mk, Val.dv, Val.cells_eq, Val.kind_mk, Val.num_mk, Val.list_mk, Val.args_mk, ints])
      · rw [if_neg (by omega), if_neg (by omega), if_neg (by omega), if_pos h] at hR
        obtain ⟨s0, s1, hc⟩ := ht.arg (.inr h)
        have p0 := Ty.count_eq (t.arg 0)
        have p1 := Ty.count_eq (t.arg 1)
        have ha : t.args = [t.arg 0, t.arg 1] := by rw [e]; rfl
        have hgs : ∀ x ∈ g ++ [t.arg 0], x.small := by intro x hx; rcases List.mem_append.1 hx with hx | hx; exact hg x hx; rw [List.mem_singleton.1 hx]; exact s0
        refine t_g (j2 @hz2 @h) ?_
        refine t_c3 @ha (mk_longer_ok g [t.arg 0] (by simp; omega)) (ih (t.arg 1) (by rw [ha]; simp) (z - 1) (g ++ [t.arg 0]) q (by omega) (by omega) s1 hgs (by simp; omega) hq) (ref02_t_ok 2 (t.arg 0) [(leafD l (t.arg 1) (g ++ [t.arg 0]) q).1]) ?_
        repeat (first | refine W_seq ?_ | refine W_skip ?_ | refine W_block ?_ | refine W_inBlock ?_ | refine W_label ?_ | refine W_exit rfl ?_)
        first | refine W_retR hP hf hfn _ ([(b, deck l (leafD l (t.arg 1) (g ++ [t.arg 0]) q).2)]) (by first | (simp [go_sem, hP, hgl, hn]; done) | (simp [go_sem, hP, hgl, hn]; rfl)) (by simp [go_sem, hP, hgl, hn]) (by simp) ?_ hR.2 | refine W_endR hP hf hfn _ ([(b, deck l (leafD l (t.arg 1) (g ++ [t.arg 0]) q).2)]) (by first | (simp [go_sem, hP, hgl, hn]; done) | (simp [go_sem, hP, hgl, hn]; rfl)) (by simp [go_sem, hP, hgl, hn]) (by simp) ?_ hR.2
        rw [hR.1]
        refine ⟨?_, by simp⟩
        try simp
        try all_goals (simp [Ty.dv, Ty.cells_eq, Ty.kind_mk, Ty.args_mk, Tm.dv, Tm.cells_eq, Tm.kind_mk, Tm.index_mk, Tm.type_mk, Tm.args_mk, Val.dv, Val.cells_eq, Val.kind_mk, Val.num_mk, Val.list_mk, Val.args_mk, ints])
  · rw [hpk] at hR
    simp only at hR
    obtain ⟨h0, h1, k, i, hk, hi, rfl, rfl⟩ := pickD_some' hpk
    have hpos : 0 < (varsN g t).length := by omega
    have hpos3 : 0 < (nextD l p 3).1 := by omega
    have hgi := ints_get (l := natI (varsN g t)) (i := k) (n := i) (by simp [natI, hi])
    have hkl := (List.getElem?_eq_some_iff.1 hi).1
    refine t_g0 ?_
    refine t_c1 trivial (mk_vars_ok g t (by omega)) ?_
    refine t_g0 ?_
    refine t_c1 (j2 @natI_len (j2 @hpos @hpos3)) (next_ok b l p 3 (by decide) (by omega)) ?_
    refine t_g @hpos3 ?_
    refine t_c2 (j2 @natI_len (j2 @hk @hgi)) (next_ok b l (nextD l p 3).2 (varsN g t).length (by omega) (by omega)) (ref02_var_ok i) ?_
    repeat (first | refine W_seq ?_ | refine W_skip ?_ | refine W_block ?_ | refine W_inBlock ?_ | refine W_label ?_ | refine W_exit rfl ?_)
    first | refine W_retR hP hf hfn _ ([(b, deck l (nextD l (nextD l p 3).2 (varsN g t).length).2)]) (by first | (simp [go_sem, hP, hgl, hn, vT]; done) | (simp [go_sem, hP, hgl, hn, vT]; rfl)) (by simp [go_sem, hP, hgl, hn, vT]) (by simp) ?_ hR.2 | refine W_endR hP hf hfn _ ([(b, deck l (nextD l (nextD l p 3).2 (varsN g t).length).2)]) (by first | (simp [go_sem, hP, hgl, hn, vT]; done) | (simp [go_sem, hP, hgl, hn, vT]; rfl)) (by simp [go_sem, hP, hgl, hn, vT]) (by simp) ?_ hR.2
    rw [hR.1]
    refine ⟨?_, by simp [vT]⟩
    try simp [vT]
    try all_goals (simp [Ty.dv, Ty.cells_eq, Ty.kind_mk, Ty.args_mk, Tm.dv, Tm.cells_eq, Tm.kind_mk, Tm.index_mk, Tm.type_mk, Tm.args_mk, Val.dv, Val.cells_eq, Val.kind_mk, Val.num_mk, Val.list_mk, Val.args_mk, ints])
end Go.Proofs.YtbmnlkfgkdallaaGreatDoor.Lift
