import Derived.Test.YtbmnlkfgkdallaaGreatDoorM1
import Derived.Test.YtbmnlkfgkdallaaGreatDoorH7
namespace Go.Proofs.YtbmnlkfgkdallaaGreatDoor.Lift
set_option linter.unusedSimpArgs false
set_option linter.unusedVariables false
set_option linter.unnecessarySimpa false
open Go
variable {gl : Globs}

theorem mk_type_ok (n : Nat) (b : Nat) (l : List Int) (p : Nat) (hl : l.length ≤ 500) (hp : p ≤ l.length) (hn3 : n ≤ 3) :
    Con1 Tryz.prog gl 23 [ptr b, dint n] [(b, deck l p)] (typeD l n p).1.dv [(b, deck l (typeD l n p).2)] := by
  induction n generalizing p with
  | zero =>
    refine t_in Tryz.func23 ?_
    intro X hP hgl hf hfn hn hR hids hfit
    rw [typeD] at hR
    have hkb := nextD_bd (l := l) (p := p) (n := 7) (by decide)
    refine t_g0 ?_
    refine t_c1 trivial (next_ok b l p 7 (by decide) (by omega)) ?_
    generalize hd : nextD l p 7 = d at *
    obtain ⟨k, q⟩ := d
    simp only at hkb hR
    by_cases h3 : k = 3
    · refine t_g @h3 ?_
      refine t_c1 trivial ref01_list_ok ?_
      repeat (first | refine W_seq ?_ | refine W_skip ?_ | refine W_block ?_ | refine W_inBlock ?_ | refine W_label ?_ | refine W_exit rfl ?_)
      first | refine W_retR hP hf hfn _ ([(b, deck l q)]) (by first | (simp [go_sem, hP, hgl, hn, h3]; done) | (simp [go_sem, hP, hgl, hn, h3]; rfl)) (by simp [go_sem, hP, hgl, hn, h3]) (by simp) ?_ hR.2 | refine W_endR hP hf hfn _ ([(b, deck l q)]) (by first | (simp [go_sem, hP, hgl, hn, h3]; done) | (simp [go_sem, hP, hgl, hn, h3]; rfl)) (by simp [go_sem, hP, hgl, hn, h3]) (by simp) ?_ hR.2
      rw [hR.1]
      refine ⟨?_, by simp [h3]⟩
      try simp [h3]
      try all_goals (simp [Ty.dv, Ty.cells_eq, Ty.kind_mk, Ty.args_mk, Tm.dv, Tm.cells_eq, Tm.kind_mk, Tm.index_mk, Tm.type_mk, Tm.args_mk, Val.dv, Val.cells_eq, Val.kind_mk, Val.num_mk, Val.list_mk, Val.args_mk, ints])
    by_cases h4 : k = 4
    · refine t_g @h4 ?_
      refine t_c1 trivial ref01_unit_ok ?_
      repeat (first | refine W_seq ?_ | refine W_skip ?_ | refine W_block ?_ | refine W_inBlock ?_ | refine W_label ?_ | refine W_exit rfl ?_)
      first | refine W_retR hP hf hfn _ ([(b, deck l q)]) (by first | (simp [go_sem, hP, hgl, hn, h4]; done) | (simp [go_sem, hP, hgl, hn, h4]; rfl)) (by simp [go_sem, hP, hgl, hn, h4]) (by simp) ?_ hR.2 | refine W_endR hP hf hfn _ ([(b, deck l q)]) (by first | (simp [go_sem, hP, hgl, hn, h4]; done) | (simp [go_sem, hP, hgl, hn, h4]; rfl)) (by simp [go_sem, hP, hgl, hn, h4]) (by simp) ?_ hR.2
      rw [hR.1]
      refine ⟨?_, by simp [h4]⟩
      try simp [h4]
      try all_goals (simp [Ty.dv, Ty.cells_eq, Ty.kind_mk, Ty.args_mk, Tm.dv, Tm.cells_eq, Tm.kind_mk, Tm.index_mk, Tm.type_mk, Tm.args_mk, Val.dv, Val.cells_eq, Val.kind_mk, Val.num_mk, Val.list_mk, Val.args_mk, ints])
    by_cases h0 : k = 0
    · refine t_g @h0 ?_
      refine t_c1 trivial ref01_nat_ok ?_
      repeat (first | refine W_seq ?_ | refine W_skip ?_ | refine W_block ?_ | refine W_inBlock ?_ | refine W_label ?_ | refine W_exit rfl ?_)
      first | refine W_retR hP hf hfn _ ([(b, deck l q)]) (by first | (simp [go_sem, hP, hgl, hn, h0]; done) | (simp [go_sem, hP, hgl, hn, h0]; rfl)) (by simp [go_sem, hP, hgl, hn, h0]) (by simp) ?_ hR.2 | refine W_endR hP hf hfn _ ([(b, deck l q)]) (by first | (simp [go_sem, hP, hgl, hn, h0]; done) | (simp [go_sem, hP, hgl, hn, h0]; rfl)) (by simp [go_sem, hP, hgl, hn, h0]) (by simp) ?_ hR.2
      rw [hR.1]
      refine ⟨?_, by simp [h0]⟩
      try simp [h0]
      try all_goals (simp [Ty.dv, Ty.cells_eq, Ty.kind_mk, Ty.args_mk, Tm.dv, Tm.cells_eq, Tm.kind_mk, Tm.index_mk, Tm.type_mk, Tm.args_mk, Val.dv, Val.cells_eq, Val.kind_mk, Val.num_mk, Val.list_mk, Val.args_mk, ints])
    by_cases h1 : k = 1
    · refine t_g @h1 ?_
      refine t_c1 trivial ref01_nat_ok ?_
      repeat (first | refine W_seq ?_ | refine W_skip ?_ | refine W_block ?_ | refine W_inBlock ?_ | refine W_label ?_ | refine W_exit rfl ?_)
      first | refine W_retR hP hf hfn _ ([(b, deck l q)]) (by first | (simp [go_sem, hP, hgl, hn, h1]; done) | (simp [go_sem, hP, hgl, hn, h1]; rfl)) (by simp [go_sem, hP, hgl, hn, h1]) (by simp) ?_ hR.2 | refine W_endR hP hf hfn _ ([(b, deck l q)]) (by first | (simp [go_sem, hP, hgl, hn, h1]; done) | (simp [go_sem, hP, hgl, hn, h1]; rfl)) (by simp [go_sem, hP, hgl, hn, h1]) (by simp) ?_ hR.2
      rw [hR.1]
      refine ⟨?_, by simp [h1]⟩
      try simp [h1]
      try all_goals (simp [Ty.dv, Ty.cells_eq, Ty.kind_mk, Ty.args_mk, Tm.dv, Tm.cells_eq, Tm.kind_mk, Tm.index_mk, Tm.type_mk, Tm.args_mk, Val.dv, Val.cells_eq, Val.kind_mk, Val.num_mk, Val.list_mk, Val.args_mk, ints])
    by_cases h2 : k = 2
    · refine t_g @h2 ?_
      refine t_c1 trivial ref01_nat_ok ?_
      repeat (first | refine W_seq ?_ | refine W_skip ?_ | refine W_block ?_ | refine W_inBlock ?_ | refine W_label ?_ | refine W_exit rfl ?_)
      first | refine W_retR hP hf hfn _ ([(b, deck l q)]) (by first | (simp [go_sem, hP, hgl, hn, h2]; done) | (simp [go_sem, hP, hgl, hn, h2]; rfl)) (by simp [go_sem, hP, hgl, hn, h2]) (by simp) ?_ hR.2 | refine W_endR hP hf hfn _ ([(b, deck l q)]) (by first | (simp [go_sem, hP, hgl, hn, h2]; done) | (simp [go_sem, hP, hgl, hn, h2]; rfl)) (by simp [go_sem, hP, hgl, hn, h2]) (by simp) ?_ hR.2
      rw [hR.1]
      refine ⟨?_, by simp [h2]⟩
      try simp [h2]
      try all_goals (simp [Ty.dv, Ty.cells_eq, Ty.kind_mk, Ty.args_mk, Tm.dv, Tm.cells_eq, Tm.kind_mk, Tm.index_mk, Tm.type_mk, Tm.args_mk, Val.dv, Val.cells_eq, Val.kind_mk, Val.num_mk, Val.list_mk, Val.args_mk, ints])
    by_cases h5 : k = 5
    · refine t_g @h5 ?_
      refine t_c1 trivial ref01_nat_ok ?_
      repeat (first | refine W_seq ?_ | refine W_skip ?_ | refine W_block ?_ | refine W_inBlock ?_ | refine W_label ?_ | refine W_exit rfl ?_)
      first | refine W_retR hP hf hfn _ ([(b, deck l q)]) (by first | (simp [go_sem, hP, hgl, hn, h5]; done) | (simp [go_sem, hP, hgl, hn, h5]; rfl)) (by simp [go_sem, hP, hgl, hn, h5]) (by simp) ?_ hR.2 | refine W_endR hP hf hfn _ ([(b, deck l q)]) (by first | (simp [go_sem, hP, hgl, hn, h5]; done) | (simp [go_sem, hP, hgl, hn, h5]; rfl)) (by simp [go_sem, hP, hgl, hn, h5]) (by simp) ?_ hR.2
      rw [hR.1]
      refine ⟨?_, by simp [h5]⟩
      try simp [h5]
      try all_goals (simp [Ty.dv, Ty.cells_eq, Ty.kind_mk, Ty.args_mk, Tm.dv, Tm.cells_eq, Tm.kind_mk, Tm.index_mk, Tm.type_mk, Tm.args_mk, Val.dv, Val.cells_eq, Val.kind_mk, Val.num_mk, Val.list_mk, Val.args_mk, ints])
    have h6 : k = 6 := by omega
    refine t_g @h6 ?_
    refine t_c1 trivial ref01_nat_ok ?_
    repeat (first | refine W_seq ?_ | refine W_skip ?_ | refine W_block ?_ | refine W_inBlock ?_ | refine W_label ?_ | refine W_exit rfl ?_)
    first | refine W_retR hP hf hfn _ ([(b, deck l q)]) (by first | (simp [go_sem, hP, hgl, hn, h6]; done) | (simp [go_sem, hP, hgl, hn, h6]; rfl)) (by simp [go_sem, hP, hgl, hn, h6]) (by simp) ?_ hR.2 | refine W_endR hP hf hfn _ ([(b, deck l q)]) (by first | (simp [go_sem, hP, hgl, hn, h6]; done) | (simp [go_sem, hP, hgl, hn, h6]; rfl)) (by simp [go_sem, hP, hgl, hn, h6]) (by simp) ?_ hR.2
    rw [hR.1]
    refine ⟨?_, by simp [h6]⟩
    try simp [h6]
    try all_goals (simp [Ty.dv, Ty.cells_eq, Ty.kind_mk, Ty.args_mk, Tm.dv, Tm.cells_eq, Tm.kind_mk, Tm.index_mk, Tm.type_mk, Tm.args_mk, Val.dv, Val.cells_eq, Val.kind_mk, Val.num_mk, Val.list_mk, Val.args_mk, ints])
  | succ n ih =>
    refine t_in Tryz.func23 ?_
    intro X hP hgl hf hfn hn hR hids hfit
    rw [typeD] at hR
    have hkb := nextD_bd (l := l) (p := p) (n := 7) (by decide)
    have hq := nextD_le (n := 7) hp
    refine t_g0 ?_
    refine t_c1 trivial (next_ok b l p 7 (by decide) (by omega)) ?_
    generalize hd : nextD l p 7 = d at *
    obtain ⟨k, q⟩ := d
    simp only at hkb hR hq
    have hpos : (0 : Int) < ((n + 1 : Nat) : Int) := by omega
    have hsub : ((n + 1 : Nat) : Int) - 1 = (n : Int) := by omega
    obtain ⟨a1, -⟩ := typeD_facts l n q hq
    by_cases h3 : k = 3
    · refine t_g @h3 ?_
      refine t_c1 trivial ref01_list_ok ?_
      repeat (first | refine W_seq ?_ | refine W_skip ?_ | refine W_block ?_ | refine W_inBlock ?_ | refine W_label ?_ | refine W_exit rfl ?_)
      first | refine W_retR hP hf hfn _ ([(b, deck l q)]) (by first | (simp [go_sem, hP, hgl, hn, h3]; done) | (simp [go_sem, hP, hgl, hn, h3]; rfl)) (by simp [go_sem, hP, hgl, hn, h3]) (by simp) ?_ hR.2 | refine W_endR hP hf hfn _ ([(b, deck l q)]) (by first | (simp [go_sem, hP, hgl, hn, h3]; done) | (simp [go_sem, hP, hgl, hn, h3]; rfl)) (by simp [go_sem, hP, hgl, hn, h3]) (by simp) ?_ hR.2
      rw [hR.1]
      refine ⟨?_, by simp [h3]⟩
      try simp [h3]
      try all_goals (simp [Ty.dv, Ty.cells_eq, Ty.kind_mk, Ty.args_mk, Tm.dv, Tm.cells_eq, Tm.kind_mk, Tm.index_mk, Tm.type_mk, Tm.args_mk, Val.dv, Val.cells_eq, Val.kind_mk, Val.num_mk, Val.list_mk, Val.args_mk, ints])
    by_cases h4 : k = 4
    · refine t_g @h4 ?_
      refine t_c1 trivial ref01_unit_ok ?_
      repeat (first | refine W_seq ?_ | refine W_skip ?_ | refine W_block ?_ | refine W_inBlock ?_ | refine W_label ?_ | refine W_exit rfl ?_)
      first | refine W_retR hP hf hfn _ ([(b, deck l q)]) (by first | (simp [go_sem, hP, hgl, hn, h4]; done) | (simp [go_sem, hP, hgl, hn, h4]; rfl)) (by simp [go_sem, hP, hgl, hn, h4]) (by simp) ?_ hR.2 | refine W_endR hP hf hfn _ ([(b, deck l q)]) (by first | (simp [go_sem, hP, hgl, hn, h4]; done) | (simp [go_sem, hP, hgl, hn, h4]; rfl)) (by simp [go_sem, hP, hgl, hn, h4]) (by simp) ?_ hR.2
      rw [hR.1]
      refine ⟨?_, by simp [h4]⟩
      try simp [h4]
      try all_goals (simp [Ty.dv, Ty.cells_eq, Ty.kind_mk, Ty.args_mk, Tm.dv, Tm.cells_eq, Tm.kind_mk, Tm.index_mk, Tm.type_mk, Tm.args_mk, Val.dv, Val.cells_eq, Val.kind_mk, Val.num_mk, Val.list_mk, Val.args_mk, ints])
    by_cases h0 : k = 0
    · refine t_g @h0 ?_
      refine t_c1 trivial ref01_nat_ok ?_
      repeat (first | refine W_seq ?_ | refine W_skip ?_ | refine W_block ?_ | refine W_inBlock ?_ | refine W_label ?_ | refine W_exit rfl ?_)
      first | refine W_retR hP hf hfn _ ([(b, deck l q)]) (by first | (simp [go_sem, hP, hgl, hn, h0]; done) | (simp [go_sem, hP, hgl, hn, h0]; rfl)) (by simp [go_sem, hP, hgl, hn, h0]) (by simp) ?_ hR.2 | refine W_endR hP hf hfn _ ([(b, deck l q)]) (by first | (simp [go_sem, hP, hgl, hn, h0]; done) | (simp [go_sem, hP, hgl, hn, h0]; rfl)) (by simp [go_sem, hP, hgl, hn, h0]) (by simp) ?_ hR.2
      rw [hR.1]
      refine ⟨?_, by simp [h0]⟩
      try simp [h0]
      try all_goals (simp [Ty.dv, Ty.cells_eq, Ty.kind_mk, Ty.args_mk, Tm.dv, Tm.cells_eq, Tm.kind_mk, Tm.index_mk, Tm.type_mk, Tm.args_mk, Val.dv, Val.cells_eq, Val.kind_mk, Val.num_mk, Val.list_mk, Val.args_mk, ints])
    by_cases h1 : k = 1
    · refine t_g @h1 ?_
      refine t_c1 trivial ref01_nat_ok ?_
      repeat (first | refine W_seq ?_ | refine W_skip ?_ | refine W_block ?_ | refine W_inBlock ?_ | refine W_label ?_ | refine W_exit rfl ?_)
      first | refine W_retR hP hf hfn _ ([(b, deck l q)]) (by first | (simp [go_sem, hP, hgl, hn, h1]; done) | (simp [go_sem, hP, hgl, hn, h1]; rfl)) (by simp [go_sem, hP, hgl, hn, h1]) (by simp) ?_ hR.2 | refine W_endR hP hf hfn _ ([(b, deck l q)]) (by first | (simp [go_sem, hP, hgl, hn, h1]; done) | (simp [go_sem, hP, hgl, hn, h1]; rfl)) (by simp [go_sem, hP, hgl, hn, h1]) (by simp) ?_ hR.2
      rw [hR.1]
      refine ⟨?_, by simp [h1]⟩
      try simp [h1]
      try all_goals (simp [Ty.dv, Ty.cells_eq, Ty.kind_mk, Ty.args_mk, Tm.dv, Tm.cells_eq, Tm.kind_mk, Tm.index_mk, Tm.type_mk, Tm.args_mk, Val.dv, Val.cells_eq, Val.kind_mk, Val.num_mk, Val.list_mk, Val.args_mk, ints])
    by_cases h2 : k = 2
    · refine t_g @h2 ?_
      refine t_c1 trivial ref01_nat_ok ?_
      repeat (first | refine W_seq ?_ | refine W_skip ?_ | refine W_block ?_ | refine W_inBlock ?_ | refine W_label ?_ | refine W_exit rfl ?_)
      first | refine W_retR hP hf hfn _ ([(b, deck l q)]) (by first | (simp [go_sem, hP, hgl, hn, h2]; done) | (simp [go_sem, hP, hgl, hn, h2]; rfl)) (by simp [go_sem, hP, hgl, hn, h2]) (by simp) ?_ hR.2 | refine W_endR hP hf hfn _ ([(b, deck l q)]) (by first | (simp [go_sem, hP, hgl, hn, h2]; done) | (simp [go_sem, hP, hgl, hn, h2]; rfl)) (by simp [go_sem, hP, hgl, hn, h2]) (by simp) ?_ hR.2
      rw [hR.1]
      refine ⟨?_, by simp [h2]⟩
      try simp [h2]
      try all_goals (simp [Ty.dv, Ty.cells_eq, Ty.kind_mk, Ty.args_mk, Tm.dv, Tm.cells_eq, Tm.kind_mk, Tm.index_mk, Tm.type_mk, Tm.args_mk, Val.dv, Val.cells_eq, Val.kind_mk, Val.num_mk, Val.list_mk, Val.args_mk, ints])
    by_cases h5 : k = 5
    · refine t_g (j2 @h5 @hpos) ?_
      refine t_c3 @hsub (ih q hq (by omega)) (ih _ a1 (by omega)) (ref01_two_ok (typeD l n q).1 (typeD l n (typeD l n q).2).1) ?_
      repeat (first | refine W_seq ?_ | refine W_skip ?_ | refine W_block ?_ | refine W_inBlock ?_ | refine W_label ?_ | refine W_exit rfl ?_)
      first | refine W_retR hP hf hfn _ ([(b, deck l (typeD l n (typeD l n q).2).2)]) (by first | (simp [go_sem, hP, hgl, hn, h5]; done) | (simp [go_sem, hP, hgl, hn, h5]; rfl)) (by simp [go_sem, hP, hgl, hn, h5]) (by simp) ?_ hR.2 | refine W_endR hP hf hfn _ ([(b, deck l (typeD l n (typeD l n q).2).2)]) (by first | (simp [go_sem, hP, hgl, hn, h5]; done) | (simp [go_sem, hP, hgl, hn, h5]; rfl)) (by simp [go_sem, hP, hgl, hn, h5]) (by simp) ?_ hR.2
      rw [hR.1]
      refine ⟨?_, by simp [h5]⟩
      try simp [h5]
      try all_goals (simp [Ty.dv, Ty.cells_eq, Ty.kind_mk, Ty.args_mk, Tm.dv, Tm.cells_eq, Tm.kind_mk, Tm.index_mk, Tm.type_mk, Tm.args_mk, Val.dv, Val.cells_eq, Val.kind_mk, Val.num_mk, Val.list_mk, Val.args_mk, ints])
    have h6 : k = 6 := by omega
    refine t_g (j2 @h6 @hpos) ?_
    refine t_c3 @hsub (ih q hq (by omega)) (ih _ a1 (by omega)) (ref01_fun_ok (typeD l n q).1 (typeD l n (typeD l n q).2).1) ?_
    repeat (first | refine W_seq ?_ | refine W_skip ?_ | refine W_block ?_ | refine W_inBlock ?_ | refine W_label ?_ | refine W_exit rfl ?_)
    first | refine W_retR hP hf hfn _ ([(b, deck l (typeD l n (typeD l n q).2).2)]) (by first | (simp [go_sem, hP, hgl, hn, h6]; done) | (simp [go_sem, hP, hgl, hn, h6]; rfl)) (by simp [go_sem, hP, hgl, hn, h6]) (by simp) ?_ hR.2 | refine W_endR hP hf hfn _ ([(b, deck l (typeD l n (typeD l n q).2).2)]) (by first | (simp [go_sem, hP, hgl, hn, h6]; done) | (simp [go_sem, hP, hgl, hn, h6]; rfl)) (by simp [go_sem, hP, hgl, hn, h6]) (by simp) ?_ hR.2
    rw [hR.1]
    refine ⟨?_, by simp [h6]⟩
    try simp [h6]
    try all_goals (simp [Ty.dv, Ty.cells_eq, Ty.kind_mk, Ty.args_mk, Tm.dv, Tm.cells_eq, Tm.kind_mk, Tm.index_mk, Tm.type_mk, Tm.args_mk, Val.dv, Val.cells_eq, Val.kind_mk, Val.num_mk, Val.list_mk, Val.args_mk, ints])

def varsP (g : List Ty) (t : Ty) (n : Nat) : List Nat := (List.range n).filter fun i => (varTy g i).same t
theorem varsP_succ (g : List Ty) (t : Ty) (n : Nat) : varsP g t (n + 1) = if (varTy g n).same t = true then varsP g t n ++ [n] else varsP g t n := by
  unfold varsP
  rw [List.range_succ, List.filter_append]
  split <;> simp_all
theorem varsP_le (g : List Ty) (t : Ty) (n : Nat) : (varsP g t n).length ≤ n := by
  have := List.length_filter_le (fun i => (varTy g i).same t) (List.range n)
  simpa [varsP] using this
def natI (l : List Nat) : List Int := l.map Int.ofNat
theorem natI_len (l : List Nat) : (natI l).length = l.length := by simp [natI]
theorem natI_snoc (l : List Nat) (n : Nat) : natI (l ++ [n]) = natI l ++ [(n : Int)] := by simp [natI]

theorem mk_vars_ok (g : List Ty) (t : Ty) (hlg : g.length ≤ 1000000) :
    Con1 Tryz.prog gl 58 [.sl (g.map Ty.cells), t.dv] [] (.sl (ints (natI (varsN g t)))) [] := by
  refine t_in Tryz.func58 ?_
  intro X hP hgl hf hfn hn hR hids hfit
  refine t_g0 ?_
  refine t_a ?_
  refine W_sub [(1005, 0)] (by simp [go_sem]) (by simp [go_sem, natI, varsP, ints_nil] <;> omega) (by simp [go_sem]) (W_upto (g.length) (fun i => True) (fun i => [(.slot 9, .one (.v (dint i))), (.slot 8, .one (.v (dint g.length))), (.slot 5, .one (.own 1005 (ints (natI (varsP g t i))))), (.tok 1005, .tk 1 (varsP g t i).length), (.slot 0, .one (.v (.sl (g.map Ty.cells)))), (.loc 3, .row ([.v (dint t.kind), .v (.sl (t.args.map Ty.cells))])), (.slot 3, .one (.loc 3 0)), (.slot 4, .one (.own 0 []))]) (trivial) ?_ ?_)
  · intro i hi _ hnext
    have hli := varsP_le g t i
    have hvt := (varTy_mem hi).2
    have hix : (g.length : Int) - 1 - i = ((g.length - 1 - i : Nat) : Int) := by omega
    refine t_rg0 ?_
    refine t_yes ?_
    refine t_g0 ?_
    refine t_c1 (j2 @hix @hvt) (ref01_same_ok (varTy g i) t) ?_
    have hsu := varsP_succ g t i
    by_cases hs : (varTy g i).same t = true
    · rw [if_pos hs] at hsu
      rw [hsu] at hnext
      refine t_gt (wr [(1005, 25)]) (j2 @natI_len (j2 @natI_snoc (j2 @ints_cons @ints_nil))) (j2 @hs @natI_len) (hnext trivial)
    · rw [if_neg hs] at hsu
      rw [hsu] at hnext
      refine t_gt (wr []) trivial @hs (hnext trivial)
  · intro _
    refine t_rg0 ?_
    refine t_no ?_
    refine t_g0 ?_
    refine t_r ?_
    simp [go_sem, hP, hgl, hn, varsN, varsP] <;> (try omega)

theorem mk_longer_ok (g h : List Ty) (hlg : g.length + h.length ≤ 1000000) :
    Con1 Tryz.prog gl 61 [.sl (g.map Ty.cells), .sl (h.map Ty.cells)] [] (.sl ((g ++ h).map Ty.cells)) [] := by
  refine t_in Tryz.func61 ?_
  intro X hP hgl hf hfn hn hR hids hfit
  have hl1 : g.length ≤ 1000000 := by omega
  refine t_g0 ?_
  refine t_r ?_
  simp [go_sem, hP, hgl, hn] <;> (try omega)
end Go.Proofs.YtbmnlkfgkdallaaGreatDoor.Lift
