import Derived.Test.YtbmnlkfgkdallaaGreatDoorF3
namespace Go.Proofs.YtbmnlkfgkdallaaGreatDoor.Lift
set_option linter.unusedSimpArgs false
set_option linter.unusedVariables false
set_option linter.unnecessarySimpa false
open Go
variable {gl : Globs}

theorem nextD_le {l : List Int} {p : Nat} {n : Int} (h : p ≤ l.length) : (nextD l p n).2 ≤ l.length := by
  unfold nextD
  split
  · exact h
  · split
    · rename_i x hx
      have := (List.getElem?_eq_some_iff.1 hx).1
      simp only; omega
    · exact h

theorem nextD_bd {l : List Int} {p : Nat} {n : Int} (h : 1 ≤ n) : 0 ≤ (nextD l p n).1 ∧ (nextD l p n).1 < n := by
  unfold nextD
  rw [if_neg (by omega)]
  split
  · rename_i x hx
    have := modz_bd x n h
    exact ⟨this.1, this.2.1⟩
  · exact ⟨by simp, by simp; omega⟩

def plainD (l : List Int) (p : Nat) : Ty × Nat :=
  let k := (nextD l p 6).1
  (if k = 0 ∨ k = 1 then Ty.mk 1 [] else if k = 2 then Ty.mk 2 [] else if k = 3 then Ty.mk 5 [] else if k = 4 then Ty.mk 3 [Ty.mk 1 [], Ty.mk 2 []] else Ty.mk 3 [Ty.mk 1 [], Ty.mk 1 []], (nextD l p 6).2)

theorem plain_ok (b : Nat) (l : List Int) (p : Nat) (hl : l.length ≤ 500) (hp : p ≤ l.length) :
    Con1 Tryz.prog gl 10 [ptr b] [(b, deck l p)] (plainD l p).1.dv [(b, deck l (plainD l p).2)] := by
  refine t_in Tryz.func10 ?_
  intro X hP hgl hf hfn hn hR hids hfit
  have hp1 := nextD_le (n := 6) hp
  refine t_rg0 ?_
  refine t_a ?_
  first | refine W_reg [] fun K hK => ?_ | refine W_regd (by rw [hP]; exact mixed) [] fun K hK => ?_
  refine t_s0 ?_
  refine t_c trivial (next_ok b l p 6 (by decide) (by omega)) ?_
  refine t_e ?_
  clear hK K
  have hkb := nextD_bd (l := l) (p := p) (n := 6) (by decide)
  generalize hd : nextD l p 6 = d at *
  obtain ⟨k, q⟩ := d
  by_cases h0 : k = 0
  · refine t_rg @h0 ?_
    refine t_a ?_
    refine W_cond rfl ?_ ?_
    rotate_left
    · intro h; simp at h
    intro _
    refine t_a ?_
    refine W_cond rfl ?_ ?_
    rotate_left
    · intro h; simp at h
    intro _
    refine t_a ?_
    first | refine W_reg [] fun K hK => ?_ | refine W_regd (by rw [hP]; exact mixed) [] fun K hK => ?_
    refine t_s0 ?_
    refine t_c trivial (ref01_nat_ok) ?_
    refine t_e ?_
    clear hK K
    repeat (first | refine W_seq ?_ | refine W_skip ?_ | refine W_block ?_ | refine W_inBlock ?_ | refine W_label ?_ | refine W_exit rfl ?_)
    first | refine W_retR hP hf hfn _ ([(b, deck l q)]) (by first | (simp [go_sem, hP, hgl, hn, plainD, hd, h0]; done) | (simp [go_sem, hP, hgl, hn, plainD, hd, h0]; rfl)) (by simp [go_sem, hP, hgl, hn, plainD, hd, h0]) (by simp) ?_ hR.2 | refine W_endR hP hf hfn _ ([(b, deck l q)]) (by first | (simp [go_sem, hP, hgl, hn, plainD, hd, h0]; done) | (simp [go_sem, hP, hgl, hn, plainD, hd, h0]; rfl)) (by simp [go_sem, hP, hgl, hn, plainD, hd, h0]) (by simp) ?_ hR.2
    rw [hR.1]
    refine ⟨?_, by simp [plainD, hd, h0]⟩
    try simp [plainD, hd, h0]
    try all_goals (simp [Ty.dv, Ty.cells_eq, Ty.kind_mk, Ty.args_mk, Tm.dv, Tm.cells_eq, Tm.kind_mk, Tm.index_mk, Tm.type_mk, Tm.args_mk, Val.dv, Val.cells_eq, Val.kind_mk, Val.num_mk, Val.list_mk, Val.args_mk, ints])
  by_cases h1 : k = 1
  · refine t_rg @h1 ?_
    refine t_a ?_
    refine W_cond rfl ?_ ?_
    · intro h; simp at h
    intro _
    refine t_rg @h1 ?_
    refine t_a ?_
    refine W_cond rfl ?_ ?_
    rotate_left
    · intro h; simp at h
    intro _
    refine t_a ?_
    first | refine W_reg [] fun K hK => ?_ | refine W_regd (by rw [hP]; exact mixed) [] fun K hK => ?_
    refine t_s0 ?_
    refine t_c trivial (ref01_nat_ok) ?_
    refine t_e ?_
    clear hK K
    repeat (first | refine W_seq ?_ | refine W_skip ?_ | refine W_block ?_ | refine W_inBlock ?_ | refine W_label ?_ | refine W_exit rfl ?_)
    first | refine W_retR hP hf hfn _ ([(b, deck l q)]) (by first | (simp [go_sem, hP, hgl, hn, plainD, hd, h1]; done) | (simp [go_sem, hP, hgl, hn, plainD, hd, h1]; rfl)) (by simp [go_sem, hP, hgl, hn, plainD, hd, h1]) (by simp) ?_ hR.2 | refine W_endR hP hf hfn _ ([(b, deck l q)]) (by first | (simp [go_sem, hP, hgl, hn, plainD, hd, h1]; done) | (simp [go_sem, hP, hgl, hn, plainD, hd, h1]; rfl)) (by simp [go_sem, hP, hgl, hn, plainD, hd, h1]) (by simp) ?_ hR.2
    rw [hR.1]
    refine ⟨?_, by simp [plainD, hd, h1]⟩
    try simp [plainD, hd, h1]
    try all_goals (simp [Ty.dv, Ty.cells_eq, Ty.kind_mk, Ty.args_mk, Tm.dv, Tm.cells_eq, Tm.kind_mk, Tm.index_mk, Tm.type_mk, Tm.args_mk, Val.dv, Val.cells_eq, Val.kind_mk, Val.num_mk, Val.list_mk, Val.args_mk, ints])
  by_cases h2 : k = 2
  · refine t_rg @h2 ?_
    refine t_a ?_
    refine W_cond rfl ?_ ?_
    · intro h; simp at h
    intro _
    refine t_rg @h2 ?_
    refine t_a ?_
    refine W_cond rfl ?_ ?_
    · intro h; simp at h
    intro _
    refine t_rg @h2 ?_
    refine t_a ?_
    refine W_cond rfl ?_ ?_
    rotate_left
    · intro h; simp at h
    intro _
    refine t_a ?_
    first | refine W_reg [] fun K hK => ?_ | refine W_regd (by rw [hP]; exact mixed) [] fun K hK => ?_
    refine t_s0 ?_
    refine t_c trivial (ref01_list_ok) ?_
    refine t_e ?_
    clear hK K
    repeat (first | refine W_seq ?_ | refine W_skip ?_ | refine W_block ?_ | refine W_inBlock ?_ | refine W_label ?_ | refine W_exit rfl ?_)
    first | refine W_retR hP hf hfn _ ([(b, deck l q)]) (by first | (simp [go_sem, hP, hgl, hn, plainD, hd, h2]; done) | (simp [go_sem, hP, hgl, hn, plainD, hd, h2]; rfl)) (by simp [go_sem, hP, hgl, hn, plainD, hd, h2]) (by simp) ?_ hR.2 | refine W_endR hP hf hfn _ ([(b, deck l q)]) (by first | (simp [go_sem, hP, hgl, hn, plainD, hd, h2]; done) | (simp [go_sem, hP, hgl, hn, plainD, hd, h2]; rfl)) (by simp [go_sem, hP, hgl, hn, plainD, hd, h2]) (by simp) ?_ hR.2
    rw [hR.1]
    refine ⟨?_, by simp [plainD, hd, h2]⟩
    try simp [plainD, hd, h2]
    try all_goals (simp [Ty.dv, Ty.cells_eq, Ty.kind_mk, Ty.args_mk, Tm.dv, Tm.cells_eq, Tm.kind_mk, Tm.index_mk, Tm.type_mk, Tm.args_mk, Val.dv, Val.cells_eq, Val.kind_mk, Val.num_mk, Val.list_mk, Val.args_mk, ints])
  by_cases h3 : k = 3
  · refine t_rg @h3 ?_
    refine t_a ?_
    refine W_cond rfl ?_ ?_
    · intro h; simp at h
    intro _
    refine t_rg @h3 ?_
    refine t_a ?_
    refine W_cond rfl ?_ ?_
    · intro h; simp at h
    intro _
    refine t_rg @h3 ?_
    refine t_a ?_
    refine W_cond rfl ?_ ?_
    · intro h; simp at h
    intro _
    refine t_rg @h3 ?_
    refine t_a ?_
    refine W_cond rfl ?_ ?_
    rotate_left
    · intro h; simp at h
    intro _
    refine t_a ?_
    first | refine W_reg [] fun K hK => ?_ | refine W_regd (by rw [hP]; exact mixed) [] fun K hK => ?_
    refine t_s0 ?_
    refine t_c trivial (ref01_unit_ok) ?_
    refine t_e ?_
    clear hK K
    repeat (first | refine W_seq ?_ | refine W_skip ?_ | refine W_block ?_ | refine W_inBlock ?_ | refine W_label ?_ | refine W_exit rfl ?_)
    first | refine W_retR hP hf hfn _ ([(b, deck l q)]) (by first | (simp [go_sem, hP, hgl, hn, plainD, hd, h3]; done) | (simp [go_sem, hP, hgl, hn, plainD, hd, h3]; rfl)) (by simp [go_sem, hP, hgl, hn, plainD, hd, h3]) (by simp) ?_ hR.2 | refine W_endR hP hf hfn _ ([(b, deck l q)]) (by first | (simp [go_sem, hP, hgl, hn, plainD, hd, h3]; done) | (simp [go_sem, hP, hgl, hn, plainD, hd, h3]; rfl)) (by simp [go_sem, hP, hgl, hn, plainD, hd, h3]) (by simp) ?_ hR.2
    rw [hR.1]
    refine ⟨?_, by simp [plainD, hd, h3]⟩
    try simp [plainD, hd, h3]
    try all_goals (simp [Ty.dv, Ty.cells_eq, Ty.kind_mk, Ty.args_mk, Tm.dv, Tm.cells_eq, Tm.kind_mk, Tm.index_mk, Tm.type_mk, Tm.args_mk, Val.dv, Val.cells_eq, Val.kind_mk, Val.num_mk, Val.list_mk, Val.args_mk, ints])
  by_cases h4 : k = 4
  · refine t_rg @h4 ?_
    refine t_a ?_
    refine W_cond rfl ?_ ?_
    · intro h; simp at h
    intro _
    refine t_rg @h4 ?_
    refine t_a ?_
    refine W_cond rfl ?_ ?_
    · intro h; simp at h
    intro _
    refine t_rg @h4 ?_
    refine t_a ?_
    refine W_cond rfl ?_ ?_
    · intro h; simp at h
    intro _
    refine t_rg @h4 ?_
    refine t_a ?_
    refine W_cond rfl ?_ ?_
    · intro h; simp at h
    intro _
    refine t_rg @h4 ?_
    refine t_a ?_
    refine W_cond rfl ?_ ?_
    rotate_left
    · intro h; simp at h
    intro _
    refine t_a ?_
    first | refine W_reg [] fun K hK => ?_ | refine W_regd (by rw [hP]; exact mixed) [] fun K hK => ?_
    refine t_s0 ?_
    refine t_c trivial (ref01_nat_ok) ?_
    refine t_c trivial (ref01_list_ok) ?_
    refine t_c trivial (ref01_two_ok (Ty.mk 1 []) (Ty.mk 2 [])) ?_
    refine t_e ?_
    clear hK K
    repeat (first | refine W_seq ?_ | refine W_skip ?_ | refine W_block ?_ | refine W_inBlock ?_ | refine W_label ?_ | refine W_exit rfl ?_)
    first | refine W_retR hP hf hfn _ ([(b, deck l q)]) (by first | (simp [go_sem, hP, hgl, hn, plainD, hd, h4]; done) | (simp [go_sem, hP, hgl, hn, plainD, hd, h4]; rfl)) (by simp [go_sem, hP, hgl, hn, plainD, hd, h4]) (by simp) ?_ hR.2 | refine W_endR hP hf hfn _ ([(b, deck l q)]) (by first | (simp [go_sem, hP, hgl, hn, plainD, hd, h4]; done) | (simp [go_sem, hP, hgl, hn, plainD, hd, h4]; rfl)) (by simp [go_sem, hP, hgl, hn, plainD, hd, h4]) (by simp) ?_ hR.2
    rw [hR.1]
    refine ⟨?_, by simp [plainD, hd, h4]⟩
    try simp [plainD, hd, h4]
    try all_goals (simp [Ty.dv, Ty.cells_eq, Ty.kind_mk, Ty.args_mk, Tm.dv, Tm.cells_eq, Tm.kind_mk, Tm.index_mk, Tm.type_mk, Tm.args_mk, Val.dv, Val.cells_eq, Val.kind_mk, Val.num_mk, Val.list_mk, Val.args_mk, ints])
  · have h5 : k = 5 := by simp at hkb; omega
    refine t_rg @h5 ?_
    refine t_a ?_
    refine W_cond rfl ?_ ?_
    · intro h; simp at h
    intro _
    refine t_rg @h5 ?_
    refine t_a ?_
    refine W_cond rfl ?_ ?_
    · intro h; simp at h
    intro _
    refine t_rg @h5 ?_
    refine t_a ?_
    refine W_cond rfl ?_ ?_
    · intro h; simp at h
    intro _
    refine t_rg @h5 ?_
    refine t_a ?_
    refine W_cond rfl ?_ ?_
    · intro h; simp at h
    intro _
    refine t_rg @h5 ?_
    refine t_a ?_
    refine W_cond rfl ?_ ?_
    · intro h; simp at h
    intro _
    refine t_a ?_
    first | refine W_reg [] fun K hK => ?_ | refine W_regd (by rw [hP]; exact mixed) [] fun K hK => ?_
    refine t_s0 ?_
    refine t_c trivial (ref01_nat_ok) ?_
    refine t_c trivial (ref01_nat_ok) ?_
    refine t_c trivial (ref01_two_ok (Ty.mk 1 []) (Ty.mk 1 [])) ?_
    refine t_e ?_
    clear hK K
    repeat (first | refine W_seq ?_ | refine W_skip ?_ | refine W_block ?_ | refine W_inBlock ?_ | refine W_label ?_ | refine W_exit rfl ?_)
    first | refine W_retR hP hf hfn _ ([(b, deck l q)]) (by first | (simp [go_sem, hP, hgl, hn, plainD, hd, h5]; done) | (simp [go_sem, hP, hgl, hn, plainD, hd, h5]; rfl)) (by simp [go_sem, hP, hgl, hn, plainD, hd, h5]) (by simp) ?_ hR.2 | refine W_endR hP hf hfn _ ([(b, deck l q)]) (by first | (simp [go_sem, hP, hgl, hn, plainD, hd, h5]; done) | (simp [go_sem, hP, hgl, hn, plainD, hd, h5]; rfl)) (by simp [go_sem, hP, hgl, hn, plainD, hd, h5]) (by simp) ?_ hR.2
    rw [hR.1]
    refine ⟨?_, by simp [plainD, hd, h5]⟩
    try simp [plainD, hd, h5]
    try all_goals (simp [Ty.dv, Ty.cells_eq, Ty.kind_mk, Ty.args_mk, Tm.dv, Tm.cells_eq, Tm.kind_mk, Tm.index_mk, Tm.type_mk, Tm.args_mk, Val.dv, Val.cells_eq, Val.kind_mk, Val.num_mk, Val.list_mk, Val.args_mk, ints])

/-- n numbers below 4 -/
def numsD (l : List Int) (p : Nat) : Nat → List Int × Nat
  | 0 => ([], p)
  | n + 1 => ((nextD l p 4).1 :: (numsD l (nextD l p 4).2 n).1, (numsD l (nextD l p 4).2 n).2)

def mkVal (l : List Int) : Ty → Nat → Val × Nat
  | .mk k ts, p =>
    if k = 1 then (Val.mk 1 (nextD l p 5).1 [] [], (nextD l p 5).2)
    else if k = 2 then (Val.mk 2 0 (numsD l (nextD l p 4).2 (nextD l p 4).1.toNat).1 [], (numsD l (nextD l p 4).2 (nextD l p 4).1.toNat).2)
    else if k = 3 then (Val.mk 3 0 [] (mkVals ts p).1, (mkVals ts p).2)
    else (Val.mk 4 0 [] [], p)
where
  mkVals : List Ty → Nat → List Val × Nat
    | [], p => ([], p)
    | t :: r, p => ((mkVal l t p).1 :: (mkVals r (mkVal l t p).2).1, (mkVals r (mkVal l t p).2).2)

/-- the types of plain values: a pair has two parts -/
def Ty.plain : Ty → Prop
  | .mk k ts => (k = 3 → ts.length = 2) ∧ plains ts
where
  plains : List Ty → Prop
    | [] => True
    | t :: r => t.plain ∧ plains r

theorem Ty.plains_iff (ts : List Ty) : Ty.plain.plains ts ↔ ∀ a ∈ ts, a.plain := by
  induction ts with
  | nil => simp [Ty.plain.plains]
  | cons a r ih => simp [Ty.plain.plains, ih]
theorem Ty.plain_eq (t : Ty) : t.plain ↔ (t.kind = 3 → t.args.length = 2) ∧ ∀ a ∈ t.args, a.plain := by
  cases t with
  | mk k ts => simp only [Ty.plain, Ty.plains_iff, Ty.kind, Ty.args]
theorem mkVal_eq (l : List Int) (t : Ty) (p : Nat) : mkVal l t p =
    if t.kind = 1 then (Val.mk 1 (nextD l p 5).1 [] [], (nextD l p 5).2)
    else if t.kind = 2 then (Val.mk 2 0 (numsD l (nextD l p 4).2 (nextD l p 4).1.toNat).1 [], (numsD l (nextD l p 4).2 (nextD l p 4).1.toNat).2)
    else if t.kind = 3 then (Val.mk 3 0 [] (mkVal.mkVals l t.args p).1, (mkVal.mkVals l t.args p).2)
    else (Val.mk 4 0 [] [], p) := by
  cases t; rfl
theorem numsD_le {l : List Int} : ∀ {n p : Nat}, p ≤ l.length → (numsD l p n).2 ≤ l.length
  | 0, _, h => h
  | n + 1, _, h => numsD_le (n := n) (nextD_le h)
theorem mkVal_le {l : List Int} (t : Ty) : ∀ {p : Nat}, p ≤ l.length → (mkVal l t p).2 ≤ l.length := by
  induction t using Ty.ind with
  | h t ih =>
  intro p hp
  have hs : ∀ ts : List Ty, (∀ a ∈ ts, a ∈ t.args) → ∀ p, p ≤ l.length → (mkVal.mkVals l ts p).2 ≤ l.length := by
    intro ts
    induction ts with
    | nil => intro _ p hp; exact hp
    | cons a r ihr => intro h p hp; exact ihr (fun b hb => h b (List.mem_cons_of_mem _ hb)) _ (ih a (h a (by simp)) hp)
  rw [mkVal_eq]
  split
  · exact nextD_le hp
  · split
    · exact numsD_le (nextD_le hp)
    · split
      · exact hs t.args (fun _ h => h) p hp
      · exact hp

theorem mkval_ok (t : Ty) (b : Nat) (l : List Int) (p : Nat) (hl : l.length ≤ 500) (hp : p ≤ l.length) (ht : t.plain) :
    Con1 Tryz.prog gl 9 [ptr b, t.dv] [(b, deck l p)] (mkVal l t p).1.dv [(b, deck l (mkVal l t p).2)] := by
  induction t using Ty.ind generalizing p with
  | h t ih =>
  refine t_in Tryz.func9 ?_
  intro X hP hgl hf hfn hn hR hids hfit
  have hp5 := nextD_le (n := 5) hp
  have hp4 := nextD_le (n := 4) hp
  rw [mkVal_eq] at hR
  refine t_rg0 ?_
  refine t_rg0 ?_
  by_cases h1 : t.kind = 1
  · rw [if_pos h1] at hR
    refine t_rg @h1 ?_
    refine t_a ?_
    refine W_cond rfl ?_ ?_
    rotate_left
    · intro h; simp at h
    intro _
    refine t_a ?_
    first | refine W_reg [] fun K hK => ?_ | refine W_regd (by rw [hP]; exact mixed) [] fun K hK => ?_
    refine t_s0 ?_
    refine t_c trivial (next_ok b l p 5 (by decide) (by omega)) ?_
    refine t_e ?_
    clear hK K
    repeat (first | refine W_seq ?_ | refine W_skip ?_ | refine W_block ?_ | refine W_inBlock ?_ | refine W_label ?_ | refine W_exit rfl ?_)
    first | refine W_retR hP hf hfn _ ([(b, deck l (nextD l p 5).2)]) (by first | (simp [go_sem, hP, hgl, hn]; done) | (simp [go_sem, hP, hgl, hn]; rfl)) (by simp [go_sem, hP, hgl, hn]) (by simp) ?_ hR.2 | refine W_endR hP hf hfn _ ([(b, deck l (nextD l p 5).2)]) (by first | (simp [go_sem, hP, hgl, hn]; done) | (simp [go_sem, hP, hgl, hn]; rfl)) (by simp [go_sem, hP, hgl, hn]) (by simp) ?_ hR.2
    rw [hR.1]
    refine ⟨?_, by simp⟩
    try simp
    try all_goals (simp [Ty.dv, Ty.cells_eq, Ty.kind_mk, Ty.args_mk, Tm.dv, Tm.cells_eq, Tm.kind_mk, Tm.index_mk, Tm.type_mk, Tm.args_mk, Val.dv, Val.cells_eq, Val.kind_mk, Val.num_mk, Val.list_mk, Val.args_mk, ints])
  rw [if_neg h1] at hR
  by_cases h2 : t.kind = 2
  · rw [if_pos h2] at hR
    have hkb := nextD_bd (l := l) (p := p) (n := 4) (by decide)
    obtain ⟨r0, hr0⟩ : ∃ r0 : Nat, (nextD l p 4).1 = r0 := ⟨(nextD l p 4).1.toNat, by omega⟩
    rw [hr0, Int.toNat_natCast] at hR
    rw [hr0] at hkb
    refine t_rg @h2 ?_
    refine t_a ?_
    refine W_cond rfl ?_ ?_
    · intro h; simp at h
    intro _
    refine t_rg @h2 ?_
    refine t_a ?_
    refine W_cond rfl ?_ ?_
    rotate_left
    · intro h; simp at h
    intro _
    refine t_rg0 ?_
    refine t_a ?_
    first | refine W_reg [] fun K hK => ?_ | refine W_regd (by rw [hP]; exact mixed) [] fun K hK => ?_
    refine t_s0 ?_
    refine t_c trivial (next_ok b l p 4 (by decide) (by omega)) ?_
    refine t_e ?_
    clear hK K
    refine t_a ?_
    refine W_sub [(1005, 0)] (by simp [go_sem]) (by simp [go_sem, hr0, ints_nil]) (by simp [go_sem]) (W_rounds (fun x : List Int × Nat × Nat => x.2.1 ≤ l.length ∧ (x.1 ++ (numsD l x.2.1 x.2.2).1, (numsD l x.2.1 x.2.2).2) = numsD l (nextD l p 4).2 r0 ∧ x.1.length + x.2.2 ≤ 4)
      (fun x => [(.slot 6, .one (.v (dint x.2.2))), (.heap b, .row [.v (.sl (ints l)), .v (dint x.2.1)]), (.loc 5, .row [.v (dint 2), .v (dint 0), .own 1005 (ints x.1), .own 0 []]), (.tok 1005, .tk 1 x.1.length), (.slot 5, .one (.loc 5 0)), (.loc 4, .row [.v (dint 0), .v (dint 0), .own 0 [], .own 0 []]), (.slot 4, .one (.loc 4 0)), (.slot 0, .one (.v (ptr b)))])
      (fun x => x.2.2) ([], (nextD l p 4).2, r0) ⟨hp4, by simp, by simp; omega⟩ ?_)
    rintro ⟨acc, q, r⟩ ⟨i1, i2, i3⟩ ihr
    simp only at i1 i2 i3
    cases r with
    | zero =>
      simp only [numsD, List.append_nil] at i2
      refine t_rg0 ?_
      refine t_a ?_
      refine W_cond rfl ?_ ?_
      · intro h; simp at h
      intro _
      refine t_rg0 ?_
      repeat (first | refine W_seq ?_ | refine W_skip ?_ | refine W_block ?_ | refine W_inBlock ?_ | refine W_label ?_ | refine W_exit rfl ?_)
      first | refine W_retR hP hf hfn _ ([(b, deck l q)]) (by first | (simp [go_sem, hP, hgl, hn, ← i2]; done) | (simp [go_sem, hP, hgl, hn, ← i2]; rfl)) (by simp [go_sem, hP, hgl, hn, ← i2]) (by simp) ?_ hR.2 | refine W_endR hP hf hfn _ ([(b, deck l q)]) (by first | (simp [go_sem, hP, hgl, hn, ← i2]; done) | (simp [go_sem, hP, hgl, hn, ← i2]; rfl)) (by simp [go_sem, hP, hgl, hn, ← i2]) (by simp) ?_ hR.2
      rw [hR.1]
      refine ⟨?_, by simp [← i2]⟩
      try simp [← i2]
      try all_goals (simp [Ty.dv, Ty.cells_eq, Ty.kind_mk, Ty.args_mk, Tm.dv, Tm.cells_eq, Tm.kind_mk, Tm.index_mk, Tm.type_mk, Tm.args_mk, Val.dv, Val.cells_eq, Val.kind_mk, Val.num_mk, Val.list_mk, Val.args_mk, ints])
    | succ r =>
      have hq := nextD_le (n := 4) i1
      refine t_rg0 ?_
      refine t_yes ?_
      refine t_a ?_
      first | refine W_reg [] fun K hK => ?_ | refine W_regd (by rw [hP]; exact mixed) [] fun K hK => ?_
      refine t_s0 ?_
      refine t_c trivial (next_ok b l q 4 (by decide) (by omega)) ?_
      refine t_e ?_
      clear hK K
      refine t_rg0 ?_
      refine t_b ?_
      refine t_sub [(1005, 28)] (j2 @ints_cons @ints_nil) (ihr (acc ++ [(nextD l q 4).1], (nextD l q 4).2, r) ⟨hq, by rw [← i2]; simp [numsD], by simp; omega⟩ (by simp))
  rw [if_neg h2] at hR
  by_cases h3 : t.kind = 3
  · rw [if_pos h3] at hR
    obtain ⟨ht1, ht2⟩ := (Ty.plain_eq t).1 ht
    obtain ⟨x, y, hxy⟩ : ∃ x y, t.args = [x, y] := by
      have := ht1 h3
      match h : t.args, this with
      | [x, y], _ => exact ⟨x, y, rfl⟩
    have hpx := mkVal_le (l := l) x hp
    refine t_rg @h3 ?_
    refine t_no ?_
    refine t_rg @h3 ?_
    refine t_no ?_
    refine t_rg @h3 ?_
    refine t_yes ?_
    refine t_a ?_
    first | refine W_reg [] fun K hK => ?_ | refine W_regd (by rw [hP]; exact mixed) [] fun K hK => ?_
    refine t_s @hxy ?_
    refine t_c @hxy (ih x (by simp [hxy]) p hp (ht2 x (by simp [hxy]))) ?_
    refine t_c @hxy (ih y (by simp [hxy]) _ hpx (ht2 y (by simp [hxy]))) ?_
    refine t_e ?_
    clear hK K
    repeat (first | refine W_seq ?_ | refine W_skip ?_ | refine W_block ?_ | refine W_inBlock ?_ | refine W_label ?_ | refine W_exit rfl ?_)
    first | refine W_retR hP hf hfn _ ([(b, deck l (mkVal l y (mkVal l x p).2).2)]) (by first | (simp [go_sem, hP, hgl, hn, hxy, mkVal.mkVals]; done) | (simp [go_sem, hP, hgl, hn, hxy, mkVal.mkVals]; rfl)) (by simp [go_sem, hP, hgl, hn, hxy, mkVal.mkVals]) (by simp) ?_ hR.2 | refine W_endR hP hf hfn _ ([(b, deck l (mkVal l y (mkVal l x p).2).2)]) (by first | (simp [go_sem, hP, hgl, hn, hxy, mkVal.mkVals]; done) | (simp [go_sem, hP, hgl, hn, hxy, mkVal.mkVals]; rfl)) (by simp [go_sem, hP, hgl, hn, hxy, mkVal.mkVals]) (by simp) ?_ hR.2
    rw [hR.1]
    refine ⟨?_, by simp [hxy, mkVal.mkVals]⟩
    try simp [hxy, mkVal.mkVals]
    try all_goals (simp [Ty.dv, Ty.cells_eq, Ty.kind_mk, Ty.args_mk, Tm.dv, Tm.cells_eq, Tm.kind_mk, Tm.index_mk, Tm.type_mk, Tm.args_mk, Val.dv, Val.cells_eq, Val.kind_mk, Val.num_mk, Val.list_mk, Val.args_mk, ints])
  rw [if_neg h3] at hR
  refine t_rg @h1 ?_
  refine t_no ?_
  refine t_rg @h2 ?_
  refine t_no ?_
  refine t_rg @h3 ?_
  refine t_no ?_
  refine t_rg0 ?_
  repeat (first | refine W_seq ?_ | refine W_skip ?_ | refine W_block ?_ | refine W_inBlock ?_ | refine W_label ?_ | refine W_exit rfl ?_)
  first | refine W_retR hP hf hfn _ ([(b, deck l p)]) (by first | (simp [go_sem, hP, hgl, hn]; done) | (simp [go_sem, hP, hgl, hn]; rfl)) (by simp [go_sem, hP, hgl, hn]) (by simp) ?_ hR.2 | refine W_endR hP hf hfn _ ([(b, deck l p)]) (by first | (simp [go_sem, hP, hgl, hn]; done) | (simp [go_sem, hP, hgl, hn]; rfl)) (by simp [go_sem, hP, hgl, hn]) (by simp) ?_ hR.2
  rw [hR.1]
  refine ⟨?_, by simp⟩
  try simp
  try all_goals (simp [Ty.dv, Ty.cells_eq, Ty.kind_mk, Ty.args_mk, Tm.dv, Tm.cells_eq, Tm.kind_mk, Tm.index_mk, Tm.type_mk, Tm.args_mk, Val.dv, Val.cells_eq, Val.kind_mk, Val.num_mk, Val.list_mk, Val.args_mk, ints])
end Go.Proofs.YtbmnlkfgkdallaaGreatDoor.Lift
