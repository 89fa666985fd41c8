import Derived.Test.YtbmnlkfgkdallaaGreatDoorF6
namespace Go.Proofs.YtbmnlkfgkdallaaGreatDoor.Lift
set_option linter.unusedSimpArgs false
set_option linter.unusedVariables false
set_option linter.unnecessarySimpa false
open Go
variable {gl : Globs}

/-- lengths of a list's numbers, until they are too many -/
def lenL : List Int → Int → Int × Bool
  | [], n => (n, false)
  | x :: r, n => if 4096 < n + (1 + sizeI x) then (n + (1 + sizeI x), true) else lenL r (n + (1 + sizeI x))

def Val.lengthN : Val → Int
  | .mk k n l a =>
    if k = 1 then lengths a (sizeI n)
    else if k = 2 then (if (lenL l 1).2 = true then (lenL l 1).1 else lengths a (lenL l 1).1)
    else lengths a 1
where
  lengths : List Val → Int → Int
    | [], n => n
    | a :: r, n => lengths r (n + a.lengthN)
theorem Val.lengthN_eq (v : Val) : v.lengthN = if v.kind = 1 then lengthN.lengths v.args (sizeI v.num)
    else if v.kind = 2 then (if (lenL v.list 1).2 = true then (lenL v.list 1).1 else lengthN.lengths v.args (lenL v.list 1).1)
    else lengthN.lengths v.args 1 := by cases v; rw [lengthN]; rfl
theorem Val.lengths_append (l m : List Val) (n : Int) : lengthN.lengths (l ++ m) n = lengthN.lengths m (lengthN.lengths l n) := by
  induction l generalizing n with
  | nil => rfl
  | cons a r ih => simp [lengthN.lengths, ih]

/-- no negative numbers -/
def Val.pos (v : Val) : Prop := 0 ≤ v.num ∧ ∀ n ∈ v.list, (0 : Int) ≤ n
def Val.allPos : Val → Prop
  | .mk k n l a => Val.pos (.mk k n l a) ∧ poss a
where
  poss : List Val → Prop
    | [] => True
    | a :: r => a.allPos ∧ poss r
theorem Val.poss_iff (l : List Val) : allPos.poss l ↔ ∀ a ∈ l, a.allPos := by
  induction l with
  | nil => simp [allPos.poss]
  | cons a r ih => simp [allPos.poss, ih]
theorem Val.allPos_eq (v : Val) : v.allPos ↔ v.pos ∧ ∀ a ∈ v.args, a.allPos := by
  cases v; simp only [allPos, poss_iff, args]

theorem sizeI_bd {n : Int} (h : 0 ≤ n) : 1 ≤ sizeI n ∧ sizeI n ≤ 4097 := by unfold sizeI; omega

theorem lenL_bd : ∀ (l : List Int) (n : Int), (∀ x ∈ l, 0 ≤ x) → n ≤ 4096 → n ≤ (lenL l n).1 ∧ (lenL l n).1 ≤ 8194
  | [], n, _, h => by simp [lenL]; omega
  | x :: r, n, hp, h => by
    have hx := sizeI_bd (hp x (by simp))
    unfold lenL
    split
    · simp only; omega
    · rename_i hle
      have := lenL_bd r (n + (1 + sizeI x)) (fun y hy => hp y (by simp [hy])) (by omega)
      omega

theorem Val.lengths_le {v : Val} (ih : ∀ a ∈ v.args, 0 ≤ a.lengthN ∧ a.lengthN ≤ 10000 * a.count) (l : List Val) : (∀ a ∈ l, a ∈ v.args) → ∀ n : Int, n ≤ lengthN.lengths l n ∧ lengthN.lengths l n ≤ n + 10000 * Val.count.counts l := by
  induction l with
  | nil => intro _ n; simp [lengthN.lengths, Val.count.counts]
  | cons a r ihr =>
    intro h n
    have h1 := ih a (h a (by simp))
    have h2 := ihr (fun b hb => h b (List.mem_cons_of_mem _ hb)) (n + a.lengthN)
    simp only [lengthN.lengths, Val.count.counts]
    omega
theorem Val.length_le (v : Val) (hp : v.allPos) : 0 ≤ v.lengthN ∧ v.lengthN ≤ 10000 * v.count := by
  induction v using Val.ind with
  | h v ih =>
  obtain ⟨⟨p1, p2⟩, p3⟩ := (Val.allPos_eq v).1 hp
  have key := Val.lengths_le (fun a ha => ih a ha (p3 a ha)) v.args (fun _ h => h)
  have h1 := sizeI_bd p1
  have h2 := lenL_bd v.list 1 p2 (by decide)
  rw [lengthN_eq, count_eq]
  have k1 := key (sizeI v.num)
  have k2 := key (lenL v.list 1).1
  have k3 := key 1
  split
  · omega
  · split
    · split <;> omega
    · omega

theorem lenL_snoc (l : List Int) (n : Int) (x : Int) (rest : List Int) (h : (lenL l n).2 = false) : lenL (l ++ x :: rest) n = lenL (x :: rest) (lenL l n).1 := by
  induction l generalizing n with
  | nil => rfl
  | cons a r ih =>
    simp only [List.cons_append, lenL] at h ⊢
    split
    · rename_i hh; simp [hh] at h
    · rename_i hh
      simp only [hh, if_false] at h
      exact ih _ h

/-- the length ahead of the parts -/
def Val.head (v : Val) : Int := if v.kind = 1 then sizeI v.num else if v.kind = 2 then (lenL v.list 1).1 else 1
theorem Val.head_bd {v : Val} (h : v.pos) : 1 ≤ v.head ∧ v.head ≤ 8194 := by
  have h1 := sizeI_bd h.1
  have h2 := lenL_bd v.list 1 h.2 (by decide)
  unfold head
  split
  · omega
  · split <;> omega

theorem length_ok (v : Val) (hp : v.allPos) (hc : v.count ≤ 1048576) : Con1 Tryz.prog gl 48 [v.dv] [] (dint v.lengthN) [] := by
  induction v using Val.ind with
  | h v ih =>
  refine t_in Tryz.func48 ?_
  intro X hP hgl hf hfn hn hR hids hfit
  have hl1 := Val.fit_args (hfit v.dv (by simp))
  have hl2 := Val.fit_list (hfit v.dv (by simp))
  obtain ⟨⟨p1, p2⟩, p3⟩ := (Val.allPos_eq v).1 hp
  rw [Val.count_eq] at hc
  have hhd := Val.head_bd (v := v) ⟨p1, p2⟩
  have key := Val.lengths_le (v := v) (fun a ha => Val.length_le a (p3 a ha))
  refine t_rg0 ?_
  refine t_rg0 ?_
  refine t_rg0 ?_
  repeat (first | refine W_seq ?_ | refine W_skip ?_ | refine W_inBlock ?_ | refine W_label ?_)
  refine W_cutP (v.kind = 2 → (lenL v.list 1).2 = false) [(.slot 3, .one (.v (dint v.head))), (.slot 1, .one (.loc 1 0)), (.loc 1, .row ([.v (dint v.kind), .v (dint v.num), .v (.sl (ints v.list)), .v (.sl (v.args.map Val.cells))]))] ?_ ?_
  · intro hrest
    by_cases h1 : v.kind = 1
    · refine t_rg @h1 ?_
      refine t_yes ?_
      refine t_a ?_
      first | refine W_reg [] fun K hK => ?_ | refine W_regd (by rw [hP]; exact mixed) [] fun K hK => ?_
      refine t_s0 ?_
      refine t_c trivial (size_ok v.num) ?_
      refine t_e ?_
      clear hK K
      repeat (first | refine W_inBlock ?_ | refine W_skip ?_ | refine W_label ?_ | refine W_exit rfl ?_)
      refine W_sub [] (by simp [go_sem]) (by simp [go_sem, Val.head, h1] <;> omega) (by simp [go_sem]) (hrest (by simp [h1]))
    by_cases h2 : v.kind = 2
    · refine t_rg @h1 ?_
      refine t_no ?_
      refine t_rg @h2 ?_
      refine t_yes ?_
      refine t_rg0 ?_
      refine t_a ?_
      refine W_sub [] (by simp [go_sem]) (by simp [go_sem, lenL, h2] <;> omega) (by simp [go_sem]) (W_listI (v.list) (fun done => (lenL done 1).2 = false) (fun done rest => [(.slot 20, .one (.v (dint done.length))), (.slot 19, .one (.v (dint v.list.length))), (.slot 18, .one (.v (.sl (ints v.list)))), (.slot 3, .one (.v (dint (lenL done 1).1))), (.slot 1, .one (.loc 1 0)), (.loc 1, .row ([.v (dint v.kind), .v (dint v.num), .v (.sl (ints v.list)), .v (.sl (v.args.map Val.cells))]))]) (rfl) ?_ ?_)
      · intro done x rest hL hg hI hnext
        have hlt : done.length < v.list.length := by rw [hL]; simp
        have hb := lenL_bd done 1 (fun a ha => p2 a (by rw [hL]; simp [ha])) (by decide)
        have hx := sizeI_bd (p2 x (by rw [hL]; simp))
        have hs := lenL_snoc done 1 x [] hI
        have hs2 := lenL_snoc done 1 x rest hI
        rw [← hL] at hs2
        have hgi := ints_get hg
        refine t_rg0 ?_
        refine t_yes ?_
        refine t_rg @hgi ?_
        refine t_a ?_
        first | refine W_reg [] fun K hK => ?_ | refine W_regd (by rw [hP]; exact mixed) [] fun K hK => ?_
        refine t_s0 ?_
        refine t_c trivial (size_ok x) ?_
        refine t_e ?_
        clear hK K
        by_cases hbig : 4096 < (lenL done 1).1 + (1 + sizeI x)
        · refine t_rg @hbig ?_
          refine t_yes ?_
          refine t_rg0 ?_
          refine t_r ?_
          simp [go_sem, hP, hgl, hn, Val.lengthN_eq, h2, hs2, lenL, hbig] <;> (try omega)
        · refine t_rg @hbig ?_
          refine t_no ?_
          refine t_rg0 ?_
          repeat (first | refine W_inBlock ?_ | refine W_skip ?_ | refine W_label ?_ | refine W_exit rfl ?_)
          refine W_sub [] (by simp [go_sem]) (by simp [go_sem, hs, lenL, hbig] <;> omega) (by simp [go_sem]) (hnext (by rw [hs]; simp [lenL, hbig]))
      · intro hI
        refine t_rg0 ?_
        refine t_no ?_
        repeat (first | refine W_inBlock ?_ | refine W_skip ?_ | refine W_label ?_ | refine W_exit rfl ?_)
        refine W_sub [] (by simp [go_sem]) (by simp [go_sem, Val.head, h2] <;> omega) (by simp [go_sem]) (hrest (fun _ => hI))
    refine t_rg @h1 ?_
    refine t_no ?_
    refine t_rg @h2 ?_
    refine t_no ?_
    repeat (first | refine W_inBlock ?_ | refine W_skip ?_ | refine W_label ?_ | refine W_exit rfl ?_)
    refine W_sub [] (by simp [go_sem]) (by simp [go_sem, Val.head, h1, h2] <;> omega) (by simp [go_sem]) (hrest (fun h => absurd h h2))
  · intro hE
    refine t_rg0 ?_
    refine t_a ?_
    refine W_sub [] (by simp [go_sem]) (by simp [go_sem, Val.lengthN.lengths] <;> omega) (by simp [go_sem]) (W_list (v.args) (fun done rest => [(.slot 36, .one (.v (dint done.length))), (.slot 35, .one (.v (dint v.args.length))), (.slot 34, .one (.v (.sl (v.args.map Val.cells)))), (.slot 3, .one (.v (dint (Val.lengthN.lengths done v.head))))]) ?_ ?_)
    · intro done x rest hL hg hnext
      have hlt : done.length < v.args.length := by rw [hL]; simp
      have hcx : Val.count.counts v.args = Val.count.counts done + (x.count + Val.count.counts rest) := by rw [hL, Val.counts_append]; rfl
      have hb := key done (fun a ha => by rw [hL]; simp [ha]) v.head
      have hx := Val.length_le x (p3 x (by rw [hL]; simp))
      rw [Val.lengths_append] at hnext
      refine t_rg0 ?_
      refine t_yes ?_
      refine t_rg @hg ?_
      refine t_a ?_
      first | refine W_reg [] fun K hK => ?_ | refine W_regd (by rw [hP]; exact mixed) [] fun K hK => ?_
      refine t_s0 ?_
      refine t_c trivial (ih x (List.mem_of_getElem? hg) (p3 x (List.mem_of_getElem? hg)) (by omega)) ?_
      refine t_e ?_
      clear hK K
      refine t_rg0 ?_
      repeat (first | refine W_inBlock ?_ | refine W_skip ?_ | refine W_label ?_ | refine W_exit rfl ?_)
      refine W_sub [] (by simp [go_sem]) (by simp [go_sem, Val.lengthN.lengths] <;> omega) (by simp [go_sem]) hnext
    · refine t_rg0 ?_
      refine t_no ?_
      refine t_rg0 ?_
      refine t_r ?_
      simp [go_sem, hP, hgl, hn] <;> (try omega)
      rw [Val.lengthN_eq]
      unfold Val.head
      split
      · rfl
      · split
        · rename_i h2; rw [if_neg (by rw [hE h2]; simp)]
        · rfl
end Go.Proofs.YtbmnlkfgkdallaaGreatDoor.Lift
