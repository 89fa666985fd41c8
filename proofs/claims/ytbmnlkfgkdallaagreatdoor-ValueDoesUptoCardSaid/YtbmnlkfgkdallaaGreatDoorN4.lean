import Derived.Test.YtbmnlkfgkdallaaGreatDoorN3
import Derived.Test.YtbmnlkfgkdallaaGreatDoorM4
import Derived.Test.YtbmnlkfgkdallaaGreatDoorH8
import Derived.Test.YtbmnlkfgkdallaaGreatDoorG2
namespace Go.Proofs.YtbmnlkfgkdallaaGreatDoor.Lift
set_option linter.unusedSimpArgs false
set_option linter.unusedVariables false
set_option linter.unnecessarySimpa false
open Go
variable {gl : Globs}

theorem slices_equal_ok (a b : List Int) : Con1 Tryz.prog gl 55 [.sl (ints a), .sl (ints b)] [] (dbool (decide (a = b))) [] := by
  refine t_in Tryz.func55 ?_
  intro X hP hgl hf hfn hn hR hids hfit
  have hla := sl_len (hfit (.sl (ints a)) (by simp))
  have hlb := sl_len (hfit (.sl (ints b)) (by simp))
  rw [ints_length] at hla hlb
  by_cases hl : a.length = b.length
  · refine t_g @hl ?_
    refine t_a ?_
    refine t_sub [] @hl (W_upto (a.length) (fun i => ∀ (j : Nat) (x y : Int), j < i → a[j]? = some x → b[j]? = some y → x = y) (fun i => [(.slot 13, .one (.v (dint i))), (.slot 12, .one (.v (dint a.length))), (.slot 0, .one (.v (.sl (ints a)))), (.slot 1, .one (.v (.sl (ints b))))]) (by intro j x y h; omega) ?_ ?_)
    · intro i hlt hI hnext
      obtain ⟨x, hx⟩ : ∃ x, a[i]? = some x := ⟨_, List.getElem?_eq_getElem hlt⟩
      obtain ⟨y, hy⟩ : ∃ y, b[i]? = some y := ⟨_, List.getElem?_eq_getElem (by omega)⟩
      have gx := ints_get hx
      have gy := ints_get hy
      refine t_rg0 ?_
      refine t_yes ?_
      by_cases hs : x = y
      · refine t_gt (wr []) trivial (j2 @gx (j2 @gy @hs)) (hnext ?_)
        intro j x' y' hj hx' hy'
        by_cases hji : j = i
        · subst hji; rw [hx] at hx'; rw [hy] at hy'; cases hx'; cases hy'; exact hs
        · exact hI j x' y' (by omega) hx' hy'
      · have hne : a ≠ b := fun e => by subst e; rw [hx] at hy; cases hy; exact hs rfl
        refine t_g (j2 @gx (j2 @gy @hs)) ?_
        refine t_r ?_
        simp [go_sem, hP, hgl, hn, hne] <;> (try omega)
    · intro hI
      have he : a = b := List.ext_getElem hl fun i h1 h2 => hI i _ _ h1 (List.getElem?_eq_getElem h1) (List.getElem?_eq_getElem h2)
      refine t_rg0 ?_
      refine t_no ?_
      refine t_g0 ?_
      refine t_r ?_
      simp [go_sem, hP, hgl, hn, he] <;> (try omega)
  · have hne : a ≠ b := fun e => hl (by rw [e])
    refine t_g @hl ?_
    refine t_r ?_
    simp [go_sem, hP, hgl, hn, hne] <;> (try omega)

theorem slices_equalfunc_ok (a b : List Val) (ih : ∀ x ∈ a, ∀ y, Con1 Tryz.prog gl 20 [x.dv, y.dv] [] (dbool (x.same y)) []) :
    Con1 Tryz.prog gl 56 [.sl (a.map Val.cells), .sl (b.map Val.cells), fnv 20] [] (dbool (Val.same.sames a b)) [] := by
  refine t_in Tryz.func56 ?_
  intro X hP hgl hf hfn hn hR hids hfit
  have hla := sl_len (hfit (.sl (a.map Val.cells)) (by simp))
  have hlb := sl_len (hfit (.sl (b.map Val.cells)) (by simp))
  simp at hla hlb
  by_cases hl : a.length = b.length
  · refine t_g @hl ?_
    refine t_a ?_
    refine t_sub [] @hl (W_upto (a.length) (fun i => ∀ (j : Nat) (x y : Val), j < i → a[j]? = some x → b[j]? = some y → x.same y = true) (fun i => [(.slot 17, .one (.v (dint i))), (.slot 16, .one (.v (dint a.length))), (.slot 15, .one (.v (.sl (a.map Val.cells)))), (.slot 1, .one (.v (.sl (b.map Val.cells)))), (.slot 2, .one (.v (fnv 20)))]) (by intro j x y h; omega) ?_ ?_)
    · intro i hlt hI hnext
      obtain ⟨x, hx⟩ : ∃ x, a[i]? = some x := ⟨_, List.getElem?_eq_getElem hlt⟩
      obtain ⟨y, hy⟩ : ∃ y, b[i]? = some y := ⟨_, List.getElem?_eq_getElem (by omega)⟩
      refine t_rg0 ?_
      refine t_yes ?_
      refine t_g (j2 @hx @hy) ?_
      refine t_a ?_
      first | refine W_reg [] fun K hK => ?_ | refine W_regd (by rw [hP]; exact mixed) [] fun K hK => ?_
      refine t_s (j2 @hx @hy) ?_
      repeat (refine ⟨by omega, ?_⟩)
      refine vcK_callF hP hgl (ih x (List.mem_of_getElem? hx) y) (by simp [go_sem]) (by simp [go_sem, hP, hgl, hn, hx, hy]) rfl (by simp [go_sem]) (by simp) (by rw [hn]; exact Nat.le_of_ble_eq_true rfl) ?_
      simp [go_sem, hP, hgl, hn, hx, hy]
      refine t_e ?_
      clear hK K
      by_cases hs : x.same y = true
      · refine t_gt (wr []) trivial @hs (hnext ?_)
        intro j x' y' hj hx' hy'
        by_cases hji : j = i
        · subst hji; rw [hx] at hx'; rw [hy] at hy'; cases hx'; cases hy'; exact hs
        · exact hI j x' y' (by omega) hx' hy'
      · refine t_g @hs ?_
        refine t_r ?_
        simp [go_sem, hP, hgl, hn] <;> (try omega)
        refine Bool.eq_false_iff.2 ?_
        intro h
        rw [Val.sames_iff] at h
        exact hs (h.2 i x y hx hy)
    · intro hI
      refine t_rg0 ?_
      refine t_no ?_
      refine t_g0 ?_
      refine t_r ?_
      simp [go_sem, hP, hgl, hn] <;> (try omega)
      rw [Val.sames_iff]
      exact ⟨hl, fun i x y hx hy => hI i x y (List.getElem?_eq_some_iff.1 hx).1 hx hy⟩
  · refine t_g @hl ?_
    refine t_r ?_
    simp [go_sem, hP, hgl, hn] <;> (try omega)
    refine Bool.eq_false_iff.2 ?_
    intro h
    rw [Val.sames_iff] at h
    exact hl h.1

theorem value_same_ok (a b : Val) : Con1 Tryz.prog gl 20 [a.dv, b.dv] [] (dbool (a.same b)) [] := by
  induction a using Val.ind generalizing b with
  | h a ih =>
  refine t_in Tryz.func20 ?_
  intro X hP hgl hf hfn hn hR hids hfit
  rw [Val.same_eq] at hR
  by_cases hk : a.kind = b.kind
  · by_cases hi : a.num = b.num
    · by_cases ht : a.list = b.list
      · refine t_g0 ?_
        refine t_c2 (j2 @hk (j2 @hi @ht)) (slices_equal_ok a.list b.list) (slices_equalfunc_ok a.args b.args (fun x hx y => ih x hx y)) ?_
        refine t_r ?_
        simp [go_sem, hP, hgl, hn, hk, hi, ht] <;> (try omega)
      · refine t_g0 ?_
        refine t_c1 (j2 @hk (j2 @hi @ht)) (slices_equal_ok a.list b.list) ?_
        refine t_r ?_
        simp [go_sem, hP, hgl, hn, hk, hi, ht] <;> (try omega)
    · refine t_g (j2 @hk @hi) ?_
      refine t_r ?_
      simp [go_sem, hP, hgl, hn, hk, hi] <;> (try omega)
  · refine t_g @hk ?_
    refine t_r ?_
    simp [go_sem, hP, hgl, hn, hk] <;> (try omega)

theorem numberE5_ok (n : Int) : Con1 Tryz.prog gl 28 [dint n] [] (.tup [(numberE n).1.dv, dint (numberE n).2]) [] := by
  by_cases h0 : n < 0
  · refine t_in Tryz.func28 ?_
    intro X hP hgl hf hfn hn hR hids hfit
    refine t_g @h0 ?_
    refine t_r ?_
    simp [go_sem, hP, hgl, hn, numberE, h0, zeroTm] <;> (try omega)
    all_goals exact t_f
  · by_cases h1 : 4096 ≤ n
    · refine t_in Tryz.func28 ?_
      intro X hP hgl hf hfn hn hR hids hfit
      refine t_g (j2 @h0 @h1) ?_
      refine t_r ?_
      simp [go_sem, hP, hgl, hn, numberE, h0, h1, zeroTm] <;> (try omega)
      all_goals exact t_f
    · have := ref05_number_ok (gl := gl) n.toNat (by omega)
      rw [Int.toNat_of_nonneg (by omega)] at this
      unfold numberE
      rw [if_neg h0, if_neg h1]
      exact this

theorem law05_nodes_ok (v : Val) (h : v.tot ≤ 1073741824) : Con1 Tryz.prog gl 6 [v.dv] [] (dint (v.cntN 20000)) [] := by
  refine t_in Tryz.func6 ?_
  intro X hP hgl hf hfn hn hR hids hfit
  refine t_g0 ?_
  refine t_c1 trivial (countvalue_ok v 20000 (by decide) h) ?_
  refine t_r ?_
  simp [go_sem, hP, hgl, hn] <;> (try omega)
theorem law05_terms_ok (t : Tm) (h : t.tot ≤ 1073741824) : Con1 Tryz.prog gl 7 [t.dv] [] (dint (t.cntN 20000)) [] := by
  refine t_in Tryz.func7 ?_
  intro X hP hgl hf hfn hn hR hids hfit
  refine t_g0 ?_
  refine t_c1 trivial (countterm_ok t 20000 (by decide) h) ?_
  refine t_r ?_
  simp [go_sem, hP, hgl, hn] <;> (try omega)

/-! sizes of what is drawn, and of the terms of values -/
theorem shape_tys (t : Tm) (h : t.shape = true) : t.tys := by
  induction t using Tm.ind with
  | h t ih =>
  obtain ⟨-, -, -, h4, h5⟩ := Tm.shape_node h
  rw [Tm.tys_eq]
  refine ⟨?_, fun a ha => ih a ha (h5 a ha)⟩
  split at h4
  · have := h4.2; omega
  · unfold Ty.zero at h4
    simp at h4
    rw [Ty.count_eq, h4.2]
    decide

theorem pickD_count {l : List Int} {t : Ty} {g : List Ty} {p q : Nat} {x : Tm} (h : pickD l t g p = (some x, q)) : x.count = 1 := by
  obtain ⟨i, rfl, -⟩ := pickD_some h
  rfl
theorem numD_count (l : List Int) (p : Nat) : (numD l p).1.count ≤ 3 := by
  have := nextD_bd (l := l) (p := p) (n := 3) (by decide)
  show (numTm _).count ≤ 3
  rw [numTm_count]
  omega
theorem leafD_count (l : List Int) (t : Ty) : t.small → ∀ (g : List Ty) (p : Nat), (leafD l t g p).1.count ≤ 3 * t.count := by
  generalize hn : t.count = n
  induction n using Nat.strongRecOn generalizing t with
  | _ n ih =>
  intro ht g p
  have h1 : 1 ≤ t.count := by rw [Ty.count_eq]; omega
  rw [leafD_eq l t g p ht.ok]
  split
  · rename_i x q hx
    have := pickD_count hx
    simp only; omega
  · rename_i q hx
    have hN := numD_count l q
    rcases small_kinds ht with ⟨h, e⟩ | ⟨h, e⟩ | ⟨h, e⟩ | ⟨h, e⟩ | ⟨h, e⟩
    · rw [if_pos h]; omega
    · rw [if_neg (by omega), if_pos h]; show 1 + 0 ≤ _; omega
    · rw [if_neg (by omega), if_neg (by omega), if_neg (by omega), if_neg (by omega)]; show 1 + 0 ≤ _; omega
    · rw [if_neg (by omega), if_neg (by omega), if_pos h]
      obtain ⟨s0, s1, hc⟩ := ht.arg (.inl h)
      have a := ih _ (by omega) (t.arg 0) rfl s0 g q
      have b := ih _ (by omega) (t.arg 1) rfl s1 g (leafD l (t.arg 0) g q).2
      show 1 + (_ + (_ + 0)) ≤ _
      omega
    · rw [if_neg (by omega), if_neg (by omega), if_neg (by omega), if_pos h]
      obtain ⟨s0, s1, hc⟩ := ht.arg (.inr h)
      have b := ih _ (by omega) (t.arg 1) rfl s1 (g ++ [t.arg 0]) q
      show 1 + (_ + 0) ≤ _
      omega

def Small (l : List Int) (F : Ty → List Ty → Nat → Tm × Nat) (B : Nat) : Prop := ∀ t g p, t.small → (∀ x ∈ g, x.small) → p ≤ l.length → (F t g p).1.count ≤ B
theorem plusT_count : plusT.count = 9 := by decide
theorem subT_count : subT.count ≤ 16 := by decide
theorem app2_count (f x y : Tm) : (appsT f [x, y]).count = 2 + f.count + x.count + y.count := by
  show 1 + ((1 + (f.count + (x.count + 0))) + (y.count + 0)) = _
  omega
theorem endD_count {l : List Int} {F : Ty → List Ty → Nat → Tm × Nat} {B : Nat} (hD : Draws l F (fun _ _ x => x.shape = true)) (hF : Small l F B) : Small l (endD l F) (2 * B + 20) := by
  intro t g q ht hg hq
  have h5 := nextD_le (n := 5) hq
  have h2 := nextD_le (n := 2) hq
  have c1 := hF t g (nextD l q 5).2 ht hg h5
  have d1 := (hD t g (nextD l q 5).2 ht hg h5).1
  have c2 := hF t g _ ht hg d1
  have e1 := hF (Ty.mk 1 []) g (nextD l q 2).2 small_nat hg h2
  have f1 := (hD (Ty.mk 1 []) g (nextD l q 2).2 small_nat hg h2).1
  have e2 := hF t g _ ht hg f1
  have hN := numD_count l (nextD l q 5).2
  have hp := plusT_count
  have hs := subT_count
  unfold endD
  split
  · split
    · show 1 + (_ + 0) ≤ _; omega
    split
    · simp only [app2_count]; omega
    split
    · simp only [app2_count]; omega
    · omega
  split
  · split
    · show 1 + (_ + (_ + 0)) ≤ _; omega
    · show 1 + 0 ≤ _; omega
  split
  · rename_i h
    obtain ⟨s0, s1, -⟩ := ht.arg (.inl h)
    have a1 := hF (t.arg 0) g q s0 hg hq
    have a2 := hF (t.arg 1) g _ s1 hg (hD (t.arg 0) g q s0 hg hq).1
    show 1 + (_ + (_ + 0)) ≤ _; omega
  split
  · rename_i h
    obtain ⟨s0, s1, -⟩ := ht.arg (.inr h)
    have a2 := hF (t.arg 1) (g ++ [t.arg 0]) q s1 (by intro x hx; rcases List.mem_append.1 hx with hx | hx; exact hg x hx; rw [List.mem_singleton.1 hx]; exact s0) hq
    show 1 + (_ + 0) ≤ _; omega
  · show 1 + 0 ≤ _; omega
theorem stepD_count {l : List Int} {F : Ty → List Ty → Nat → Tm × Nat} {B : Nat} (hD : Draws l F (fun _ _ x => x.shape = true)) (hF : Small l F B) (k : Int) : Small l (fun t g p => stepD l F t g k p) (3 * B + 20) := by
  intro t g p ht hg hp
  have hg1 : ∀ a : List Ty, (∀ x ∈ a, x.small) → ∀ x ∈ g ++ a, x.small := by
    intro a ha x hx
    rcases List.mem_append.1 hx with hx | hx
    · exact hg x hx
    · exact ha x hx
  have hE := endD_count hD hF t g p ht hg hp
  obtain ⟨s1, s2⟩ := typeD_small l (n := 0) hp (by decide)
  show (stepD l F t g k p).1.count ≤ _
  unfold stepD
  split
  · have gs := hg1 [(typeD l 0 p).1] (by simpa using s2)
    have a := hF t _ _ ht gs s1
    have b := hF _ g _ s2 hg (hD t _ _ ht gs s1).1
    show 1 + ((1 + (_ + 0)) + (_ + 0)) ≤ _; omega
  split
  · have a := hF t g _ ht hg s1
    have b := hF _ g _ s2 hg (hD t g _ ht hg s1).1
    show 1 + ((1 + (_ + (_ + 0))) + 0) ≤ _; omega
  split
  · have gs := hg1 [Ty.mk 1 [], t] (by intro x hx; simp at hx; rcases hx with rfl | rfl; exact small_nat; exact ht)
    have d := (hD t _ _ ht gs hp).1
    have a := hF t _ _ ht gs hp
    have b := hF t g _ ht hg d
    have c := numD_count l (F t g (F t (g ++ [Ty.mk 1 [], t]) p).2).2
    show 1 + (_ + ((1 + ((1 + (_ + 0)) + 0)) + (_ + 0))) ≤ _; omega
  split
  · have gs := hg1 [Ty.mk 1 [], Ty.mk 2 [], t] (by intro x hx; simp at hx; rcases hx with rfl | rfl | rfl; exact small_nat; exact small_list; exact ht)
    have d := (hD t _ _ ht gs hp).1
    have a := hF t _ _ ht gs hp
    have b := hF t g _ ht hg d
    have c := hF (Ty.mk 2 []) g _ small_list hg (hD t g _ ht hg d).1
    show 1 + (_ + ((1 + ((1 + ((1 + (_ + 0)) + 0)) + 0)) + (_ + 0))) ≤ _; omega
  split
  · have a := hF _ g _ s2 hg s1
    have b := hF t g _ ht hg (hD _ g _ s2 hg s1).1
    show 1 + ((1 + (_ + (_ + 0))) + 0) ≤ _; omega
  split
  · split
    · rename_i i hi
      obtain ⟨f1, f2, f3⟩ := funN_some hi
      obtain ⟨c0, c1, -⟩ := (hg _ (varTy_mem f1).1).arg (.inr f2)
      have a := hF _ g _ c0 hg hp
      show 1 + ((1 + 0) + (_ + 0)) ≤ _; omega
    · omega
  · omega
def drawB : Nat → Nat
  | 0 => 45
  | n + 1 => 3 * drawB n + 20
theorem termD_count (l : List Int) : ∀ n, Small l (termD l n) (drawB n)
  | 0 => by intro t g p ht hg hp; have := leafD_count l t ht g p; have := ht.2; show _ ≤ 45; simp only [termD]; omega
  | n + 1 => by
    intro t g p ht hg hp
    have hq := pickD_le (t := t) (g := g) hp
    have ih := stepD_count (termD_facts closed_shape n) (termD_count l n)
    unfold termD
    split
    · rename_i x q hx
      have := pickD_count hx
      simp only [drawB]; omega
    · rename_i q hx
      rw [hx] at hq
      exact ih _ t g _ ht hg (nextD_le hq)

theorem lenL_count : ∀ (l : List Int) (n : Int), (∀ x ∈ l, 0 ≤ x) → 0 ≤ n ∧ n ≤ 4096 → (lenL l n).1 ≤ 4096 → (lenL l n).2 = false ∧ ((listTm l).count : Int) + n = (lenL l n).1 + 1
  | [], n, _, _, _ => ⟨rfl, by simp [lenL, listTm]; show (1 + 0 : Int) + n = n + 1; omega⟩
  | x :: r, n, h, hn, hl => by
    have hx := h x (by simp)
    have hs : sizeI x = min x 4096 + 1 := rfl
    rw [lenL] at hl ⊢
    split at hl
    · simp only at hl; omega
    · rename_i h1
      rw [if_neg h1]
      obtain ⟨k1, k2⟩ := lenL_count r _ (fun y hy => h y (by simp [hy])) (by omega) hl
      refine ⟨k1, ?_⟩
      have hc : (listTm (x :: r)).count = 1 + (x.toNat + 1 + ((listTm r).count + 0)) := by rw [listTm_cons, Tm.count_eq]; simp only [Tm.args, Tm.count.counts, numTm_count]
      rw [hc]
      omega
theorem Val.term_count (v : Val) (h : v.nodesN.2 = true) (hl : v.lengthN ≤ 4096) : (v.termN.count : Int) = v.lengthN ∧ v.termN.shape = true := by
  induction v using Val.ind with
  | h v ih =>
  rw [Val.termN_eq]
  rcases Val.okB_kind (Val.okB_of h) with ⟨k, h0, hli, ha⟩ | ⟨k, -, h0, ha⟩ | ⟨k, -, -, a, b, hab⟩ | ⟨k, -, hli, ha⟩
  · rw [if_neg (by omega), if_neg (by omega), if_neg (by omega), numTm_count]
    have hs : sizeI v.num = min v.num 4096 + 1 := rfl
    have he : v.lengthN = sizeI v.num := by rw [Val.lengthN_eq, if_pos k, ha]; rfl
    exact ⟨by omega, num_shape _⟩
  · rw [if_pos k]
    have he : v.lengthN = (lenL v.list 1).1 := by
      rw [Val.lengthN_eq, if_neg (by omega), if_pos k, ha]
      split <;> rfl
    obtain ⟨k1, k2⟩ := lenL_count v.list 1 h0 (by decide) (by omega)
    exact ⟨by omega, (list_facts v.list h0).1.shape⟩
  · rw [if_neg (by omega), if_neg (by omega), if_pos k]
    have hv := Val.nodes_pair hab
    rw [h] at hv
    simp at hv
    have hla := Val.length_le a (a.ok_all hv.2.1).1
    have hlb := Val.length_le b (b.ok_all hv.2.2).1
    have he : v.lengthN = 1 + a.lengthN + b.lengthN := by
      rw [Val.lengthN_eq, if_neg (by omega), if_neg (by omega), hab]
      rfl
    obtain ⟨a1, a2⟩ := ih a (by rw [hab]; simp) hv.2.1 (by omega)
    obtain ⟨b1, b2⟩ := ih b (by rw [hab]; simp) hv.2.2 (by omega)
    rw [hab]
    refine ⟨?_, shape_n rfl (by decide) (by intro z hz; simp at hz; rcases hz with rfl | rfl; exact a2; exact b2)⟩
    show ((1 + (a.termN.count + (b.termN.count + 0)) : Nat) : Int) = _
    omega
  · rw [if_neg (by omega), if_pos k]
    have he : v.lengthN = 1 := by rw [Val.lengthN_eq, if_neg (by omega), if_neg (by omega), ha]; rfl
    exact ⟨by rw [he]; rfl, rfl⟩
theorem Val.termE_small (v : Val) : v.termE.1.count ≤ 4096 ∧ v.termE.1.tys := by
  have hz : zeroTm.count ≤ 4096 ∧ zeroTm.tys := ⟨by decide, by rw [Tm.tys_eq]; exact ⟨by decide, fun a ha => by cases ha⟩⟩
  unfold termE
  split
  · exact hz
  · rename_i h
    split
    · exact hz
    · rename_i h2
      have hn : v.nodesN.2 = true := by
        simp only [ne_eq, Decidable.not_not] at h
        unfold Val.checkN at h
        split at h
        · assumption
        · cases h
      obtain ⟨k1, k2⟩ := Val.term_count v hn (by omega)
      exact ⟨by simp only; omega, shape_tys _ k2⟩
end Go.Proofs.YtbmnlkfgkdallaaGreatDoor.Lift
