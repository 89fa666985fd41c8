import Derived.Test.YteoalfdaanlbjaaGreatDoorQc5
namespace Go.Proofs.YteoalfdaanlbjaaGreatDoor.Lift
set_option linter.unusedSimpArgs false
set_option linter.unusedVariables false
set_option linter.unnecessarySimpa false
open Go
variable {gl : Globs}

theorem mmax_eq {a : T} (ho : a.ok) {x y : Tm} (h : (mMaxE a.ty x y).2 = 0) : mMaxE a.ty x y = (maxT a x y, 0) := by
  unfold mMaxE at h ⊢
  split at h
  · rename_i h1
    rw [if_pos h1]
    split at h
    · cases h
    rename_i h2
    rw [if_neg h2]
    split at h
    · rename_i h3
      rw [if_pos h3]
      split at h
      · rename_i h4
        rw [if_pos h4]
        split at h
        · rename_i h5
          rw [if_pos h5]
          unfold runT at h ⊢
          split at h
          · rename_i h6
            rw [if_pos h6]
            exact Prod.ext (maxE_ok a ho h6).2 h6
          · rename_i h6
            exact absurd h h6
        · cases h
      · cases h
    · rename_i h3
      exact absurd h h3
  · rename_i h1
    exact absurd h h1

theorem great_num (a b : Nat) : Int.ofNat (maxD .nat a b) = if (b : Int) > (a : Int) then (b : Int) else (a : Int) := by
  show ((a + (b - a) : Nat) : Int) = _
  split <;> omega
theorem great_val (a b : Nat) : valOf .nat (maxD .nat a b) = Val.mk 1 (if (b : Int) > (a : Int) then (b : Int) else (a : Int)) [] [] := by
  rw [← great_num]; rfl
theorem great_pair (a b : Nat) : valOf yP (maxD yP ((a : Nat), ()) ((b : Nat), ())) = Val.mk 3 0 [] [Val.mk 1 (if (b : Int) > (a : Int) then (b : Int) else (a : Int)) [] [], Val.mk 4 0 [] []] := by
  rw [← great_num]; rfl

theorem okRun_count {t : Tm} {xs : List MV} {work : Int} (h : okRun t xs work = true) : t.count ≤ 4096 := by
  unfold okRun at h
  rw [Bool.and_eq_true] at h
  have h1 := of_decide_eq_true h.1
  unfold Tm.typeE Tm.typedE at h1
  rw [if_pos (show ctxN [] = 0 from rfl)] at h1
  by_cases h0 : t.checkN = 0
  · exact ((Tm.checkN_iff t).1 h0).2
  · rw [if_neg h0] at h1; exact absurd h1 h0

set_option maxHeartbeats 1000000 in
set_option maxRecDepth 100000 in
theorem majorantGreatest_ok (har : globOf gl 0 = some arEls) (l : List Int) : Con1 Tryz.prog gl 8 [.sl (ints l)] [] (dbool true) [] := by
  have wa := awake33_ok har
  refine t_in Tryz.func8 ?_
  intro X hP hgl hf hfn hn hR hids hfit
  by_cases hl : l.length ≤ 500
  rotate_left
  · refine t_g0 ?_
    refine t_c2 @hl wa (few_ok l) ?_
    refine t_g0 ?_
    refine t_c1 trivial wa ?_
    refine t_r ?_
    simp [go_sem, hP, hgl, hn] <;> (try omega)
  refine t_g0 ?_
  refine t_c2 @hl wa (few_ok l) ?_
  refine t_g0 ?_
  have hb1 := nextD_bd (l := l) (p := 0) (n := 9) (by decide)
  have hq1 := nextD_le (l := l) (p := 0) (n := 9) (by omega)
  have wn1 := fun b => next_ok (gl := gl) b l 0 9 (by decide) (by omega)
  generalize nextD l 0 9 = d1 at *
  obtain ⟨ka, q1⟩ := d1
  simp only at hb1 hq1 wn1
  have hb2 := nextD_bd (l := l) (p := q1) (n := 9) (by decide)
  have wn2 := fun b => next_ok (gl := gl) b l q1 9 (by decide) (by omega)
  generalize nextD l q1 9 = d2 at *
  obtain ⟨kb, q2⟩ := d2
  simp only at hb2 wn2
  obtain ⟨a, rfl⟩ : ∃ a : Nat, ka = a := ⟨ka.toNat, by omega⟩
  obtain ⟨c, rfl⟩ : ∃ c : Nat, kb = c := ⟨kb.toNat, by omega⟩
  have ha : a < 9 := by omega
  have hc : c < 9 := by omega
  have na := mk_num_ok (gl := gl) a (by omega)
  have nc := mk_num_ok (gl := gl) c (by omega)
  have e1 := mmax_eq (a := .nat) (by unfold T.ok; decide) (of_decide_eq_true (okAll_at great_max1 ha hc))
  have e2 := mmax_eq (a := yP) (by unfold T.ok; decide) (of_decide_eq_true (okAll_at great_max2 ha hc))
  have e3 := mmax_eq (a := yF) (by unfold T.ok; decide) (of_decide_eq_true (okAll_at great_max3 ha hc))
  have cta : (numTm a).count = a + 1 := numTm_count a
  have ctc : (numTm c).count = c + 1 := numTm_count c
  have sha : (numTm a).shape = true := num_shape a
  have shc : (numTm c).shape = true := num_shape c
  have cpa : (pT a).count = 1 + ((numTm a).count + (1 + 0)) := rfl
  have cpc : (pT c).count = 1 + ((numTm c).count + (1 + 0)) := rfl
  have cla : (lT a).count = 1 + ((numTm a).count + 0) := rfl
  have dna := dn_numv [] a
  have dnc := dn_numv [] c
  have dp1 : Dn [] (pT a) yP (fun _ => ((a : Nat), ())) := .pair dna .unit
  have dp2 : Dn [] (pT c) yP (fun _ => ((c : Nat), ())) := .pair dnc .unit
  have dl1 : Dn [] (lT a) yF (fun _ _ => (a : Nat)) := .lam (by unfold T.ok; decide) (dn_numv _ a)
  have dl2 : Dn [] iT yF (fun _ (x : Nat) => x) := .lam (by unfold T.ok; decide) (.var .zero)
  have m1 := mmax_ok har (T.ty .nat) (numTm a) (numTm c) (by decide) (sh_tys _ sha) (by omega) (sh_tys _ shc) (by omega)
  have m2 := mmax_ok har yP.ty (pT a) (pT c) (by decide) (sh_tys _ (dn_shape dp1)) (by omega) (sh_tys _ (dn_shape dp2)) (by omega)
  have m3 := mmax_ok har yF.ty (lT a) iT (by decide) (sh_tys _ (dn_shape dl1)) (by omega) (sh_tys _ (dn_shape dl2)) (by decide)
  rw [e1] at m1
  rw [e2] at m2
  rw [e3] at m3
  have g1 : Dn [] (maxT .nat (numTm a) (numTm c)) .nat (fun _ => maxD .nat a c) := dn_max (b := .nat) trivial (by unfold T.ok; decide) dna dnc
  have g2 : Dn [] (maxT yP (pT a) (pT c)) yP (fun _ => maxD yP ((a : Nat), ()) ((c : Nat), ())) := dn_max (b := yP) ⟨trivial, trivial⟩ (by unfold T.ok; decide) dp1 dp2
  have g3 : Dn [] (maxT yF (lT a) iT) yF (fun _ => maxD yF (fun _ => (a : Nat)) (fun (x : Nat) => x)) := dn_max (b := yF) ⟨trivial, trivial⟩ (by unfold T.ok; decide) dl1 dl2
  have o1 := okAll_at great_run1 ha hc
  have o2 := okAll_at great_run2 ha hc
  have o3 := okAll_at great_run3 ha hc
  have k1 := okRun_count o1
  have k2 := okRun_count o2
  have k3 := okRun_count o3
  have r1 := okRun_out (t := maxT .nat (numTm a) (numTm c)) (l := []) (r := .nat) (maxD .nat a c) () o1
  have r2 := okRun_out (t := maxT yP (pT a) (pT c)) (l := []) (r := yP) (maxD yP ((a : Nat), ()) ((c : Nat), ())) () o2
  have r3 := okRun_out (t := maxT yF (lT a) iT) (l := [.nat]) (r := .nat) (maxD yF (fun _ => (a : Nat)) (fun (x : Nat) => x)) ((c : Nat), ()) o3
  have w1 := eval6w (gl := gl) (maxT .nat (numTm a) (numTm c)) .nat _ 5000 g1 (by omega) trivial (by unfold T.ok; decide) (by decide) (by decide)
  have w2 := eval6w (gl := gl) (maxT yP (pT a) (pT c)) yP _ 5000 g2 (by omega) ⟨trivial, trivial⟩ (by unfold T.ok; decide) (by decide) (by decide)
  have w3 := call6_walk (gl := gl) (maxT yF (lT a) iT) [.nat] .nat _ ((c : Nat), ()) 5000 10 g3 (by omega) ⟨trivial, by unfold T.ok; decide, trivial⟩ (by decide) trivial (by unfold T.ok; decide) (by decide) (by decide) (by decide) (by decide) ⟨show ((c : Nat) : Int) ≤ 10 by omega, trivial⟩
  have v1 := callOut_err (l := []) (r := .nat) g1 () 5000
  have v2 := callOut_err (l := []) (r := yP) g2 () 5000
  have v3 := callOut_err (l := [.nat]) (r := .nat) g3 ((c : Nat), ()) 5000

  generalize callOut (maxT .nat (numTm a) (numTm c)) [] (r := .nat) (maxD .nat a c) () 5000 = c1 at *
  generalize callOut (maxT yP (pT a) (pT c)) [] (r := yP) (maxD yP ((a : Nat), ()) ((c : Nat), ())) () 5000 = c2 at *
  generalize callOut (maxT yF (lT a) iT) [.nat] (r := .nat) (maxD yF (fun _ => (a : Nat)) (fun (x : Nat) => x)) ((c : Nat), ()) 5000 = c3 at *
  have u1 : c1.1 = Val.mk 1 (if (c : Int) > (a : Int) then (c : Int) else (a : Int)) [] [] := by
    rw [r1] at v1
    rcases v1 with h | h | h
    · cases h
    · cases h
    · rw [h.2]; exact great_val a c
  have u2 : c2.1 = Val.mk 3 0 [] [Val.mk 1 (if (c : Int) > (a : Int) then (c : Int) else (a : Int)) [] [], Val.mk 4 0 [] []] := by
    rw [r2] at v2
    rcases v2 with h | h | h
    · cases h
    · cases h
    · rw [h.2]; exact great_pair a c
  have u3 : c3.1 = Val.mk 1 (if (c : Int) > (a : Int) then (c : Int) else (a : Int)) [] [] := by
    rw [r3] at v3
    rcases v3 with h | h | h
    · cases h
    · cases h
    · rw [h.2]; exact great_val a c
  rw [r1, u1] at w1
  rw [r2, u2] at w2
  rw [r3, u3] at w3
  have m2 : Con1 Tryz.prog gl 35 [(Ty.mk 3 [Ty.mk 1 [], Ty.mk 5 []]).dv, (Tm.mk 10 0 (Ty.mk 0 []) [numTm a, Tm.mk 13 0 (Ty.mk 0 []) []]).dv, (Tm.mk 10 0 (Ty.mk 0 []) [numTm c, Tm.mk 13 0 (Ty.mk 0 []) []]).dv] [] (.tup [(maxT yP (pT a) (pT c)).dv, dint 0]) [] := m2
  have m3 : Con1 Tryz.prog gl 35 [(Ty.mk 4 [Ty.mk 1 [], Ty.mk 1 []]).dv, (Tm.mk 2 0 (Ty.mk 1 []) [numTm a]).dv, (Tm.mk 2 0 (Ty.mk 1 []) [Tm.mk 1 0 (Ty.mk 0 []) []]).dv] [] (.tup [(maxT yF (lT a) iT).dv, dint 0]) [] := m3
  have m1 : Con1 Tryz.prog gl 35 [(Ty.mk 1 []).dv, (numTm a).dv, (numTm c).dv] [] (.tup [(maxT .nat (numTm a) (numTm c)).dv, dint 0]) [] := m1
  have w3 : Con1 Tryz.prog gl 21 [(maxT yF (lT a) iT).dv, .sl (List.map Val.cells [Val.mk 1 (c : Int) [] []]), dint 5000] [] (.tup [(Val.mk 1 (if (c : Int) > (a : Int) then (c : Int) else (a : Int)) [] []).dv, dint c3.2.1, dint 0]) [] := w3
  generalize maxT .nat (numTm a) (numTm c) = t1 at *
  generalize maxT yP (pT a) (pT c) = t2 at *
  generalize maxT yF (lT a) iT = t3 at *
  generalize numTm a = ta at *
  generalize numTm c = tc at *
  have hf1 := Tm.fold t1
  have hf2 := Tm.fold t2
  have hf3 := Tm.fold t3
  have ht1 := Tm.cells_eq t1
  have ht2 := Tm.cells_eq t2
  have ht3 := Tm.cells_eq t3
  clear r1 r2 r3 u1 u2 u3 v1 v2 v3 o1 o2 o3 e1 e2 e3 g1 g2 g3 dp1 dp2 dl1 dl2 dna dnc cpa cpc cla
  obtain ⟨mx, hmx⟩ : ∃ mx : Int, mx = if (c : Int) > (a : Int) then (c : Int) else (a : Int) := ⟨_, rfl⟩
  rw [← hmx] at w1 w2 w3
  have hmx' : max (a : Int) (c : Int) = mx := by rw [hmx]; split <;> omega
  refine t_a ?_
  first | refine W_reg [] fun K hK => ?_ | refine W_regd (by rw [hP]; exact mixed) [] fun K hK => ?_
  refine t_s0 ?_
  repeat (refine ⟨by omega, ?_⟩)
  refine vcK_callR hP hgl (new_ok l) (by simp [go_sem]) rfl (by simp [go_sem]) (by simp) (by rw [hn]; exact Nat.le_of_ble_eq_true rfl) ?_
  rintro rr φ ⟨b, rfl, rfl⟩ -
  simp [go_sem, hP, hgl, hn]
  refine t_e ?_
  clear hK K
  have wn1 := wn1 b
  have wn2 := wn2 b
  refine t_g0 ?_
  refine t_c2 trivial wn1 wn2 ?_
  refine t_g0 ?_
  refine t_c1 trivial playnat_ok ?_
  refine t_g0 ?_
  refine t_c3 @nat_v na nc m1 ?_
  refine t_g @ht1 ?_
  refine t_c9 @nat_v unit23_ok (pair23_ok (Ty.mk 1 []) (Ty.mk 5 [])) na unit24_ok (node24_ok 10 [ta, Tm.mk 13 0 (Ty.mk 0 []) []]) nc unit24_ok (node24_ok 10 [tc, Tm.mk 13 0 (Ty.mk 0 []) []]) m2 ?_
  refine t_g @ht2 ?_
  refine t_c6 @nat_v (fun23_ok (Ty.mk 1 []) (Ty.mk 1 [])) na (lam24_ok (Ty.mk 1 []) ta) (var24_ok 0) (lam24_ok (Ty.mk 1 []) (Tm.mk 1 0 (Ty.mk 0 []) [])) m3 ?_
  refine t_g @ht3 ?_
  refine t_c1 @hf1 w1 ?_
  refine t_g0 ?_
  refine t_c1 @hf2 w2 ?_
  refine t_g0 ?_
  refine t_c1 (j2 @hf3 @ints_nil) w3 ?_
  refine t_g @hmx' ?_
  refine t_r ?_
  simp [go_sem, hP, hgl, hn, hmx'] <;> (try omega)
end Go.Proofs.YteoalfdaanlbjaaGreatDoor.Lift

namespace Go.Proofs.YteoalfdaanlbjaaGreatDoor.Lift
set_option linter.unusedSimpArgs false
set_option linter.unusedVariables false
set_option linter.unnecessarySimpa false
open Go

/-! the plain law of MajorantPut: majorants can be put in before and after -/
theorem up_lamY (y : Ty) (t : Tm) (f b : Int) : (Tm.mk 2 0 y [t]).upN f b = Tm.mk 2 0 y [t.upN (f + 1) b] := by
  rw [Tm.upN_eq]
  simp [Tm.kind, Tm.index, Tm.type, Tm.args, bindI]
theorem in_lamY (y : Ty) (t : Tm) (p d : Int) (s : Tm) : (Tm.mk 2 0 y [t]).inN p d s = Tm.mk 2 0 y [t.inN p (d + 1) s] := by
  rw [Tm.inN_eq]
  simp [Tm.kind, Tm.index, Tm.type, Tm.args, bindI]
theorem bindI_nn (k : Int) : 0 ≤ bindI k := by unfold bindI; split <;> decide

/-- lifting by two parts -/
theorem up_cat (t : Tm) : ∀ (k d f b : Int), 0 ≤ f → f ≤ d → (t.upN k d).upN (k + f) b = t.upN k (d + b) := by
  induction t using Tm.ind with
  | h t ih =>
  intro k d f b hf hd
  rw [Tm.upN_eq t k d, Tm.upN_eq, Tm.upN_eq t k (d + b)]
  rw [Tm.kind_mk, Tm.index_mk, Tm.type_mk, Tm.args_mk, List.map_map]
  have e1 : (if t.kind = 1 ∧ k + f ≤ (if t.kind = 1 ∧ k ≤ t.index then t.index + d else t.index) then (if t.kind = 1 ∧ k ≤ t.index then t.index + d else t.index) + b else (if t.kind = 1 ∧ k ≤ t.index then t.index + d else t.index)) = (if t.kind = 1 ∧ k ≤ t.index then t.index + (d + b) else t.index) := by
    by_cases h1 : t.kind = 1 ∧ k ≤ t.index
    · rw [if_pos h1, if_pos ⟨h1.1, by omega⟩, if_pos h1]; omega
    · rw [if_neg h1, if_neg h1, if_neg (by rintro ⟨q1, q2⟩; exact h1 ⟨q1, by omega⟩)]
  rw [e1]
  congr 1
  refine List.map_congr_left fun x hx => ?_
  have := ih x hx (k + bindI t.kind) d f b hf hd
  rw [show k + bindI t.kind + f = k + f + bindI t.kind by omega] at this
  exact this
/-- liftings at two places -/
theorem up_comm (t : Tm) : ∀ (k f n c : Int), 0 ≤ f → 0 ≤ n → 0 ≤ c → (t.upN k n).upN (k + f + n) c = (t.upN (k + f) c).upN k n := by
  induction t using Tm.ind with
  | h t ih =>
  intro k f n c hf hn hc
  rw [Tm.upN_eq t k n, Tm.upN_eq, Tm.upN_eq t (k + f) c, Tm.upN_eq (.mk t.kind _ t.type _)]
  simp only [Tm.kind_mk, Tm.index_mk, Tm.type_mk, Tm.args_mk, List.map_map]
  have e2 : (t.args.map ((fun x => x.upN (k + f + n + bindI t.kind) c) ∘ fun x => x.upN (k + bindI t.kind) n)) = t.args.map ((fun x => x.upN (k + bindI t.kind) n) ∘ fun x => x.upN (k + f + bindI t.kind) c) := by
    refine List.map_congr_left fun x hx => ?_
    have := ih x hx (k + bindI t.kind) f n c hf hn hc
    rw [show k + bindI t.kind + f + n = k + f + n + bindI t.kind by omega, show k + bindI t.kind + f = k + f + bindI t.kind by omega] at this
    exact this
  rw [e2]
  congr 1
  by_cases h1 : t.kind = 1
  · simp only [h1, true_and]
    by_cases h2 : k + f ≤ t.index
    · rw [if_pos (show k ≤ t.index by omega), if_pos (by omega), if_pos h2, if_pos (by omega)]; omega
    · rw [if_neg h2]
      by_cases h3 : k ≤ t.index
      · rw [if_pos h3, if_neg (by omega)]
      · rw [if_neg h3, if_neg (by omega)]
  · simp only [h1, false_and, if_false]
/-- lifting and putting in -/
theorem up_in (t s : Tm) : ∀ (f d b : Int), 0 ≤ f → f ≤ d → 0 ≤ b → (t.upN f b).inN 0 (d + b) s = (t.inN 0 d s).upN f b := by
  induction t using Tm.ind with
  | h t ih =>
  intro f d b hf hd hb
  by_cases h1 : t.kind = 1
  · rw [Tm.upN_eq t f b, Tm.inN_eq, Tm.kind_mk, Tm.index_mk, if_pos h1, Tm.inN_eq t, if_pos h1]
    simp only [h1, true_and]
    by_cases h2 : t.index = 0 + d
    · rw [if_pos (show f ≤ t.index by omega), if_pos (by omega), if_pos h2]
      have := up_cat s 0 d f b hf hd
      simp only [Int.zero_add] at this ⊢
      exact this.symm
    · rw [if_neg h2]
      by_cases h3 : 0 + d < t.index
      · rw [if_pos (show f ≤ t.index by omega), if_neg (by omega), if_pos (by omega), if_pos h3]
        have := up_var (t.index - 1) f b
        rw [if_pos (by omega)] at this
        show vT _ = _
        rw [show t.index + b - 1 = t.index - 1 + b by omega]
        exact this.symm
      · rw [if_neg h3]
        by_cases h4 : f ≤ t.index
        · rw [if_pos h4, if_neg (by omega), if_neg (by omega), Tm.upN_eq t f b, if_pos ⟨h1, h4⟩, h1]
        · rw [if_neg h4, if_neg (by omega), if_neg (by omega), Tm.upN_eq t f b, if_neg (fun h => h4 h.2), h1]
  · rw [Tm.upN_eq t f b, Tm.inN_eq, Tm.kind_mk, Tm.index_mk, Tm.type_mk, Tm.args_mk, if_neg h1, Tm.inN_eq t, if_neg h1, Tm.upN_eq]
    simp only [Tm.kind_mk, Tm.index_mk, Tm.type_mk, Tm.args_mk, List.map_map, h1, false_and, if_false]
    congr 1
    refine List.map_congr_left fun x hx => ?_
    have hbn := bindI_nn t.kind
    have := ih x hx (f + bindI t.kind) (d + bindI t.kind) b (by omega) (by omega) hb
    rw [show d + bindI t.kind + b = d + b + bindI t.kind by omega] at this
    exact this

/-- a term below some variables has no others -/
theorem at_lt' {Γ : List T} {i : Nat} {a : T} {p : Env Γ → a.V} (h : At Γ i a p) : i < Γ.length := by
  induction h with
  | zero => simp
  | succ h ih => simpa using ih
theorem up_high {Γ : List T} {t : Tm} {a : T} {F : Env Γ → a.V} (h : Dn Γ t a F) : ∀ (f b : Int), (Γ.length : Int) ≤ f → t.upN f b = t := by
  induction h with
  | var h => intro f b hf; have := at_lt' h; rw [up_var, if_neg (by omega)]
  | lam ha h ih => intro f b hf; rw [up_lam, ih _ _ (by simp only [List.length_cons]; omega)]
  | app h1 h2 i1 i2 => intro f b hf; rw [nT, up_node (by decide), List.map_cons, List.map_cons, List.map_nil, i1 f b hf, i2 f b hf]
  | zero => intro f b hf; rw [nT, up_node (by decide)]; rfl
  | succ h1 i1 => intro f b hf; rw [nT, up_node (by decide), List.map_cons, List.map_nil, i1 f b hf]
  | rc ha h1 h2 h3 i1 i2 i3 => intro f b hf; rw [up_node (by decide), List.map_cons, List.map_cons, List.map_cons, List.map_nil, i1 f b hf, i2 f b hf, i3 f b hf]
  | nil => intro f b hf; rw [nT, up_node (by decide)]; rfl
  | cons h1 h2 i1 i2 => intro f b hf; rw [nT, up_node (by decide), List.map_cons, List.map_cons, List.map_nil, i1 f b hf, i2 f b hf]
  | fold ha h1 h2 h3 i1 i2 i3 => intro f b hf; rw [up_node (by decide), List.map_cons, List.map_cons, List.map_cons, List.map_nil, i1 f b hf, i2 f b hf, i3 f b hf]
  | pair h1 h2 i1 i2 => intro f b hf; rw [nT, up_node (by decide), List.map_cons, List.map_cons, List.map_nil, i1 f b hf, i2 f b hf]
  | fst h1 i1 => intro f b hf; rw [nT, up_node (by decide), List.map_cons, List.map_nil, i1 f b hf]
  | snd h1 i1 => intro f b hf; rw [nT, up_node (by decide), List.map_cons, List.map_nil, i1 f b hf]
  | unit => intro f b hf; rw [nT, up_node (by decide)]; rfl
theorem in_high {Γ : List T} {t : Tm} {a : T} {F : Env Γ → a.V} (h : Dn Γ t a F) (s : Tm) : ∀ (d : Int), (Γ.length : Int) ≤ d → t.inN 0 d s = t := by
  induction h with
  | var h => intro d hf; have := at_lt' h; rw [in_var, if_neg (by omega), if_neg (by omega)]
  | lam ha h ih => intro d hf; rw [in_lam, ih _ (by simp only [List.length_cons]; omega)]
  | app h1 h2 i1 i2 => intro d hf; rw [nT, in_node (by decide), List.map_cons, List.map_cons, List.map_nil, i1 d hf, i2 d hf]
  | zero => intro d hf; rw [nT, in_node (by decide)]; rfl
  | succ h1 i1 => intro d hf; rw [nT, in_node (by decide), List.map_cons, List.map_nil, i1 d hf]
  | rc ha h1 h2 h3 i1 i2 i3 => intro d hf; rw [in_node (by decide), List.map_cons, List.map_cons, List.map_cons, List.map_nil, i1 d hf, i2 d hf, i3 d hf]
  | nil => intro d hf; rw [nT, in_node (by decide)]; rfl
  | cons h1 h2 i1 i2 => intro d hf; rw [nT, in_node (by decide), List.map_cons, List.map_cons, List.map_nil, i1 d hf, i2 d hf]
  | fold ha h1 h2 h3 i1 i2 i3 => intro d hf; rw [in_node (by decide), List.map_cons, List.map_cons, List.map_cons, List.map_nil, i1 d hf, i2 d hf, i3 d hf]
  | pair h1 h2 i1 i2 => intro d hf; rw [nT, in_node (by decide), List.map_cons, List.map_cons, List.map_nil, i1 d hf, i2 d hf]
  | fst h1 i1 => intro d hf; rw [nT, in_node (by decide), List.map_cons, List.map_nil, i1 d hf]
  | snd h1 i1 => intro d hf; rw [nT, in_node (by decide), List.map_cons, List.map_nil, i1 d hf]
  | unit => intro d hf; rw [nT, in_node (by decide)]; rfl

/-- what acts on terms as lifting and putting in do: by depth -/
structure Acts (A : Int → Tm → Tm) : Prop where
  node : ∀ (d : Int) (k i : Int) (y : Ty) (a : List Tm), k ≠ 1 → k ≠ 2 → A d (Tm.mk k i y a) = Tm.mk k i y (a.map (A d))
  lam : ∀ (d : Int) (y : Ty) (x : Tm), A d (Tm.mk 2 0 y [x]) = Tm.mk 2 0 y [A (d + 1) x]
  low : ∀ (d : Int) (i : Nat), (i : Int) < d → A d (vT i) = vT i
  great : ∀ d : Int, 0 ≤ d → A d greatT = greatT
  up : ∀ (d n : Int) (x : Tm), 0 ≤ d → 0 ≤ n → A (d + n) (x.upN 0 n) = (A d x).upN 0 n
theorem acts_up (b : Int) (hb : 0 ≤ b) : Acts (fun d x => x.upN d b) where
  node d k i y a h1 h2 := up_node ⟨h1, h2⟩ i y a d b
  lam d y x := up_lamY y x d b
  low d i h := by show (vT i).upN d b = _; rw [up_var, if_neg (by omega)]
  great d h := up_high (dn_great []) d b h
  up d n x hd hn := by
    have := up_comm x 0 d n b hd hn hb
    simp only [Int.zero_add] at this
    exact this
theorem acts_in (s : Tm) : Acts (fun d x => x.inN 0 d s) where
  node d k i y a h1 h2 := in_node ⟨h1, h2⟩ i y a 0 d s
  lam d y x := in_lamY y x 0 d s
  low d i h := by show (vT i).inN 0 d s = _; rw [in_var, if_neg (by omega), if_neg (by omega)]
  great d h := in_high (dn_great []) s d h
  up d n x hd hn := up_in x s 0 d n (by omega) hd hn

theorem Acts.n1 {A : Int → Tm → Tm} (H : Acts A) (d k : Int) (x : Tm) (h1 : k ≠ 1) (h2 : k ≠ 2) : A d (nT k [x]) = nT k [A d x] := H.node d k 0 _ [x] h1 h2
theorem Acts.n2 {A : Int → Tm → Tm} (H : Acts A) (d k : Int) (x y : Tm) (h1 : k ≠ 1) (h2 : k ≠ 2) : A d (nT k [x, y]) = nT k [A d x, A d y] := H.node d k 0 _ [x, y] h1 h2
theorem maxY_acts {A : Int → Tm → Tm} (H : Acts A) (y : Ty) : ∀ (d : Int) (a b : Tm), 0 ≤ d → A d (maxY y a b) = maxY y (A d a) (A d b) := by
  induction y using Ty.ind with
  | h y ih =>
  intro d a b hd
  rw [maxY.eq_def, maxY.eq_def y]
  cases y with
  | mk k ts =>
  simp only
  by_cases h1 : k = 1
  · rw [if_pos h1, if_pos h1]
    show A d (nT 3 [nT 3 [greatT, a], b]) = nT 3 [nT 3 [greatT, A d a], A d b]
    rw [H.n2 d 3 _ _ (by decide) (by decide), H.n2 d 3 _ _ (by decide) (by decide), H.great d hd]
  rw [if_neg h1, if_neg h1]
  have leaf : A d (nT 13 []) = nT 13 [] := H.node d 13 0 _ [] (by decide) (by decide)
  match ts, ih with
  | [], _ => exact leaf
  | [_], _ => exact leaf
  | _ :: _ :: _ :: _, _ => exact leaf
  | [s, t], ih =>
    have is := ih s (by simp [Ty.args])
    have it := ih t (by simp [Ty.args])
    simp only
    by_cases h3 : k = 3
    · rw [if_pos h3, if_pos h3, H.n2 d 10 _ _ (by decide) (by decide), is d _ _ hd, it d _ _ hd]
      rw [H.n1 d 11 _ (by decide) (by decide), H.n1 d 11 _ (by decide) (by decide), H.n1 d 12 _ (by decide) (by decide), H.n1 d 12 _ (by decide) (by decide)]
    rw [if_neg h3, if_neg h3]
    by_cases h4 : k = 4
    · rw [if_pos h4, if_pos h4, H.lam, it (d + 1) _ _ (by omega), H.n2 _ 3 _ _ (by decide) (by decide), H.n2 _ 3 _ _ (by decide) (by decide), H.up d 1 a hd (by decide), H.up d 1 b hd (by decide)]
      have hv : A (d + 1) (vT 0) = vT 0 := H.low (d + 1) 0 (by omega)
      rw [hv]
    · rw [if_neg h4, if_neg h4]
      exact leaf
theorem stepY_acts {A : Int → Tm → Tm} (H : Acts A) (s : Ty) (d : Int) (next : Tm) (hd : 0 ≤ d) : A d (stepY s next) = stepY s (A (d + 2) next) := by
  unfold stepY
  rw [H.lam, H.lam, show d + 1 + 1 = d + 2 by omega, maxY_acts H s (d + 2) _ _ (by omega)]
  have hv : A (d + 2) (vT 0) = vT 0 := H.low (d + 2) 0 (by omega)
  rw [hv]

/-- a node's majorant, under what acts -/
theorem majNode_acts {A : Int → Tm → Tm} (H : Acts A) {k i : Int} (hk1 : k ≠ 1) (y : Ty) (a a' l l' : List Tm) (d : Int) (hd : 0 ≤ d) (hz : A (d + bindI k) zeroTm = zeroTm) (hl : l' = l.map (A (d + bindI k))) (h2 : k = 2 → ∃ x, l = [x]) :
    A d (majNode k i y a l) = majNode k i y a' l' := by
  have get : ∀ j, l'.getD j zeroTm = A (d + bindI k) (l.getD j zeroTm) := by
    intro j
    subst hl
    rw [List.getD_eq_getElem?_getD, List.getD_eq_getElem?_getD, List.getElem?_map]
    cases hq : l[j]? with
    | none => simp [hz]
    | some x => simp
  unfold majNode
  rw [if_neg hk1, if_neg hk1]
  by_cases h : k = 2
  · rw [if_pos h, if_pos h]
    obtain ⟨x, rfl⟩ := h2 h
    subst hl
    rw [H.lam, h]
    rfl
  rw [if_neg h, if_neg h]
  have hb : bindI k = 0 := by unfold bindI; rw [if_neg h]
  rw [hb, Int.add_zero] at get hl
  by_cases h6 : k = 6
  · rw [if_pos h6, if_pos h6, H.node _ _ _ _ _ (by decide) (by decide), List.map_cons, List.map_cons, List.map_cons, List.map_nil, stepY_acts H _ _ _ hd, get 0, get 1, get 2]
    show Tm.mk 6 0 (bareN y) [_, stepY (bareN y) (A (d + 2) (nT 3 [nT 3 [_, vT 1], vT 0])), _] = _
    rw [H.n2 _ 3 _ _ (by decide) (by decide), H.n2 _ 3 _ _ (by decide) (by decide), H.up d 2 _ hd (by decide), show A (d + 2) (vT 1) = vT 1 from H.low (d + 2) 1 (by omega), show A (d + 2) (vT 0) = vT 0 from H.low (d + 2) 0 (by omega)]
    rfl
  rw [if_neg h6, if_neg h6]
  by_cases h7 : k = 7
  · rw [if_pos h7, if_pos h7]
    exact H.node d 4 0 _ [] (by decide) (by decide)
  rw [if_neg h7, if_neg h7]
  by_cases h8 : k = 8
  · rw [if_pos h8, if_pos h8, maxY_acts H _ _ _ _ hd, H.n1 _ 5 _ (by decide) (by decide), get 0, get 1]
  rw [if_neg h8, if_neg h8]
  by_cases h9 : k = 9
  · rw [if_pos h9, if_pos h9, H.n2 _ 3 _ _ (by decide) (by decide), H.lam, H.node _ _ _ _ _ (by decide) (by decide), List.map_cons, List.map_cons, List.map_cons, List.map_nil, stepY_acts H _ _ _ (by omega), H.up d 1 _ hd (by decide), get 0, get 1, get 2]
    show nT 3 [Tm.mk 2 0 (Ty.mk 1 []) [Tm.mk 6 0 (bareN y) [_, stepY (bareN y) (A (d + 1 + 2) (nT 3 [nT 3 [nT 3 [_, vT 2], vT 2], vT 0])), A (d + 1) (vT 0)]], _] = _
    rw [show d + 1 + 2 = d + 3 by omega, H.n2 _ 3 _ _ (by decide) (by decide), H.n2 _ 3 _ _ (by decide) (by decide), H.n2 _ 3 _ _ (by decide) (by decide), H.up d 3 _ hd (by decide), show A (d + 3) (vT 2) = vT 2 from H.low (d + 3) 2 (by omega), show A (d + 3) (vT 0) = vT 0 from H.low (d + 3) 0 (by omega), show A (d + 1) (vT 0) = vT 0 from H.low (d + 1) 0 (by omega)]
    rfl
  rw [if_neg h9, if_neg h9, H.node _ _ _ _ _ hk1 h, hl]

theorem maj_up (t : Tm) (ht : t.shape = true) : ∀ (d b : Int), 0 ≤ d → 0 ≤ b → majT (t.upN d b) = (majT t).upN d b := by
  induction t using Tm.ind with
  | h t ih =>
  intro d b hd hb
  obtain ⟨hlen, hi0, hv, hty, hsa⟩ := Tm.shape_node ht
  by_cases h1 : t.kind = 1
  · have ha : t.args = [] := by rw [h1] at hlen; simp [arityI] at hlen; exact hlen
    have e : ∀ x : Tm, x.kind = 1 → majT x = x := by
      intro x hx
      rw [majT_eq]
      unfold majNode
      rw [if_pos hx]
      exact Tm.eta x
    rw [e t h1, e _ (by rw [Tm.upN_eq, Tm.kind_mk]; exact h1)]
  · rw [majT_eq t, majT_eq (t.upN d b)]
    rw [Tm.upN_eq t d b, Tm.kind_mk, Tm.index_mk, Tm.type_mk, Tm.args_mk, if_neg (show ¬ (t.kind = 1 ∧ d ≤ t.index) from fun h => h1 h.1)]
    refine (majNode_acts (acts_up b hb) h1 _ _ _ _ _ d hd rfl ?_ fun h2 => ?_).symm
    · rw [List.map_map, List.map_map]
      refine List.map_congr_left fun x hx => ?_
      have := bindI_nn t.kind
      exact ih x hx (hsa x hx) _ b (by omega) hb
    · rw [h2] at hlen
      simp [arityI] at hlen
      obtain ⟨x, hx⟩ := List.length_eq_one_iff.1 (show t.args.length = 1 by omega)
      exact ⟨majT x, by rw [hx]; rfl⟩
theorem maj_in (t : Tm) (ht : t.shape = true) (s : Tm) (hs : s.shape = true) : ∀ (d : Int), 0 ≤ d → majT (t.inN 0 d s) = (majT t).inN 0 d (majT s) := by
  induction t using Tm.ind with
  | h t ih =>
  intro d hd
  obtain ⟨hlen, hi0, hv, hty, hsa⟩ := Tm.shape_node ht
  have e : ∀ x : Tm, x.kind = 1 → majT x = x := by
    intro x hx
    rw [majT_eq]
    unfold majNode
    rw [if_pos hx]
    exact Tm.eta x
  by_cases h1 : t.kind = 1
  · rw [e t h1, Tm.inN_eq t, Tm.inN_eq t, if_pos h1, if_pos h1]
    split
    · exact maj_up s hs 0 _ (by decide) (by omega)
    · split
      · exact e _ rfl
      · exact e t h1
  · rw [majT_eq t, majT_eq (t.inN 0 d s)]
    rw [Tm.inN_eq t 0 d s, if_neg h1, Tm.kind_mk, Tm.index_mk, Tm.type_mk, Tm.args_mk]
    refine (majNode_acts (acts_in (majT s)) h1 _ _ _ _ _ d hd rfl ?_ fun h2 => ?_).symm
    · rw [List.map_map, List.map_map]
      refine List.map_congr_left fun x hx => ?_
      have := bindI_nn t.kind
      exact ih x hx (hsa x hx) _ (by omega)
    · rw [h2] at hlen
      simp [arityI] at hlen
      obtain ⟨x, hx⟩ := List.length_eq_one_iff.1 (show t.args.length = 1 by omega)
      exact ⟨majT x, by rw [hx]; rfl⟩
end Go.Proofs.YteoalfdaanlbjaaGreatDoor.Lift

namespace Go.Proofs.YteoalfdaanlbjaaGreatDoor.Lift
set_option linter.unusedSimpArgs false
set_option linter.unusedVariables false
set_option linter.unnecessarySimpa false
open Go
variable {gl : Globs}

/-- a term put in for the variable 0, with what may be wrong -/
def putE (t s : Tm) : Tm × Int :=
  if t.checkN = 0 then
    if s.checkN = 0 then
      if t.leastN 536870912 = true then
        if s.leastN 536870912 = true then
          if (4096 : Int) < (t.count : Int) + t.timesN 0 * ((s.count : Int) - 1) then (zeroTm, 4) else (t.inN 0 0 s, 0)
        else (zeroTm, 1)
      else (zeroTm, 1)
    else (zeroTm, s.checkN)
  else (zeroTm, t.checkN)

theorem put_ok (t s : Tm) (ht : t.tys) (hs : s.tys) (hct : t.count ≤ 1073741824) (hcs : s.count ≤ 1073741824) :
    Con1 Tryz.prog gl 27 [t.dv, dint 0, s.dv] [] (.tup [(putE t s).1.dv, dint (putE t s).2]) [] := by
  have fx := Tm.fold t
  have fs := Tm.fold s
  refine t_in Tryz.func27 ?_
  intro X hP hgl hf hfn hn hR hids hfit
  unfold putE at hR
  refine t_g0 ?_
  refine t_a ?_
  first | refine W_reg [] fun K hK => ?_ | refine W_regd (by rw [hP]; exact mixed) [] fun K hK => ?_
  simp [go_sem, hP, hgl, hn, fx]
  repeat (refine ⟨by omega, ?_⟩)
  first | refine vcK_call hP hgl (ref02_check_ok t ht (by omega)) (by simp [go_sem, hP, hgl, hn, fx]) rfl (by simp [go_sem]) (by simp) (by rw [hn]; exact Nat.le_of_ble_eq_true rfl) ?_ | refine vcdC_call (fun _ _ => vcd_sound) hP hgl (ref02_check_ok t ht (by omega)) (by simp [go_sem, hP, hgl, hn, fx]) rfl (by simp [go_sem]) (by simp) (by rw [hn]; exact Nat.le_of_ble_eq_true rfl) ?_ | refine vcK_callG hP hgl (ref02_check_ok t ht (by omega)) (by simp [go_sem, hP, hgl, hn, fx]) rfl (by simp [go_sem]) (by simp) (by rw [hn]; exact Nat.le_of_ble_eq_true rfl) (by simp [go_sem]; rfl) (by rw [hn]; exact Nat.le_of_ble_eq_true rfl) (by simp [go_sem]) ?_ | refine vcdC_callG (fun _ _ => vcd_sound) hP hgl (ref02_check_ok t ht (by omega)) (by simp [go_sem, hP, hgl, hn, fx]) rfl (by simp [go_sem]) (by simp) (by rw [hn]; exact Nat.le_of_ble_eq_true rfl) (by simp [go_sem]; rfl) (by rw [hn]; exact Nat.le_of_ble_eq_true rfl) (by simp [go_sem]) ?_
  simp [go_sem, hP, hgl, hn, fx]
  refine t_e ?_
  clear hK K
  by_cases h1 : t.checkN = 0
  rotate_left
  · rw [if_neg h1] at hR
    refine t_g @h1 ?_
    refine t_r ?_
    simp [go_sem, hP, hgl, hn, zeroTm] <;> (try omega)
    all_goals exact t_f
  rw [if_pos h1] at hR
  refine t_g @h1 ?_
  refine t_a ?_
  first | refine W_reg [] fun K hK => ?_ | refine W_regd (by rw [hP]; exact mixed) [] fun K hK => ?_
  simp [go_sem, hP, hgl, hn, fs]
  repeat (refine ⟨by omega, ?_⟩)
  first | refine vcK_call hP hgl (ref02_check_ok s hs (by omega)) (by simp [go_sem, hP, hgl, hn, fs]) rfl (by simp [go_sem]) (by simp) (by rw [hn]; exact Nat.le_of_ble_eq_true rfl) ?_ | refine vcdC_call (fun _ _ => vcd_sound) hP hgl (ref02_check_ok s hs (by omega)) (by simp [go_sem, hP, hgl, hn, fs]) rfl (by simp [go_sem]) (by simp) (by rw [hn]; exact Nat.le_of_ble_eq_true rfl) ?_ | refine vcK_callG hP hgl (ref02_check_ok s hs (by omega)) (by simp [go_sem, hP, hgl, hn, fs]) rfl (by simp [go_sem]) (by simp) (by rw [hn]; exact Nat.le_of_ble_eq_true rfl) (by simp [go_sem]; rfl) (by rw [hn]; exact Nat.le_of_ble_eq_true rfl) (by simp [go_sem]) ?_ | refine vcdC_callG (fun _ _ => vcd_sound) hP hgl (ref02_check_ok s hs (by omega)) (by simp [go_sem, hP, hgl, hn, fs]) rfl (by simp [go_sem]) (by simp) (by rw [hn]; exact Nat.le_of_ble_eq_true rfl) (by simp [go_sem]; rfl) (by rw [hn]; exact Nat.le_of_ble_eq_true rfl) (by simp [go_sem]) ?_
  simp [go_sem, hP, hgl, hn, fs]
  refine t_e ?_
  clear hK K
  by_cases h2 : s.checkN = 0
  rotate_left
  · rw [if_neg h2] at hR
    refine t_g @h2 ?_
    refine t_r ?_
    simp [go_sem, hP, hgl, hn, zeroTm] <;> (try omega)
    all_goals exact t_f
  rw [if_pos h2] at hR
  obtain ⟨t1, t2⟩ := (Tm.checkN_iff t).1 h1
  obtain ⟨s1, s2⟩ := (Tm.checkN_iff s).1 h2
  refine t_g @h2 ?_
  by_cases h3 : t.leastN 536870912 = true
  rotate_left
  · rw [if_neg h3] at hR
    have h3' : t.leastN 536870912 = false := by simpa using h3
    refine t_a ?_
    first | refine W_reg [] fun K hK => ?_ | refine W_regd (by rw [hP]; exact mixed) [] fun K hK => ?_
    simp [go_sem, hP, hgl, hn, fx, h3']
    repeat (refine ⟨by omega, ?_⟩)
    first | refine vcK_call hP hgl (least_ok t 536870912) (by simp [go_sem, hP, hgl, hn, fx, h3']) rfl (by simp [go_sem]) (by simp) (by rw [hn]; exact Nat.le_of_ble_eq_true rfl) ?_ | refine vcdC_call (fun _ _ => vcd_sound) hP hgl (least_ok t 536870912) (by simp [go_sem, hP, hgl, hn, fx, h3']) rfl (by simp [go_sem]) (by simp) (by rw [hn]; exact Nat.le_of_ble_eq_true rfl) ?_ | refine vcK_callG hP hgl (least_ok t 536870912) (by simp [go_sem, hP, hgl, hn, fx, h3']) rfl (by simp [go_sem]) (by simp) (by rw [hn]; exact Nat.le_of_ble_eq_true rfl) (by simp [go_sem]; rfl) (by rw [hn]; exact Nat.le_of_ble_eq_true rfl) (by simp [go_sem]) ?_ | refine vcdC_callG (fun _ _ => vcd_sound) hP hgl (least_ok t 536870912) (by simp [go_sem, hP, hgl, hn, fx, h3']) rfl (by simp [go_sem]) (by simp) (by rw [hn]; exact Nat.le_of_ble_eq_true rfl) (by simp [go_sem]; rfl) (by rw [hn]; exact Nat.le_of_ble_eq_true rfl) (by simp [go_sem]) ?_
    simp [go_sem, hP, hgl, hn, fx, h3']
    refine t_e ?_
    clear hK K
    refine t_g @h3' ?_
    refine t_r ?_
    simp [go_sem, hP, hgl, hn, zeroTm] <;> (try omega)
    all_goals exact t_f
  rw [if_pos h3] at hR
  by_cases h4 : s.leastN 536870912 = true
  rotate_left
  · rw [if_neg h4] at hR
    have h4' : s.leastN 536870912 = false := by simpa using h4
    refine t_a ?_
    first | refine W_reg [] fun K hK => ?_ | refine W_regd (by rw [hP]; exact mixed) [] fun K hK => ?_
    simp [go_sem, hP, hgl, hn, fx, fs, h3, h4']
    repeat (refine ⟨by omega, ?_⟩)
    first | refine vcK_call hP hgl (least_ok t 536870912) (by simp [go_sem, hP, hgl, hn, fx, fs, h3, h4']) rfl (by simp [go_sem]) (by simp) (by rw [hn]; exact Nat.le_of_ble_eq_true rfl) ?_ | refine vcdC_call (fun _ _ => vcd_sound) hP hgl (least_ok t 536870912) (by simp [go_sem, hP, hgl, hn, fx, fs, h3, h4']) rfl (by simp [go_sem]) (by simp) (by rw [hn]; exact Nat.le_of_ble_eq_true rfl) ?_ | refine vcK_callG hP hgl (least_ok t 536870912) (by simp [go_sem, hP, hgl, hn, fx, fs, h3, h4']) rfl (by simp [go_sem]) (by simp) (by rw [hn]; exact Nat.le_of_ble_eq_true rfl) (by simp [go_sem]; rfl) (by rw [hn]; exact Nat.le_of_ble_eq_true rfl) (by simp [go_sem]) ?_ | refine vcdC_callG (fun _ _ => vcd_sound) hP hgl (least_ok t 536870912) (by simp [go_sem, hP, hgl, hn, fx, fs, h3, h4']) rfl (by simp [go_sem]) (by simp) (by rw [hn]; exact Nat.le_of_ble_eq_true rfl) (by simp [go_sem]; rfl) (by rw [hn]; exact Nat.le_of_ble_eq_true rfl) (by simp [go_sem]) ?_
    simp [go_sem, hP, hgl, hn, fx, fs, h3, h4']
    repeat (refine ⟨by omega, ?_⟩)
    first | refine vcK_call hP hgl (least_ok s 536870912) (by simp [go_sem, hP, hgl, hn, fx, fs, h3, h4']) rfl (by simp [go_sem]) (by simp) (by rw [hn]; exact Nat.le_of_ble_eq_true rfl) ?_ | refine vcdC_call (fun _ _ => vcd_sound) hP hgl (least_ok s 536870912) (by simp [go_sem, hP, hgl, hn, fx, fs, h3, h4']) rfl (by simp [go_sem]) (by simp) (by rw [hn]; exact Nat.le_of_ble_eq_true rfl) ?_ | refine vcK_callG hP hgl (least_ok s 536870912) (by simp [go_sem, hP, hgl, hn, fx, fs, h3, h4']) rfl (by simp [go_sem]) (by simp) (by rw [hn]; exact Nat.le_of_ble_eq_true rfl) (by simp [go_sem]; rfl) (by rw [hn]; exact Nat.le_of_ble_eq_true rfl) (by simp [go_sem]) ?_ | refine vcdC_callG (fun _ _ => vcd_sound) hP hgl (least_ok s 536870912) (by simp [go_sem, hP, hgl, hn, fx, fs, h3, h4']) rfl (by simp [go_sem]) (by simp) (by rw [hn]; exact Nat.le_of_ble_eq_true rfl) (by simp [go_sem]; rfl) (by rw [hn]; exact Nat.le_of_ble_eq_true rfl) (by simp [go_sem]) ?_
    simp [go_sem, hP, hgl, hn, fx, fs, h3, h4']
    refine t_e ?_
    clear hK K
    refine t_g0 ?_
    refine t_r ?_
    simp [go_sem, hP, hgl, hn, zeroTm] <;> (try omega)
    all_goals exact t_f
  rw [if_pos h4] at hR
  refine t_a ?_
  first | refine W_reg [] fun K hK => ?_ | refine W_regd (by rw [hP]; exact mixed) [] fun K hK => ?_
  simp [go_sem, hP, hgl, hn, fx, fs, h3, h4]
  repeat (refine ⟨by omega, ?_⟩)
  first | refine vcK_call hP hgl (least_ok t 536870912) (by simp [go_sem, hP, hgl, hn, fx, fs, h3, h4]) rfl (by simp [go_sem]) (by simp) (by rw [hn]; exact Nat.le_of_ble_eq_true rfl) ?_ | refine vcdC_call (fun _ _ => vcd_sound) hP hgl (least_ok t 536870912) (by simp [go_sem, hP, hgl, hn, fx, fs, h3, h4]) rfl (by simp [go_sem]) (by simp) (by rw [hn]; exact Nat.le_of_ble_eq_true rfl) ?_ | refine vcK_callG hP hgl (least_ok t 536870912) (by simp [go_sem, hP, hgl, hn, fx, fs, h3, h4]) rfl (by simp [go_sem]) (by simp) (by rw [hn]; exact Nat.le_of_ble_eq_true rfl) (by simp [go_sem]; rfl) (by rw [hn]; exact Nat.le_of_ble_eq_true rfl) (by simp [go_sem]) ?_ | refine vcdC_callG (fun _ _ => vcd_sound) hP hgl (least_ok t 536870912) (by simp [go_sem, hP, hgl, hn, fx, fs, h3, h4]) rfl (by simp [go_sem]) (by simp) (by rw [hn]; exact Nat.le_of_ble_eq_true rfl) (by simp [go_sem]; rfl) (by rw [hn]; exact Nat.le_of_ble_eq_true rfl) (by simp [go_sem]) ?_
  simp [go_sem, hP, hgl, hn, fx, fs, h3, h4]
  repeat (refine ⟨by omega, ?_⟩)
  first | refine vcK_call hP hgl (least_ok s 536870912) (by simp [go_sem, hP, hgl, hn, fx, fs, h3, h4]) rfl (by simp [go_sem]) (by simp) (by rw [hn]; exact Nat.le_of_ble_eq_true rfl) ?_ | refine vcdC_call (fun _ _ => vcd_sound) hP hgl (least_ok s 536870912) (by simp [go_sem, hP, hgl, hn, fx, fs, h3, h4]) rfl (by simp [go_sem]) (by simp) (by rw [hn]; exact Nat.le_of_ble_eq_true rfl) ?_ | refine vcK_callG hP hgl (least_ok s 536870912) (by simp [go_sem, hP, hgl, hn, fx, fs, h3, h4]) rfl (by simp [go_sem]) (by simp) (by rw [hn]; exact Nat.le_of_ble_eq_true rfl) (by simp [go_sem]; rfl) (by rw [hn]; exact Nat.le_of_ble_eq_true rfl) (by simp [go_sem]) ?_ | refine vcdC_callG (fun _ _ => vcd_sound) hP hgl (least_ok s 536870912) (by simp [go_sem, hP, hgl, hn, fx, fs, h3, h4]) rfl (by simp [go_sem]) (by simp) (by rw [hn]; exact Nat.le_of_ble_eq_true rfl) (by simp [go_sem]; rfl) (by rw [hn]; exact Nat.le_of_ble_eq_true rfl) (by simp [go_sem]) ?_
  simp [go_sem, hP, hgl, hn, fx, fs, h3, h4]
  refine t_e ?_
  clear hK K
  refine t_g0 ?_
  have hp1 := Tm.count_pos s
  have htm := Tm.timesN_le t 0
  have hm0 : 0 ≤ (t.timesN 0 : Int) * ((s.count : Int) - 1) := Int.mul_nonneg (by omega) (by omega)
  have hm1 : (t.timesN 0 : Int) * ((s.count : Int) - 1) ≤ 4096 * 4096 := Int.mul_le_mul (by omega) (by omega) (by omega) (by decide)
  have it := Tm.idx_of t 536870912 t1 h3
  have is := Tm.idx_of s 536870912 s1 h4
  have wi := in_ok (gl := gl) t 0 0 s (Tm.idx_mono (by decide) it) (Tm.idx_mono (by decide) is) (by decide) (by decide) (by omega)
  by_cases h5 : (4096 : Int) < (t.count : Int) + t.timesN 0 * ((s.count : Int) - 1)
  · rw [if_pos h5] at hR
    generalize hq : (t.timesN 0 : Int) * ((s.count : Int) - 1) = q at *
    refine t_a ?_
    first | refine W_reg [] fun K hK => ?_ | refine W_regd (by rw [hP]; exact mixed) [] fun K hK => ?_
    simp [go_sem, hP, hgl, hn, fx, fs, hq]
    repeat (refine ⟨by omega, ?_⟩)
    first | refine vcK_call hP hgl (ref02_count_ok t (by omega)) (by simp [go_sem, hP, hgl, hn, fx, fs, hq]) rfl (by simp [go_sem]) (by simp) (by rw [hn]; exact Nat.le_of_ble_eq_true rfl) ?_ | refine vcdC_call (fun _ _ => vcd_sound) hP hgl (ref02_count_ok t (by omega)) (by simp [go_sem, hP, hgl, hn, fx, fs, hq]) rfl (by simp [go_sem]) (by simp) (by rw [hn]; exact Nat.le_of_ble_eq_true rfl) ?_ | refine vcK_callG hP hgl (ref02_count_ok t (by omega)) (by simp [go_sem, hP, hgl, hn, fx, fs, hq]) rfl (by simp [go_sem]) (by simp) (by rw [hn]; exact Nat.le_of_ble_eq_true rfl) (by simp [go_sem]; rfl) (by rw [hn]; exact Nat.le_of_ble_eq_true rfl) (by simp [go_sem]) ?_ | refine vcdC_callG (fun _ _ => vcd_sound) hP hgl (ref02_count_ok t (by omega)) (by simp [go_sem, hP, hgl, hn, fx, fs, hq]) rfl (by simp [go_sem]) (by simp) (by rw [hn]; exact Nat.le_of_ble_eq_true rfl) (by simp [go_sem]; rfl) (by rw [hn]; exact Nat.le_of_ble_eq_true rfl) (by simp [go_sem]) ?_
    simp [go_sem, hP, hgl, hn, fx, fs, hq]
    repeat (refine ⟨by omega, ?_⟩)
    first | refine vcK_call hP hgl (times_ok t 0 (by omega) (by decide) (by omega)) (by simp [go_sem, hP, hgl, hn, fx, fs, hq]) rfl (by simp [go_sem]) (by simp) (by rw [hn]; exact Nat.le_of_ble_eq_true rfl) ?_ | refine vcdC_call (fun _ _ => vcd_sound) hP hgl (times_ok t 0 (by omega) (by decide) (by omega)) (by simp [go_sem, hP, hgl, hn, fx, fs, hq]) rfl (by simp [go_sem]) (by simp) (by rw [hn]; exact Nat.le_of_ble_eq_true rfl) ?_ | refine vcK_callG hP hgl (times_ok t 0 (by omega) (by decide) (by omega)) (by simp [go_sem, hP, hgl, hn, fx, fs, hq]) rfl (by simp [go_sem]) (by simp) (by rw [hn]; exact Nat.le_of_ble_eq_true rfl) (by simp [go_sem]; rfl) (by rw [hn]; exact Nat.le_of_ble_eq_true rfl) (by simp [go_sem]) ?_ | refine vcdC_callG (fun _ _ => vcd_sound) hP hgl (times_ok t 0 (by omega) (by decide) (by omega)) (by simp [go_sem, hP, hgl, hn, fx, fs, hq]) rfl (by simp [go_sem]) (by simp) (by rw [hn]; exact Nat.le_of_ble_eq_true rfl) (by simp [go_sem]; rfl) (by rw [hn]; exact Nat.le_of_ble_eq_true rfl) (by simp [go_sem]) ?_
    simp [go_sem, hP, hgl, hn, fx, fs, hq]
    repeat (refine ⟨by omega, ?_⟩)
    first | refine vcK_call hP hgl (ref02_count_ok s (by omega)) (by simp [go_sem, hP, hgl, hn, fx, fs, hq]) rfl (by simp [go_sem]) (by simp) (by rw [hn]; exact Nat.le_of_ble_eq_true rfl) ?_ | refine vcdC_call (fun _ _ => vcd_sound) hP hgl (ref02_count_ok s (by omega)) (by simp [go_sem, hP, hgl, hn, fx, fs, hq]) rfl (by simp [go_sem]) (by simp) (by rw [hn]; exact Nat.le_of_ble_eq_true rfl) ?_ | refine vcK_callG hP hgl (ref02_count_ok s (by omega)) (by simp [go_sem, hP, hgl, hn, fx, fs, hq]) rfl (by simp [go_sem]) (by simp) (by rw [hn]; exact Nat.le_of_ble_eq_true rfl) (by simp [go_sem]; rfl) (by rw [hn]; exact Nat.le_of_ble_eq_true rfl) (by simp [go_sem]) ?_ | refine vcdC_callG (fun _ _ => vcd_sound) hP hgl (ref02_count_ok s (by omega)) (by simp [go_sem, hP, hgl, hn, fx, fs, hq]) rfl (by simp [go_sem]) (by simp) (by rw [hn]; exact Nat.le_of_ble_eq_true rfl) (by simp [go_sem]; rfl) (by rw [hn]; exact Nat.le_of_ble_eq_true rfl) (by simp [go_sem]) ?_
    simp [go_sem, hP, hgl, hn, fx, fs, hq]
    refine t_e ?_
    clear hK K
    refine t_g @h5 ?_
    refine t_r ?_
    simp [go_sem, hP, hgl, hn, zeroTm] <;> (try omega)
    all_goals exact t_f
  · rw [if_neg h5] at hR
    generalize hq : (t.timesN 0 : Int) * ((s.count : Int) - 1) = q at *
    refine t_a ?_
    first | refine W_reg [] fun K hK => ?_ | refine W_regd (by rw [hP]; exact mixed) [] fun K hK => ?_
    simp [go_sem, hP, hgl, hn, fx, fs, hq]
    repeat (refine ⟨by omega, ?_⟩)
    first | refine vcK_call hP hgl (ref02_count_ok t (by omega)) (by simp [go_sem, hP, hgl, hn, fx, fs, hq]) rfl (by simp [go_sem]) (by simp) (by rw [hn]; exact Nat.le_of_ble_eq_true rfl) ?_ | refine vcdC_call (fun _ _ => vcd_sound) hP hgl (ref02_count_ok t (by omega)) (by simp [go_sem, hP, hgl, hn, fx, fs, hq]) rfl (by simp [go_sem]) (by simp) (by rw [hn]; exact Nat.le_of_ble_eq_true rfl) ?_ | refine vcK_callG hP hgl (ref02_count_ok t (by omega)) (by simp [go_sem, hP, hgl, hn, fx, fs, hq]) rfl (by simp [go_sem]) (by simp) (by rw [hn]; exact Nat.le_of_ble_eq_true rfl) (by simp [go_sem]; rfl) (by rw [hn]; exact Nat.le_of_ble_eq_true rfl) (by simp [go_sem]) ?_ | refine vcdC_callG (fun _ _ => vcd_sound) hP hgl (ref02_count_ok t (by omega)) (by simp [go_sem, hP, hgl, hn, fx, fs, hq]) rfl (by simp [go_sem]) (by simp) (by rw [hn]; exact Nat.le_of_ble_eq_true rfl) (by simp [go_sem]; rfl) (by rw [hn]; exact Nat.le_of_ble_eq_true rfl) (by simp [go_sem]) ?_
    simp [go_sem, hP, hgl, hn, fx, fs, hq]
    repeat (refine ⟨by omega, ?_⟩)
    first | refine vcK_call hP hgl (times_ok t 0 (by omega) (by decide) (by omega)) (by simp [go_sem, hP, hgl, hn, fx, fs, hq]) rfl (by simp [go_sem]) (by simp) (by rw [hn]; exact Nat.le_of_ble_eq_true rfl) ?_ | refine vcdC_call (fun _ _ => vcd_sound) hP hgl (times_ok t 0 (by omega) (by decide) (by omega)) (by simp [go_sem, hP, hgl, hn, fx, fs, hq]) rfl (by simp [go_sem]) (by simp) (by rw [hn]; exact Nat.le_of_ble_eq_true rfl) ?_ | refine vcK_callG hP hgl (times_ok t 0 (by omega) (by decide) (by omega)) (by simp [go_sem, hP, hgl, hn, fx, fs, hq]) rfl (by simp [go_sem]) (by simp) (by rw [hn]; exact Nat.le_of_ble_eq_true rfl) (by simp [go_sem]; rfl) (by rw [hn]; exact Nat.le_of_ble_eq_true rfl) (by simp [go_sem]) ?_ | refine vcdC_callG (fun _ _ => vcd_sound) hP hgl (times_ok t 0 (by omega) (by decide) (by omega)) (by simp [go_sem, hP, hgl, hn, fx, fs, hq]) rfl (by simp [go_sem]) (by simp) (by rw [hn]; exact Nat.le_of_ble_eq_true rfl) (by simp [go_sem]; rfl) (by rw [hn]; exact Nat.le_of_ble_eq_true rfl) (by simp [go_sem]) ?_
    simp [go_sem, hP, hgl, hn, fx, fs, hq]
    repeat (refine ⟨by omega, ?_⟩)
    first | refine vcK_call hP hgl (ref02_count_ok s (by omega)) (by simp [go_sem, hP, hgl, hn, fx, fs, hq]) rfl (by simp [go_sem]) (by simp) (by rw [hn]; exact Nat.le_of_ble_eq_true rfl) ?_ | refine vcdC_call (fun _ _ => vcd_sound) hP hgl (ref02_count_ok s (by omega)) (by simp [go_sem, hP, hgl, hn, fx, fs, hq]) rfl (by simp [go_sem]) (by simp) (by rw [hn]; exact Nat.le_of_ble_eq_true rfl) ?_ | refine vcK_callG hP hgl (ref02_count_ok s (by omega)) (by simp [go_sem, hP, hgl, hn, fx, fs, hq]) rfl (by simp [go_sem]) (by simp) (by rw [hn]; exact Nat.le_of_ble_eq_true rfl) (by simp [go_sem]; rfl) (by rw [hn]; exact Nat.le_of_ble_eq_true rfl) (by simp [go_sem]) ?_ | refine vcdC_callG (fun _ _ => vcd_sound) hP hgl (ref02_count_ok s (by omega)) (by simp [go_sem, hP, hgl, hn, fx, fs, hq]) rfl (by simp [go_sem]) (by simp) (by rw [hn]; exact Nat.le_of_ble_eq_true rfl) (by simp [go_sem]; rfl) (by rw [hn]; exact Nat.le_of_ble_eq_true rfl) (by simp [go_sem]) ?_
    simp [go_sem, hP, hgl, hn, fx, fs, hq]
    refine t_e ?_
    clear hK K
    refine t_g @h5 ?_
    refine t_a ?_
    first | refine W_reg [] fun K hK => ?_ | refine W_regd (by rw [hP]; exact mixed) [] fun K hK => ?_
    simp [go_sem, hP, hgl, hn, fx, fs]
    repeat (refine ⟨by omega, ?_⟩)
    first | refine vcK_call hP hgl (wi) (by simp [go_sem, hP, hgl, hn, fx, fs]) rfl (by simp [go_sem]) (by simp) (by rw [hn]; exact Nat.le_of_ble_eq_true rfl) ?_ | refine vcdC_call (fun _ _ => vcd_sound) hP hgl (wi) (by simp [go_sem, hP, hgl, hn, fx, fs]) rfl (by simp [go_sem]) (by simp) (by rw [hn]; exact Nat.le_of_ble_eq_true rfl) ?_ | refine vcK_callG hP hgl (wi) (by simp [go_sem, hP, hgl, hn, fx, fs]) rfl (by simp [go_sem]) (by simp) (by rw [hn]; exact Nat.le_of_ble_eq_true rfl) (by simp [go_sem]; rfl) (by rw [hn]; exact Nat.le_of_ble_eq_true rfl) (by simp [go_sem]) ?_ | refine vcdC_callG (fun _ _ => vcd_sound) hP hgl (wi) (by simp [go_sem, hP, hgl, hn, fx, fs]) rfl (by simp [go_sem]) (by simp) (by rw [hn]; exact Nat.le_of_ble_eq_true rfl) (by simp [go_sem]; rfl) (by rw [hn]; exact Nat.le_of_ble_eq_true rfl) (by simp [go_sem]) ?_
    simp [go_sem, hP, hgl, hn, fx, fs]
    repeat (refine ⟨by omega, ?_⟩)
    first | refine vcK_call hP hgl (ref02_copy_ok (t.inN 0 0 s)) (by simp [go_sem, hP, hgl, hn, fx, fs]) rfl (by simp [go_sem]) (by simp) (by rw [hn]; exact Nat.le_of_ble_eq_true rfl) ?_ | refine vcdC_call (fun _ _ => vcd_sound) hP hgl (ref02_copy_ok (t.inN 0 0 s)) (by simp [go_sem, hP, hgl, hn, fx, fs]) rfl (by simp [go_sem]) (by simp) (by rw [hn]; exact Nat.le_of_ble_eq_true rfl) ?_ | refine vcK_callG hP hgl (ref02_copy_ok (t.inN 0 0 s)) (by simp [go_sem, hP, hgl, hn, fx, fs]) rfl (by simp [go_sem]) (by simp) (by rw [hn]; exact Nat.le_of_ble_eq_true rfl) (by simp [go_sem]; rfl) (by rw [hn]; exact Nat.le_of_ble_eq_true rfl) (by simp [go_sem]) ?_ | refine vcdC_callG (fun _ _ => vcd_sound) hP hgl (ref02_copy_ok (t.inN 0 0 s)) (by simp [go_sem, hP, hgl, hn, fx, fs]) rfl (by simp [go_sem]) (by simp) (by rw [hn]; exact Nat.le_of_ble_eq_true rfl) (by simp [go_sem]; rfl) (by rw [hn]; exact Nat.le_of_ble_eq_true rfl) (by simp [go_sem]) ?_
    simp [go_sem, hP, hgl, hn, fx, fs]
    refine t_e ?_
    clear hK K
    refine t_r ?_
    simp [go_sem, hP, hgl, hn] <;> (try omega)
    all_goals exact t_f

theorem checkN_or {t : Tm} (h : t.shape = true) : t.checkN = 0 ∨ t.checkN = 4 := by
  unfold Tm.checkN
  rw [if_pos h]
  split
  · exact .inr rfl
  · exact .inl rfl
theorem putE_err {t s : Tm} (ht : t.shape = true) (hs : s.shape = true) (hlt : t.leastN 536870912 = true) (hls : s.leastN 536870912 = true) :
    (putE t s = (t.inN 0 0 s, 0)) ∨ (putE t s).2 = 4 := by
  unfold putE
  rw [if_pos hlt, if_pos hls]
  rcases checkN_or ht with h1 | h1
  · rw [if_pos h1]
    rcases checkN_or hs with h2 | h2
    · rw [if_pos h2]
      split
      · exact .inr rfl
      · exact .inl rfl
    · rw [if_neg (by rw [h2]; decide)]; exact .inr h2
  · rw [if_neg (by rw [h1]; decide)]; exact .inr h1
end Go.Proofs.YteoalfdaanlbjaaGreatDoor.Lift

namespace Go.Proofs.YteoalfdaanlbjaaGreatDoor.Lift
set_option linter.unusedSimpArgs false
set_option linter.unusedVariables false
set_option linter.unnecessarySimpa false
open Go
variable {gl : Globs}

def limB (e : Int) : Bool := decide (e = 4) || (decide (e = 5) || decide (e = 3))
theorem limits33_ok (e : Int) : Con1 Tryz.prog gl 23 [dint e] [] (dbool (limB e)) [] := by
  unfold limB
  refine t_in Tryz.func23 ?_
  intro X hP hgl hf hfn hn hR hids hfit
  by_cases h4 : e = 4
  · refine t_g @h4 ?_
    refine t_r ?_
    simp [go_sem, hP, hgl, hn, h4] <;> (try omega)
  by_cases h5 : e = 5
  · refine t_g (j2 @h4 @h5) ?_
    refine t_r ?_
    simp [go_sem, hP, hgl, hn, h4, h5] <;> (try omega)
  by_cases h3 : e = 3
  · refine t_g (j2 @h4 (j2 @h5 @h3)) ?_
    refine t_r ?_
    simp [go_sem, hP, hgl, hn, h4, h5, h3] <;> (try omega)
  · refine t_g (j2 @h4 (j2 @h5 @h3)) ?_
    refine t_r ?_
    simp [go_sem, hP, hgl, hn, h4, h5, h3] <;> (try omega)

end Go.Proofs.YteoalfdaanlbjaaGreatDoor.Lift

namespace Go.Proofs.YteoalfdaanlbjaaGreatDoor.Lift
set_option linter.unusedSimpArgs false
set_option linter.unusedVariables false
set_option linter.unnecessarySimpa false
open Go
variable {gl : Globs}

set_option maxHeartbeats 1000000 in
set_option maxRecDepth 100000 in
theorem majorantPut_ok (har : globOf gl 0 = some arEls) (l : List Int) : Con1 Tryz.prog gl 6 [.sl (ints l)] [] (dbool true) [] := by
  have wa := awake33_ok har
  have wl0 := limits33_ok (gl := gl) 0
  rw [show limB 0 = false from rfl] at wl0
  have wl4 := limits33_ok (gl := gl) 4
  rw [show limB 4 = true from rfl] at wl4
  refine t_in Tryz.func6 ?_
  intro X hP hgl hf hfn hn hR hids hfit
  by_cases hl : l.length ≤ 500
  rotate_left
  · refine t_g0 ?_
    refine t_c2 @hl wa (few_ok l) ?_
    refine t_g0 ?_
    refine t_c1 trivial wa ?_
    refine t_r ?_
    simp [go_sem, hP, hgl, hn] <;> (try omega)
  refine t_g0 ?_
  refine t_c2 @hl wa (few_ok l) ?_
  refine t_g0 ?_
  refine t_a ?_
  first | refine W_reg [] fun K hK => ?_ | refine W_regd (by rw [hP]; exact mixed) [] fun K hK => ?_
  refine t_s0 ?_
  repeat (refine ⟨by omega, ?_⟩)
  refine vcK_callR hP hgl (new_ok l) (by simp [go_sem]) rfl (by simp [go_sem]) (by simp) (by rw [hn]; exact Nat.le_of_ble_eq_true rfl) ?_
  rintro rr φ ⟨b, rfl, rfl⟩ -
  simp [go_sem, hP, hgl, hn]
  refine t_e ?_
  clear hK K
  obtain ⟨c1, c2, c3⟩ := ctxD_facts l (p := 0) (by omega)
  have wc := mk_context_ok (gl := gl) b l 0 hl (by omega)
  generalize ctxD l 0 = cd at *
  obtain ⟨g, p1⟩ := cd
  simp only at c1 c2 c3 wc
  obtain ⟨d1, d2⟩ := typeD_small l (n := 1) c1 (by decide)
  have ws := mk_type_ok (gl := gl) 1 b l p1 hl c1 (by decide)
  generalize typeD l 1 p1 = sd at *
  obtain ⟨s, p2⟩ := sd
  simp only at d1 d2 ws
  obtain ⟨e1, e2⟩ := typeD_small l (n := 1) d1 (by decide)
  have wt := mk_type_ok (gl := gl) 1 b l p2 hl d1 (by decide)
  generalize typeD l 1 p2 = td at *
  obtain ⟨tt, p3⟩ := td
  simp only at e1 e2 wt
  have gs : ∀ x ∈ g ++ [s], x.small := by
    intro x hx
    rcases List.mem_append.1 hx with hx | hx
    · exact c2 x hx
    · rw [List.mem_singleton.1 hx]; exact d2
  obtain ⟨G, hG, hGo⟩ := small_Ts c2
  obtain ⟨S, hS, hSo, -⟩ := small_T d2
  obtain ⟨c, hc, hco, -⟩ := small_T e2
  have hGl : G.length ≤ 3 := by rw [hG] at c3; simpa using c3
  have hxc := termD_count l 3 tt (g ++ [s]) p3 e2 gs e1
  rw [show drawB 3 = 1475 from rfl] at hxc
  have hgl1 : (g ++ [s]).length ≤ 4 := by simp; omega
  obtain ⟨F, hdt⟩ := termD_dn l 3 e2 gs e1 (G := G ++ [S]) (a := c) (by rw [hG, hS, List.map_append]; rfl) hc
  have wm := mk_term_ok (gl := gl) b l hl 3 (by decide) tt (g ++ [s]) p3 e2 gs (by omega) e1
  have hp4 := (termD_facts draw_typed 3 tt (g ++ [s]) p3 e2 gs e1).1
  generalize termD l 3 tt (g ++ [s]) p3 = xd at *
  obtain ⟨t, p4⟩ := xd
  simp only at hxc hdt wm hp4
  have hac := termD_count l 2 s g p4 d2 c2 hp4
  rw [show drawB 2 = 485 from rfl] at hac
  obtain ⟨A, hda⟩ := termD_dn l 2 d2 c2 hp4 hG hS
  have wn := mk_term_ok (gl := gl) b l hl 2 (by decide) s g p4 d2 c2 (by omega) hp4
  generalize termD l 2 s g p4 = ad at *
  obtain ⟨a, p5⟩ := ad
  simp only at hac hda wn
  have hdt' : ∃ F, Dn (S :: G.reverse) t c F := by
    have : (G ++ [S]).reverse = S :: G.reverse := by simp
    rw [← this]; exact ⟨F, hdt⟩
  clear hdt
  obtain ⟨F, hdt⟩ := hdt'
  have hts := dn_shape hdt
  have has := dn_shape hda
  have hlt := dn_least hdt 536870912 (by simp only [List.length_cons, List.length_reverse]; omega)
  have hla := dn_least hda 536870912 (by simp only [List.length_reverse]; omega)
  have wp := put_ok (gl := gl) t a (sh_tys t hts) (sh_tys a has) (by omega) (by omega)
  have w1 := mterm_ok har t (sh_tys t hts) (by omega)
  have w2 := mterm_ok har a (sh_tys a has) (by omega)
  have hfs := Ty.fold s
  have hcs := Ty.cells_eq s
  have hft := Tm.fold t
  have hct := Tm.cells_eq t
  have hfa := Tm.fold a
  have hca := Tm.cells_eq a
  have hgm : List.map Ty.cells g ++ [s.cells] = List.map Ty.cells (g ++ [s]) := by simp
  rw [List.map_append] at wm
  refine t_c2 trivial wc ws ?_
  refine t_g @hcs ?_
  refine t_c2 @hcs wt wm ?_
  refine t_g @hct ?_
  refine t_c1 @hfs wn ?_
  refine t_g @hca ?_
  refine t_c1 (j2 @hft @hfa) wp ?_
  rcases putE_err hts has hlt hla with hw | hw
  rotate_left
  · refine t_g @hw ?_
    refine t_c1 @hw wl4 ?_
    refine t_r ?_
    simp [go_sem, hP, hgl, hn] <;> (try omega)
  rw [hw]
  have hdw := dn_put hda hdt
  have hmi := maj_in t hts a has 0 (by decide)
  have hwc := in_count t 0 0 a hts
  have htm := Tm.timesN_le t 0
  have hap := Tm.count_pos a
  have hm1 : (t.timesN 0 : Int) * ((a.count : Int) - 1) ≤ 1475 * 484 := Int.mul_le_mul (by omega) (by omega) (by omega) (by decide)
  have hm1 : (t.timesN (0 + 0) : Int) * ((a.count : Int) - 1) ≤ 1475 * 484 := hm1
  have w3 := mterm_ok har (t.inN 0 0 a) (sh_tys _ (dn_shape hdw)) (by omega)
  clear hwc hm1 htm
  have hfw := Tm.fold (t.inN 0 0 a)
  have hcw := Tm.cells_eq (t.inN 0 0 a)
  clear hw
  generalize t.inN 0 0 a = w at *
  refine t_g @hcw ?_
  refine t_c1 @hfw w3 ?_
  rcases mterm_dn hdw (by simp only [List.length_reverse]; omega) with ⟨x1, x2, -⟩ | x4
  rotate_left
  · have hcx := Tm.cells_eq w.mTermE.1
    have hcy := Tm.cells_eq t.mTermE.1
    have hcz := Tm.cells_eq a.mTermE.1
    refine t_g @hcx ?_
    refine t_c1 @hft w1 ?_
    refine t_g @hcy ?_
    refine t_c1 @hfa w2 ?_
    refine t_g (j2 @hcz @x4) ?_
    refine t_c1 @x4 wl4 ?_
    refine t_r ?_
    simp [go_sem, hP, hgl, hn] <;> (try omega)
  rw [x1]
  have hcx := Tm.cells_eq (majT w)
  refine t_g @hcx ?_
  refine t_c1 @hft w1 ?_
  rcases mterm_dn hdt (by simp only [List.length_cons, List.length_reverse]; omega) with ⟨y1, y2, -⟩ | y4
  rotate_left
  · have hcy := Tm.cells_eq t.mTermE.1
    have hcz := Tm.cells_eq a.mTermE.1
    refine t_g @hcy ?_
    refine t_c1 @hfa w2 ?_
    refine t_g (j2 @hcz @y4) ?_
    refine t_c2 @y4 wl0 wl4 ?_
    refine t_r ?_
    simp [go_sem, hP, hgl, hn] <;> (try omega)
  rw [y1]
  have hcy := Tm.cells_eq (majT t)
  refine t_g @hcy ?_
  refine t_c1 @hfa w2 ?_
  rcases mterm_dn hda (by simp only [List.length_reverse]; omega) with ⟨z1, z2, -⟩ | z4
  rotate_left
  · have hcz := Tm.cells_eq a.mTermE.1
    refine t_g (j2 @hcz @z4) ?_
    refine t_c3 @z4 wl0 wl0 wl4 ?_
    refine t_r ?_
    simp [go_sem, hP, hgl, hn] <;> (try omega)
  rw [z1]
  have hcz := Tm.cells_eq (majT a)
  obtain ⟨P1, hd1, -⟩ := dn_maj hdt
  obtain ⟨P2, hd2, -⟩ := dn_maj hda
  have hms := dn_shape hd1
  have hma := dn_shape hd2
  have hl1 := dn_least hd1 536870912 (by simp only [List.length_map, List.length_cons, List.length_reverse]; omega)
  have hl2 := dn_least hd2 536870912 (by simp only [List.length_map, List.length_reverse]; omega)
  have wq := put_ok (gl := gl) (majT t) (majT a) (sh_tys _ hms) (sh_tys _ hma) (by omega) (by omega)
  have hf1 := Tm.fold (majT t)
  have hf2 := Tm.fold (majT a)
  have hf3 := Tm.fold (majT w)
  refine t_g @hcz ?_
  rcases putE_err hms hma hl1 hl2 with hz | hz
  · rw [hz, ← hmi] at wq
    have wsm := ref02_same_ok (gl := gl) (majT w) (majT w)
    rw [show (majT w).same (majT w) = true from (Tm.same_iff _ _).2 rfl] at wsm
    generalize majT t = y at *
    generalize majT a = z at *
    generalize majT w = x at *
    refine t_c1 (j2 @hf1 @hf2) wq ?_
    refine t_g @hcx ?_
    refine t_c2 @hf3 wl0 wsm ?_
    refine t_r ?_
    simp [go_sem, hP, hgl, hn] <;> (try omega)
  · have hcq := Tm.cells_eq (putE (majT t) (majT a)).1
    refine t_c1 (j2 @hf1 @hf2) wq ?_
    refine t_g (j2 @hcq @hz) ?_
    refine t_c1 @hz wl4 ?_
    refine t_r ?_
    simp [go_sem, hP, hgl, hn] <;> (try omega)
end Go.Proofs.YteoalfdaanlbjaaGreatDoor.Lift

