import Derived.Test.YtbmnlkfgkdallaaGreatDoorN2
import Derived.Test.YtbmnlkfgkdallaaGreatDoorM1
import Derived.Test.YtbmnlkfgkdallaaGreatDoorH5
namespace Go.Proofs.YtbmnlkfgkdallaaGreatDoor.Lift
set_option linter.unusedSimpArgs false
set_option linter.unusedVariables false
set_option linter.unnecessarySimpa false
open Go
variable {gl : Globs}

def stepR (n x : Int) : Int := min (n + min x 4096 + 2) 4097
theorem stepR_full (l : List Int) (h : ∀ x ∈ l, 0 ≤ x) : l.foldl stepR 4097 = 4097 := by
  induction l with
  | nil => rfl
  | cons x r ih =>
    have hx := h x (by simp)
    have : stepR 4097 x = 4097 := by unfold stepR; omega
    rw [List.foldl_cons, this, ih fun y hy => h y (by simp [hy])]
theorem lenL_fold (l : List Int) (h : ∀ x ∈ l, 0 ≤ x) (n : Int) (hn : n ≤ 4096) : l.foldl stepR n = min (lenL l n).1 4097 := by
  induction l generalizing n with
  | nil => simp only [lenL, List.foldl_nil]; omega
  | cons x r ih =>
    have hx := h x (by simp)
    have hr : ∀ y ∈ r, 0 ≤ y := fun y hy => h y (by simp [hy])
    have hs : sizeI x = min x 4096 + 1 := rfl
    rw [List.foldl_cons, lenL]
    split
    · rename_i h1
      have : stepR n x = 4097 := by unfold stepR; omega
      rw [this, stepR_full r hr]
      simp only
      omega
    · rename_i h1
      have : stepR n x = n + (1 + sizeI x) := by unfold stepR; omega
      rw [this]
      exact ih hr _ (by omega)
theorem foldR_bd (l : List Int) (h : ∀ x ∈ l, 0 ≤ x) : ∀ n : Int, 1 ≤ n ∧ n ≤ 4097 → 1 ≤ l.foldl stepR n ∧ l.foldl stepR n ≤ 4097 := by
  induction l with
  | nil => intro n hn; exact hn
  | cons x r ih =>
    intro n hn
    have hx := h x (by simp)
    exact ih (fun y hy => h y (by simp [hy])) _ (by unfold stepR; omega)

theorem Val.okB_of {v : Val} (h : v.nodesN.2 = true) : v.okB = true := by
  cases hq : v.okB with
  | true => rfl
  | false => rw [Val.nodes_bad hq] at h; cases h

set_option maxHeartbeats 1000000 in
theorem count5_ok (v : Val) (ht : v.nodesN.2 = true) : Con1 Tryz.prog gl 50 [v.dv] [] (dint (min v.lengthN 4097)) [] := by
  induction v using Val.ind with
  | h v ih =>
  refine t_in Tryz.func50 ?_
  intro X hP hgl hf hfn hn hR hids hfit
  have hl2 := Val.fit_list (hfit v.dv (by simp))
  have hfl : ∀ x ∈ v.list, intOK .i64 x := ((Val.fit_eq v).1 ((Val.dv_fit v).1 (hfit v.dv (by simp)))).2.2.1.2
  have hnf : intOK .i64 v.num := ((Val.fit_eq v).1 ((Val.dv_fit v).1 (hfit v.dv (by simp)))).2.1
  rw [intOK_i64] at hnf
  rcases Val.okB_kind (Val.okB_of ht) with ⟨h, h0, hl, ha⟩ | ⟨h, -, h0, ha⟩ | ⟨h, -, -, a, b, hab⟩ | ⟨h, -, hl, ha⟩
  · have he : min v.lengthN 4097 = min (min v.num 4096 + 1) 4097 := by rw [Val.lengthN_eq, if_pos h, ha]; rfl
    refine t_g @h ?_
    refine t_r ?_
    simp [go_sem, hP, hgl, hn, he] <;> (try omega)
  · have he : min v.lengthN 4097 = v.list.foldl stepR 1 := by
      rw [lenL_fold v.list h0 1 (by decide), Val.lengthN_eq, if_neg (by omega), if_pos h, ha]
      split <;> rfl
    have hb := foldR_bd v.list h0 1 (by decide)
    refine t_g @h ?_
    refine t_a ?_
    refine W_sub [] (by simp [go_sem]) (by simp [go_sem, List.foldl_nil] <;> omega) (by simp [go_sem]) (W_list (v.list) (fun done rest => [(.slot 19, .one (.v (dint done.length))), (.slot 18, .one (.v (dint v.list.length))), (.slot 17, .one (.v (.sl (ints v.list)))), (.slot 3, .one (.v (dint (done.foldl stepR 1)))), (.slot 7, .one (.v (dint v.kind))), (.slot 2, .one (.v (dint 0))), (.slot 1, .one (.loc 1 0)), (.loc 1, .row ([.v (dint v.kind), .v (dint v.num), .v (.sl (ints v.list)), .v (.sl (v.args.map Val.cells))]))]) ?_ ?_)
    · intro done x rest hL hg0 hnext
      have hlt : done.length < v.list.length := by rw [hL]; simp
      have hxm := List.mem_of_getElem? hg0
      have hx0 := h0 x hxm
      have hx1 := hfl x hxm
      rw [intOK_i64] at hx1
      have hdb := foldR_bd done (fun y hy => h0 y (by rw [hL]; simp [hy])) 1 (by decide)
      have hgi := ints_get hg0
      have hfo : (done ++ [x]).foldl stepR 1 = min (done.foldl stepR 1 + min x 4096 + 2) 4097 := by rw [List.foldl_append]; rfl
      refine t_rg0 ?_
      refine t_yes ?_
      refine t_gt (wr []) @hfo @hgi hnext
    · refine t_rg0 ?_
      refine t_no ?_
      refine t_g0 ?_
      have hm : min (v.list.foldl stepR 1) 4097 = v.list.foldl stepR 1 := by omega
      refine t_r ?_
      simp [go_sem, hP, hgl, hn, he, hm] <;> (try omega)
  · have hv := Val.nodes_pair hab
    rw [ht] at hv
    simp at hv
    have hla := Val.length_le a (a.ok_all hv.2.1).1
    have hlb := Val.length_le b (b.ok_all hv.2.2).1
    have he : min v.lengthN 4097 = min (min a.lengthN 4097 + min b.lengthN 4097 + 1) 4097 := by
      rw [Val.lengthN_eq, if_neg (by omega), if_neg (by omega), hab]
      simp only [Val.lengthN.lengths]
      omega
    refine t_g @h ?_
    refine t_c2 (j2 @h @hab) (ih a (by rw [hab]; simp) hv.2.1) (ih b (by rw [hab]; simp) hv.2.2) ?_
    refine t_g0 ?_
    refine t_r ?_
    simp [go_sem, hP, hgl, hn, he] <;> (try omega)
  · have he : v.lengthN = 1 := by rw [Val.lengthN_eq, if_neg (by omega), if_neg (by omega), ha]; rfl
    refine t_g @h ?_
    refine t_r ?_
    simp [go_sem, hP, hgl, hn, he] <;> (try omega)

theorem term5_ok (v : Val) (ht : v.nodesN.2 = true) : Con1 Tryz.prog gl 51 [v.dv] [] v.termN.dv [] := by
  induction v using Val.ind with
  | h v ih =>
  refine t_in Tryz.func51 ?_
  intro X hP hgl hf hfn hn hR hids hfit
  have hl2 := Val.fit_list (hfit v.dv (by simp))
  rw [Val.termN_eq] at hR
  rcases Val.okB_kind (Val.okB_of ht) with ⟨h, h0, hl, ha⟩ | ⟨h, -, h0, ha⟩ | ⟨h, -, -, a, b, hab⟩ | ⟨h, -, hl, ha⟩
  · rw [if_neg (by omega), if_neg (by omega), if_neg (by omega)] at hR
    have hc := numeral_ok (gl := gl) v.num.toNat
    rw [Int.toNat_of_nonneg h0] at hc
    refine t_g @h ?_
    refine t_c1 @h hc ?_
    refine t_r ?_
    simp [go_sem, hP, hgl, hn] <;> (try omega)
    all_goals exact t_f
  · rw [if_pos h] at hR
    refine t_g @h ?_
    refine t_c1 trivial (ref02_n_ok 7 []) ?_
    refine t_g0 ?_
    refine t_a ?_
    refine W_sub [] (by simp [go_sem]) (by simp [go_sem, listTm] <;> omega) (by simp [go_sem]) (W_rounds (fun k : Nat => k ≤ v.list.length) (fun k : Nat => [(.slot 4, .one (.v (dint ((k : Int) - 1)))), (.loc 3, .row ((listTm (v.list.drop k)).cells.map .v)), (.slot 3, .one (.loc 3 0)), (.slot 2, .one (.loc 2 0)), (.loc 2, .row ([.v (dint 0), .v (dint 0), .v (dint 0), .own 0 [], .own 0 []])), (.slot 1, .one (.loc 1 0)), (.loc 1, .row ([.v (dint v.kind), .v (dint v.num), .v (.sl (ints v.list)), .v (.sl (v.args.map Val.cells))])), (.slot 6, .one (.v (dint v.kind)))]) (fun k : Nat => k) v.list.length (Nat.le_refl _) ?_)
    intro k hk ihr
    cases k with
    | zero =>
      refine t_g0 ?_
      refine t_r ?_
      simp [go_sem, hP, hgl, hn] <;> (try omega)
      all_goals exact t_f
    | succ k =>
      have hkl : k < v.list.length := by omega
      obtain ⟨x, hx⟩ : ∃ x, v.list[k]? = some x := ⟨_, List.getElem?_eq_getElem hkl⟩
      have hx0 := h0 x (List.mem_of_getElem? hx)
      have hgi := ints_get hx
      have hk1 : ((k + 1 : Nat) : Int) - 1 = (k : Int) := by omega
      have hdr : listTm (v.list.drop k) = Tm.mk 8 0 (Ty.mk 0 []) [numTm x.toNat, listTm (v.list.drop (k + 1))] := by
        rw [List.drop_eq_getElem_cons hkl, ← (List.getElem?_eq_some_iff.1 hx).2]
        rfl
      have hc := numeral_ok (gl := gl) x.toNat
      rw [Int.toNat_of_nonneg hx0] at hc
      have hfd := Tm.fold (listTm (v.list.drop (k + 1)))
      refine t_g @hk1 ?_
      refine t_c1 (j2 @hk1 @hgi) hc ?_
      refine t_gt (wr []) (j2 @hdr @hk1) @hk1 (ihr k (by omega) (by omega))
  · rw [if_neg (by omega), if_neg (by omega), if_pos h] at hR
    have hv := Val.nodes_pair hab
    rw [ht] at hv
    simp at hv
    refine t_g @h ?_
    refine t_c2 (j2 @h @hab) (ih a (by rw [hab]; simp) hv.2.1) (ih b (by rw [hab]; simp) hv.2.2) ?_
    refine t_r ?_
    simp [go_sem, hP, hgl, hn, hab] <;> (try omega)
    all_goals exact t_f
  · rw [if_neg (by omega), if_pos h] at hR
    refine t_g @h ?_
    refine t_c1 trivial (ref02_n_ok 13 []) ?_
    refine t_r ?_
    simp [go_sem, hP, hgl, hn] <;> (try omega)
    all_goals exact t_f

theorem termE5_ok (v : Val) (hc : v.count ≤ 1048576) : Con1 Tryz.prog gl 15 [v.dv] [] (.tup [v.termE.1.dv, dint v.termE.2]) [] := by
  refine t_in Tryz.func15 ?_
  intro X hP hgl hf hfn hn hR hids hfit
  refine t_g0 ?_
  refine t_c1 trivial (check5_ok v (by omega)) ?_
  by_cases h : v.checkN = 0
  · have hok : v.nodesN.2 = true := by
      unfold Val.checkN at h
      split at h
      · assumption
      · cases h
    refine t_g @h ?_
    refine t_c1 trivial (count5_ok v hok) ?_
    by_cases hl : 4096 < v.lengthN
    · have h2 : 4096 < min v.lengthN 4097 := by omega
      refine t_g @h2 ?_
      refine t_r ?_
      simp [go_sem, hP, hgl, hn, Val.termE, h, hl, zeroTm] <;> (try omega)
      all_goals exact t_f
    · have h2 : ¬ 4096 < min v.lengthN 4097 := by omega
      refine t_g @h2 ?_
      refine t_c1 trivial (term5_ok v hok) ?_
      refine t_r ?_
      simp [go_sem, hP, hgl, hn, Val.termE, h, hl] <;> (try omega)
      all_goals exact t_f
  · refine t_g @h ?_
    refine t_r ?_
    simp [go_sem, hP, hgl, hn, Val.termE, h, zeroTm] <;> (try omega)
    all_goals exact t_f

theorem number5_ok (t : Tm) (h : t.shape = true) (hc : t.count ≤ 2147483648) : Con1 Tryz.prog gl 93 [t.dv] [] (.tup [dint t.peel.1, dbool (decide (t.peel.2 = 4))]) [] := by
  refine t_in Tryz.func93 ?_
  intro X hP hgl hf hfn hn hR hids hfit
  refine t_g0 ?_
  refine t_a ?_
  refine t_sub [] trivial (W_rounds (fun x : Tm × Nat => t.peel = (x.2 + x.1.peel.1, x.1.peel.2) ∧ x.1.shape = true ∧ x.1.count + x.2 ≤ 2147483648) (fun x : Tm × Nat => [(.slot 4, .one (.v (dint x.2))), (.slot 2, .one (.v (dint 0))), (.slot 3, .one (.v (dbool false))), (.loc 1, .row ([.v (dint x.1.kind), .v (dint x.1.index), .v (dint x.1.type.kind), .v (.sl (x.1.type.args.map Ty.cells)), .v (.sl (x.1.args.map Tm.cells))])), (.slot 1, .one (.loc 1 0))]) (fun x : Tm × Nat => x.1.count) (t, 0) (⟨by simp, h, hc⟩) ?_)
  rintro ⟨u, i⟩ ⟨hp, hu, hb⟩ ih
  simp only at hp hu hb ⊢
  by_cases hk : u.kind = 5
  · obtain ⟨a, ha, has⟩ := Tm.succ_one hu hk
    have hcu : u.count = 1 + (a.count + 0) := by rw [Tm.count_eq, ha]; rfl
    have hpu := Tm.peel_succ u a hk ha
    have hca := Tm.count_pos a
    refine t_gt (wr []) trivial (j2 @hk @ha) (ih (a, i + 1) ⟨by rw [hp, hpu]; simp; omega, has, by simp only; omega⟩ (by simp only; omega))
  · have hpu := Tm.peel_no u hk
    refine t_g @hk ?_
    refine t_r ?_
    simp [go_sem, hP, hgl, hn, hp, hpu] <;> (try omega)

/-- the value of which a term is the term, as the document reads it: it differs where there is none -/
def Tm.readR : Tm → Val × Bool
  | .mk k i ty l =>
    if k = 4 ∨ k = 5 then (Val.mk 1 (Tm.mk k i ty l).peel.1 [] [], decide ((Tm.mk k i ty l).peel.2 = 4))
    else if k = 7 ∨ k = 8 then (match (Tm.mk k i ty l).readL with
      | none => (zeroV, false)
      | some p => (Val.mk 2 0 p.1 [], decide (p.2 = 7)))
    else if k = 10 then (Val.mk 3 0 [] (reads l).1, (reads l).2)
    else (Val.mk 4 0 [] [], decide (k = 13))
where
  reads : List Tm → List Val × Bool
    | [] => ([], true)
    | a :: r => ((a.readR).1 :: (reads r).1, (a.readR).2 && (reads r).2)
theorem Tm.readR_eq (t : Tm) : t.readR = if t.kind = 4 ∨ t.kind = 5 then (Val.mk 1 t.peel.1 [] [], decide (t.peel.2 = 4))
    else if t.kind = 7 ∨ t.kind = 8 then (match t.readL with
      | none => (zeroV, false)
      | some p => (Val.mk 2 0 p.1 [], decide (p.2 = 7)))
    else if t.kind = 10 then (Val.mk 3 0 [] (readR.reads t.args).1, (readR.reads t.args).2)
    else (Val.mk 4 0 [] [], decide (t.kind = 13)) := by cases t; rw [readR]; rfl
theorem Tm.readR_V (t : Tm) : t.readR.2 = t.readV.2 ∧ (t.readV.2 = true → t.readR.1 = t.readV.1) := by
  induction t using Tm.ind with
  | h t ih =>
  rw [readR_eq, readV_eq]
  split
  · exact ⟨rfl, fun _ => rfl⟩
  split
  · cases t.readL <;> exact ⟨rfl, fun _ => rfl⟩
  by_cases h13 : t.kind = 13
  · have h10 : ¬ t.kind = 10 := by omega
    simp [h13]
  by_cases h10 : t.kind = 10
  · rw [if_pos h10, if_neg h13, if_pos h10]
    have key : ∀ l : List Tm, (∀ a ∈ l, a ∈ t.args) → (readR.reads l).2 = (readV.reads l).2 ∧ ((readV.reads l).2 = true → (readR.reads l).1 = (readV.reads l).1) := by
      intro l
      induction l with
      | nil => intro _; exact ⟨rfl, fun _ => rfl⟩
      | cons a r ihr =>
        intro h
        obtain ⟨a1, a2⟩ := ih a (h a (by simp))
        obtain ⟨b1, b2⟩ := ihr fun b hb => h b (by simp [hb])
        simp only [readR.reads, readV.reads]
        refine ⟨by rw [a1, b1], fun hh => ?_⟩
        rw [Bool.and_eq_true] at hh
        rw [a2 hh.1, b2 hh.2]
    obtain ⟨k1, k2⟩ := key t.args fun _ h => h
    exact ⟨k1, fun hh => by simp only at hh ⊢; rw [k2 hh]⟩
  · simp [h13, h10]
theorem Tm.readR_count (t : Tm) : t.readR.1.count ≤ t.count := by
  induction t using Tm.ind with
  | h t ih =>
  have one : ∀ k n l, (Val.mk k n l []).count = 1 := fun k n l => rfl
  have hp := count_pos t
  rw [readR_eq]
  split
  · simp only [one]; omega
  split
  · split <;> simp only [zeroV, one] <;> omega
  split
  · have key : ∀ l : List Tm, (∀ a ∈ l, a ∈ t.args) → Val.count.counts (readR.reads l).1 ≤ count.counts l := by
      intro l
      induction l with
      | nil => intro _; exact Nat.le_refl _
      | cons a r ihr =>
        intro h
        have h1 := ih a (h a (by simp))
        have h2 := ihr fun b hb => h b (by simp [hb])
        simp only [readR.reads, Val.count.counts, count.counts]
        omega
    have := key t.args fun _ h => h
    rw [count_eq t, Val.count_eq]
    simp only [Val.args]
    omega
  · simp only [one]; omega

theorem Tm.readL_pos (t : Tm) : ∀ p, t.readL = some p → ∀ n ∈ p.1, 0 ≤ n := by
  induction t using Tm.ind with
  | h t ih =>
  intro p hp n hn
  by_cases hk : t.kind = 8 ∧ ∃ x r, t.args = [x, r]
  · obtain ⟨hk, x, r, ha⟩ := hk
    rw [readL_cons t x r hk ha] at hp
    split at hp
    · cases hr : r.readL with
      | none => rw [hr] at hp; cases hp
      | some q =>
        rw [hr] at hp
        cases hp
        rcases List.mem_cons.1 hn with rfl | hn
        · omega
        · exact ih r (by rw [ha]; simp) q hr n hn
    · cases hp
  · have : t.readL = some ([], t.kind) := by
      cases t with
      | mk k i ty l =>
        unfold readL
        split
        · rename_i h1
          cases h1
          exact absurd ⟨rfl, _, _, rfl⟩ hk
        · rfl
    rw [this] at hp
    cases hp
    cases hn
theorem Tm.readV_valid (t : Tm) (h : t.shape = true) (hv : t.readV.2 = true) : t.readV.1.nodesN.2 = true := by
  induction t using Tm.ind with
  | h t ih =>
  rw [readV_eq] at hv ⊢
  split at hv
  · rename_i h1
    rw [if_pos h1, Val.nodes_flat rfl]
    simp [Val.okB, Val.kind, Val.num, Val.list, Val.args]
  rename_i h1
  rw [if_neg h1]
  split at hv
  · rename_i h2
    rw [if_pos h2]
    cases hr : t.readL with
    | none => rw [hr] at hv; cases hv
    | some p =>
      have hpos := readL_pos t p hr
      rw [Val.nodes_flat rfl]
      simp [Val.okB, Val.kind, Val.num, Val.list, Val.args]
      exact hpos
  rename_i h2
  rw [if_neg h2]
  split at hv
  · rename_i h3
    rw [if_pos h3]
    rfl
  rename_i h3
  rw [if_neg h3]
  split at hv
  · rename_i h4
    rw [if_pos h4]
    obtain ⟨a, b, ha, sa, sb⟩ := Tm.two_parts h (by rw [h4]; rfl)
    rw [ha] at hv ⊢
    simp only [readV.reads, Bool.and_true, Bool.and_eq_true] at hv ⊢
    rw [Val.nodes_pair (v := Val.mk 3 0 [] [a.readV.1, b.readV.1]) rfl, ih a (by rw [ha]; simp) sa hv.1, ih b (by rw [ha]; simp) sb hv.2]
    rfl
  · cases hv

set_option maxHeartbeats 1000000 in
theorem read5_ok (t : Tm) (h : t.shape = true) (hc : t.count ≤ 1073741824) : Con1 Tryz.prog gl 68 [t.dv] [] (.tup [t.readR.1.dv, dbool t.readR.2]) [] := by
  induction t using Tm.ind with
  | h t ih =>
  refine t_in Tryz.func68 ?_
  intro X hP hgl hf hfn hn hR hids hfit
  by_cases k4 : t.kind = 4
  · have hfd := Tm.fold t
    rw [k4] at hfd
    have hr : t.readR = (Val.mk 1 t.peel.1 [] [], decide (t.peel.2 = 4)) := by rw [Tm.readR_eq]; simp [k4]
    refine t_g @k4 ?_
    refine t_c1 (j2 @k4 @hfd) (number5_ok t h (by omega)) ?_
    refine t_g0 ?_
    refine t_r ?_
    simp [go_sem, hP, hgl, hn, hr] <;> (try omega)
    all_goals exact t_f
  by_cases k5 : t.kind = 5
  · have hfd := Tm.fold t
    rw [k5] at hfd
    have hr : t.readR = (Val.mk 1 t.peel.1 [] [], decide (t.peel.2 = 4)) := by rw [Tm.readR_eq]; simp [k5]
    refine t_g @k5 ?_
    refine t_c1 (j2 @k5 @hfd) (number5_ok t h (by omega)) ?_
    refine t_g0 ?_
    refine t_r ?_
    simp [go_sem, hP, hgl, hn, hr] <;> (try omega)
    all_goals exact t_f
  by_cases k10 : t.kind = 10
  · obtain ⟨a, b, ha, sa, sb⟩ := Tm.two_parts h (by rw [k10]; rfl)
    have hcu : t.count = 1 + (a.count + (b.count + 0)) := by rw [Tm.count_eq, ha]; rfl
    refine t_g @k10 ?_
    refine t_c1 (j2 @k10 @ha) (ih a (by rw [ha]; simp) sa (by omega)) ?_
    refine t_g0 ?_
    refine t_c1 (j2 @k10 @ha) (ih b (by rw [ha]; simp) sb (by omega)) ?_
    have hr : t.readR = (Val.mk 3 0 [] [a.readR.1, b.readR.1], (a.readR.2 && (b.readR.2 && true))) := by rw [Tm.readR_eq]; simp [k10, ha, Tm.readR.reads]
    by_cases hb : a.readR.2 = true
    · refine t_g @hb ?_
      refine t_r ?_
      simp [go_sem, hP, hgl, hn, hr, hb] <;> (try omega)
      all_goals exact t_f
    · refine t_g @hb ?_
      refine t_r ?_
      simp [go_sem, hP, hgl, hn, hr, hb] <;> (try omega)
      all_goals exact t_f
  by_cases k78 : t.kind = 7 ∨ t.kind = 8
  · have hr : t.readR = (match t.readL with
      | none => (zeroV, false)
      | some p => (Val.mk 2 0 p.1 [], decide (p.2 = 7))) := by
      rw [Tm.readR_eq]; rw [if_neg (by omega), if_pos k78]
    refine t_g (j2 @k4 @k5) ?_
    repeat (first | refine W_seq ?_ | refine W_skip ?_ | refine W_inBlock ?_ | refine W_label ?_)
    refine W_cut [(.slot 26, .one (.v (dbool true))), (.loc 1, .row ([.v (dint t.kind), .v (dint t.index), .v (dint t.type.kind), .v (.sl (t.type.args.map Ty.cells)), .v (.sl (t.args.map Tm.cells))])), (.slot 1, .one (.loc 1 0)), (.loc 2, .row ([.v (dint 0), .v (dint 0), .own 0 [], .own 0 []])), (.slot 2, .one (.loc 2 0)), (.slot 3, .one (.v (dbool false)))] ?_ ?_
    · intro hrest
      by_cases k7 : t.kind = 7
      · refine t_gt (wr []) @k7 @k7 hrest
      · have k8 : t.kind = 8 := by omega
        refine t_gt (wr []) @k8 @k8 hrest
    · refine t_g0 ?_
      refine t_a ?_
      refine W_sub [(1006, 0)] (by simp [go_sem]) (by simp [go_sem, ints] <;> omega) (by simp [go_sem]) (W_rounds (fun x : Tm × List Int => t.readL = (x.1.readL).map (fun p => (x.2 ++ p.1, p.2)) ∧ x.1.shape = true ∧ x.1.count + x.2.length ≤ 1073741824) (fun x : Tm × List Int => [(.loc 6, .row ([.v (dint 2), .v (dint 0), .own 1006 (ints x.2), .own 0 []])), (.slot 6, .one (.loc 6 0)), (.tok 1006, .tk 1 x.2.length), (.loc 1, .row ([.v (dint x.1.kind), .v (dint x.1.index), .v (dint x.1.type.kind), .v (.sl (x.1.type.args.map Ty.cells)), .v (.sl (x.1.args.map Tm.cells))])), (.slot 1, .one (.loc 1 0)), (.loc 2, .row ([.v (dint 0), .v (dint 0), .own 0 [], .own 0 []])), (.slot 2, .one (.loc 2 0)), (.slot 3, .one (.v (dbool false)))]) (fun x : Tm × List Int => x.1.count) (t, []) (⟨by cases t.readL <;> simp, h, by simpa using hc⟩) ?_)
      rintro ⟨u, l⟩ ⟨hp, hu, hb⟩ ih2
      simp only at hp hu hb ⊢
      by_cases k8 : u.kind = 8
      · obtain ⟨x, r, ha, sx, sr⟩ := Tm.two_parts hu (by rw [k8]; rfl)
        have hcu : u.count = 1 + (x.count + (r.count + 0)) := by rw [Tm.count_eq, ha]; rfl
        have hcx := Tm.count_pos x
        have hrl := Tm.readL_cons u x r k8 ha
        refine t_g @k8 ?_
        refine t_c1 (j2 @k8 @ha) (number5_ok x sx (by omega)) ?_
        by_cases h4 : x.peel.2 = 4
        · rw [if_pos h4] at hrl
          repeat (first | (refine W_sub [(1006, 48)] (by simp [go_sem]) (by simp [go_sem, ints] <;> omega) (by simp [go_sem]) (ih2 (r, l ++ [(x.peel.1 : Int)]) ⟨by rw [hp, hrl]; cases r.readL <;> simp, sr, by simp only [List.length_append, List.length_singleton]; omega⟩ (by simp only; omega))) | refine W_seq ?_ | refine W_skip ?_ | refine W_block ?_ | refine W_inBlock ?_ | refine W_label ?_ | refine W_exit rfl ?_ | ((first | refine W_reg [] fun K hK => ?_ | refine W_regd (by rw [hP]; exact mixed) [] fun K hK => ?_); simp [go_sem, hP, hgl, hn, h4, ha]; (repeat (refine ⟨by omega, ?_⟩)); (first | refine hK _ ?_ | refine ⟨by rfl, hK _ ?_⟩); clear hK K) | refine W_cond rfl (fun _ => ?_) (fun hq => False.elim (by first | (simp [h4, ha]; done) | (simp [h4, ha]; omega) | (simp [h4, ha] at hq; done) | (simp [h4, ha] at hq; omega))) | refine W_cond rfl (fun hq => False.elim (by first | (simp [h4, ha]; done) | (simp [h4, ha]; omega) | (simp [h4, ha] at hq; done) | (simp [h4, ha] at hq; omega))) (fun _ => ?_))
        · rw [if_neg h4] at hrl
          refine t_g @h4 ?_
          refine t_r ?_
          simp [go_sem, hP, hgl, hn, hr, hp, hrl, zeroV] <;> (try omega)
          all_goals exact t_f
      · have hrl := Tm.readL_no u k8
        refine t_g @k8 ?_
        refine t_r ?_
        simp [go_sem, hP, hgl, hn, hr, hp, hrl] <;> (try omega)
        all_goals exact t_f
  · have k7 : t.kind ≠ 7 := fun e => k78 (.inl e)
    have k8 : t.kind ≠ 8 := fun e => k78 (.inr e)
    refine t_g (j2 @k4 (j2 @k5 (j2 @k7 (j2 @k8 @k10)))) ?_
    refine t_r ?_
    simp [go_sem, hP, hgl, hn, Tm.readR_eq, k4, k5, k7, k8, k10] <;> (try omega)
    all_goals exact t_f

theorem readE5_ok (t : Tm) (ht : t.tys) (hc : t.count ≤ 1073741824) : Con1 Tryz.prog gl 25 [t.dv] [] (.tup [t.readE.1.dv, dint t.readE.2]) [] := by
  refine t_in Tryz.func25 ?_
  intro X hP hgl hf hfn hn hR hids hfit
  refine t_g0 ?_
  refine t_c1 trivial (ref02_check_ok t ht (by omega)) ?_
  by_cases h : t.checkN = 0
  · have hsh : t.shape = true := by
      unfold Tm.checkN at h
      split at h
      · assumption
      · cases h
    have hcv := t.readR_count
    obtain ⟨hr2, hr1⟩ := t.readR_V
    refine t_g @h ?_
    refine t_c1 trivial (read5_ok t hsh hc) ?_
    by_cases h2 : t.readV.2 = true
    · have hval := t.readV_valid hsh h2
      have hnc := Val.nodes_count _ hval
      rw [h2] at hr2
      have hr1' := hr1 h2
      refine t_g @hr2 ?_
      refine t_c1 trivial (nodes5_ok t.readR.1 (by omega)) ?_
      by_cases h3 : 64 < t.readR.1.count
      · have h4 : 64 < t.readV.1.nodesN.1 := by rw [hnc, ← hr1']; omega
        refine t_g @h3 ?_
        refine t_r ?_
        simp [go_sem, hP, hgl, hn, Tm.readE, h, h2, h4, zeroV] <;> (try omega)
        all_goals exact t_f
      · have h4 : ¬ 64 < t.readV.1.nodesN.1 := by rw [hnc, ← hr1']; omega
        refine t_g @h3 ?_
        refine t_r ?_
        simp [go_sem, hP, hgl, hn, Tm.readE, h, h2, h4, hr1'] <;> (try omega)
    · have h2' : t.readV.2 = false := by simpa using h2
      rw [h2'] at hr2
      refine t_g @hr2 ?_
      refine t_r ?_
      simp [go_sem, hP, hgl, hn, Tm.readE, h, h2', zeroV] <;> (try omega)
      all_goals exact t_f
  · refine t_g @h ?_
    refine t_r ?_
    simp [go_sem, hP, hgl, hn, Tm.readE, h, zeroV] <;> (try omega)
    all_goals exact t_f

theorem app5_ok (f a b : Tm) : Con1 Tryz.prog gl 80 [f.dv, a.dv, b.dv] [] (appsT f [a, b]).dv [] := by
  refine t_in Tryz.func80 ?_
  intro X hP hgl hf hfn hn hR hids hfit
  refine t_g0 ?_
  refine t_c2 trivial (ref02_n_ok 3 [f, a]) (ref02_n_ok 3 [Tm.mk 3 0 (Ty.mk 0 []) [f, a], b]) ?_
  refine t_r ?_
  simp [go_sem, hP, hgl, hn, appsT, appT] <;> (try omega)
  all_goals exact t_f
theorem times_eq : lamN (lamN (recN (nT 4 []) (lamN (lamN (appsT plusT [vT 0, vT 3]))) (vT 0))) = timesT := rfl
theorem dist_eq : lamN (lamN (appsT plusT [appsT subT [vT 1, vT 0], appsT subT [vT 0, vT 1]])) = distT := rfl
theorem ref05_times_ok : Con1 Tryz.prog gl 34 [] [] timesT.dv [] := by
  refine t_in Tryz.func34 ?_
  intro X hP hgl hf hfn hn hR hids hfit
  refine t_g0 ?_
  refine t_c11 trivial (n5 4 []) ref05_plus_ok (var5 0) (var5 3) (app5_ok plusT (vT 0) (vT 3)) (lam5' (appsT plusT [vT 0, vT 3])) (lam5' (lamN (appsT plusT [vT 0, vT 3]))) (var5 0) (rec5' (nT 4 []) (lamN (lamN (appsT plusT [vT 0, vT 3]))) (vT 0)) (lam5' (recN (nT 4 []) (lamN (lamN (appsT plusT [vT 0, vT 3]))) (vT 0))) (lam5' (lamN (recN (nT 4 []) (lamN (lamN (appsT plusT [vT 0, vT 3]))) (vT 0)))) ?_
  refine t_r ?_
  simp [go_sem, hP, hgl, hn, times_eq] <;> (try omega)
theorem ref05_dist_ok : Con1 Tryz.prog gl 38 [] [] distT.dv [] := by
  refine t_in Tryz.func38 ?_
  intro X hP hgl hf hfn hn hR hids hfit
  refine t_g0 ?_
  refine t_c12 trivial ref05_plus_ok ref05_sub_ok (var5 1) (var5 0) (app5_ok subT (vT 1) (vT 0)) ref05_sub_ok (var5 0) (var5 1) (app5_ok subT (vT 0) (vT 1)) (app5_ok plusT (appsT subT [vT 1, vT 0]) (appsT subT [vT 0, vT 1])) (lam5' (appsT plusT [appsT subT [vT 1, vT 0], appsT subT [vT 0, vT 1]])) (lam5' (lamN (appsT plusT [appsT subT [vT 1, vT 0], appsT subT [vT 0, vT 1]]))) ?_
  refine t_r ?_
  simp [go_sem, hP, hgl, hn, dist_eq] <;> (try omega)
end Go.Proofs.YtbmnlkfgkdallaaGreatDoor.Lift
