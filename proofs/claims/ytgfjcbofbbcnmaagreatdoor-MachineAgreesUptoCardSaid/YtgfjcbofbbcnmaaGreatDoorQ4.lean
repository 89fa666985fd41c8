import Derived.Test.YtgfjcbofbbcnmaaGreatDoorQ3
namespace Go.Proofs.YtgfjcbofbbcnmaaGreatDoor.Lift
set_option linter.unusedSimpArgs false
set_option linter.unusedVariables false
set_option linter.unnecessarySimpa false
open Go
variable {gl : Globs}

def appT (f a : Tm) : Tm := Tm.mk 3 0 (Ty.mk 0 []) [f, a]

/-- what a redex becomes -/
def Tm.reducedN (t : Tm) : Tm :=
  if t.kind = 3 then ((t.argN 0).argN 0).inN 0 0 (t.argN 1)
  else if t.kind = 6 then
    if (t.argN 2).kind = 4 then t.argN 0
    else appT (appT (t.argN 1) ((t.argN 2).argN 0)) (Tm.mk 6 0 t.type [t.argN 0, t.argN 1, (t.argN 2).argN 0])
  else if t.kind = 9 then
    if (t.argN 2).kind = 7 then t.argN 0
    else appT (appT (appT (t.argN 1) ((t.argN 2).argN 0)) ((t.argN 2).argN 1)) (Tm.mk 9 0 t.type [t.argN 0, t.argN 1, (t.argN 2).argN 1])
  else if t.kind = 11 then (t.argN 0).argN 0
  else (t.argN 0).argN 1

/-- how many nodes more it has then -/
def Tm.growthN (t : Tm) : Int :=
  if t.kind = 3 then ((t.argN 0).argN 0).count + ((t.argN 0).argN 0).timesN 0 * ((t.argN 1).count - 1 : Int) - t.count
  else if t.kind = 6 then
    if (t.argN 2).kind = 4 then ((t.argN 0).count : Int) - t.count
    else 2 + (t.argN 1).count + ((t.argN 2).argN 0).count + t.count - 1 - t.count
  else if t.kind = 9 then
    if (t.argN 2).kind = 7 then ((t.argN 0).count : Int) - t.count
    else 3 + (t.argN 1).count + ((t.argN 2).argN 0).count + ((t.argN 2).argN 1).count + t.count - 1 - ((t.argN 2).argN 0).count - t.count
  else if t.kind = 11 then (((t.argN 0).argN 0).count : Int) - t.count
  else (((t.argN 0).argN 1).count : Int) - t.count

theorem ref02_t_ok (k : Int) (s : Ty) (l : List Tm) : Con1 Tryz.prog gl 18 [dint k, s.dv, .sl (l.map Tm.cells)] [] (Tm.mk k 0 s l).dv [] := by
  refine t_in Tryz.func18 ?_
  intro X hP hgl hf hfn hn hR hids hfit
  refine t_g0 ?_
  refine t_c1 trivial (ref02_n_ok k l) ?_
  refine t_g0 ?_
  refine t_c1 trivial (ref01_copy_ok s) ?_
  refine t_g0 ?_
  refine t_r ?_
  simp [go_sem, hP, hgl, hn] <;> (try omega)
  all_goals exact t_f

theorem count2 {t x y : Tm} (h : t.args = [x, y]) : t.count = 1 + (x.count + (y.count + 0)) := by rw [Tm.count_eq, h]; rfl
theorem count3 {t x y z : Tm} (h : t.args = [x, y, z]) : t.count = 1 + (x.count + (y.count + (z.count + 0))) := by rw [Tm.count_eq, h]; rfl
theorem count1 {t x : Tm} (h : t.args = [x]) : t.count = 1 + (x.count + 0) := by rw [Tm.count_eq, h]; rfl

theorem growth_ok (t : Tm) (ht : t.shape = true) (hr : t.rootN = true) (hc : t.count ≤ 1048576) : Con1 Tryz.prog gl 55 [t.dv] [] (dint t.growthN) [] := by
  have hs := (Tm.shape_node ht).2.2.2.2
  refine t_in Tryz.func55 ?_
  intro X hP hgl hf hfn hn hR hids hfit
  refine t_g0 ?_
  refine t_c1 trivial (ref02_count_ok t (by omega)) ?_
  by_cases h3 : t.kind = 3
  · obtain ⟨x, y, hx⟩ := Tm.parts2 ht (by rw [h3]; rfl)
    have hk : x.kind = 2 := by simpa [Tm.rootN, h3, Tm.argN, hx] using hr
    obtain ⟨b, hb⟩ := Tm.parts1 (hs x (by rw [hx]; simp)) (by rw [hk]; rfl)
    have c1 := count2 hx
    have c2 := count1 hb
    have c3 := Tm.timesN_le b 0
    have c4 := Tm.count_pos y
    have c5 : 0 ≤ (b.timesN 0 : Int) * ((y.count : Int) - 1) ∧ (b.timesN 0 : Int) * ((y.count : Int) - 1) ≤ 1099511627776 := by
      have e : (b.timesN 0 : Int) * ((y.count : Int) - 1) = ((b.timesN 0 * (y.count - 1) : Nat) : Int) := by
        rw [Int.natCast_mul]; congr 1; omega
      rw [e]
      have := Nat.mul_le_mul (show b.timesN 0 ≤ 1048576 by omega) (show y.count - 1 ≤ 1048576 by omega)
      omega
    refine t_g (j2 @h3 (j2 @hx @hb)) ?_
    refine t_c3 trivial (ref02_count_ok b (by omega)) (times_ok b 0 (by omega) (by omega) (by omega)) (ref02_count_ok y (by omega)) ?_
    refine t_r ?_
    simp [go_sem, hP, hgl, hn, Tm.growthN, h3, Tm.argN, hx, hb] <;> (try omega)
  by_cases h6 : t.kind = 6
  · obtain ⟨x, y, z, hx⟩ := Tm.parts3 ht (by rw [h6]; rfl)
    have c1 := count3 hx
    by_cases hz : z.kind = 4
    · refine t_g (j2 @h6 (j2 @hx @hz)) ?_
      refine t_c1 (j2 @h6 @hx) (ref02_count_ok x (by omega)) ?_
      refine t_r ?_
      simp [go_sem, hP, hgl, hn, Tm.growthN, h6, Tm.argN, hx, hz] <;> (try omega)
    · have hz5 : z.kind = 5 := by
        have : z.kind = 4 ∨ z.kind = 5 := by simpa [Tm.rootN, h6, Tm.argN, hx] using hr
        exact this.resolve_left hz
      obtain ⟨n, hn0⟩ := Tm.parts1 (hs z (by rw [hx]; simp)) (by rw [hz5]; rfl)
      have c2 := count1 hn0
      refine t_g (j2 @h6 (j2 @hx @hz)) ?_
      refine t_c2 (j2 @h6 (j2 @hx @hn0)) (ref02_count_ok y (by omega)) (ref02_count_ok n (by omega)) ?_
      refine t_r ?_
      simp [go_sem, hP, hgl, hn, Tm.growthN, h6, Tm.argN, hx, hz, hn0] <;> (try omega)
  by_cases h9 : t.kind = 9
  · obtain ⟨x, y, z, hx⟩ := Tm.parts3 ht (by rw [h9]; rfl)
    have c1 := count3 hx
    by_cases hz : z.kind = 7
    · refine t_g (j2 @h9 (j2 @hx @hz)) ?_
      refine t_c1 (j2 @h9 @hx) (ref02_count_ok x (by omega)) ?_
      refine t_r ?_
      simp [go_sem, hP, hgl, hn, Tm.growthN, h9, Tm.argN, hx, hz] <;> (try omega)
    · have hz5 : z.kind = 8 := by
        have : z.kind = 7 ∨ z.kind = 8 := by simpa [Tm.rootN, h9, Tm.argN, hx] using hr
        exact this.resolve_left hz
      obtain ⟨n, r, hn0⟩ := Tm.parts2 (hs z (by rw [hx]; simp)) (by rw [hz5]; rfl)
      have c2 := count2 hn0
      refine t_g (j2 @h9 (j2 @hx (j2 @hz @hn0))) ?_
      refine t_c4 (j2 @h9 (j2 @hx @hn0)) (ref02_count_ok y (by omega)) (ref02_count_ok n (by omega)) (ref02_count_ok r (by omega)) (ref02_count_ok n (by omega)) ?_
      refine t_r ?_
      simp [go_sem, hP, hgl, hn, Tm.growthN, h9, Tm.argN, hx, hz, hn0] <;> (try omega)
  by_cases h11 : t.kind = 11
  · obtain ⟨x, hx⟩ := Tm.parts1 ht (by rw [h11]; rfl)
    have hk : x.kind = 10 := by simpa [Tm.rootN, h11, Tm.argN, hx] using hr
    obtain ⟨p, q, hp⟩ := Tm.parts2 (hs x (by rw [hx]; simp)) (by rw [hk]; rfl)
    have c1 := count1 hx
    have c2 := count2 hp
    refine t_g (j2 @h11 (j2 @hx @hp)) ?_
    refine t_c1 (j2 @h11 (j2 @hx @hp)) (ref02_count_ok p (by omega)) ?_
    refine t_r ?_
    simp [go_sem, hP, hgl, hn, Tm.growthN, h11, Tm.argN, hx, hp] <;> (try omega)
  have h12 : t.kind = 12 := by
    by_cases h : t.kind = 12
    · exact h
    · simp [Tm.rootN, h3, h6, h9, h11, h] at hr
  obtain ⟨x, hx⟩ := Tm.parts1 ht (by rw [h12]; rfl)
  have hk : x.kind = 10 := by simpa [Tm.rootN, h12, Tm.argN, hx] using hr
  obtain ⟨p, q, hp⟩ := Tm.parts2 (hs x (by rw [hx]; simp)) (by rw [hk]; rfl)
  have c1 := count1 hx
  have c2 := count2 hp
  refine t_g (j2 @h12 (j2 @hx @hp)) ?_
  refine t_c1 (j2 @h12 (j2 @hx @hp)) (ref02_count_ok q (by omega)) ?_
  refine t_r ?_
  simp [go_sem, hP, hgl, hn, Tm.growthN, h12, Tm.argN, hx, hp] <;> (try omega)

theorem reduced_ok (t : Tm) (ht : t.shape = true) (hr : t.rootN = true) (hi : t.idx 549755813888) (hc : t.count ≤ 1048576) : Con1 Tryz.prog gl 56 [t.dv] [] t.reducedN.dv [] := by
  have hs := (Tm.shape_node ht).2.2.2.2
  have hi2 := ((Tm.idx_eq t _).1 hi).2
  refine t_in Tryz.func56 ?_
  intro X hP hgl hf hfn hn hR hids hfit
  by_cases h3 : t.kind = 3
  · obtain ⟨x, y, hx⟩ := Tm.parts2 ht (by rw [h3]; rfl)
    have hk : x.kind = 2 := by simpa [Tm.rootN, h3, Tm.argN, hx] using hr
    obtain ⟨b, hb⟩ := Tm.parts1 (hs x (by rw [hx]; simp)) (by rw [hk]; rfl)
    have c1 := count2 hx
    have c2 := count1 hb
    have ib : b.idx 1099511627776 := Tm.idx_mono (by omega) (((Tm.idx_eq x _).1 (hi2 x (by rw [hx]; simp))).2 b (by rw [hb]; simp))
    have iy : y.idx 1099511627776 := Tm.idx_mono (by omega) (hi2 y (by rw [hx]; simp))
    refine t_g (j2 @h3 (j2 @hx @hb)) ?_
    refine t_c1 (j2 @h3 (j2 @hx @hb)) (in_ok b 0 0 y ib iy (by omega) (by omega) (by omega)) ?_
    refine t_r ?_
    simp [go_sem, hP, hgl, hn, Tm.reducedN, h3, Tm.argN, hx, hb] <;> (try omega)
    all_goals exact t_f
  by_cases h6 : t.kind = 6
  · obtain ⟨x, y, z, hx⟩ := Tm.parts3 ht (by rw [h6]; rfl)
    by_cases hz : z.kind = 4
    · refine t_g (j2 @h6 (j2 @hx @hz)) ?_
      refine t_r ?_
      simp [go_sem, hP, hgl, hn, Tm.reducedN, h6, Tm.argN, hx, hz] <;> (try omega)
      all_goals exact t_f
    · have hz5 : z.kind = 5 := by
        have : z.kind = 4 ∨ z.kind = 5 := by simpa [Tm.rootN, h6, Tm.argN, hx] using hr
        exact this.resolve_left hz
      obtain ⟨n, hn0⟩ := Tm.parts1 (hs z (by rw [hx]; simp)) (by rw [hz5]; rfl)
      refine t_g (j2 @h6 (j2 @hx (j2 @hz @hn0))) ?_
      refine t_c3 (j2 @h6 (j2 @hx @hn0)) (ref02_n_ok 3 [y, n]) (ref02_t_ok 6 t.type [x, y, n]) (ref02_n_ok 3 [Tm.mk 3 0 (Ty.mk 0 []) [y, n], Tm.mk 6 0 t.type [x, y, n]]) ?_
      refine t_r ?_
      simp [go_sem, hP, hgl, hn, Tm.reducedN, h6, Tm.argN, hx, hz, hn0, appT] <;> (try omega)
      all_goals exact t_f
  by_cases h9 : t.kind = 9
  · obtain ⟨x, y, z, hx⟩ := Tm.parts3 ht (by rw [h9]; rfl)
    by_cases hz : z.kind = 7
    · refine t_g (j2 @h9 (j2 @hx @hz)) ?_
      refine t_r ?_
      simp [go_sem, hP, hgl, hn, Tm.reducedN, h9, Tm.argN, hx, hz] <;> (try omega)
      all_goals exact t_f
    · have hz5 : z.kind = 8 := by
        have : z.kind = 7 ∨ z.kind = 8 := by simpa [Tm.rootN, h9, Tm.argN, hx] using hr
        exact this.resolve_left hz
      obtain ⟨n, r, hn0⟩ := Tm.parts2 (hs z (by rw [hx]; simp)) (by rw [hz5]; rfl)
      refine t_g (j2 @h9 (j2 @hx (j2 @hz @hn0))) ?_
      refine t_c4 (j2 @h9 (j2 @hx @hn0)) (ref02_n_ok 3 [y, n]) (ref02_n_ok 3 [Tm.mk 3 0 (Ty.mk 0 []) [y, n], r]) (ref02_t_ok 9 t.type [x, y, r]) (ref02_n_ok 3 [Tm.mk 3 0 (Ty.mk 0 []) [Tm.mk 3 0 (Ty.mk 0 []) [y, n], r], Tm.mk 9 0 t.type [x, y, r]]) ?_
      refine t_r ?_
      simp [go_sem, hP, hgl, hn, Tm.reducedN, h9, Tm.argN, hx, hz, hn0, appT] <;> (try omega)
      all_goals exact t_f
  by_cases h11 : t.kind = 11
  · obtain ⟨x, hx⟩ := Tm.parts1 ht (by rw [h11]; rfl)
    have hk : x.kind = 10 := by simpa [Tm.rootN, h11, Tm.argN, hx] using hr
    obtain ⟨p, q, hp⟩ := Tm.parts2 (hs x (by rw [hx]; simp)) (by rw [hk]; rfl)
    refine t_g (j2 @h11 (j2 @hx @hp)) ?_
    refine t_r ?_
    simp [go_sem, hP, hgl, hn, Tm.reducedN, h11, Tm.argN, hx, hp] <;> (try omega)
    all_goals exact t_f
  have h12 : t.kind = 12 := by
    by_cases h : t.kind = 12
    · exact h
    · simp [Tm.rootN, h3, h6, h9, h11, h] at hr
  obtain ⟨x, hx⟩ := Tm.parts1 ht (by rw [h12]; rfl)
  have hk : x.kind = 10 := by simpa [Tm.rootN, h12, Tm.argN, hx] using hr
  obtain ⟨p, q, hp⟩ := Tm.parts2 (hs x (by rw [hx]; simp)) (by rw [hk]; rfl)
  refine t_g (j2 @h12 (j2 @hx @hp)) ?_
  refine t_r ?_
  simp [go_sem, hP, hgl, hn, Tm.reducedN, h12, Tm.argN, hx, hp] <;> (try omega)
  all_goals exact t_f
end Go.Proofs.YtgfjcbofbbcnmaaGreatDoor.Lift

namespace Go.Proofs.YtgfjcbofbbcnmaaGreatDoor.Lift
set_option linter.unusedSimpArgs false
set_option linter.unusedVariables false
set_option linter.unnecessarySimpa false
open Go
variable {gl : Globs}

def lamsT (b : Tm) (l : List Ty) : Tm := l.foldr (fun s b => Tm.mk 2 0 s [b]) b
def appsT (f : Tm) (l : List Tm) : Tm := l.foldl appT f
theorem appsT_snoc (f : Tm) (l : List Tm) (x : Tm) : appsT f (l ++ [x]) = appT (appsT f l) x := by simp [appsT]
theorem appsT_nil (f : Tm) : appsT f [] = f := rfl
theorem mk_app_ok (f : Tm) (l : List Tm) : Con1 Tryz.prog gl 24 [f.dv, .sl (l.map Tm.cells)] [] (appsT f l).dv [] := by
  refine t_in Tryz.func24 ?_
  intro X hP hgl hf hfn hn hR hids hfit
  have hlen := sl_len (hfit (.sl (l.map Tm.cells)) (by simp))
  simp only [List.length_map] at hlen
  refine t_g0 ?_
  refine t_a ?_
  refine t_sub [] @appsT_nil (W_list (l) (fun done rest => [(.slot 9, .one (.v (dint done.length))), (.slot 8, .one (.v (dint l.length))), (.slot 7, .one (.v (.sl (l.map Tm.cells)))), (.loc 2, .row ([.v (dint (appsT f done).kind), .v (dint (appsT f done).index), .v (dint (appsT f done).type.kind), .v (.sl ((appsT f done).type.args.map Ty.cells)), .v (.sl ((appsT f done).args.map Tm.cells))])), (.slot 2, .one (.loc 2 0)), (.loc 4, .row ([.v (dint 0), .v (dint 0), .v (dint 0), .own 0 [], .own 0 []])), (.slot 4, .one (.loc 4 0))]) ?_ ?_)
  · intro done x rest hL hg0 hnext
    have hlt : done.length < l.length := by rw [hL]; simp
    refine t_rg0 ?_
    refine t_yes ?_
    refine t_g @hg0 ?_
    refine t_c1 @hg0 (ref02_n_ok 3 [appsT f done, x]) ?_
    repeat (first | (refine W_sub [] (by simp [go_sem]) (by simp [go_sem, appsT_snoc, appT, Tm.kind_mk, Tm.index_mk, Tm.type_mk, Tm.args_mk] <;> omega) (by simp [go_sem]) hnext) | refine W_seq ?_ | refine W_skip ?_ | refine W_block ?_ | refine W_inBlock ?_ | refine W_label ?_ | refine W_exit rfl ?_ | ((first | refine W_reg [] fun K hK => ?_ | refine W_regd (by rw [hP]; exact mixed) [] fun K hK => ?_); simp [go_sem, hP, hgl, hn]; (repeat (refine ⟨by omega, ?_⟩)); (first | refine hK _ ?_ | refine ⟨by rfl, hK _ ?_⟩); clear hK K) | refine W_cond rfl (fun _ => ?_) (fun hq => False.elim (by first | (simp; done) | (simp; omega) | (simp at hq; done) | (simp at hq; omega))) | refine W_cond rfl (fun hq => False.elim (by first | (simp; done) | (simp; omega) | (simp at hq; done) | (simp at hq; omega))) (fun _ => ?_))
  · refine t_rg0 ?_
    refine t_no ?_
    refine t_g0 ?_
    refine t_r ?_
    simp [go_sem, hP, hgl, hn] <;> (try omega)
    all_goals exact t_f

def vT (i : Int) : Tm := Tm.mk 1 i (Ty.mk 0 []) []
def nT (k : Int) (l : List Tm) : Tm := Tm.mk k 0 (Ty.mk 0 []) l
def recT (b s o : Tm) : Tm := Tm.mk 6 0 (Ty.mk 1 []) [b, lamsT s [Ty.mk 1 [], Ty.mk 1 []], o]
def twoT (b : Tm) : Tm := lamsT b [Ty.mk 1 [], Ty.mk 1 []]
def predT : Tm := lamsT (recT (nT 4 []) (vT 1) (vT 0)) [Ty.mk 1 []]
def plusT : Tm := twoT (recT (vT 1) (nT 5 [vT 0]) (vT 0))
def subT : Tm := twoT (recT (vT 1) (appsT predT [vT 0]) (vT 0))
end Go.Proofs.YtgfjcbofbbcnmaaGreatDoor.Lift

namespace Go.Proofs.YtgfjcbofbbcnmaaGreatDoor.Lift
set_option linter.unusedSimpArgs false
set_option linter.unusedVariables false
set_option linter.unnecessarySimpa false
open Go
variable {gl : Globs}

theorem plainD_cases (l : List Int) (p : Nat) : (plainD l p).1 = Ty.mk 1 [] ∨ (plainD l p).1 = Ty.mk 2 [] ∨ (plainD l p).1 = Ty.mk 5 [] ∨ (plainD l p).1 = Ty.mk 3 [Ty.mk 1 [], Ty.mk 2 []] ∨ (plainD l p).1 = Ty.mk 3 [Ty.mk 1 [], Ty.mk 1 []] := by
  unfold plainD
  generalize nextD l p 6 = q
  obtain ⟨k, p'⟩ := q
  simp only
  by_cases h1 : k = 0 ∨ k = 1
  · rw [if_pos h1]; simp
  · rw [if_neg h1]
    by_cases h2 : k = 2
    · rw [if_pos h2]; simp
    · rw [if_neg h2]
      by_cases h3 : k = 3
      · rw [if_pos h3]; simp
      · rw [if_neg h3]
        by_cases h4 : k = 4
        · rw [if_pos h4]; simp
        · rw [if_neg h4]; simp
theorem numTm_count : ∀ n : Nat, (numTm n).count = n + 1
  | 0 => rfl
  | n + 1 => by rw [numTm, Tm.count_eq]; simp [Tm.args, Tm.count.counts, numTm_count n]; omega
end Go.Proofs.YtgfjcbofbbcnmaaGreatDoor.Lift

/-
  Plain facts: the terms of small values.
-/
namespace Go.Proofs.YtgfjcbofbbcnmaaGreatDoor.Lift
set_option linter.unusedSimpArgs false
set_option linter.unusedVariables false
set_option linter.unnecessarySimpa false
open Go

theorem num_shape : ∀ n : Nat, (numTm n).shape = true
  | 0 => rfl
  | n + 1 => by
    rw [numTm, Tm.shape_eq]
    simp [Tm.kind, Tm.index, Tm.type, Tm.args, Tm.shape.shapes, num_shape n, tmKind, tyOfKind, arityI, Ty.zero, Ty.kind, Ty.args]
end Go.Proofs.YtgfjcbofbbcnmaaGreatDoor.Lift

/-
  Plain law: what typed terms denote.
-/
namespace Go.Proofs.YtgfjcbofbbcnmaaGreatDoor.Lift
set_option linter.unusedSimpArgs false
set_option linter.unusedVariables false
set_option linter.unnecessarySimpa false
open Go

/-- simple types -/
inductive T where
  | nat | list | unit
  | pair (a b : T)
  | fn (a b : T)
  deriving DecidableEq
namespace T
set_option linter.unusedSimpArgs false
set_option linter.unusedVariables false
set_option linter.unnecessarySimpa false
def ty : T → Ty
  | nat => Ty.mk 1 []
  | list => Ty.mk 2 []
  | unit => Ty.mk 5 []
  | pair a b => Ty.mk 3 [a.ty, b.ty]
  | fn a b => Ty.mk 4 [a.ty, b.ty]
/-- the values of a type -/
def V : T → Type
  | nat => Nat
  | list => List Nat
  | unit => Unit
  | pair a b => a.V × b.V
  | fn a b => a.V → b.V
def size : T → Nat
  | nat => 1
  | list => 1
  | unit => 1
  | pair a b => 1 + a.size + b.size
  | fn a b => 1 + a.size + b.size
theorem ty_count (a : T) : a.ty.count = a.size := by
  induction a with
  | nat => rfl
  | list => rfl
  | unit => rfl
  | pair a b iha ihb => show 1 + (a.ty.count + (b.ty.count + 0)) = _; simp only [size]; omega
  | fn a b iha ihb => show 1 + (a.ty.count + (b.ty.count + 0)) = _; simp only [size]; omega
theorem ty_shape (a : T) : a.ty.shape = true := by
  induction a with
  | nat => rfl
  | list => rfl
  | unit => rfl
  | pair a b iha ihb => simp [ty, Ty.shape, Ty.shape.shapes, tyKind, iha, ihb]
  | fn a b iha ihb => simp [ty, Ty.shape, Ty.shape.shapes, tyKind, iha, ihb]
/-- small enough to be written -/
def ok (a : T) : Prop := a.size ≤ 64
theorem ok_ty {a : T} (h : a.ok) : a.ty.ok := ⟨a.ty_shape, by rw [ty_count]; exact h⟩
theorem of_shape (s : Ty) (h : s.shape = true) : ∃ a : T, a.ty = s := by
  induction s using Ty.ind with
  | h s ih =>
  cases s with
  | mk k ts =>
    have h1 := h
    rw [Ty.shape_eq, Bool.and_eq_true, Ty.shapes_iff] at h1
    obtain ⟨h2, h3⟩ := h1
    unfold tyKind at h2
    simp [Ty.kind, Ty.args] at h2
    rcases h2 with ⟨h2, rfl⟩ | ⟨h2, h4⟩
    · rcases of_decide_eq_true h2 with rfl | rfl | rfl
      · exact ⟨nat, rfl⟩
      · exact ⟨list, rfl⟩
      · exact ⟨unit, rfl⟩
    · match ts, h4, ih, h3 with
      | [x, y], _, ih, h3 =>
        obtain ⟨a, rfl⟩ := ih x (by simp [Ty.args]) (h3 x (by simp [Ty.args]))
        obtain ⟨b, rfl⟩ := ih y (by simp [Ty.args]) (h3 y (by simp [Ty.args]))
        rcases of_decide_eq_true h2 with rfl | rfl
        · exact ⟨pair a b, rfl⟩
        · exact ⟨fn a b, rfl⟩
theorem ty_inj : ∀ {a b : T}, a.ty = b.ty → a = b := by
  intro a
  induction a with
  | nat => intro b h; cases b <;> simp [ty] at h <;> rfl
  | list => intro b h; cases b <;> simp [ty] at h <;> rfl
  | unit => intro b h; cases b <;> simp [ty] at h <;> rfl
  | pair x y ihx ihy => intro b h; cases b <;> simp [ty] at h; rw [ihx h.1, ihy h.2]
  | fn x y ihx ihy => intro b h; cases b <;> simp [ty] at h; rw [ihx h.1, ihy h.2]
end T

/-- values of variables: the last one first -/
def Env : List T → Type
  | [] => Unit
  | a :: Γ => a.V × Env Γ

/-- the variable i: its type and its value -/
inductive At : (Γ : List T) → Nat → (a : T) → (Env Γ → a.V) → Prop
  | zero {a : T} {Γ : List T} : At (a :: Γ) 0 a (fun e => e.1)
  | succ {a b : T} {Γ : List T} {i : Nat} {p : Env Γ → a.V} (h : At Γ i a p) : At (b :: Γ) (i + 1) a (fun e => p e.2)

theorem At.of : ∀ {Γ : List T} {i : Nat} {a : T}, Γ[i]? = some a → ∃ p, At Γ i a p
  | [], _, _, h => by simp at h
  | b :: Γ, 0, a, h => by simp at h; subst h; exact ⟨_, .zero⟩
  | b :: Γ, i + 1, a, h => by
    obtain ⟨p, hp⟩ := At.of (Γ := Γ) (i := i) (a := a) (by simpa using h)
    exact ⟨_, .succ hp⟩
theorem At.get {Γ : List T} {i : Nat} {a : T} {p : Env Γ → a.V} (h : At Γ i a p) : Γ[i]? = some a := by
  induction h with
  | zero => rfl
  | succ h ih => simpa using ih

def natRec {α : Type} (b : α) (f : Nat → α → α) : Nat → α
  | 0 => b
  | n + 1 => f n (natRec b f n)
def listRec {α : Type} (b : α) (f : Nat → List Nat → α → α) : List Nat → α
  | [] => b
  | x :: l => f x l (listRec b f l)

def lamT (a : T) (b : Tm) : Tm := Tm.mk 2 0 a.ty [b]

/-- a term has a type below some variables, and means a value for all of theirs -/
inductive Dn : (Γ : List T) → Tm → (a : T) → (Env Γ → a.V) → Prop
  | var {Γ : List T} {i : Nat} {a : T} {p : Env Γ → a.V} (h : At Γ i a p) : Dn Γ (vT i) a p
  | lam {Γ : List T} {a r : T} {b : Tm} {f : Env (a :: Γ) → r.V} (ha : a.ok) (h : Dn (a :: Γ) b r f) : Dn Γ (lamT a b) (.fn a r) (fun e v => f (v, e))
  | app {Γ : List T} {a b : T} {f x : Tm} {F : Env Γ → (T.fn a b).V} {X : Env Γ → a.V} (hf : Dn Γ f (.fn a b) F) (hx : Dn Γ x a X) : Dn Γ (nT 3 [f, x]) b (fun e => F e (X e))
  | zero {Γ : List T} : Dn Γ (nT 4 []) .nat (fun _ => (0 : Nat))
  | succ {Γ : List T} {x : Tm} {X : Env Γ → T.nat.V} (hx : Dn Γ x .nat X) : Dn Γ (nT 5 [x]) .nat (fun e => Nat.succ (X e))
  | rc {Γ : List T} {a : T} {b f n : Tm} {B : Env Γ → a.V} {F : Env Γ → (T.fn .nat (.fn a a)).V} {N : Env Γ → T.nat.V} (ha : a.ok) (hb : Dn Γ b a B) (hf : Dn Γ f (.fn .nat (.fn a a)) F) (hn : Dn Γ n .nat N) :
      Dn Γ (Tm.mk 6 0 a.ty [b, f, n]) a (fun e => natRec (B e) (F e) (N e))
  | nil {Γ : List T} : Dn Γ (nT 7 []) .list (fun _ => ([] : List Nat))
  | cons {Γ : List T} {x l : Tm} {X : Env Γ → T.nat.V} {L : Env Γ → T.list.V} (hx : Dn Γ x .nat X) (hl : Dn Γ l .list L) : Dn Γ (nT 8 [x, l]) .list (fun e => List.cons (X e) (L e))
  | fold {Γ : List T} {a : T} {b f n : Tm} {B : Env Γ → a.V} {F : Env Γ → (T.fn .nat (.fn .list (.fn a a))).V} {N : Env Γ → T.list.V} (ha : a.ok) (hb : Dn Γ b a B) (hf : Dn Γ f (.fn .nat (.fn .list (.fn a a))) F) (hn : Dn Γ n .list N) :
      Dn Γ (Tm.mk 9 0 a.ty [b, f, n]) a (fun e => listRec (B e) (F e) (N e))
  | pair {Γ : List T} {a b : T} {x y : Tm} {X : Env Γ → a.V} {Y : Env Γ → b.V} (hx : Dn Γ x a X) (hy : Dn Γ y b Y) : Dn Γ (nT 10 [x, y]) (.pair a b) (fun e => Prod.mk (X e) (Y e))
  | fst {Γ : List T} {a b : T} {x : Tm} {X : Env Γ → (T.pair a b).V} (hx : Dn Γ x (.pair a b) X) : Dn Γ (nT 11 [x]) a (fun e => Prod.fst (X e))
  | snd {Γ : List T} {a b : T} {x : Tm} {X : Env Γ → (T.pair a b).V} (hx : Dn Γ x (.pair a b) X) : Dn Γ (nT 12 [x]) b (fun e => Prod.snd (X e))
  | unit {Γ : List T} : Dn Γ (nT 13 []) .unit (fun _ => ())

end Go.Proofs.YtgfjcbofbbcnmaaGreatDoor.Lift

/-
  Plain law: lifting and putting in keep what a term denotes.
-/
namespace Go.Proofs.YtgfjcbofbbcnmaaGreatDoor.Lift
set_option linter.unusedSimpArgs false
set_option linter.unusedVariables false
set_option linter.unnecessarySimpa false
open Go

def Env.drop {Γ : List T} : (Ξ : List T) → Env (Ξ ++ Γ) → Env Γ
  | [], e => e
  | _ :: Ξ, e => Env.drop Ξ e.2
/-- the values without those of Ξ, which stand below Δ -/
def Env.wk {Γ : List T} : (Δ Ξ : List T) → Env (Δ ++ (Ξ ++ Γ)) → Env (Δ ++ Γ)
  | [], Ξ, e => Env.drop Ξ e
  | _ :: Δ, Ξ, e => (e.1, Env.wk Δ Ξ e.2)
/-- the values with one more below Δ -/
def Env.ins {Γ : List T} {s : T} (X : Env Γ → s.V) : (Δ : List T) → Env (Δ ++ Γ) → Env (Δ ++ s :: Γ)
  | [], e => (X e, e)
  | _ :: Δ, e => (e.1, Env.ins X Δ e.2)

theorem At.drop {Γ : List T} {i : Nat} {a : T} {p : Env Γ → a.V} (h : At Γ i a p) : ∀ Ξ : List T, At (Ξ ++ Γ) (i + Ξ.length) a (fun e => p (Env.drop Ξ e))
  | [] => h
  | _ :: Ξ => .succ (At.drop h Ξ)
theorem At.wk {Γ Ξ : List T} {a : T} : ∀ (Δ : List T) {i : Nat} {p : Env (Δ ++ Γ) → a.V}, At (Δ ++ Γ) i a p → At (Δ ++ (Ξ ++ Γ)) (if i < Δ.length then i else i + Ξ.length) a (fun e => p (Env.wk Δ Ξ e))
  | [], i, p, h => by rw [if_neg (by simp)]; exact At.drop h Ξ
  | b :: Δ, i, p, h => by
    cases h with
    | zero => rw [if_pos (by simp)]; exact At.zero
    | succ h =>
      rename_i j q
      have := At.succ (b := b) (At.wk (Ξ := Ξ) Δ h)
      have e : (if j + 1 < (b :: Δ).length then j + 1 else j + 1 + Ξ.length) = (if j < Δ.length then j else j + Ξ.length) + 1 := by
        simp only [List.length_cons]
        split <;> split <;> omega
      rw [e]
      exact this

theorem up_node {k : Int} (hk : k ≠ 1 ∧ k ≠ 2) (i : Int) (y : Ty) (a : List Tm) (f b : Int) : (Tm.mk k i y a).upN f b = Tm.mk k i y (a.map fun x => x.upN f b) := by
  rw [Tm.upN_eq]
  simp [Tm.kind, Tm.index, Tm.type, Tm.args, hk.1, hk.2, bindI]
theorem up_lam (a : T) (t : Tm) (f b : Int) : (lamT a t).upN f b = lamT a (t.upN (f + 1) b) := by
  rw [lamT, Tm.upN_eq]
  simp [Tm.kind, Tm.index, Tm.type, Tm.args, bindI, lamT]
theorem up_var (i : Int) (f b : Int) : (vT i).upN f b = vT (if f ≤ i then i + b else i) := by
  rw [vT, Tm.upN_eq]
  simp [Tm.kind, Tm.index, Tm.type, Tm.args, vT]
theorem up_zero (t : Tm) (f : Int) : t.upN f 0 = t := by
  induction t using Tm.ind generalizing f with
  | h t ih =>
  rw [Tm.upN_eq]
  have h1 : (if t.kind = 1 ∧ f ≤ t.index then t.index + 0 else t.index) = t.index := by split <;> omega
  have h2 : (t.args.map fun x => x.upN (f + bindI t.kind) 0) = t.args := by
    conv => rhs; rw [← List.map_id t.args]
    exact List.map_congr_left fun x hx => ih x hx _
  rw [h1, h2]
  exact Tm.eta t
theorem up_up (t : Tm) (f b c : Int) (hb : 0 ≤ b) : (t.upN f b).upN f c = t.upN f (b + c) := by
  induction t using Tm.ind generalizing f with
  | h t ih =>
  rw [Tm.upN_eq t f b, Tm.upN_eq, Tm.upN_eq t f (b + c)]
  rw [Tm.kind_mk, Tm.index_mk, Tm.type_mk, Tm.args_mk, List.map_map]
  have e1 : (if t.kind = 1 ∧ f ≤ (if t.kind = 1 ∧ f ≤ t.index then t.index + b else t.index) then (if t.kind = 1 ∧ f ≤ t.index then t.index + b else t.index) + c else (if t.kind = 1 ∧ f ≤ t.index then t.index + b else t.index)) = (if t.kind = 1 ∧ f ≤ t.index then t.index + (b + c) else t.index) := by
    by_cases h1 : t.kind = 1 ∧ f ≤ t.index
    · rw [if_pos h1, if_pos ⟨h1.1, by omega⟩, if_pos h1]; omega
    · rw [if_neg h1, if_neg h1, if_neg h1]
  rw [e1]
  congr 1
  exact List.map_congr_left fun x hx => ih x hx _

theorem dn_wk {Γ Ξ : List T} {Θ : List T} {t : Tm} {a : T} {F : Env Θ → a.V} (h : Dn Θ t a F) : ∀ (Δ : List T) (hΘ : Θ = Δ ++ Γ), Dn (Δ ++ (Ξ ++ Γ)) (t.upN Δ.length Ξ.length) a (fun e => F (cast (congrArg Env hΘ.symm) (Env.wk Δ Ξ e))) := by
  induction h with
  | var h =>
    intro Δ hΘ
    subst hΘ
    rename_i i a p
    have := Dn.var (At.wk (Ξ := Ξ) Δ h)
    rw [up_var]
    have e : (if (Δ.length : Int) ≤ (i : Nat) then ((i : Nat) : Int) + Ξ.length else (i : Nat)) = ((if i < Δ.length then i else i + Ξ.length : Nat) : Int) := by
      split <;> split <;> omega
    rw [e]
    exact this
  | lam ha h ih =>
    intro Δ hΘ
    subst hΘ
    rw [up_lam]
    have := ih (_ :: Δ) rfl
    simp only [List.length_cons, Int.natCast_add, Int.cast_ofNat_Int] at this
    exact .lam ha this
  | app hf hx ihf ihx => intro Δ hΘ; subst hΘ; rw [nT, up_node (by decide)]; exact .app (ihf Δ rfl) (ihx Δ rfl)
  | zero => intro Δ hΘ; subst hΘ; rw [nT, up_node (by decide)]; exact .zero
  | succ hx ih => intro Δ hΘ; subst hΘ; rw [nT, up_node (by decide)]; exact .succ (ih Δ rfl)
  | rc ha hb hf hn ihb ihf ihn => intro Δ hΘ; subst hΘ; rw [up_node (by decide)]; exact .rc ha (ihb Δ rfl) (ihf Δ rfl) (ihn Δ rfl)
  | nil => intro Δ hΘ; subst hΘ; rw [nT, up_node (by decide)]; exact .nil
  | cons hx hl ihx ihl => intro Δ hΘ; subst hΘ; rw [nT, up_node (by decide)]; exact .cons (ihx Δ rfl) (ihl Δ rfl)
  | fold ha hb hf hn ihb ihf ihn => intro Δ hΘ; subst hΘ; rw [up_node (by decide)]; exact .fold ha (ihb Δ rfl) (ihf Δ rfl) (ihn Δ rfl)
  | pair hx hy ihx ihy => intro Δ hΘ; subst hΘ; rw [nT, up_node (by decide)]; exact .pair (ihx Δ rfl) (ihy Δ rfl)
  | fst hx ih => intro Δ hΘ; subst hΘ; rw [nT, up_node (by decide)]; exact .fst (ih Δ rfl)
  | snd hx ih => intro Δ hΘ; subst hΘ; rw [nT, up_node (by decide)]; exact .snd (ih Δ rfl)
  | unit => intro Δ hΘ; subst hΘ; rw [nT, up_node (by decide)]; exact .unit

/-- a term below some more variables -/
theorem dn_up {Γ : List T} {t : Tm} {a : T} {F : Env Γ → a.V} (h : Dn Γ t a F) (Ξ : List T) : Dn (Ξ ++ Γ) (t.upN 0 Ξ.length) a (fun e => F (Env.drop Ξ e)) := dn_wk (Ξ := Ξ) h [] rfl

theorem in_node {k : Int} (hk : k ≠ 1 ∧ k ≠ 2) (i : Int) (y : Ty) (a : List Tm) (p d : Int) (s : Tm) : (Tm.mk k i y a).inN p d s = Tm.mk k i y (a.map fun x => x.inN p d s) := by
  rw [Tm.inN_eq]
  simp [Tm.kind, Tm.index, Tm.type, Tm.args, hk.1, hk.2, bindI]
theorem in_lam (a : T) (t : Tm) (p d : Int) (s : Tm) : (lamT a t).inN p d s = lamT a (t.inN p (d + 1) s) := by
  rw [lamT, Tm.inN_eq]
  simp [Tm.kind, Tm.index, Tm.type, Tm.args, bindI, lamT]
theorem in_var (i p d : Int) (s : Tm) : (vT i).inN p d s = if i = p + d then s.upN 0 (p + d) else if p + d < i then vT (i - 1) else vT i := by
  rw [vT, Tm.inN_eq, Tm.kind_mk, if_pos rfl]
  rfl

theorem at_in {Γ : List T} {s : T} {x : Tm} {X : Env Γ → s.V} (hx : Dn Γ x s X) {a : T} : ∀ (Δ : List T) {i : Nat} {p : Env (Δ ++ s :: Γ) → a.V}, At (Δ ++ s :: Γ) i a p → Dn (Δ ++ Γ) ((vT i).inN 0 Δ.length x) a (fun e => p (Env.ins X Δ e))
  | [], i, p, h => by
    rw [in_var]
    cases h with
    | zero =>
      rw [if_pos (by simp)]
      simp only [List.length_nil, Int.natCast_zero, Int.add_zero, up_zero]
      exact hx
    | succ h =>
      rename_i j q
      rw [if_neg (by simp only [List.length_nil]; omega), if_pos (by simp only [List.length_nil]; omega)]
      have e : (((j + 1 : Nat) : Int) - 1) = (j : Nat) := by omega
      rw [e]
      exact .var h
  | b :: Δ, i, p, h => by
    cases h with
    | zero =>
      rw [in_var, if_neg (by simp only [List.length_cons]; omega), if_neg (by simp only [List.length_cons]; omega)]
      exact .var .zero
    | succ h =>
      rename_i j q
      have ih := dn_up (at_in hx Δ h) [b]
      have e : (vT ((j + 1 : Nat) : Int)).inN 0 ((b :: Δ).length : Nat) x = ((vT (j : Nat)).inN 0 (Δ.length : Nat) x).upN 0 ([b] : List T).length := by
        rw [in_var, in_var]
        simp only [List.length_cons, List.length_nil]
        by_cases h1 : j = Δ.length
        · rw [if_pos (by omega), if_pos (by omega), up_up _ _ _ _ (by omega)]
          congr 1
        · by_cases h2 : Δ.length < j
          · rw [if_neg (by omega), if_pos (by omega), if_neg (by omega), if_pos (by omega), up_var, if_pos (by omega)]
            congr 1; omega
          · rw [if_neg (by omega), if_neg (by omega), if_neg (by omega), if_neg (by omega), up_var, if_pos (by omega)]
            congr 1
      rw [e]
      exact ih

theorem dn_in {Γ : List T} {s : T} {x : Tm} {X : Env Γ → s.V} (hx : Dn Γ x s X) {Θ : List T} {t : Tm} {a : T} {F : Env Θ → a.V} (h : Dn Θ t a F) :
    ∀ (Δ : List T) (hΘ : Θ = Δ ++ s :: Γ), Dn (Δ ++ Γ) (t.inN 0 Δ.length x) a (fun e => F (cast (congrArg Env hΘ.symm) (Env.ins X Δ e))) := by
  induction h with
  | var h => intro Δ hΘ; subst hΘ; exact at_in hx Δ h
  | lam ha h ih =>
    intro Δ hΘ
    subst hΘ
    rw [in_lam]
    have := ih (_ :: Δ) rfl
    simp only [List.length_cons, Int.natCast_add, Int.cast_ofNat_Int] at this
    exact .lam ha this
  | app hf hx ihf ihx => intro Δ hΘ; subst hΘ; rw [nT, in_node (by decide)]; exact .app (ihf Δ rfl) (ihx Δ rfl)
  | zero => intro Δ hΘ; subst hΘ; rw [nT, in_node (by decide)]; exact .zero
  | succ hx ih => intro Δ hΘ; subst hΘ; rw [nT, in_node (by decide)]; exact .succ (ih Δ rfl)
  | rc ha hb hf hn ihb ihf ihn => intro Δ hΘ; subst hΘ; rw [in_node (by decide)]; exact .rc ha (ihb Δ rfl) (ihf Δ rfl) (ihn Δ rfl)
  | nil => intro Δ hΘ; subst hΘ; rw [nT, in_node (by decide)]; exact .nil
  | cons hx hl ihx ihl => intro Δ hΘ; subst hΘ; rw [nT, in_node (by decide)]; exact .cons (ihx Δ rfl) (ihl Δ rfl)
  | fold ha hb hf hn ihb ihf ihn => intro Δ hΘ; subst hΘ; rw [in_node (by decide)]; exact .fold ha (ihb Δ rfl) (ihf Δ rfl) (ihn Δ rfl)
  | pair hx hy ihx ihy => intro Δ hΘ; subst hΘ; rw [nT, in_node (by decide)]; exact .pair (ihx Δ rfl) (ihy Δ rfl)
  | fst hx ih => intro Δ hΘ; subst hΘ; rw [nT, in_node (by decide)]; exact .fst (ih Δ rfl)
  | snd hx ih => intro Δ hΘ; subst hΘ; rw [nT, in_node (by decide)]; exact .snd (ih Δ rfl)
  | unit => intro Δ hΘ; subst hΘ; rw [nT, in_node (by decide)]; exact .unit

/-- a term put in for the last variable -/
theorem dn_put {Γ : List T} {s a : T} {x t : Tm} {X : Env Γ → s.V} {F : Env (s :: Γ) → a.V} (hx : Dn Γ x s X) (ht : Dn (s :: Γ) t a F) : Dn Γ (t.inN 0 0 x) a (fun e => F (X e, e)) := dn_in hx ht [] rfl

/-- what is denoted may be told otherwise -/
theorem Dn.eq {Γ : List T} {t : Tm} {a : T} {F G : Env Γ → a.V} (h : Dn Γ t a F) (e : ∀ ρ, F ρ = G ρ) : Dn Γ t a G := by
  have : F = G := funext e
  rw [← this]; exact h
end Go.Proofs.YtgfjcbofbbcnmaaGreatDoor.Lift

/-
  Plain law: the theorem of majorants, for what is denoted.
-/
namespace Go.Proofs.YtgfjcbofbbcnmaaGreatDoor.Lift
set_option linter.unusedSimpArgs false
set_option linter.unusedVariables false
set_option linter.unnecessarySimpa false
open Go

/-- the majorant type -/
def T.maj : T → T
  | .nat => .nat
  | .list => .nat
  | .unit => .unit
  | .pair a b => .pair a.maj b.maj
  | .fn a b => .fn a.maj b.maj

/-- at least as great, in each part -/
def Ge : (b : T) → b.V → b.V → Prop
  | .nat, x, y => Nat.le y x
  | .list, x, y => x = y
  | .unit, _, _ => True
  | .pair a b, x, y => Ge a x.1 y.1 ∧ Ge b x.2 y.2
  | .fn a b, F, G => (∀ x y : a.V, Ge a x y → Ge b (F x) (G y)) ∧ ∀ x y : a.V, Ge a x y → Ge b (F x) (F y)
/-- a value bounds another one -/
def Mj : (a : T) → a.maj.V → a.V → Prop
  | .nat, m, n => Nat.le n m
  | .list, m, l => Nat.le (List.length l) m ∧ ∀ x : Nat, List.Mem x l → Nat.le x m
  | .unit, _, _ => True
  | .pair a b, x, y => Mj a x.1 y.1 ∧ Mj b x.2 y.2
  | .fn a b, F, f => (∀ (X : a.maj.V) (x : a.V), Mj a X x → Mj b (F X) (f x)) ∧ ∀ X Y : a.maj.V, Ge a.maj X Y → Ge b.maj (F X) (F Y)

theorem Ge.left : ∀ {b : T} {x y : b.V}, Ge b x y → Ge b x x
  | .nat, x, _, _ => Nat.le_refl x
  | .list, _, _, _ => rfl
  | .unit, _, _, _ => trivial
  | .pair _ _, _, _, h => ⟨Ge.left h.1, Ge.left h.2⟩
  | .fn _ _, _, _, h => ⟨h.2, h.2⟩
theorem Ge.trans : ∀ {b : T} {x y z : b.V}, Ge b x y → Ge b y z → Ge b x z
  | .nat, _, _, _, h, k => Nat.le_trans k h
  | .list, _, _, _, h, k => Eq.trans h k
  | .unit, _, _, _, _, _ => trivial
  | .pair _ _, _, _, _, h, k => ⟨Ge.trans h.1 k.1, Ge.trans h.2 k.2⟩
  | .fn _ _, _, _, _, h, k => ⟨fun x y hxy => Ge.trans (h.1 x x hxy.left) (k.1 x y hxy), h.2⟩
theorem Mj.left : ∀ {a : T} {X : a.maj.V} {x : a.V}, Mj a X x → Ge a.maj X X
  | .nat, X, _, _ => Nat.le_refl X
  | .list, X, _, _ => Nat.le_refl X
  | .unit, _, _, _ => trivial
  | .pair _ _, _, _, h => ⟨Mj.left h.1, Mj.left h.2⟩
  | .fn _ _, _, _, h => ⟨h.2, h.2⟩
theorem nat_ok0 : T.nat.ok := by unfold T.ok; decide
/-- the values of variables, bounded -/
def MjE : (Γ : List T) → Env (Γ.map T.maj) → Env Γ → Prop
  | [], _, _ => True
  | a :: Γ, X, x => Mj a X.1 x.1 ∧ MjE Γ X.2 x.2
def GeE : (Γ : List T) → Env Γ → Env Γ → Prop
  | [], _, _ => True
  | a :: Γ, X, x => Ge a X.1 x.1 ∧ GeE Γ X.2 x.2
theorem GeE.drop {Γ : List T} : ∀ (Ξ : List T) {X Y : Env (Ξ ++ Γ)}, GeE (Ξ ++ Γ) X Y → GeE Γ (Env.drop Ξ X) (Env.drop Ξ Y)
  | [], _, _, h => h
  | _ :: Ξ, _, _, h => GeE.drop Ξ h.2

/-! the closed terms of chapter 5 -/
theorem dn_pred (Γ : List T) : Dn Γ predT (.fn .nat .nat) (fun _ (n : Nat) => Nat.pred n) := by
  have h : Dn Γ predT (.fn .nat .nat) _ := .lam nat_ok0 (.rc (a := .nat) nat_ok0 .zero (.lam nat_ok0 (.lam nat_ok0 (.var (.succ .zero)))) (.var .zero))
  refine h.eq fun ρ => funext fun n => ?_
  have key : ∀ n : Nat, natRec (0 : Nat) (fun k _ => k) n = Nat.pred n := by intro n; cases n <;> rfl
  exact key n
theorem dn_plus (Γ : List T) : Dn Γ plusT (.fn .nat (.fn .nat .nat)) (fun _ (m n : Nat) => Nat.add m n) := by
  have h : Dn Γ plusT (.fn .nat (.fn .nat .nat)) _ := .lam nat_ok0 (.lam nat_ok0 (.rc (a := .nat) nat_ok0 (.var (.succ .zero)) (.lam nat_ok0 (.lam nat_ok0 (.succ (.var .zero)))) (.var .zero)))
  refine h.eq fun ρ => funext fun m => funext fun n => ?_
  have key : ∀ n : Nat, natRec (α := Nat) m (fun _ r => Nat.succ r) n = Nat.add m n := by
    intro n
    induction n with
    | zero => rfl
    | succ n ih => simp only [natRec, ih]; rfl
  exact key n
theorem dn_sub (Γ : List T) : Dn Γ subT (.fn .nat (.fn .nat .nat)) (fun _ (m n : Nat) => Nat.sub m n) := by
  have h : Dn Γ subT (.fn .nat (.fn .nat .nat)) _ := .lam nat_ok0 (.lam nat_ok0 (.rc (a := .nat) nat_ok0 (.var (.succ .zero)) (.lam nat_ok0 (.lam nat_ok0 (.app (dn_pred _) (.var .zero)))) (.var .zero)))
  refine h.eq fun ρ => funext fun m => funext fun n => ?_
  have key : ∀ n : Nat, natRec (α := Nat) m (fun _ r => Nat.pred r) n = Nat.sub m n := by
    intro n
    induction n with
    | zero => rfl
    | succ n ih => simp only [natRec, ih]; rfl
  exact key n

theorem MjE.left : ∀ {Γ : List T} {X : Env (Γ.map T.maj)} {x : Env Γ}, MjE Γ X x → GeE (Γ.map T.maj) X X
  | [], _, _, _ => trivial
  | _ :: _, _, _, h => ⟨Mj.left h.1, MjE.left h.2⟩
theorem GeE.left : ∀ {Γ : List T} {X Y : Env Γ}, GeE Γ X Y → GeE Γ X X
  | [], _, _, _ => trivial
  | _ :: _, _, _, h => ⟨Ge.left h.1, GeE.left h.2⟩

end Go.Proofs.YtgfjcbofbbcnmaaGreatDoor.Lift

/-
  Plain facts: what is drawn out of a deck of numbers: types, contexts, terms; their forms.
-/
namespace Go.Proofs.YtgfjcbofbbcnmaaGreatDoor.Lift
set_option linter.unusedSimpArgs false
set_option linter.unusedVariables false
set_option linter.unnecessarySimpa false
open Go

/-- a small type -/
def typeD (l : List Int) : Nat → Nat → Ty × Nat
  | 0, p =>
    if (nextD l p 7).1 = 3 then (Ty.mk 2 [], (nextD l p 7).2) else if (nextD l p 7).1 = 4 then (Ty.mk 5 [], (nextD l p 7).2) else (Ty.mk 1 [], (nextD l p 7).2)
  | n + 1, p =>
    if (nextD l p 7).1 = 3 then (Ty.mk 2 [], (nextD l p 7).2) else if (nextD l p 7).1 = 4 then (Ty.mk 5 [], (nextD l p 7).2)
    else if (nextD l p 7).1 = 5 then (Ty.mk 3 [(typeD l n (nextD l p 7).2).1, (typeD l n (typeD l n (nextD l p 7).2).2).1], (typeD l n (typeD l n (nextD l p 7).2).2).2)
    else if (nextD l p 7).1 = 6 then (Ty.mk 4 [(typeD l n (nextD l p 7).2).1, (typeD l n (typeD l n (nextD l p 7).2).2).1], (typeD l n (typeD l n (nextD l p 7).2).2).2)
    else (Ty.mk 1 [], (nextD l p 7).2)

/-- the variable i's type -/
def varTy (g : List Ty) (i : Nat) : Ty := g.getD (g.length - 1 - i) zeroTy
/-- the variables of a type -/
def varsN (g : List Ty) (t : Ty) : List Nat := (List.range g.length).filter fun i => (varTy g i).same t
/-- the first variable that is a function into a type -/
def funN (g : List Ty) (t : Ty) : Option Nat := (List.range g.length).find? fun i => decide ((varTy g i).kind = 4) && ((varTy g i).arg 1).same t

/-- a variable, if one is chosen -/
def pickD (l : List Int) (t : Ty) (g : List Ty) (p : Nat) : Option Tm × Nat :=
  if (varsN g t).length = 0 then (none, p)
  else if (nextD l p 3).1 = 0 then (none, (nextD l p 3).2)
  else (some (vT ((varsN g t).getD (nextD l (nextD l p 3).2 (varsN g t).length).1.toNat 0 : Nat)), (nextD l (nextD l p 3).2 (varsN g t).length).2)

def numD (l : List Int) (p : Nat) : Tm × Nat := (numTm (nextD l p 3).1.toNat, (nextD l p 3).2)

/-- a term of a type, without depth -/
def leafD (l : List Int) (t : Ty) (g : List Ty) (p : Nat) : Tm × Nat :=
  match pickD l t g p with
  | (some x, q) => (x, q)
  | (none, q) =>
    match t with
    | .mk k ts =>
      if k = 1 then numD l q
      else if k = 2 then (nT 7 [], q)
      else match ts with
        | [a, b] =>
          if k = 3 then (nT 10 [(leafD l a g q).1, (leafD l b g (leafD l a g q).2).1], (leafD l b g (leafD l a g q).2).2)
          else if k = 4 then (Tm.mk 2 0 a [(leafD l b (g ++ [a]) q).1], (leafD l b (g ++ [a]) q).2)
          else (nT 13 [], q)
        | _ => (nT 13 [], q)
termination_by SizeOf.sizeOf t

/-- the end of a draw: by the type -/
def endD (l : List Int) (F : Ty → List Ty → Nat → Tm × Nat) (t : Ty) (g : List Ty) (q : Nat) : Tm × Nat :=
  if t.kind = 1 then
    if (nextD l q 5).1 = 0 then (nT 5 [(F t g (nextD l q 5).2).1], (F t g (nextD l q 5).2).2)
    else if (nextD l q 5).1 = 1 then (appsT plusT [(F t g (nextD l q 5).2).1, (F t g (F t g (nextD l q 5).2).2).1], (F t g (F t g (nextD l q 5).2).2).2)
    else if (nextD l q 5).1 = 2 then (appsT subT [(F t g (nextD l q 5).2).1, (F t g (F t g (nextD l q 5).2).2).1], (F t g (F t g (nextD l q 5).2).2).2)
    else numD l (nextD l q 5).2
  else if t.kind = 2 then
    if (nextD l q 2).1 = 0 then (nT 8 [(F (Ty.mk 1 []) g (nextD l q 2).2).1, (F t g (F (Ty.mk 1 []) g (nextD l q 2).2).2).1], (F t g (F (Ty.mk 1 []) g (nextD l q 2).2).2).2)
    else (nT 7 [], (nextD l q 2).2)
  else if t.kind = 3 then (nT 10 [(F (t.arg 0) g q).1, (F (t.arg 1) g (F (t.arg 0) g q).2).1], (F (t.arg 1) g (F (t.arg 0) g q).2).2)
  else if t.kind = 4 then (Tm.mk 2 0 (t.arg 0) [(F (t.arg 1) (g ++ [t.arg 0]) q).1], (F (t.arg 1) (g ++ [t.arg 0]) q).2)
  else (nT 13 [], q)

/-- a draw with depth, without a variable: by the choice k -/
def stepD (l : List Int) (F : Ty → List Ty → Nat → Tm × Nat) (t : Ty) (g : List Ty) (k : Int) (q : Nat) : Tm × Nat :=
  if k = 0 then
    let s := typeD l 0 q
    let x := F t (g ++ [s.1]) s.2
    let y := F s.1 g x.2
    (nT 3 [Tm.mk 2 0 s.1 [x.1], y.1], y.2)
  else if k = 1 then
    let s := typeD l 0 q
    let x := F t g s.2
    let y := F s.1 g x.2
    (nT 11 [nT 10 [x.1, y.1]], y.2)
  else if k = 2 then
    let x := F t (g ++ [Ty.mk 1 [], t]) q
    let y := F t g x.2
    let z := numD l y.2
    (Tm.mk 6 0 t [y.1, Tm.mk 2 0 (Ty.mk 1 []) [Tm.mk 2 0 t [x.1]], z.1], z.2)
  else if k = 3 then
    let x := F t (g ++ [Ty.mk 1 [], Ty.mk 2 [], t]) q
    let y := F t g x.2
    let z := F (Ty.mk 2 []) g y.2
    (Tm.mk 9 0 t [y.1, Tm.mk 2 0 (Ty.mk 1 []) [Tm.mk 2 0 (Ty.mk 2 []) [Tm.mk 2 0 t [x.1]]], z.1], z.2)
  else if k = 4 then
    let s := typeD l 0 q
    let x := F s.1 g s.2
    let y := F t g x.2
    (nT 12 [nT 10 [x.1, y.1]], y.2)
  else if k = 5 then
    match funN g t with
    | some i => (nT 3 [vT i, (F ((varTy g i).arg 0) g q).1], (F ((varTy g i).arg 0) g q).2)
    | none => endD l F t g q
  else endD l F t g q

/-- a term of a type in a context -/
def termD (l : List Int) : Nat → Ty → List Ty → Nat → Tm × Nat
  | 0, t, g, p => leafD l t g p
  | n + 1, t, g, p =>
    match pickD l t g p with
    | (some x, q) => (x, q)
    | (none, q) => stepD l (termD l n) t g (nextD l q 8).1 (nextD l q 8).2

theorem leafD_eq (l : List Int) (t : Ty) (g : List Ty) (p : Nat) (ht : t.ok) : leafD l t g p =
    match pickD l t g p with
    | (some x, q) => (x, q)
    | (none, q) =>
      if t.kind = 1 then numD l q
      else if t.kind = 2 then (nT 7 [], q)
      else if t.kind = 3 then (nT 10 [(leafD l (t.arg 0) g q).1, (leafD l (t.arg 1) g (leafD l (t.arg 0) g q).2).1], (leafD l (t.arg 1) g (leafD l (t.arg 0) g q).2).2)
      else if t.kind = 4 then (Tm.mk 2 0 (t.arg 0) [(leafD l (t.arg 1) (g ++ [t.arg 0]) q).1], (leafD l (t.arg 1) (g ++ [t.arg 0]) q).2)
      else (nT 13 [], q) := by
  rw [leafD.eq_def]
  rcases pickD l t g p with ⟨_ | x, q⟩
  · cases t with
    | mk k ts =>
      simp only [Ty.kind]
      by_cases h1 : k = 1
      · simp [h1]
      by_cases h2 : k = 2
      · simp [h2]
      simp only [h1, h2, if_false]
      by_cases h34 : k = 3 ∨ k = 4
      · obtain ⟨a, b, e, -, -, e0, e1⟩ := Ty.ok_args ht h34
        simp only [Ty.args] at e
        subst e
        rw [e0, e1]
        rfl
      · have h3 : k ≠ 3 := fun e => h34 (.inl e)
        have h4 : k ≠ 4 := fun e => h34 (.inr e)
        simp only [h3, h4, if_false]
        match ts with
        | [a, b] => rfl
        | [] => rfl
        | [_] => rfl
        | _ :: _ :: _ :: _ => rfl
  · rfl

theorem ty_two {k : Int} {a b : Ty} (hk : k = 3 ∨ k = 4) (ha : a.shape = true) (hb : b.shape = true) : (Ty.mk k [a, b]).shape = true := by
  rcases hk with rfl | rfl <;> simp [Ty.shape, Ty.shape.shapes, tyKind, ha, hb]

theorem typeD_facts (l : List Int) : ∀ (n p : Nat), p ≤ l.length → (typeD l n p).2 ≤ l.length ∧ (typeD l n p).1.shape = true ∧ (typeD l n p).1.count + 1 ≤ 2 ^ (n + 1)
  | 0, p, hp => by
    have hq := nextD_le (n := 7) hp
    unfold typeD
    split
    · exact ⟨hq, rfl, Nat.le_refl 2⟩
    · split
      · exact ⟨hq, rfl, Nat.le_refl 2⟩
      · exact ⟨hq, rfl, Nat.le_refl 2⟩
  | n + 1, p, hp => by
    have hq := nextD_le (n := 7) hp
    obtain ⟨a1, a2, a3⟩ := typeD_facts l n _ hq
    obtain ⟨b1, b2, b3⟩ := typeD_facts l n _ a1
    have h2 : 2 ≤ 2 ^ (n + 1) := Nat.pow_le_pow_right (n := 2) (by decide) (show 1 ≤ n + 1 by omega)
    have h3 : 2 ^ (n + 1 + 1) = 2 ^ (n + 1) * 2 := Nat.pow_succ ..
    have hc : ∀ (k : Int) (a b : Ty), (Ty.mk k [a, b]).count = 1 + (a.count + (b.count + 0)) := fun _ _ _ => rfl
    unfold typeD
    split
    · exact ⟨hq, rfl, by show 1 + 0 + 1 ≤ _; omega⟩
    split
    · exact ⟨hq, rfl, by show 1 + 0 + 1 ≤ _; omega⟩
    split
    · exact ⟨b1, ty_two (.inl rfl) a2 b2, by rw [hc]; omega⟩
    split
    · exact ⟨b1, ty_two (.inr rfl) a2 b2, by rw [hc]; omega⟩
    · exact ⟨hq, rfl, by show 1 + 0 + 1 ≤ _; omega⟩

/-- a small type -/
def Ty.small (t : Ty) : Prop := t.shape = true ∧ t.count ≤ 15
theorem Ty.small.ok {t : Ty} (h : t.small) : t.ok := ⟨h.1, by have := h.2; omega⟩
theorem Ty.small.arg {t : Ty} (h : t.small) (hk : t.kind = 3 ∨ t.kind = 4) : (t.arg 0).small ∧ (t.arg 1).small ∧ (t.arg 0).count + (t.arg 1).count < t.count := by
  obtain ⟨a, b, e, oa, ob, e0, e1⟩ := Ty.ok_args h.ok hk
  have hc : t.count = 1 + (a.count + (b.count + 0)) := by rw [Ty.count_eq, e]; rfl
  have := h.2
  rw [e0, e1]
  exact ⟨⟨oa.1, by omega⟩, ⟨ob.1, by omega⟩, by omega⟩
theorem typeD_small (l : List Int) {n p : Nat} (hp : p ≤ l.length) (hn : n ≤ 3) : (typeD l n p).2 ≤ l.length ∧ (typeD l n p).1.small := by
  obtain ⟨h1, h2, h3⟩ := typeD_facts l n p hp
  have : 2 ^ (n + 1) ≤ 2 ^ 4 := Nat.pow_le_pow_right (by decide) (by omega)
  exact ⟨h1, h2, by omega⟩
theorem small_nat : (Ty.mk 1 []).small := ⟨rfl, by decide⟩
theorem small_list : (Ty.mk 2 []).small := ⟨rfl, by decide⟩
theorem varTy_mem {g : List Ty} {i : Nat} (h : i < g.length) : varTy g i ∈ g ∧ g[g.length - 1 - i]? = some (varTy g i) := by
  have hl : g.length - 1 - i < g.length := by omega
  unfold varTy
  rw [List.getD_eq_getElem?_getD, List.getElem?_eq_getElem hl]
  exact ⟨List.getElem_mem _, rfl⟩
theorem varsN_mem {g : List Ty} {t : Ty} {i : Nat} (h : i ∈ varsN g t) : i < g.length ∧ varTy g i = t := by
  simp only [varsN, List.mem_filter, List.mem_range, Ty.same_iff] at h
  exact h
theorem funN_some {g : List Ty} {t : Ty} {i : Nat} (h : funN g t = some i) : i < g.length ∧ (varTy g i).kind = 4 ∧ (varTy g i).arg 1 = t := by
  have h1 := List.find?_some h
  have h2 := List.mem_of_find?_eq_some h
  simp only [Bool.and_eq_true, decide_eq_true_eq, Ty.same_iff] at h1
  exact ⟨List.mem_range.1 h2, h1.1, h1.2⟩

theorem pickD_le {l : List Int} {t : Ty} {g : List Ty} {p : Nat} (hp : p ≤ l.length) : (pickD l t g p).2 ≤ l.length := by
  unfold pickD
  split
  · exact hp
  · split
    · exact nextD_le hp
    · exact nextD_le (nextD_le hp)
theorem pickD_some {l : List Int} {t : Ty} {g : List Ty} {p q : Nat} {x : Tm} (h : pickD l t g p = (some x, q)) : ∃ i : Nat, x = vT i ∧ i < g.length ∧ varTy g i = t := by
  unfold pickD at h
  split at h
  · cases h
  · rename_i hne
    split at h
    · cases h
    · simp only [Prod.mk.injEq, Option.some.injEq] at h
      generalize hk : (nextD l (nextD l p 3).2 (varsN g t).length).1.toNat = k at h
      have hb := nextD_bd (l := l) (p := (nextD l p 3).2) (n := (varsN g t).length) (by omega)
      have hlt : k < (varsN g t).length := by omega
      refine ⟨(varsN g t)[k], ?_, varsN_mem (List.getElem_mem hlt)⟩
      rw [← h.1, List.getD_eq_getElem?_getD, List.getElem?_eq_getElem hlt, Option.getD_some]

theorem shape_v {i : Nat} : (vT i).shape = true := by
  unfold vT
  rw [Tm.shape_eq]
  simp [Tm.kind, Tm.index, Tm.type, Tm.args, Tm.shape.shapes, tmKind, tyOfKind, arityI, Ty.zero, Ty.kind, Ty.args]
theorem shape_n {k : Int} {a : List Tm} (h : (a.length : Int) = arityI k) (hk : ¬ (k = 2 ∨ k = 6 ∨ k = 9)) (ha : ∀ x ∈ a, x.shape = true) : (nT k a).shape = true := by
  unfold nT
  rw [Tm.shape_eq]
  have hz : tyOfKind k (Ty.mk 0 []) = true := by unfold tyOfKind; rw [if_neg hk]; rfl
  simp only [Tm.kind, Tm.index, Tm.type, Tm.args, (Tm.shapes_iff a).2 ha, tmKind, hz, h]
  simp
theorem shape_t {k : Int} {s : Ty} {a : List Tm} (h : (a.length : Int) = arityI k) (hk : k = 2 ∨ k = 6 ∨ k = 9) (hs : s.ok) (ha : ∀ x ∈ a, x.shape = true) : (Tm.mk k 0 s a).shape = true := by
  rw [Tm.shape_eq]
  simp only [Tm.kind, Tm.index, Tm.type, Tm.args, (Tm.shapes_iff a).2 ha, tmKind, tyOfKind, if_pos hk, h, (Ty.checkN_iff s).2 hs]
  simp

/-- what holds of all that F draws -/
def Draws (l : List Int) (F : Ty → List Ty → Nat → Tm × Nat) (Q : Ty → List Ty → Tm → Prop) : Prop :=
  ∀ t g p, t.small → (∀ x ∈ g, x.small) → p ≤ l.length → (F t g p).2 ≤ l.length ∧ Q t g (F t g p).1

/-- what a property of drawn terms must obey -/
structure DrawOK (Q : Ty → List Ty → Tm → Prop) : Prop where
  var : ∀ g i, i < g.length → Q (varTy g i) g (vT (i : Nat))
  num : ∀ g n, n < 3 → Q (Ty.mk 1 []) g (numTm n)
  app : ∀ g s t f x, s.small → t.small → Q (Ty.mk 4 [s, t]) g f → Q s g x → Q t g (nT 3 [f, x])
  lam : ∀ g s t x, s.small → t.small → Q t (g ++ [s]) x → Q (Ty.mk 4 [s, t]) g (Tm.mk 2 0 s [x])
  lam2 : ∀ g s t r x, s.small → t.small → r.small → Q r (g ++ [s, t]) x → Q (Ty.mk 4 [s, Ty.mk 4 [t, r]]) g (Tm.mk 2 0 s [Tm.mk 2 0 t [x]])
  lam3 : ∀ g s t u r x, s.small → t.small → u.small → r.small → Q r (g ++ [s, t, u]) x → Q (Ty.mk 4 [s, Ty.mk 4 [t, Ty.mk 4 [u, r]]]) g (Tm.mk 2 0 s [Tm.mk 2 0 t [Tm.mk 2 0 u [x]]])
  pair : ∀ g s t x y, s.small → t.small → Q s g x → Q t g y → Q (Ty.mk 3 [s, t]) g (nT 10 [x, y])
  fst : ∀ g s t x, s.small → t.small → Q (Ty.mk 3 [s, t]) g x → Q s g (nT 11 [x])
  snd : ∀ g s t x, s.small → t.small → Q (Ty.mk 3 [s, t]) g x → Q t g (nT 12 [x])
  rc : ∀ g t x f n, t.small → Q t g x → Q (Ty.mk 4 [Ty.mk 1 [], Ty.mk 4 [t, t]]) g f → Q (Ty.mk 1 []) g n → Q t g (Tm.mk 6 0 t [x, f, n])
  fold : ∀ g t x f n, t.small → Q t g x → Q (Ty.mk 4 [Ty.mk 1 [], Ty.mk 4 [Ty.mk 2 [], Ty.mk 4 [t, t]]]) g f → Q (Ty.mk 2 []) g n → Q t g (Tm.mk 9 0 t [x, f, n])
  succ : ∀ g x, Q (Ty.mk 1 []) g x → Q (Ty.mk 1 []) g (nT 5 [x])
  plus : ∀ g x y, Q (Ty.mk 1 []) g x → Q (Ty.mk 1 []) g y → Q (Ty.mk 1 []) g (appsT plusT [x, y])
  sub : ∀ g x y, Q (Ty.mk 1 []) g x → Q (Ty.mk 1 []) g y → Q (Ty.mk 1 []) g (appsT subT [x, y])
  nil : ∀ g, Q (Ty.mk 2 []) g (nT 7 [])
  cons : ∀ g x y, Q (Ty.mk 1 []) g x → Q (Ty.mk 2 []) g y → Q (Ty.mk 2 []) g (nT 8 [x, y])
  unit : ∀ g, Q (Ty.mk 5 []) g (nT 13 [])

theorem numD_facts {l : List Int} {Q : Ty → List Ty → Tm → Prop} (hQ : DrawOK Q) {p : Nat} (hp : p ≤ l.length) (g : List Ty) : (numD l p).2 ≤ l.length ∧ Q (Ty.mk 1 []) g (numD l p).1 := by
  have := nextD_bd (l := l) (p := p) (n := 3) (by decide)
  exact ⟨nextD_le hp, hQ.num g _ (by omega)⟩

theorem small_kinds {t : Ty} (h : t.small) : (t.kind = 1 ∧ t = Ty.mk 1 []) ∨ (t.kind = 2 ∧ t = Ty.mk 2 []) ∨ (t.kind = 5 ∧ t = Ty.mk 5 []) ∨ (t.kind = 3 ∧ t = Ty.mk 3 [t.arg 0, t.arg 1]) ∨ (t.kind = 4 ∧ t = Ty.mk 4 [t.arg 0, t.arg 1]) := by
  cases t with
  | mk k ts =>
    have h1 := h.1
    rw [Ty.shape_eq, Bool.and_eq_true] at h1
    have hk := h1.1
    unfold tyKind at hk
    simp [Ty.kind, Ty.args] at hk
    rcases hk with ⟨h2, rfl⟩ | ⟨h2, h3⟩
    · rcases of_decide_eq_true h2 with rfl | rfl | rfl <;> simp [Ty.kind]
    · match ts, h3 with
      | [a, b], _ => rcases of_decide_eq_true h2 with rfl | rfl <;> simp [Ty.kind, Ty.arg, Ty.args]

theorem endD_facts {l : List Int} {F : Ty → List Ty → Nat → Tm × Nat} {Q : Ty → List Ty → Tm → Prop} (hQ : DrawOK Q) (hF : Draws l F Q) : Draws l (endD l F) Q := by
  intro t g p ht hg hp
  unfold endD
  have h5 := nextD_le (n := 5) hp
  have h2 := nextD_le (n := 2) hp
  rcases small_kinds ht with ⟨h, e⟩ | ⟨h, e⟩ | ⟨h, e⟩ | ⟨h, e⟩ | ⟨h, e⟩
  · rw [if_pos h]
    obtain ⟨a1, a2⟩ := hF t g _ ht hg h5
    obtain ⟨b1, b2⟩ := hF t g _ ht hg a1
    rw [e] at a1 a2 b1 b2 ⊢
    split
    · exact ⟨a1, hQ.succ g _ a2⟩
    split
    · exact ⟨b1, hQ.plus g _ _ a2 b2⟩
    split
    · exact ⟨b1, hQ.sub g _ _ a2 b2⟩
    · exact numD_facts hQ h5 g
  · rw [if_neg (by omega), if_pos h]
    obtain ⟨a1, a2⟩ := hF _ g _ small_nat hg h2
    obtain ⟨b1, b2⟩ := hF t g _ ht hg a1
    rw [e] at b1 b2 ⊢
    split
    · exact ⟨b1, hQ.cons g _ _ a2 b2⟩
    · exact ⟨h2, hQ.nil g⟩
  · rw [if_neg (by omega), if_neg (by omega), if_neg (by omega), if_neg (by omega)]
    rw [e]
    exact ⟨hp, hQ.unit g⟩
  · rw [if_neg (by omega), if_neg (by omega), if_pos h]
    obtain ⟨s0, s1, _⟩ := ht.arg (.inl h)
    obtain ⟨a1, a2⟩ := hF _ g _ s0 hg hp
    obtain ⟨b1, b2⟩ := hF _ g _ s1 hg a1
    refine ⟨b1, ?_⟩
    rw [e]
    exact hQ.pair g _ _ _ _ s0 s1 a2 b2
  · rw [if_neg (by omega), if_neg (by omega), if_neg (by omega), if_pos h]
    obtain ⟨s0, s1, _⟩ := ht.arg (.inr h)
    obtain ⟨a1, a2⟩ := hF (t.arg 1) (g ++ [t.arg 0]) _ s1 (by intro x hx; rcases List.mem_append.1 hx with hx | hx; exact hg x hx; rw [List.mem_singleton.1 hx]; exact s0) hp
    refine ⟨a1, ?_⟩
    rw [e]
    exact hQ.lam g _ _ _ s0 s1 a2

theorem stepD_facts {l : List Int} {F : Ty → List Ty → Nat → Tm × Nat} {Q : Ty → List Ty → Tm → Prop} (hQ : DrawOK Q) (hF : Draws l F Q) (k : Int) : Draws l (fun t g p => stepD l F t g k p) Q := by
  intro t g p ht hg hp
  have hg1 : ∀ a : List Ty, (∀ x ∈ a, x.small) → ∀ x ∈ g ++ a, x.small := by
    intro a ha x hx
    rcases List.mem_append.1 hx with hx | hx
    · exact hg x hx
    · exact ha x hx
  have hg2 : ∀ s : Ty, s.small → ∀ x ∈ g ++ [s], x.small := fun s hs => hg1 [s] (by simpa using hs)
  obtain ⟨s1, s2⟩ := typeD_small l (n := 0) hp (by decide)
  show (stepD l F t g k p).2 ≤ l.length ∧ Q t g (stepD l F t g k p).1
  unfold stepD
  split
  · obtain ⟨a1, a2⟩ := hF t _ _ ht (hg2 _ s2) s1
    obtain ⟨b1, b2⟩ := hF _ g _ s2 hg a1
    exact ⟨b1, hQ.app g _ _ _ _ s2 ht (hQ.lam g _ _ _ s2 ht a2) b2⟩
  split
  · obtain ⟨a1, a2⟩ := hF t g _ ht hg s1
    obtain ⟨b1, b2⟩ := hF _ g _ s2 hg a1
    exact ⟨b1, hQ.fst g _ _ _ ht s2 (hQ.pair g _ _ _ _ ht s2 a2 b2)⟩
  split
  · obtain ⟨a1, a2⟩ := hF t _ _ ht (hg1 [Ty.mk 1 [], t] (by intro x hx; simp at hx; rcases hx with rfl | rfl; exact small_nat; exact ht)) hp
    obtain ⟨b1, b2⟩ := hF t g _ ht hg a1
    obtain ⟨c1, c2⟩ := numD_facts hQ b1 g
    exact ⟨c1, hQ.rc g _ _ _ _ ht b2 (hQ.lam2 g _ _ _ _ small_nat ht ht a2) c2⟩
  split
  · obtain ⟨a1, a2⟩ := hF t _ _ ht (hg1 [Ty.mk 1 [], Ty.mk 2 [], t] (by intro x hx; simp at hx; rcases hx with rfl | rfl | rfl; exact small_nat; exact small_list; exact ht)) hp
    obtain ⟨b1, b2⟩ := hF t g _ ht hg a1
    obtain ⟨c1, c2⟩ := hF _ g _ small_list hg b1
    exact ⟨c1, hQ.fold g _ _ _ _ ht b2 (hQ.lam3 g _ _ _ _ _ small_nat small_list ht ht a2) c2⟩
  split
  · obtain ⟨a1, a2⟩ := hF _ g _ s2 hg s1
    obtain ⟨b1, b2⟩ := hF t g _ ht hg a1
    exact ⟨b1, hQ.snd g _ _ _ s2 ht (hQ.pair g _ _ _ _ s2 ht a2 b2)⟩
  split
  · split
    · rename_i i hi
      obtain ⟨f1, f2, f3⟩ := funN_some hi
      have hfs := hg _ (varTy_mem f1).1
      obtain ⟨c0, c1, -⟩ := hfs.arg (.inr f2)
      obtain ⟨a1, a2⟩ := hF _ g _ c0 hg hp
      have hv := hQ.var g i f1
      rcases small_kinds hfs with ⟨h, e⟩ | ⟨h, e⟩ | ⟨h, e⟩ | ⟨h, e⟩ | ⟨h, e⟩
      · omega
      · omega
      · omega
      · omega
      · rw [e, f3] at hv
        exact ⟨a1, hQ.app g _ _ _ _ c0 ht hv a2⟩
    · exact endD_facts hQ hF t g p ht hg hp
  · exact endD_facts hQ hF t g p ht hg hp

theorem leafD_facts {l : List Int} {Q : Ty → List Ty → Tm → Prop} (hQ : DrawOK Q) : Draws l (leafD l) Q := by
  intro t
  generalize hn : t.count = n
  induction n using Nat.strongRecOn generalizing t with
  | _ n ih =>
  intro g p ht hg hp
  rw [leafD_eq l t g p ht.ok]
  have hq := pickD_le (t := t) (g := g) hp
  split
  · rename_i x q hx
    obtain ⟨i, rfl, h1, h2⟩ := pickD_some hx
    rw [hx] at hq
    have := hQ.var g i h1
    rw [h2] at this
    exact ⟨hq, this⟩
  · rename_i q hx
    rw [hx] at hq
    rcases small_kinds ht with ⟨h, e⟩ | ⟨h, e⟩ | ⟨h, e⟩ | ⟨h, e⟩ | ⟨h, e⟩
    · rw [if_pos h, e]; exact numD_facts hQ hq g
    · rw [if_neg (by omega), if_pos h, e]; exact ⟨hq, hQ.nil g⟩
    · rw [if_neg (by omega), if_neg (by omega), if_neg (by omega), if_neg (by omega), e]; exact ⟨hq, hQ.unit g⟩
    · rw [if_neg (by omega), if_neg (by omega), if_pos h]
      obtain ⟨s0, s1, hc⟩ := ht.arg (.inl h)
      have p0 := Ty.count_eq (t.arg 0)
      have p1 := Ty.count_eq (t.arg 1)
      obtain ⟨a1, a2⟩ := ih _ (by omega) (t.arg 0) rfl g _ s0 hg hq
      obtain ⟨b1, b2⟩ := ih _ (by omega) (t.arg 1) rfl g _ s1 hg a1
      refine ⟨b1, ?_⟩
      have := hQ.pair g _ _ _ _ s0 s1 a2 b2
      rw [← e] at this
      exact this
    · rw [if_neg (by omega), if_neg (by omega), if_neg (by omega), if_pos h]
      obtain ⟨s0, s1, hc⟩ := ht.arg (.inr h)
      have p0 := Ty.count_eq (t.arg 0)
      have p1 := Ty.count_eq (t.arg 1)
      obtain ⟨a1, a2⟩ := ih _ (by omega) (t.arg 1) rfl (g ++ [t.arg 0]) _ s1 (by intro x hx; rcases List.mem_append.1 hx with hx | hx; exact hg x hx; rw [List.mem_singleton.1 hx]; exact s0) hq
      refine ⟨a1, ?_⟩
      have := hQ.lam g _ _ _ s0 s1 a2
      rw [← e] at this
      exact this

theorem termD_facts {l : List Int} {Q : Ty → List Ty → Tm → Prop} (hQ : DrawOK Q) : ∀ n, Draws l (termD l n) Q
  | 0 => leafD_facts hQ
  | n + 1 => by
    intro t g p ht hg hp
    have hq := pickD_le (t := t) (g := g) hp
    unfold termD
    split
    · rename_i x q hx
      obtain ⟨i, rfl, h1, h2⟩ := pickD_some hx
      rw [hx] at hq
      have := hQ.var g i h1
      rw [h2] at this
      exact ⟨hq, this⟩
    · rename_i q hx
      rw [hx] at hq
      exact stepD_facts hQ (termD_facts hQ n) _ t g _ ht hg (nextD_le hq)

theorem app2_shape {f x y : Tm} (hf : f.shape = true) (hx : x.shape = true) (hy : y.shape = true) : (appsT f [x, y]).shape = true := by
  show (nT 3 [nT 3 [f, x], y]).shape = true
  exact shape_n rfl (by decide) (by intro z hz; simp at hz; rcases hz with rfl | rfl; exact shape_n rfl (by decide) (by intro z hz; simp at hz; rcases hz with rfl | rfl; exact hf; exact hx); exact hy)

theorem closed_shape : DrawOK (fun _ _ x => x.shape = true) where
  var _ _ _ := shape_v
  num _ n _ := num_shape n
  app _ _ _ _ _ _ _ hf hx := shape_n rfl (by decide) (by intro z hz; simp at hz; rcases hz with rfl | rfl; exact hf; exact hx)
  lam _ _ _ _ hs _ hx := shape_t rfl (.inl rfl) hs.ok (by intro z hz; simp at hz; rw [hz]; exact hx)
  lam2 _ _ _ _ _ hs ht _ hx := shape_t rfl (.inl rfl) hs.ok (by intro z hz; simp at hz; rw [hz]; exact shape_t rfl (.inl rfl) ht.ok (by intro z hz; simp at hz; rw [hz]; exact hx))
  lam3 _ _ _ _ _ _ hs ht hu _ hx := shape_t rfl (.inl rfl) hs.ok (by intro z hz; simp at hz; rw [hz]; exact shape_t rfl (.inl rfl) ht.ok (by intro z hz; simp at hz; rw [hz]; exact shape_t rfl (.inl rfl) hu.ok (by intro z hz; simp at hz; rw [hz]; exact hx)))
  pair _ _ _ _ _ _ _ hf hx := shape_n rfl (by decide) (by intro z hz; simp at hz; rcases hz with rfl | rfl; exact hf; exact hx)
  fst _ _ _ _ _ _ hx := shape_n rfl (by decide) (by intro z hz; simp at hz; rw [hz]; exact hx)
  snd _ _ _ _ _ _ hx := shape_n rfl (by decide) (by intro z hz; simp at hz; rw [hz]; exact hx)
  rc _ _ _ _ _ ht hx hf hn := shape_t rfl (.inr (.inl rfl)) ht.ok (by intro z hz; simp at hz; rcases hz with rfl | rfl | rfl; exact hx; exact hf; exact hn)
  fold _ _ _ _ _ ht hx hf hn := shape_t rfl (.inr (.inr rfl)) ht.ok (by intro z hz; simp at hz; rcases hz with rfl | rfl | rfl; exact hx; exact hf; exact hn)
  succ _ _ hx := shape_n rfl (by decide) (by intro z hz; simp at hz; rw [hz]; exact hx)
  plus _ _ _ hx hy := app2_shape (by decide) hx hy
  sub _ _ _ hx hy := app2_shape (by decide) hx hy
  nil _ := rfl
  cons _ _ _ hf hx := shape_n rfl (by decide) (by intro z hz; simp at hz; rcases hz with rfl | rfl; exact hf; exact hx)
  unit _ := rfl
end Go.Proofs.YtgfjcbofbbcnmaaGreatDoor.Lift

/-
  Plain facts: normal forms, as the reference finds them.
-/
namespace Go.Proofs.YtgfjcbofbbcnmaaGreatDoor.Lift
set_option linter.unusedSimpArgs false
set_option linter.unusedVariables false
set_option linter.unnecessarySimpa false
open Go

namespace Tm
set_option linter.unusedSimpArgs false
set_option linter.unusedVariables false
set_option linter.unnecessarySimpa false
/-- the next redex reduced; whether there was one; whether it fits -/
def nextN : Tm → Int → Tm × Bool × Bool
  | .mk k i ty a, room =>
    match (Tm.mk k i ty a).rootN with
    | true => if room < (Tm.mk k i ty a).growthN then (zeroTm, true, false) else ((Tm.mk k i ty a).reducedN, true, true)
    | false => match nexts a room with
      | (l, true, f) => (.mk k i ty l, true, f)
      | (_, false, _) => (.mk k i ty a, false, true)
where
  nexts : List Tm → Int → List Tm × Bool × Bool
    | [], _ => ([], false, true)
    | x :: r, room => match x.nextN room with
      | (y, true, f) => (y :: r, true, f)
      | (_, false, _) => match nexts r room with
        | (l, b, f) => (x :: l, b, f)

/-- the rounds of Normal: as many steps are left -/
def loopN : Nat → Tm → Int → Tm × Int × Int
  | 0, t, n => match t.nextN (4096 - t.count) with
    | (_, false, _) => (t, n, 0)
    | (_, true, _) => (zeroTm, 0, 5)
  | s + 1, t, n => match t.nextN (4096 - t.count) with
    | (_, false, _) => (t, n, 0)
    | (_, true, false) => (zeroTm, 0, 4)
    | (x, true, true) => loopN s x (n + 1)
end Tm
end Go.Proofs.YtgfjcbofbbcnmaaGreatDoor.Lift

/-
  Part X of the small logic: a drawn region whose last operations wait for all others; slices whose cells are written again (raw): a literal, an append in place or to a new block.
-/
namespace Go.Proofs.YtgfjcbofbbcnmaaGreatDoor.Lift
set_option linter.unusedSimpArgs false
set_option linter.unusedVariables false
set_option linter.unnecessarySimpa false
open Go
section
variable {X : Ctx} {s s0 : St} {k : List Item}

/-- from place m on, each operation waits for all before it -/
def tailB (T : List Nat) (m n : Nat) : Bool := (List.range n).all fun j => decide (j < m) || (List.range j).all fun i => (T.getD j 0).testBit i
theorem tailB_spec {T : List Nat} {m n : Nat} (h : tailB T m n = true) : ∀ j, m ≤ j → j < n → ∀ i, i < j → (T.getD j 0).testBit i = true := by
  intro j hj hn i hi
  have := List.all_eq_true.1 h j (List.mem_range.2 hn)
  rw [Bool.or_eq_true] at this
  rcases this with h1 | h1
  · exact absurd (of_decide_eq_true h1) (by omega)
  · exact List.all_eq_true.1 h1 i (List.mem_range.2 hi)

theorem seq_any {ops : Array Oper} {m : Nat} {T : List Nat} (hback : backB 0 ops.toList = true) (hfix : fixB T T ops.toList = true) (htail : ∀ j, m ≤ j → j < ops.size → ∀ i, i < j → (T.getD j 0).testBit i = true) {Q : Exit → Act → World → Prop} :
    ∀ (k j fuel : Nat) (listed : Array Bool) (a : Act) (w : World), j + k = ops.size → m ≤ j → listed.size = ops.size → (∀ i, i < ops.size → Lof listed i = decide (i < j)) → k ≤ fuel → wpOpsIn X.F 0 X.P ops Q (List.range' j k) a w → wpAnyIn X.F 0 X.P .any ops Q fuel listed a w
  | 0, j, fuel, listed, a, w, hjk, hm, hsz, hL, hf, hw => by
    have hall : ∀ i, i < ops.size → Lof listed i = true := fun i hi => by rw [hL i hi]; exact decide_eq_true (by omega)
    have hr : ∀ i, ¬ i ∈ Region.ready .any ops listed := by
      intro i hi
      obtain ⟨h1, o, h2, -⟩ := mem_ready.1 hi
      have hj : i < ops.size := (Array.getElem?_eq_some_iff.1 h2).1
      rw [getD_tf (by omega), hall i hj] at h1
      cases h1
    have hQ : Q .normal a w := hw
    cases fuel with
    | zero =>
      refine ⟨?_, hQ⟩
      cases hq : Region.ready .any ops listed with
      | nil => rfl
      | cons i r => exact absurd (by rw [hq]; simp) (hr i)
    | succ fuel => exact ⟨fun _ => hQ, fun i hi => absurd hi (hr i)⟩
  | k + 1, j, fuel, listed, a, w, hjk, hm, hsz, hL, hf, hw => by
    obtain ⟨fuel, rfl⟩ : ∃ f, fuel = f + 1 := ⟨fuel - 1, by omega⟩
    have hjo : j < ops.size := by omega
    have hcl : Closed ops (Lof listed) := by
      intro i o hi ho e he hb
      have hio : i < ops.size := (Array.getElem?_eq_some_iff.1 ho).1
      have hlt := backB_spec hback i o (by simpa using ho) e he hb
      rw [hL i hio] at hi
      have := of_decide_eq_true hi
      rw [hL e.on (by omega)]
      exact decide_eq_true (by omega)
    have hj : j ∈ Region.ready .any ops listed := by
      rw [mem_ready]
      refine ⟨by rw [getD_tf (by omega), hL j hjo]; exact decide_eq_false (by omega), ops[j], Array.getElem?_eq_getElem hjo, fun e he hb => ?_⟩
      have hlt := backB_spec hback j ops[j] (by simp [hjo]) e he hb
      show Lof listed e.on = true
      rw [hL e.on (by omega)]
      exact decide_eq_true (by omega)
    refine ⟨fun hr => absurd hj (by rw [hr]; simp), fun i hi => ?_⟩
    obtain ⟨h1, o, ho, hall⟩ := mem_ready.1 hi
    have hio : i < ops.size := (Array.getElem?_eq_some_iff.1 ho).1
    rw [getD_tf (by omega), hL i hio] at h1
    have hij : j ≤ i := by have := of_decide_eq_false h1; omega
    have hall' : ∀ e ∈ o.after, Region.binds .any e = true → Lof listed e.on = true := hall
    have heq : i = j := by
      rcases Nat.lt_or_ge j i with h | h
      · have := anc_spec hback hfix hcl i o ho hall' (htail i (by omega) hio j h)
        rw [hL j hjo] at this
        exact absurd (of_decide_eq_true this) (by omega)
      · omega
    subst heq
    rw [List.range'_succ, wpOpsIn_cons] at hw
    refine wpOpIn_mono (fun a' w' h' => ?_) hw
    refine seq_any hback hfix htail k (i + 1) fuel _ a' w' (by omega) (by omega) (by simpa using hsz) (fun x hx => ?_) (by omega) h'
    rw [Lof_set (by omega)]
    show (x == i || Lof listed x) = _
    rw [hL x hx]
    by_cases hxi : x = i
    · subst hxi; simp
    · have : (x == i) = false := by simpa using hxi
      rw [this, Bool.false_or]
      congr 1
      exact propext ⟨fun h => by omega, fun h => by omega⟩

theorem draw_anyT {ops ops' : Array Oper} {m : Nat} {T0 : List Nat} (hops : ops.toList.take m = ops'.toList) (hmn : m ≤ ops.size) {evs : List Ev} {K : St → Prop} (hrun : RunL X ops' ops'.toList s0 evs) (hg : ∀ o ∈ ops'.toList, o.guard = none) (hchk : chkB ops'.toList s0 evs = true)
    (hback0 : backB 0 ops.toList = true) (hfix0 : fixB T0 T0 ops.toList = true) (htail : ∀ j, m ≤ j → j < ops.size → ∀ i, i < j → (T0.getD j 0).testBit i = true) (hK : VL X ops (ops.toList.drop m) (appAll s0 evs) K) :
    ∀ (fuel : Nat) (listed : Array Bool) (G : Gh) (a : Act) (w : World), listed.size = ops.size → Closed ops (Lof listed) → (∀ j, m ≤ j → Lof listed j = false) → (left m listed).length + (ops.size - m) ≤ fuel → Rel X G (sel (Lof listed) 0 evs s0) a w →
      wpAnyIn X.F 0 X.P .any ops (Nrm X K) fuel listed a w := by
  simp only [chkB, Bool.and_eq_true] at hchk
  obtain ⟨⟨⟨hback, hfix⟩, hfr⟩, hp⟩ := hchk
  generalize tabGo ops'.toList [] = T at *
  have hsz' : ops'.size = m := by
    have := congrArg List.length hops
    simp at this
    omega
  have hlen : evs.length = m := by have := RunL_length hrun; simp at this; omega
  have hget : ∀ i, i < m → ops'[i]? = ops[i]? := by
    intro i hi
    have h1 : ops'.toList[i]? = ops.toList[i]? := by rw [← hops, List.getElem?_take_of_lt hi]
    simpa using h1
  intro fuel
  induction fuel with
  | zero =>
    intro listed G a w hsz hcl htl hle R
    have hm0 : m = ops.size := by omega
    have hall : ∀ j, j < m → Lof listed j = true := by
      intro j hj
      cases hq : Lof listed j with
      | true => rfl
      | false =>
        have hm : j ∈ left m listed := by simp [left, hj, hq]
        have := List.length_pos_of_mem hm
        omega
    refine seq_any hback0 hfix0 htail 0 m 0 listed a w (by omega) (Nat.le_refl _) hsz (fun i hi => by rw [hall i (by omega)]; exact (decide_eq_true (by omega)).symm) (Nat.le_refl _) ?_
    have R' : Rel X G (appAll s0 evs) a w := R.congr fun l => by
      rw [← sel_all 0]
      refine sel_diff evs 0 _ _ rfl fun j ev hj hne => ?_
      have hj' : j < m := by rw [← hlen]; exact (List.getElem?_eq_some_iff.1 hj).1
      exact absurd (hall j hj').symm (by simpa using hne)
    have := hK m rfl G a w R'
    have hd : (ops.toList.drop m).length = 0 := by simp; omega
    rw [hd] at this
    exact this
  | succ fuel ih =>
    intro listed G a w hsz hcl htl hle R
    by_cases hall : ∀ j, j < m → Lof listed j = true
    · have R' : Rel X G (appAll s0 evs) a w := R.congr fun l => by
        rw [← sel_all 0]
        refine sel_diff evs 0 _ _ rfl fun j ev hj hne => ?_
        have hj' : j < m := by rw [← hlen]; exact (List.getElem?_eq_some_iff.1 hj).1
        exact absurd (hall j hj').symm (by simpa using hne)
      have hw := hK m rfl G a w R'
      have hd : (ops.toList.drop m).length = ops.size - m := by simp
      rw [hd] at hw
      refine seq_any hback0 hfix0 htail (ops.size - m) m (fuel + 1) listed a w (by omega) (Nat.le_refl _) hsz (fun i hi => ?_) (by omega) hw
      by_cases him : i < m
      · rw [hall i him]; exact (decide_eq_true him).symm
      · rw [htl i (by omega)]; exact (decide_eq_false him).symm
    have hex : ∃ j, j < m ∧ Lof listed j = false := by
      by_cases h : ∃ j, j < m ∧ Lof listed j = false
      · exact h
      · exact absurd (fun j hj => by
          cases hq : Lof listed j with
          | true => rfl
          | false => exact absurd ⟨j, hj, hq⟩ h) hall
    have hstuck : Region.ready .any ops listed = [] → ∀ j, j < m → Lof listed j = true := by
      intro hr j
      induction j using Nat.strongRecOn with
      | _ j ihj =>
        intro hj
        cases hq : Lof listed j with
        | true => rfl
        | false =>
          have hjo : j < ops.size := by omega
          have : j ∈ Region.ready .any ops listed := by
            rw [mem_ready]
            refine ⟨by rw [getD_tf (by omega)]; exact hq, ops[j], Array.getElem?_eq_getElem hjo, fun e he hb => ?_⟩
            have hlt := backB_spec hback0 j ops[j] (by simp [hjo]) e he hb
            exact ihj e.on (by omega) (by omega)
          rw [hr] at this
          cases this
    refine ⟨fun hr => absurd (hstuck hr) hall, fun i hi => ?_⟩
    obtain ⟨h1, o, ho, hall1⟩ := mem_ready.1 hi
    have hio : i < ops.size := (Array.getElem?_eq_some_iff.1 ho).1
    have hil : i < listed.size := by omega
    rw [getD_tf hil] at h1
    have hall' : ∀ e ∈ o.after, Region.binds .any e = true → Lof listed e.on = true := hall1
    have him : i < m := by
      rcases Nat.lt_or_ge i m with h | h
      · exact h
      · exact absurd (fun j hj => anc_spec hback0 hfix0 hcl i o ho hall' (htail i h hio j (by omega))) hall
    have hcl' : Closed ops' (Lof listed) := by
      intro j o' hL ho' e he hb
      have hj : j < m := by have := (Array.getElem?_eq_some_iff.1 ho').1; omega
      exact hcl j o' hL (by rw [← hget j hj]; exact ho') e he hb
    have ho' : ops'[i]? = some o := by rw [hget i him]; exact ho
    have hie : i < evs.length := by omega
    have hev : evs[i]? = some evs[i] := List.getElem?_eq_getElem hie
    have hstep := RunL_at 0 hrun i o evs[i] (by simpa using ho') hev
    have hind1 : ∀ (j : Nat) (ev : Ev), evs[j]? = some ev → i < j → Lof listed j = true → apart evs[i] ev = true := by
      intro j ev hj hij hL
      have hjm : j < m := by rw [← hlen]; exact (List.getElem?_eq_some_iff.1 hj).1
      have hjo : j < ops'.size := by omega
      rcases (chkP_spec hp i j _ ev hij hev hj).2 with h | h
      · have := anc_spec hback hfix hcl' j ops'[j] (Array.getElem?_eq_getElem hjo) (fun e he hb => hcl' j _ hL (Array.getElem?_eq_getElem hjo) e he hb) (by simpa using h)
        rw [h1] at this; cases this
      · exact h
    have hind2 : ∀ (j : Nat) (ev : Ev), evs[j]? = some ev → j < i → Lof listed j = false → apart ev evs[i] = true := by
      intro j ev hj hij hL
      rcases (chkP_spec hp j i ev _ hij hj hev).2 with h | h
      · have := anc_spec hback hfix hcl' i o ho' hall' (by simpa using h)
        rw [hL] at this; cases this
      · exact h
    have hop : OpOK X ops' o (sel (Lof listed) 0 evs s0) (apply (sel (Lof listed) 0 evs s0) evs[i].e) := by
      refine hstep _ (fun l v hl => ?_) (fun d hd => ?_)
      · obtain ⟨hfp, hg⟩ := get_restr hl
        rw [← hg]
        refine sel_diff evs 0 _ _ rfl fun j ev hj hne hw => ?_
        simp only [Nat.zero_add] at hne
        by_cases hij : j < i
        · cases hq : Lof listed j with
          | true => rw [hq] at hne; simp [hij] at hne
          | false =>
            have := hind2 j ev hj hij hq
            simp only [apart, Bool.and_eq_true, disL_iff] at this
            exact this.1.1.1 l hw hfp
        · cases hq : Lof listed j with
          | false => rw [hq] at hne; simp [hij] at hne
          | true =>
            have hne' : j ≠ i := fun e => by rw [e, h1] at hq; cases hq
            have := hind1 j ev hj (by omega) hq
            simp only [apart, Bool.and_eq_true, disL_iff] at this
            exact this.1.1.2 l hw hfp
      · refine sel_fresh evs 0 s0 (chkF_spec hfr i _ hev d hd) fun j ev hj hL => ?_
        simp only [Nat.zero_add] at hL
        have hne' : j ≠ i := fun e => by rw [e, h1] at hL; cases hL
        by_cases hij : j < i
        · exact (chkP_spec hp j i ev _ hij hj hev).1 d hd
        · have := hind1 j ev hj (by omega) hL
          simp only [apart, Bool.and_eq_true, allN_iff] at this
          simpa using this.2 d hd
    have hnext : ∀ G' a' w', Rel X G' (apply (sel (Lof listed) 0 evs s0) evs[i].e) a' w' → wpAnyIn X.F 0 X.P .any ops (Nrm X K) fuel (listed.setIfInBounds i true) a' w' := by
      intro G' a' w' R'
      refine ih _ G' a' w' (by simpa using hsz) ?_ ?_ ?_ ?_
      · rw [Lof_set hil]
        intro j o' hL hoj e he hb
        simp only [Bool.or_eq_true, beq_iff_eq] at hL ⊢
        rcases hL with rfl | hL
        · rw [ho] at hoj; cases hoj
          exact .inr (hall' e he hb)
        · exact .inr (hcl j o' hL hoj e he hb)
      · intro j hj
        rw [Lof_set hil]
        show (j == i || Lof listed j) = false
        rw [htl j hj, Bool.or_false]
        simp; omega
      · have := left_set (n := m) hil him h1
        omega
      · rw [Lof_set hil]
        refine R'.congr fun l => sel_add h1 evs 0 s0 (Nat.zero_le _) hev fun j ev hj hlt hL hw => ?_
        simp only [Nat.zero_add] at hlt hL
        have := hind1 j ev hj hlt hL
        simp only [apart, Bool.and_eq_true, disL_iff] at this
        exact this.1.2 l hw
    have hgn : o.guard = none := hg o (List.mem_of_getElem? (i := i) (by simpa using ho'))
    have := hop G a w R _ (Nrm X K) hnext
    unfold wpOpIn
    simp only [ho]
    have hw : ∀ y, Region.wanted o y = true := fun y => by simp [Region.wanted, hgn]
    simp only [hw, if_true] at this ⊢
    exact this

def tailOK (ops : List Oper) (m : Nat) : Bool :=
  let T := tabGo ops []
  backB 0 ops && fixB T T ops && tailB T m ops.length && (ops.take m).all fun o => o.guard.isNone

/-- A DRAWN REGION WHOSE LAST OPERATIONS WAIT FOR ALL OTHERS: these are walked one by one -/
theorem W_regT {id : Nat} {ops : Array Oper} {s : St} (hm : X.P.follows .mixedOrders = true) (m : Nat) (hmn : m ≤ ops.size) (hfull : tailOK ops.toList m = true) (esc esc' : List Nat)
    (h : ∀ K : St → Prop, (∀ s', W X k s' → K s') → vcd X esc (ops.toList.take m).toArray s (fun s' => vc X esc' ops (ops.toList.drop m) s' K) (ops.toList.take m) s []) : W X (.code (.region id ops true) :: k) s := by
  intro G a w b cs hf hk hr R
  simp only [tailOK, Bool.and_eq_true, List.all_eq_true] at hfull
  obtain ⟨⟨⟨t1, t2⟩, t3⟩, t4⟩ := hfull
  obtain ⟨evs, h1, h2, h3⟩ := vcd_sound (h (fun s' => W X k s') (fun _ h => h))
  have ht : (ops.toList.take m).toArray.toList = ops.toList.take m := rfl
  have h3' : VL X ops (ops.toList.drop m) (appAll s evs) (fun s' => W X k s') := vc_sound h3
  have hany := draw_anyT (ops' := (ops.toList.take m).toArray) (s0 := s) rfl hmn (by rw [ht]; exact h1) (fun o ho => by have := t4 o (by simpa using ho); cases hq : o.guard with | none => rfl | some _ => rw [hq] at this; cases this) (by simpa using h2) t1 t2 (tailB_spec (by simpa using t3)) h3' ops.size (Array.replicate ops.size false) G a { w with drawn := w.drawn + 1 } (by simp) (fun j o hL => by simp [Lof, Array.getElem?_replicate] at hL; split at hL <;> simp at hL) (fun j _ => by simp only [Lof, Array.getD_eq_getD_getElem?, Array.getElem?_replicate]; split <;> rfl) (by
      have : (left m (Array.replicate ops.size false)).length ≤ m := Nat.le_trans (List.length_filter_le _ _) (by simp)
      omega) (by
      rw [sel_none _ _ _ (fun j _ => by simp only [Lof, Array.getD_eq_getD_getElem?, Array.getElem?_replicate]; split <;> rfl)]
      exact R.drawn _)
  obtain ⟨e', a', w', ⟨rfl, G', s', hK, R'⟩, harr⟩ := wpIn_region_any (F := X.F) (n := 0) hm hany b k cs hr trivial (roomF _)
  obtain ⟨w'', fr, q1, q2⟩ := hK G' a' w' b cs hf hk hr R'
  exact ⟨w'', fr, q1, Steps.trans (StepsIn.steps harr) q2⟩

/-! raw slices: the slice's value is a datum of its own, its block an object -/
abbrev rawS (b n cap : Nat) : DV := .prim (.slice (some ⟨b, 0, none⟩) n cap)

theorem put_mid (A M D xs : List SV) (h : xs.length = M.length) : put (A ++ (M ++ D)) A.length xs = A ++ (xs ++ D) := by
  apply List.ext_getElem?
  intro i
  rw [get_put _ _ _ _ (by simp; omega)]
  split
  · rename_i hi
    rw [List.getElem?_append_right hi.1, List.getElem?_append_left (by omega)]
  · rename_i hi
    by_cases h1 : i < A.length
    · rw [List.getElem?_append_left h1, List.getElem?_append_left h1]
    · have h2 : A.length + xs.length ≤ i := by omega
      rw [List.getElem?_append_right (by omega), List.getElem?_append_right (by omega), List.getElem?_append_right (by omega), List.getElem?_append_right (by omega), h]
theorem arrRow_append (l r : List (List DV)) : arrRow (l ++ r) = arrRow l ++ arrRow r := by simp [arrRow]
theorem arrRow_len {E : Nat} {l : List (List DV)} (h : ∀ e ∈ l, e.length = E) : (arrRow l).length = l.length * E := by simp only [arrRow, List.length_map]; exact flatten_len h
theorem arrRow_put {E : Nat} {full zs : List (List DV)} {n : Nat} (hE1 : ∀ e ∈ full, e.length = E) (hE2 : ∀ e ∈ zs, e.length = E) (hle : n + zs.length ≤ full.length) :
    put (arrRow full) (n * E) (arrRow zs) = arrRow (full.take n ++ zs ++ full.drop (n + zs.length)) := by
  have h1 : full = full.take n ++ ((full.drop n).take zs.length ++ full.drop (n + zs.length)) := by
    have := List.take_append_drop zs.length (full.drop n)
    rw [List.drop_drop] at this
    rw [this, List.take_append_drop]
  have m1 : ∀ e ∈ full.take n, e.length = E := fun e he => hE1 e (List.mem_of_mem_take he)
  have m2 : ∀ e ∈ (full.drop n).take zs.length, e.length = E := fun e he => hE1 e (List.mem_of_mem_drop (List.mem_of_mem_take he))
  have e1 : (arrRow (full.take n)).length = n * E := by rw [arrRow_len m1, List.length_take, Nat.min_eq_left (by omega)]
  have e2 : (arrRow zs).length = (arrRow ((full.drop n).take zs.length)).length := by rw [arrRow_len hE2, arrRow_len m2, List.length_take, List.length_drop, Nat.min_eq_left (by omega)]
  have h2 : arrRow full = arrRow (full.take n) ++ (arrRow ((full.drop n).take zs.length) ++ arrRow (full.drop (n + zs.length))) := by rw [← arrRow_append, ← arrRow_append, ← h1]
  rw [h2, ← e1, put_mid _ _ _ _ e2, arrRow_append, arrRow_append, List.append_assoc]

/-- the cells of elements that are laid -/
theorem rowOf_laid {G : Gh} {w : World} {E : Nat} {zs : List (List DV)} {g : Nat → Value} (hE : ∀ e ∈ zs, e.length = E) (h : Laid G.D w E zs g) : RowOf G w (arrRow zs) (arr g (zs.length * E)) := by
  have hl := flatten_len hE
  refine ⟨by rw [arr_size, arrRow_len hE], fun i x v hx hv => ?_⟩
  simp only [arrRow, List.getElem?_map] at hx
  cases hd0 : zs.flatten[i]? with
  | none => rw [hd0] at hx; cases hx
  | some dd =>
    rw [hd0] at hx
    cases hx
    obtain ⟨i1, j1, e1, k1, k2, rfl⟩ := flatten_get hE hd0
    have hj : j1 < E := by rw [← hE e1 (List.mem_of_getElem? k1)]; exact (List.getElem?_eq_some_iff.1 k2).1
    have hi : i1 < zs.length := (List.getElem?_eq_some_iff.1 k1).1
    rw [arr_get _ _ _ (lt_mul hi hj)] at hv
    cases hv
    exact h i1 j1 e1 dd k1 k2
theorem cellBS_arrRow {zs : List (List DV)} (h : ∀ e ∈ zs, ∀ c ∈ e, DV.isCell c = true) : cellBS (arrRow zs) = true := by
  rw [cellBS_iff]
  intro x hx
  simp only [arrRow, List.mem_map, List.mem_flatten] at hx
  obtain ⟨d, ⟨e, he, hd⟩, rfl⟩ := hx
  exact h e he d hd

/-- append in place -/
theorem step_appendF {o : Oper} {x y : Operand} {T T2 : TypeId} (ho : o.op = .call { callee := .builtin .append, args := #[x, y], argTypes := #[T, T2] }) {d : Nat} (hd : o.dst = some d) (hn : d < X.n)
    {E B : Nat} (he : elemZ X.P T = some (E, B)) (h2 : (elemT X.P T2).isSome = true) {b n cap : Nat} {full zs : List (List DV)} (hx : evl X (get s) x = some (.v (rawS b n cap))) (hy : (evl X (get s) y).bind slOf = some zs)
    (hrow : get s (.heap b) = some (.row (arrRow full))) (hfl : full.length = cap) (hle : n + zs.length ≤ cap) (hE1 : ∀ e ∈ full, e.length = E) (hE2 : ∀ e ∈ zs, e.length = E) :
    StepOK X s o (upd (upd s (.heap b) (.row (arrRow (full.take n ++ zs ++ full.drop (n + zs.length))))) (.slot d) (.one (.v (rawS b (n + zs.length) cap)))) := by
  intro G a w R next Q hK
  have hv := (prim_of (evl_sound R hx)).1
  obtain ⟨q, hq, hq'⟩ := Option.bind_eq_some_iff.1 hy
  obtain ⟨yb, ycap, hyv, hyr, -⟩ := slOf_sound hq' (evl_sound R hq)
  obtain ⟨c2, g, g1, g2, g3⟩ := sl_laid hyr hE2
  have hle2 : n * E + (arrRow zs).length ≤ (arrRow full).length := by
    rw [arrRow_len hE1, arrRow_len hE2, ← Nat.add_mul, hfl]; exact Nat.mul_le_mul_right _ hle
  obtain ⟨w', h1, h2'⟩ := R.storeRow hrow rfl (b := b) rfl (rowOf_laid hE2 g1) (cellBS_arrRow c2) hle2
  have hrun := run_append_fits (P := X.P) (t := T) (ty := o.type) (t2 := T2) (w := w) he h2 (base := some ⟨b, 0, none⟩) (len := n) (cap := cap) (lenOf_sl (P := X.P) hyr w) (run_firstCells (P := X.P) g3) hle (w' := w') (by simp only [addr_add, Nat.zero_add]; exact h1)
  rw [← hv] at hrun
  refine opIn (by intro c e; rw [ho] at e; cases e) ?_
  have hexec : (execOp a.eval o).run X.P w = .ok (.value (.slice (some ⟨b, 0, none⟩) (n + zs.length) cap)) w' := by
    simp [execOp, ho, resolve, invoke, builtin, hrun]
  rw [hexec, upn_value, hd]
  rw [arrRow_put hE1 hE2 (by omega)] at h2'
  exact hK G _ w' (h2'.setSlot (Trans.refl X G a w' R.nil) rfl rfl (fun _ h => h) hn (.prim _ trivial))

/-- a new block whose first cells are told -/
theorem Rel.newArr {G : Gh} {a : Act} {w : World} (R : Rel X G s a w) {d : Nat} (hn : d < X.n) {w1 : World} (hw1 : w1.heap = w.heap) {c : Array Value} {e : TypeId} {E : Nat} {full : List (List DV)} {n cap : Nat}
    (T' : Trans X G a w G (a.put (some d) (.slice (some ⟨w.heap.size, 0, none⟩) n cap)) (w1.alloc (.cells c e)) (fun _ => False))
    (hE : ∀ e ∈ full, e.length = E) (hcell : ∀ e ∈ full, ∀ c ∈ e, DV.isCell c = true) (hc : full.length * E ≤ c.size) (hget : ∀ (i j : Nat) (e : List DV) (dd : DV), full[i]? = some e → e[j]? = some dd → ∃ v, c[i * E + j]? = some v ∧ RV G.D w dd v) :
    Rel X G (upd (upd s (.slot d) (.one (.v (rawS w.heap.size n cap)))) (.heap w.heap.size) (.row (arrRow full))) (a.put (some d) (.slice (some ⟨w.heap.size, 0, none⟩) n cap)) (w1.alloc (.cells c e)) := by
  have hp := put_tmps a (some d) (.slice (some ⟨w.heap.size, 0, none⟩) n cap)
  refine R.step T' (fun l u => (l = .slot d ∧ u = .one (.v (rawS w.heap.size n cap))) ∨ (l = .heap w.heap.size ∧ u = .row (arrRow full))) (fun l u h => ?_) (fun l u h => ?_) (fun l u l' u' b h h' hb hb' => ?_)
  · rw [get_upd, get_upd] at h
    by_cases h1 : Loc.heap w.heap.size = l
    · rw [if_pos h1] at h; cases h; exact .inl (.inr ⟨h1.symm, rfl⟩)
    · rw [if_neg h1] at h
      by_cases h3 : Loc.slot d = l
      · rw [if_pos h3] at h; cases h; exact .inl (.inl ⟨h3.symm, rfl⟩)
      · rw [if_neg h3] at h
        exact .inr ⟨h, fun n hn => put_get_ne _ _ _ _ (fun e => h3 (by rw [hn, e])), fun b hb hBb => hBb.elim, fun _ _ => rfl, fun _ _ => rfl⟩
  · rcases h with ⟨rfl, rfl⟩ | ⟨rfl, rfl⟩
    · refine ⟨?_, fun b hb => by cases hb⟩
      show RSV G _ (.v _) _
      rw [put_get_same _ _ _ (by rw [R.size]; exact hn)]
      exact .prim _ trivial
    · refine ⟨⟨c, e, ?_, ?_, fun i x hx => ?_⟩, fun b hb => ?_⟩
      · have := alloc_new w1 (.cells c e)
        rw [hw1] at this
        exact this
      · rw [arrRow_len hE]; exact hc
      · simp only [arrRow, List.getElem?_map] at hx
        cases hd0 : full.flatten[i]? with
        | none => rw [hd0] at hx; cases hx
        | some dd =>
          rw [hd0] at hx
          cases hx
          obtain ⟨i1, j1, e1, k1, k2, rfl⟩ := flatten_get hE hd0
          obtain ⟨v, hv, hr⟩ := hget i1 j1 e1 dd k1 k2
          exact ⟨hcell e1 (List.mem_of_getElem? k1) dd (List.mem_of_getElem? k2), v, hv, hr.mono T'.grow⟩
      · cases hb
        exact ⟨.inl (Nat.le_refl _), .inl R.ext.size, fun _ o hD => absurd (R.wf.lt hD) (Nat.lt_irrefl _)⟩
  · rcases h with ⟨rfl, rfl⟩ | ⟨rfl, rfl⟩
    · cases hb
    · rcases h' with ⟨rfl, rfl⟩ | ⟨rfl, rfl⟩
      · cases hb'
      · rfl
theorem newB_size {G : Gh} {a : Act} {w : World} (R : Rel X G s a w) : newB w.heap.size s := newB_of fun v hv => by
  have hh := R.holds _ _ hv
  cases v with
  | row cs => exact absurd (blk_lt hh rfl) (Nat.lt_irrefl _)
  | ob r => exact absurd (blk_lt hh rfl) (Nat.lt_irrefl _)
  | one x => exact hh.elim
  | tk E n => exact hh.elim

/-- the zero of a slice's elements -/
def zeroE (P : Program) (T : TypeId) : Option (List DV) :=
  match P.underlying T with
  | some (.slice e) => (zeroT P e).bind toDs
  | _ => none

theorem mod_mul_add {E i j : Nat} (hj : j < E) : (i * E + j) % E = j := by
  rw [Nat.mul_comm, Nat.mul_add_mod]; exact Nat.mod_eq_of_lt hj

theorem run_append_newZ {P : Program} {w : World} {t ty t2 E B : Nat} (he : elemZ P t = some (E, B)) (hB : 0 < B ∧ B ≤ 1024) (h2 : (elemT P t2).isSome = true) {base : Option Addr} {len cap : Nat} {x : Value} {n : Nat} {old new : Array Value}
    (hx : ∀ w', w'.heap = w.heap → (Builtin.lenOf x).run P w' = .ok n w') (hn : ∀ w', w'.heap = w.heap → (Builtin.firstCells E n x).run P w' = .ok new w') (ho : ∀ w', w'.heap = w.heap → (Builtin.firstCells E len (.slice base len cap)).run P w' = .ok old w')
    (hle : ¬ len + n ≤ cap) (hbig : len + n ≤ BIG) (h1 : old.size = len * E) (h3 : new.size = n * E) {zd : List DV} (hz : zeroE P t = some zd) :
    zd.length = E ∧ ∃ c e nc, (Builtin.append_ #[t, t2] ty #[.slice base len cap, x]).run P w = .ok (.slice (some ⟨w.heap.size, 0, none⟩) (len + n) nc) (w.drew.alloc (.cells c e)) ∧ len + n ≤ nc ∧ c.size = nc * E ∧ (∀ k, k < len * E → c[k]? = old[k]?) ∧ (∀ k, k < n * E → c[len * E + k]? = new[k]?) ∧
      ∀ (G : Gh) (w' : World), G.τ 0 = (none, 0) → ∀ (i j : Nat) (dd : DV), i < nc - (len + n) → zd[j]? = some dd → ∃ v, c[(len + n + i) * E + j]? = some v ∧ RV G.D w' dd v := by
  obtain ⟨e, i, z, hu, hi, hzv, hzs, his, hib⟩ := elemZ_run he
  obtain ⟨E2, hE2⟩ := Option.isSome_iff_exists.1 h2
  obtain ⟨e2, i2, hu2, -, -⟩ := elem_run hE2
  have hzz : ∃ cs, zeroS z.cells.toList = some cs ∧ toDs cs = some zd := by
    simp only [zeroE, hu, zeroT, hi, hzv] at hz
    exact Option.bind_eq_some_iff.1 hz
  obtain ⟨zcs, hz1, hz2⟩ := hzz
  have hzl : zd.length = E := by
    have h0 : RowOf { D := fun _ _ => False, ν := fun _ => 0, τ := fun _ => (none, 0) } w zcs z.cells.toList.toArray := zeroS_sound rfl hz1
    have := (toDs_row h0 hz2).1
    rw [← this]
    simpa using hzs
  refine ⟨hzl, ?_⟩
  unfold BIG at hbig
  have hcap : ¬ (Builtin.nextslicecap (len + n) cap * B > 2 ^ 48) := by
    have := nextslicecap_le (need := len + n) (cap := cap) (by omega)
    have : Builtin.nextslicecap (len + n) cap * B ≤ (2 * (len + n) + 600) * 1024 := Nat.mul_le_mul this hB.2
    omega
  let q : Question := .appendCap (len + n) cap e
  let nc := q.cut (w.tape w.drawn q)
  have hnc : len + n ≤ nc := by show len + n ≤ _; simp [nc, q, Question.cut]
  have hzc : (Builtin.zeroCells z.cells (nc - (len + n))).size = (nc - (len + n)) * E := by simp [Builtin.zeroCells, hzs]
  refine ⟨old ++ new ++ Builtin.zeroCells z.cells (nc - (len + n)), e, nc, ?_, hnc, ?_, fun k hk => ?_, fun k hk => ?_, fun G w' hG i j dd hi' hj => ?_⟩
  · unfold Builtin.append_
    have hc' : ¬ (2 ^ 48 < Builtin.nextslicecap (len + n) cap * B) := hcap
    simp [run_underlying hu, run_underlying hu2, sizeOf, typeInfo, hi, his, hx w rfl, hle, hib, hc', Question.forced, ho (w.drew) rfl, hn (w.drew) rfl, zeroValue, hzv, newRow, nc, q]
    intro h
    omega
  · simp [h1, h3, Builtin.zeroCells, hzs]
    rw [← Nat.add_mul, ← Nat.add_mul]
    congr 1; omega
  · rw [Array.getElem?_append_left (by simp [h1, h3]; omega), Array.getElem?_append_left (by omega)]
  · rw [Array.getElem?_append_left (by simp [h1, h3]; omega), Array.getElem?_append_right (by omega), h1]
    congr 1; omega
  · have hjE : j < E := by rw [← hzl]; exact (List.getElem?_eq_some_iff.1 hj).1
    have hlt : i * E + j < (nc - (len + n)) * E := lt_mul hi' hjE
    have hrow : RowOf G w' zcs z.cells.toList.toArray := zeroS_sound hG hz1
    have hr := (toDs_row hrow hz2).2 j dd
    simp only [Array.toArray_toList] at hr
    have hjz : j < z.cells.size := by omega
    refine ⟨z.cells[j], ?_, hr _ hj (Array.getElem?_eq_getElem hjz)⟩
    have hsz : (old ++ new).size = (len + n) * E := by simp [h1, h3, Nat.add_mul]
    have e1 : (len + n + i) * E + j = (old ++ new).size + (i * E + j) := by rw [hsz, Nat.add_mul (len + n) i E]; omega
    rw [e1, Array.getElem?_append_right (Nat.le_add_right _ _), Nat.add_sub_cancel_left]
    have hs2 : i * E + j < (nc - (len + n)) * z.cells.size := by rw [hzs]; exact hlt
    simp only [Builtin.zeroCells]
    rw [Array.getElem?_map, Array.getElem?_range, if_pos hs2]
    simp only [Option.map_some, hzs, mod_mul_add hjE]
    rw [getElem!_pos z.cells j hjz]

theorem flatten_at {E : Nat} : ∀ {ys : List (List DV)}, (∀ e ∈ ys, e.length = E) → ∀ {i j : Nat} {e : List DV} {d : DV}, ys[i]? = some e → e[j]? = some d → ys.flatten[i * E + j]? = some d
  | [], _, i, j, e, d, h, _ => by simp at h
  | y :: r, hE, 0, j, e, d, h, hd => by
    simp at h
    subst h
    rw [List.flatten_cons, Nat.zero_mul, Nat.zero_add, List.getElem?_append_left (List.getElem?_eq_some_iff.1 hd).1]
    exact hd
  | y :: r, hE, i + 1, j, e, d, h, hd => by
    have hy := hE y (by simp)
    have ih := flatten_at (ys := r) (fun e he => hE e (List.mem_cons_of_mem _ he)) (by simpa using h) hd
    rw [List.flatten_cons, List.getElem?_append_right (by rw [hy, Nat.add_mul]; omega), hy]
    rw [show (i + 1) * E + j - E = i * E + j from by rw [Nat.add_mul]; omega]
    exact ih

/-- append to a new block -/
theorem step_appendN {o : Oper} {x y : Operand} {T T2 : TypeId} (ho : o.op = .call { callee := .builtin .append, args := #[x, y], argTypes := #[T, T2] }) {d : Nat} (hd : o.dst = some d) (hn : d < X.n)
    {E B : Nat} (he : elemZ X.P T = some (E, B)) (hB : 0 < B ∧ B ≤ 1024) (h2 : (elemT X.P T2).isSome = true) {b n cap : Nat} {full zs : List (List DV)} {zd : List DV} (hx : evl X (get s) x = some (.v (rawS b n cap))) (hy : (evl X (get s) y).bind slOf = some zs)
    (hrow : get s (.heap b) = some (.row (arrRow full))) (hfl : full.length = cap) (hnc : n ≤ cap) (hnf : cap < n + zs.length) (hbig : n + zs.length ≤ BIG) (hE1 : ∀ e ∈ full, e.length = E) (hE2 : ∀ e ∈ zs, e.length = E) (hz : zeroE X.P T = some zd) (hzc : cellB zd = true)
    {G : Gh} {a : Act} {w : World} (R : Rel X G s a w) (next : Act → World → Prop) (Q : Exit → Act → World → Prop)
    (hK : ∀ b' cap', n + zs.length ≤ cap' → newB b' s → X.w0.heap.size ≤ b' → ∀ G' a' w', Rel X G' (upd (upd s (.slot d) (.one (.v (rawS b' (n + zs.length) cap')))) (.heap b') (.row (arrRow (full.take n ++ zs ++ List.replicate (cap' - (n + zs.length)) zd)))) a' w' → next a' w') :
    o.wpIn X.F 0 X.P a w next Q := by
  have hv := (prim_of (evl_sound R hx)).1
  obtain ⟨q, hq, hq'⟩ := Option.bind_eq_some_iff.1 hy
  obtain ⟨yb, ycap, hyv, hyr, -⟩ := slOf_sound hq' (evl_sound R hq)
  obtain ⟨c2, g, g1, g2, g3⟩ := sl_laid hyr hE2
  obtain ⟨c0, e0, k1, k2, k3⟩ : BlkAt G w b (arrRow full) := R.holds _ _ hrow
  rw [arrRow_len hE1] at k2
  have hnE : n * E ≤ full.length * E := Nat.mul_le_mul_right _ (by omega)
  have hdr : ∀ w' : World, w'.heap = w.heap → (Builtin.firstCells E zs.length (a.eval y)).run X.P w' = .ok (arr g (zs.length * E)) w' := fun w' hw => by
    refine run_firstCells (D := G.D) ?_
    rcases g3 with h | ⟨b, o', cap, h, hc⟩
    · exact .inl h
    · exact .inr ⟨b, o', cap, h, fun k hk => by rw [cell_of_heap hw]; exact hc k hk⟩
  have hdo : ∀ w' : World, w'.heap = w.heap → (Builtin.firstCells E n (.slice (some ⟨b, 0, none⟩) n cap)).run X.P w' = .ok (arr (fun k => (c0[k]?).getD undef) (n * E)) w' := fun w' hw => by
    simp only [Builtin.firstCells]
    refine run_loadCells_f b 0 (n * E) _ (fun k hk => ?_)
    have hlt : k < c0.size := by omega
    rw [cell_of_heap hw, Nat.zero_add]
    simp [World.cell?, k1, hlt]
  obtain ⟨hzl, c, e, nc, r1, r2, r3, r4, r5, r6⟩ := run_append_newZ (P := X.P) (t := T) (ty := o.type) (t2 := T2) (w := w) he hB h2 (base := some ⟨b, 0, none⟩) (len := n) (cap := cap) (fun w' _ => lenOf_sl (P := X.P) hyr w') hdr hdo (by omega) hbig (arr_size _ _) (arr_size _ _) hz
  rw [← hv] at r1
  have hexec : (execOp a.eval o).run X.P w = .ok (.value (.slice (some ⟨w.heap.size, 0, none⟩) (n + zs.length) nc)) (w.drew.alloc (.cells c e)) := by
    simp [execOp, ho, resolve, invoke, builtin, r1]
  refine opIn (by intro c e; rw [ho] at e; cases e) ?_
  rw [hexec, upn_value, hd]
  have hp := put_tmps a (some d) (.slice (some ⟨w.heap.size, 0, none⟩) (n + zs.length) nc)
  have T' : Trans X G a w G (a.put (some d) (.slice (some ⟨w.heap.size, 0, none⟩) (n + zs.length) nc)) (w.drew.alloc (.cells c e)) (fun _ => False) := by
    refine ⟨hp.1, fun h => (h.heap fun b hb => alloc_old w.drew _ b hb).put hp.2, rfl, rfl, rfl, by simp, fun b hb _ => alloc_old w.drew _ b hb, fun _ h => h.elim, fun b k hD => ⟨hD, World.cell?_alloc_lt w.drew _ _ (R.wf.lt hD)⟩, fun b k hD hnD => absurd hD hnD, R.nil⟩
  refine hK w.heap.size nc r2 (newB_size R) R.ext.size G _ _ (R.newArr hn (w1 := w.drew) rfl T' (E := E) ?_ ?_ ?_ ?_)
  · intro e he
    rcases List.mem_append.1 he with he | he
    · rcases List.mem_append.1 he with he | he
      · exact hE1 e (List.mem_of_mem_take he)
      · exact hE2 e he
    · rw [(List.mem_replicate.1 he).2]; exact hzl
  · intro e he d hd
    rcases List.mem_append.1 he with he | he
    · rcases List.mem_append.1 he with he | he
      · have he := List.mem_of_mem_take he
        obtain ⟨i, hi⟩ := List.mem_iff_getElem?.1 he
        obtain ⟨j, hj⟩ := List.mem_iff_getElem?.1 hd
        exact (k3 (i * E + j) (.v d) (by simp only [arrRow, List.getElem?_map, flatten_at hE1 hi hj, Option.map_some])).1
      · exact c2 e he d hd
    · rw [(List.mem_replicate.1 he).2] at hd
      exact (cellB_iff zd).1 hzc d hd
  · rw [r3]
    simp only [List.length_append, List.length_take, List.length_replicate]
    exact Nat.mul_le_mul_right _ (by omega)
  · intro i j e dd hi hj
    have hl1 : (full.take n).length = n := by rw [List.length_take, Nat.min_eq_left (by omega)]
    rw [List.append_assoc] at hi
    rcases Nat.lt_or_ge i n with h | h
    · rw [List.getElem?_append_left (by omega), List.getElem?_take_of_lt h] at hi
      have hjE : j < E := by rw [← hE1 e (List.mem_of_getElem? hi)]; exact (List.getElem?_eq_some_iff.1 hj).1
      have hlt := lt_mul h hjE
      obtain ⟨-, v, q1, q2⟩ := k3 (i * E + j) (.v dd) (by simp only [arrRow, List.getElem?_map, flatten_at hE1 hi hj, Option.map_some])
      refine ⟨v, ?_, q2⟩
      rw [r4 _ hlt, arr_get _ _ _ hlt, q1]
      rfl
    · rw [List.getElem?_append_right (by omega), hl1] at hi
      rcases Nat.lt_or_ge (i - n) zs.length with h' | h'
      · rw [List.getElem?_append_left h'] at hi
        have hjE : j < E := by rw [← hE2 e (List.mem_of_getElem? hi)]; exact (List.getElem?_eq_some_iff.1 hj).1
        have hlt := lt_mul h' hjE
        refine ⟨_, ?_, g1 _ _ _ _ hi hj⟩
        have e1 : i * E + j = n * E + ((i - n) * E + j) := by rw [← Nat.add_assoc, ← Nat.add_mul]; congr 2; omega
        rw [e1, r5 _ hlt, arr_get _ _ _ hlt]
      · rw [List.getElem?_append_right h'] at hi
        obtain ⟨hi1, hi2⟩ : e = zd ∧ i - n - zs.length < nc - (n + zs.length) := by
          have hm := List.mem_of_getElem? hi
          have hlt := (List.getElem?_eq_some_iff.1 hi).1
          simp only [List.length_replicate] at hlt
          exact ⟨(List.mem_replicate.1 hm).2, hlt⟩
        subst hi1
        obtain ⟨v, q1, q2⟩ := r6 G w R.nil (i - n - zs.length) j dd hi2 hj
        refine ⟨v, ?_, q2⟩
        rw [show n + zs.length + (i - n - zs.length) = i from by omega] at q1
        exact q1

theorem vcK_appendR {esc : List Nat} {ops : Array Oper} {l : List Oper} {K : St → Prop} {d : Tmp} {x y : Operand} {T T2 ty : TypeId} {pos : String} {af : Array Edge} {q : Option (Prop × St)}
    {E B b n cap : Nat} {full zs : List (List DV)} {zd : List DV} (hx : evl X (get s) x = some (.v (rawS b n cap))) (hy : (evl X (get s) y).bind slOf = some zs) (hrow : get s (.heap b) = some (.row (arrRow full)))
    (he : elemZ X.P T = some (E, B)) (hz : zeroE X.P T = some zd) (hzc : cellB zd = true) (hB : 0 < B ∧ B ≤ 1024) (h2 : (elemT X.P T2).isSome = true) (hn : d < X.n)
    (hfl : full.length = cap) (hnc : n ≤ cap) (hbig : n + zs.length ≤ BIG) (hE1 : ∀ e ∈ full, e.length = E) (hE2 : ∀ e ∈ zs, e.length = E) (hq : q = none)
    (h1 : n + zs.length ≤ cap → vc X esc ops l (upd (upd s (.heap b) (.row (arrRow (full.take n ++ zs ++ full.drop (n + zs.length))))) (.slot d) (.one (.v (rawS b (n + zs.length) cap)))) K)
    (h3 : cap < n + zs.length → ∀ b' cap', n + zs.length ≤ cap' → newB b' s → X.w0.heap.size ≤ b' → vc X esc ops l (upd (upd s (.slot d) (.one (.v (rawS b' (n + zs.length) cap')))) (.heap b') (.row (arrRow (full.take n ++ zs ++ List.replicate (cap' - (n + zs.length)) zd)))) K) :
    vcK X esc ops l K ⟨some d, .call { callee := .builtin .append, args := #[x, y], argTypes := #[T, T2] }, ty, pos, af, none⟩ s q := by
  subst hq
  rcases Nat.lt_or_ge cap (n + zs.length) with h | h
  · intro m hm G a w R0
    obtain ⟨p1, p3⟩ := drop_cons hm
    simp only [List.length_cons, List.range'_succ, wpOpsIn, p1, Region.wanted, if_true]
    refine step_appendN (o := ⟨some d, .call { callee := .builtin .append, args := #[x, y], argTypes := #[T, T2] }, ty, pos, af, none⟩) rfl rfl hn he hB h2 hx hy hrow hfl hnc h hbig hE1 hE2 hz hzc R0 _ _ fun b' cap' hc hb hw G' a' w' R' => ?_
    exact vc_sound (h3 h b' cap' hc hb hw) (m + 1) p3 G' a' w' R'
  · exact VL_step rfl (step_appendF (o := ⟨some d, .call { callee := .builtin .append, args := #[x, y], argTypes := #[T, T2] }, ty, pos, af, none⟩) rfl rfl hn he h2 hx hy hrow hfl h hE1 hE2) (vc_sound (h1 h))

/-- a literal as a raw slice -/
theorem step_litX {o : Oper} {t len E B : Nat} {parts : Array (Nat × Operand)} (ho : o.op = .buildSlice t len parts) {d : Nat} (hd : o.dst = some d) (hn : d < X.n) (he : elemZ X.P t = some (E, B)) {els : List (List DV)}
    (h : litEls X (get s) E 0 parts.toList = some els) (hlen : els.length = len) (hb : len * E ≤ 16777216)
    {G : Gh} {a : Act} {w : World} (R : Rel X G s a w) (next : Act → World → Prop) (Q : Exit → Act → World → Prop)
    (hK : ∀ b, newB b s → X.w0.heap.size ≤ b → ∀ G' a' w', Rel X G' (upd (upd s (.slot d) (.one (.v (rawS b len len)))) (.heap b) (.row (arrRow els))) a' w' → next a' w') :
    o.wpIn X.F 0 X.P a w next Q := by
  obtain ⟨e, i, z, hu, hi, hz, hzs, his, hib⟩ := elemZ_run he
  subst hlen
  have hsz0 : ((Array.range (els.length * E)).map fun k => (if els.length * E = 0 then #[] else z.cells)[k % (if els.length * E = 0 then #[] else z.cells).size]!).size = els.length * E := by simp
  obtain ⟨q1, q2, q3, c', f1, f2, f3, f4⟩ := litEls_sound R E parts.toList 0 els ((Array.range (els.length * E)).map fun k => (if els.length * E = 0 then #[] else z.cells)[k % (if els.length * E = 0 then #[] else z.cells).size]!) h (by rw [hsz0, Nat.zero_add]; exact Nat.le_refl _)
  rw [hsz0] at f2
  have hrun : (Instr.buildSlice t els.length (parts.map fun (i, x) => (i, a.eval x))).run X.P w = .ok (.slice (some ⟨w.heap.size, 0, none⟩) els.length els.length) (w.alloc (.cells c' e)) := by
    have hne : ¬ (els.length * E > 2 ^ 24) := by omega
    have hf : Instr.fill (fun k => some (k * E, E)) ((Array.range (els.length * E)).map fun k => (if els.length * E = 0 then #[] else z.cells)[k % (if els.length * E = 0 then #[] else z.cells).size]!) ((parts.map fun (q : Nat × Operand) => (q.1, a.eval q.2)).toList) = some c' := by
      rw [Array.toList_map]; exact f1
    unfold Instr.buildSlice
    simp only [run_underlying hu, sizeOf, typeInfo, hi, his, Sem.run_bind, Sem.run_pure, run_program, Result.andThen_ok, hne, if_false]
    by_cases h0 : els.length * E = 0
    · simp only [if_pos h0] at hf ⊢
      simp only [Sem.run_bind, Sem.run_pure, Result.andThen_ok, hf, newRow, run_newObj]
      rfl
    · simp only [if_neg h0] at hf ⊢
      simp only [zeroValue, typeInfo, run_program, hi, hz, Sem.run_bind, Sem.run_pure, Result.andThen_ok, hf, newRow, run_newObj]
      rfl
  refine opIn (by intro c e; rw [ho] at e; cases e) ?_
  have hexec : (execOp a.eval o).run X.P w = .ok (.value (.slice (some ⟨w.heap.size, 0, none⟩) els.length els.length)) (w.alloc (.cells c' e)) := by
    simp only [execOp, ho, Sem.run_bind, hrun, Result.andThen_ok, Sem.run_pure]
  rw [hexec, upn_value, hd]
  have hp := put_tmps a (some d) (.slice (some ⟨w.heap.size, 0, none⟩) els.length els.length)
  have T' : Trans X G a w G (a.put (some d) (.slice (some ⟨w.heap.size, 0, none⟩) els.length els.length)) (w.alloc (.cells c' e)) (fun _ => False) := by
    refine ⟨hp.1, fun h => (h.heap fun b hb => alloc_old w _ b hb).put hp.2, rfl, rfl, rfl, by simp, fun b hb _ => alloc_old w _ b hb, fun _ h => h.elim, fun b k hD => ⟨hD, World.cell?_alloc_lt w _ _ (R.wf.lt hD)⟩, fun b k hD hnD => absurd hD hnD, R.nil⟩
  refine hK w.heap.size (newB_size R) R.ext.size G _ _ (R.newArr hn (w1 := w) rfl T' (E := E) q1 q2 (by rw [f2]; exact Nat.le_refl _) fun i j e dd hi hj => ?_)
  obtain ⟨v, hv, hr⟩ := f4 i j e dd hi hj
  rw [Nat.zero_add] at hv
  exact ⟨v, hv, hr⟩

theorem vcK_litX {esc : List Nat} {ops : Array Oper} {l : List Oper} {K : St → Prop} {d : Tmp} {t len : Nat} {parts : Array (Nat × Operand)} {ty : TypeId} {pos : String} {af : Array Edge} {q : Option (Prop × St)} {E B : Nat} {els : List (List DV)}
    (he : elemZ X.P t = some (E, B)) (h : litEls X (get s) E 0 parts.toList = some els) (hc : els.length = len ∧ len * E ≤ 16777216) (hn : d < X.n) (hq : q = none)
    (k : ∀ b, newB b s → X.w0.heap.size ≤ b → vc X esc ops l (upd (upd s (.slot d) (.one (.v (rawS b len len)))) (.heap b) (.row (arrRow els))) K) :
    vcK X esc ops l K ⟨some d, .buildSlice t len parts, ty, pos, af, none⟩ s q := by
  subst hq
  intro m hm G a w R0
  obtain ⟨p1, p3⟩ := drop_cons hm
  simp only [List.length_cons, List.range'_succ, wpOpsIn, p1, Region.wanted, if_true]
  refine step_litX (o := ⟨some d, .buildSlice t len parts, ty, pos, af, none⟩) rfl rfl hn he h hc.1 hc.2 R0 _ _ fun b hb hw G' a' w' R' => ?_
  exact vc_sound (k b hb hw) (m + 1) p3 G' a' w' R'
end
end Go.Proofs.YtgfjcbofbbcnmaaGreatDoor.Lift

namespace Go.Proofs.YtgfjcbofbbcnmaaGreatDoor.Lift
set_option linter.unusedSimpArgs false
set_option linter.unusedVariables false
set_option linter.unnecessarySimpa false
open Go
variable {gl : Globs}

theorem Tm.nextN_root (t : Tm) (room : Int) (h : t.rootN = true) : t.nextN room = if room < t.growthN then (zeroTm, true, false) else (t.reducedN, true, true) := by
  cases t; rw [nextN, h]
theorem Tm.nextN_args (t : Tm) (room : Int) (h : t.rootN = false) : t.nextN room = match nextN.nexts t.args room with
    | (l, true, f) => (.mk t.kind t.index t.type l, true, f)
    | (_, false, _) => (t, false, true) := by
  cases t; rw [nextN, h]; rfl
theorem Tm.nexts_found {room : Int} {x y : Tm} {f : Bool} (hx : x.nextN room = (y, true, f)) (rest : List Tm) : ∀ done : List Tm, (nextN.nexts done room).2.1 = false → nextN.nexts (done ++ x :: rest) room = (done ++ y :: rest, true, f)
  | [], _ => by simp [nextN.nexts, hx]
  | a :: r, h => by
    simp only [nextN.nexts] at h
    simp only [List.cons_append, nextN.nexts]
    rcases ha : a.nextN room with ⟨z, b, g⟩
    rw [ha] at h
    cases b with
    | true => simp at h
    | false =>
      simp only at h ⊢
      have hr : (nextN.nexts r room).2.1 = false := by
        rcases hq : nextN.nexts r room with ⟨u, v, w⟩
        rw [hq] at h
        exact h
      rw [nexts_found hx rest r hr]
theorem Tm.nexts_none {room : Int} {x : Tm} (hx : (x.nextN room).2.1 = false) : ∀ done : List Tm, (nextN.nexts done room).2.1 = false → (nextN.nexts (done ++ [x]) room).2.1 = false
  | [], _ => by
    rcases hq : x.nextN room with ⟨u, v, w⟩
    rw [hq] at hx
    simp only at hx
    subst hx
    simp [nextN.nexts, hq]
  | a :: r, h => by
    simp only [nextN.nexts] at h
    simp only [List.cons_append, nextN.nexts]
    rcases ha : a.nextN room with ⟨z, b, g⟩
    rw [ha] at h
    cases b with
    | true => simp at h
    | false =>
      simp only at h ⊢
      have hr : (nextN.nexts r room).2.1 = false := by
        rcases hq : nextN.nexts r room with ⟨u, v, w⟩
        rw [hq] at h
        exact h
      have := nexts_none hx r hr
      rcases hq : nextN.nexts (r ++ [x]) room with ⟨u, v, w⟩
      rw [hq] at this
      exact this

theorem frzSV_prim (b : Nat) (ys : List (List DV)) (k : IntKind) (n : Int) : frzSV b ys (.v (.prim (.int k n))) = .v (.prim (.int k n)) := rfl
theorem frzSV_dint (b : Nat) (ys : List (List DV)) (n : Int) : frzSV b ys (.v (dint n)) = .v (dint n) := rfl
theorem frzSV_bool (b : Nat) (ys : List (List DV)) (n : Bool) : frzSV b ys (.v (.prim (.bool n))) = .v (.prim (.bool n)) := rfl
theorem frzSV_dbool (b : Nat) (ys : List (List DV)) (n : Bool) : frzSV b ys (.v (dbool n)) = .v (dbool n) := rfl
theorem frzSV_sl (b : Nat) (ys els : List (List DV)) : frzSV b ys (.v (.sl els)) = .v (.sl els) := rfl
theorem frzSV_agg (b : Nat) (ys : List (List DV)) (cs : List DV) : frzSV b ys (.v (.agg cs)) = .v (.agg cs) := rfl
theorem frzSV_tup (b : Nat) (ys : List (List DV)) (cs : List DV) : frzSV b ys (.v (.tup cs)) = .v (.tup cs) := rfl
theorem frzSV_tm (b : Nat) (ys : List (List DV)) (t : Tm) : frzSV b ys (.v t.dv) = .v t.dv := rfl
theorem frzSV_loc (b : Nat) (ys : List (List DV)) (k o : Nat) : frzSV b ys (.loc k o) = .loc k o := rfl
theorem frzSV_dp (b : Nat) (ys els : List (List DV)) (k o : Nat) : frzSV b ys (.dp els k o) = .dp els k o := rfl
theorem frzSV_own (b : Nat) (ys els : List (List DV)) (k : Nat) : frzSV b ys (.own k els) = .own k els := rfl
theorem frzSV_ptr (b : Nat) (ys : List (List DV)) (p : Option Addr) : frzSV b ys (.v (.prim (.pointer p))) = .v (.prim (.pointer p)) := rfl
theorem frzSV_it {b : Nat} {ys : List (List DV)} {n cap : Nat} (h1 : n = ys.length) (h2 : n ≤ cap) : frzSV b ys (.v (.prim (.slice (some ⟨b, 0, none⟩) n cap))) = .v (.sl ys) := by
  show (if b = b ∧ n = ys.length ∧ n ≤ cap then _ else _) = _
  rw [if_pos ⟨rfl, h1, h2⟩]

set_option maxRecDepth 100000 in
theorem next4_ok (t : Tm) (room : Int) (ht : t.shape = true) (hi : t.idx 549755813888) (hc : t.count ≤ 1048576) : Con1 Tryz.prog gl 32 [t.dv, dint room] [] (.tup [(t.nextN room).1.dv, dbool (t.nextN room).2.1, dbool (t.nextN room).2.2]) [] := by
  induction t using Tm.ind with
  | h t ih =>
  have hs := (Tm.shape_node ht).2.2.2.2
  have hi2 := ((Tm.idx_eq t _).1 hi).2
  refine t_in Tryz.func32 ?_
  intro X hP hgl hf hfn hn hR hids hfit
  have hlen := Tm.fit_len (hfit t.dv (by simp))
  refine t_g0 ?_
  refine t_c1 trivial (root_ok t ht) ?_
  by_cases hr0 : t.rootN = true
  · refine t_g @hr0 ?_
    refine t_c1 trivial (growth_ok t ht hr0 hc) ?_
    by_cases hg : room < t.growthN
    · refine t_g @hg ?_
      refine t_r ?_
      simp [go_sem, hP, hgl, hn, Tm.nextN_root t room hr0, hg, zeroTm] <;> (try omega)
      all_goals exact t_f
    · refine t_g @hg ?_
      refine t_c1 trivial (reduced_ok t ht hr0 hi hc) ?_
      refine t_r ?_
      simp [go_sem, hP, hgl, hn, Tm.nextN_root t room hr0, hg] <;> (try omega)
      all_goals exact t_f
  have hr : t.rootN = false := by simpa using hr0
  have hct := Tm.count_eq t
  refine t_g @hr ?_
  refine t_a ?_
  refine t_sub [] trivial (W_listI (t.args) (fun done => (Tm.nextN.nexts done room).2.1 = false) (fun done rest => [(.slot 1, .one (.v (dint room))), (.slot 25, .one (.v (dint done.length))), (.slot 24, .one (.v (dint t.args.length))), (.slot 23, .one (.v (.sl (t.args.map Tm.cells)))), (.loc 4, .row ([.v (dint 0), .v (dint 0), .v (dint 0), .own 0 [], .own 0 []])), (.slot 4, .one (.loc 4 0)), (.loc 2, .row ([.v (dint t.kind), .v (dint t.index), .v (dint t.type.kind), .v (.sl (t.type.args.map Ty.cells)), .v (.sl (t.args.map Tm.cells))])), (.slot 2, .one (.loc 2 0))]) (rfl) ?_ ?_)
  · intro done x rest hL hg0 hI hnext
    have hlt : done.length < t.args.length := by rw [hL]; simp
    have hxm := List.mem_of_getElem? hg0
    have hcs := Tm.count_mem hxm
    refine t_rg0 ?_
    refine t_yes ?_
    refine t_g @hg0 ?_
    refine t_c1 @hg0 (ih x hxm (hs x hxm) (hi2 x hxm) (by omega)) ?_
    by_cases hf0 : (x.nextN room).2.1 = true
    · refine t_rg @hf0 ?_
      refine t_n @hf0 ?_
      refine t_rg0 ?_
      repeat (first | refine W_seq ?_ | refine W_skip ?_ | refine W_block ?_ | refine W_inBlock ?_ | refine W_label ?_ | refine W_exit rfl ?_)
      refine W_reg [42] fun K hK => ?_
      simp [go_sem, hP, hgl, hn]
      refine vcK_appendX (E := 5) (ys := t.args.map Tm.cells) (by simp [go_sem]) (by simp [go_sem]) (by simp [go_sem, hP]; rfl) (by decide) (by simp [go_sem, hP]) (by rw [hn]; exact Nat.le_of_ble_eq_true rfl) (by simp [Tm.length_cells]) (by simp; omega) (by simp [BIG]; omega) (by rfl) ?_
      intro b cap hcap hnb hw0
      have hal : (arrRow (t.args.map Tm.cells)).length = t.args.length * 5 := by rw [arrRow_len (E := 5) (by simp [Tm.length_cells])]; simp
      simp [go_sem, hP, hgl, hn]
      refine t_e ?_
      clear hK K
      have hbg : t.args.length ≤ BIG := by simp [BIG]; omega
      have hdl : done.length < t.args.length := hlt
      refine t_a ?_
      first | refine W_reg [] fun K hK => ?_ | refine W_regd (by rw [hP]; exact mixed) [] fun K hK => ?_
      refine t_s (j2 @hal (j2 @hdl (j2 @hbg @hlt))) ?_
      refine t_e ?_
      clear hK K
      have hput := put_arr (ys := t.args.map Tm.cells) (E := 5) (by simp [Tm.length_cells]) (i := done.length) (by simpa using hlt) (z := (x.nextN room).1.cells) (Tm.length_cells _)
      have hz : (x.nextN room).1.cells.map SV.v = [SV.v (dint (x.nextN room).1.kind), SV.v (dint (x.nextN room).1.index), SV.v (dint (x.nextN room).1.type.kind), SV.v (.sl ((x.nextN room).1.type.args.map Ty.cells)), SV.v (.sl ((x.nextN room).1.args.map Tm.cells))] := by rw [Tm.cells_eq]; rfl
      rw [hz] at hput
      obtain ⟨L', hL'⟩ : ∃ L', L' = done ++ (x.nextN room).1 :: rest := ⟨_, rfl⟩
      have hset : (t.args.map Tm.cells).set done.length (x.nextN room).1.cells = L'.map Tm.cells := by rw [hL', hL]; simp
      rw [hput, hset]
      have hys : t.args.length = (L'.map Tm.cells).length := by rw [hL', hL]; simp
      have hll : L'.length ≤ 2147483648 := by
        have := congrArg List.length hL
        rw [hL']; simp at this ⊢; omega
      have hcap' : t.args.length ≤ cap := by simpa using hcap
      have hx3 : x.nextN room = ((x.nextN room).1, true, (x.nextN room).2.2) := by rw [← hf0]
      have hN : t.nextN room = (Tm.mk t.kind t.index t.type L', true, (x.nextN room).2.2) := by
        rw [Tm.nextN_args t room hr, hL, Tm.nexts_found hx3 rest done hI, hL']
      refine W_freeze (b := b) (E := 5) (ys := L'.map Tm.cells) (by simp [go_sem]) (fun e he => ?_) (by simp [BIG]; omega) hw0 ?_
      · obtain ⟨q, _, rfl⟩ := List.mem_map.1 he; exact Tm.length_cells q
      simp [go_sem, frz, frzLV, frzRow, frzSV_prim, frzSV_dint, frzSV_bool, frzSV_dbool, frzSV_sl, frzSV_agg, frzSV_tup, frzSV_tm, frzSV_loc, frzSV_dp, frzSV_own, frzSV_ptr, frzSV_it hys hcap']
      refine t_g0 ?_
      refine t_r ?_
      simp [go_sem, hP, hgl, hn, hN] <;> (try omega)
      all_goals exact t_f
    · have hf1 : (x.nextN room).2.1 = false := by simpa using hf0
      refine t_gt (wr []) trivial @hf1 (hnext (Tm.nexts_none hf1 done hI))
  · intro hI
    have hN : t.nextN room = (t, false, true) := by
      rw [Tm.nextN_args t room hr]
      rcases hq : Tm.nextN.nexts t.args room with ⟨u, v, w⟩
      rw [hq] at hI
      simp only at hI
      subst hI
      rfl
    refine t_rg0 ?_
    refine t_no ?_
    refine t_g0 ?_
    refine t_r ?_
    simp [go_sem, hP, hgl, hn, hN] <;> (try omega)
    all_goals exact t_f
end Go.Proofs.YtgfjcbofbbcnmaaGreatDoor.Lift

namespace Go.Proofs.YtgfjcbofbbcnmaaGreatDoor.Lift
set_option linter.unusedSimpArgs false
set_option linter.unusedVariables false
set_option linter.unnecessarySimpa false
open Go
variable {gl : Globs}

/-- all terms that are met are valid, with small indexes -/
def Tm.runOK : Nat → Tm → Bool
  | 0, t => decide (t.checkN = 0) && t.leastN 549755813888
  | s + 1, t => decide (t.checkN = 0) && t.leastN 549755813888 && match t.nextN (4096 - t.count) with
    | (x, true, true) => runOK s x
    | _ => true

theorem Tm.idx_of (t : Tm) (m : Int) (h : t.shape = true) (hm : t.leastN m = true) : t.idx m := by
  induction t using Tm.ind with
  | h t ih =>
  have hs := Tm.shape_node h
  rw [leastN_eq, Bool.and_eq_true] at hm
  have key : ∀ l : List Tm, leastN.leasts l m = true → ∀ a ∈ l, a.leastN m = true := by
    intro l
    induction l with
    | nil => simp
    | cons a r ihr =>
      intro hl x hx
      simp only [leastN.leasts, Bool.and_eq_true] at hl
      rcases List.mem_cons.1 hx with rfl | hx
      · exact hl.1
      · exact ihr hl.2 x hx
  rw [idx_eq]
  refine ⟨⟨hs.2.1, ?_⟩, fun a ha => ih a ha (hs.2.2.2.2 a ha) (key _ hm.2 a ha)⟩
  have := hm.1
  simp at this
  exact this

theorem Tm.runOK_head {n : Nat} {t : Tm} (h : t.runOK n = true) : t.checkN = 0 ∧ t.leastN 549755813888 = true := by
  cases n with
  | zero => simpa [runOK] using h
  | succ n => simp only [runOK, Bool.and_eq_true, decide_eq_true_eq] at h; exact h.1
theorem Tm.runOK_next {n : Nat} {t x : Tm} (h : t.runOK (n + 1) = true) (hx : t.nextN (4096 - t.count) = (x, true, true)) : x.runOK n = true := by
  simp only [runOK, Bool.and_eq_true] at h
  rw [hx] at h
  exact h.2
theorem Tm.loopN_end {k : Nat} {t : Tm} {n : Int} (h : (t.nextN (4096 - t.count)).2.1 = false) : loopN k t n = (t, n, 0) := by
  rcases hq : t.nextN (4096 - t.count) with ⟨u, v, w⟩
  rw [hq] at h
  simp only at h
  subst h
  cases k <;> simp [loopN, hq]
theorem Tm.loopN_zero {t : Tm} {n : Int} (h : (t.nextN (4096 - t.count)).2.1 = true) : loopN 0 t n = (zeroTm, 0, 5) := by
  rcases hq : t.nextN (4096 - t.count) with ⟨u, v, w⟩
  rw [hq] at h
  simp only at h
  subst h
  simp [loopN, hq]
theorem Tm.loopN_big {k : Nat} {t : Tm} {n : Int} (h : (t.nextN (4096 - t.count)).2.1 = true) (h2 : (t.nextN (4096 - t.count)).2.2 = false) : loopN (k + 1) t n = (zeroTm, 0, 4) := by
  rcases hq : t.nextN (4096 - t.count) with ⟨u, v, w⟩
  rw [hq] at h h2
  simp only at h h2
  subst h h2
  simp [loopN, hq]
theorem Tm.loopN_on {k : Nat} {t : Tm} {n : Int} (h : (t.nextN (4096 - t.count)).2.1 = true) (h2 : (t.nextN (4096 - t.count)).2.2 = true) : loopN (k + 1) t n = loopN k (t.nextN (4096 - t.count)).1 (n + 1) := by
  rcases hq : t.nextN (4096 - t.count) with ⟨u, v, w⟩
  rw [hq] at h h2
  simp only at h h2
  subst h h2
  simp [loopN, hq]

theorem normal_ok (t : Tm) (n : Nat) (ht : t.tys) (hm : t.leastN 536870912 = true) (hn2 : n ≤ 65536) (hrun : t.runOK n = true) : Con1 Tryz.prog gl 10 [t.dv, dint n] [] (.tup [(Tm.loopN n t 0).1.dv, dint (Tm.loopN n t 0).2.1, dint (Tm.loopN n t 0).2.2]) [] := by
  have hk := (Tm.runOK_head hrun).1
  have hck := (Tm.checkN_iff t).1 hk
  refine t_in Tryz.func10 ?_
  intro X hP hgl hf hfn hn hR hids hfit
  refine t_g0 ?_
  refine t_c1 trivial (ref02_check_ok t ht (by omega)) ?_
  have e1 : ¬ (n : Int) < 0 := by omega
  have e2 : ¬ 65536 < (n : Int) := by omega
  refine t_g @hk ?_
  refine t_c1 (j2 @e1 (j2 @e2 @hm)) (least_ok t 536870912) ?_
  refine t_g @hm ?_
  refine t_a ?_
  refine t_sub [] trivial (W_rounds (fun x : Tm × Nat => x.2 ≤ n ∧ Tm.loopN x.2 x.1 ((n : Int) - x.2) = Tm.loopN n t 0 ∧ x.1.runOK x.2 = true) (fun x : Tm × Nat => [(.slot 1, .one (.v (dint n))), (.slot 8, .one (.v (dint ((n : Int) - x.2)))), (.loc 4, .row ([.v (dint 0), .v (dint 0), .v (dint 0), .own 0 [], .own 0 []])), (.slot 4, .one (.loc 4 0)), (.loc 2, .row ([.v (dint x.1.kind), .v (dint x.1.index), .v (dint x.1.type.kind), .v (.sl (x.1.type.args.map Ty.cells)), .v (.sl (x.1.args.map Tm.cells))])), (.slot 2, .one (.loc 2 0))]) (fun x : Tm × Nat => x.2) (t, n) (⟨Nat.le_refl _, by simp, hrun⟩) ?_)
  rintro ⟨u, k⟩ ⟨hkn, hl, hu⟩ ih2
  simp only at hkn hl hu ⊢
  obtain ⟨u1, u2⟩ := Tm.runOK_head hu
  have uck := (Tm.checkN_iff u).1 u1
  have uix := Tm.idx_of u _ uck.1 u2
  refine t_g0 ?_
  refine t_c2 trivial (ref02_count_ok u (by omega)) (next4_ok u (4096 - u.count) uck.1 uix (by omega)) ?_
  by_cases hfo : (u.nextN (4096 - u.count)).2.1 = true
  · cases k with
    | zero =>
      rw [Tm.loopN_zero hfo] at hl
      refine t_g @hfo ?_
      refine t_r ?_
      simp [go_sem, hP, hgl, hn, ← hl, zeroTm] <;> (try omega)
      all_goals exact t_f
    | succ k =>
      have hne : ¬ (n : Int) - ((k + 1 : Nat) : Int) = n := by omega
      by_cases hg : (u.nextN (4096 - u.count)).2.2 = true
      · rw [Tm.loopN_on hfo hg] at hl
        have hnx : u.nextN (4096 - u.count) = ((u.nextN (4096 - u.count)).1, true, true) := Prod.ext rfl (Prod.ext hfo hg)
        have hrx := Tm.runOK_next hu hnx
        refine t_gt (wr []) trivial (j2 @hfo (j2 @hg @hne)) (ih2 ((u.nextN (4096 - u.count)).1, k) ⟨by omega, by rw [← hl]; congr 1; simp only; omega, hrx⟩ (by simp only; omega))
      · have hg' : (u.nextN (4096 - u.count)).2.2 = false := by simpa using hg
        rw [Tm.loopN_big hfo hg'] at hl
        refine t_g (j2 @hfo (j2 @hg' @hne)) ?_
        refine t_r ?_
        simp [go_sem, hP, hgl, hn, ← hl, zeroTm] <;> (try omega)
        all_goals exact t_f
  · have hfo' : (u.nextN (4096 - u.count)).2.1 = false := by simpa using hfo
    rw [Tm.loopN_end hfo'] at hl
    refine t_g @hfo' ?_
    refine t_c1 trivial (ref02_copy_ok u) ?_
    refine t_r ?_
    simp [go_sem, hP, hgl, hn, ← hl] <;> (try omega)
    all_goals exact t_f
end Go.Proofs.YtgfjcbofbbcnmaaGreatDoor.Lift

/-
  Plain law: reducing keeps what a term denotes; normal closed terms of plain types are the terms of values.
-/
namespace Go.Proofs.YtgfjcbofbbcnmaaGreatDoor.Lift
set_option linter.unusedSimpArgs false
set_option linter.unusedVariables false
set_option linter.unnecessarySimpa false
open Go

theorem dn_reduced {Γ : List T} {t : Tm} {a : T} {F : Env Γ → a.V} (h : Dn Γ t a F) (hr : t.rootN = true) : Dn Γ t.reducedN a F := by
  cases h with
  | app hf hx =>
    have hk : ((nT 3 _).argN 0).kind = 2 := of_decide_eq_true hr
    cases hf with
    | lam ha hb => exact dn_put hx hb
    | var h => simp [Tm.argN, Tm.args, Tm.kind, vT, nT, lamT, Tm.rootN] at hk
    | app h1 h2 => simp [Tm.argN, Tm.args, Tm.kind, vT, nT, lamT, Tm.rootN] at hk
    | rc h1 h2 h3 h4 => simp [Tm.argN, Tm.args, Tm.kind, vT, nT, lamT, Tm.rootN] at hk
    | fold h1 h2 h3 h4 => simp [Tm.argN, Tm.args, Tm.kind, vT, nT, lamT, Tm.rootN] at hk
    | fst h1 => simp [Tm.argN, Tm.args, Tm.kind, vT, nT, lamT, Tm.rootN] at hk
    | snd h1 => simp [Tm.argN, Tm.args, Tm.kind, vT, nT, lamT, Tm.rootN] at hk
  | rc ha hb hf hn =>
    rename_i b f n B F N
    have hk : n.kind = 4 ∨ n.kind = 5 := by
      have : (decide (n.kind = 4) || decide (n.kind = 5)) = true := hr
      rcases Bool.or_eq_true_iff.1 this with h | h
      · exact .inl (of_decide_eq_true h)
      · exact .inr (of_decide_eq_true h)
    cases hn with
    | zero => exact hb
    | succ hx => exact .app (.app hf hx) (.rc ha hb hf hx)
    | var h => simp [Tm.argN, Tm.args, Tm.kind, vT, nT, lamT, Tm.rootN] at hk
    | app h1 h2 => simp [Tm.argN, Tm.args, Tm.kind, vT, nT, lamT, Tm.rootN] at hk
    | rc h1 h2 h3 h4 => simp [Tm.argN, Tm.args, Tm.kind, vT, nT, lamT, Tm.rootN] at hk
    | fold h1 h2 h3 h4 => simp [Tm.argN, Tm.args, Tm.kind, vT, nT, lamT, Tm.rootN] at hk
    | fst h1 => simp [Tm.argN, Tm.args, Tm.kind, vT, nT, lamT, Tm.rootN] at hk
    | snd h1 => simp [Tm.argN, Tm.args, Tm.kind, vT, nT, lamT, Tm.rootN] at hk
  | fold ha hb hf hn =>
    rename_i b f n B F N
    have hk : n.kind = 7 ∨ n.kind = 8 := by
      have : (decide (n.kind = 7) || decide (n.kind = 8)) = true := hr
      rcases Bool.or_eq_true_iff.1 this with h | h
      · exact .inl (of_decide_eq_true h)
      · exact .inr (of_decide_eq_true h)
    cases hn with
    | nil => exact hb
    | cons hx hl => exact .app (.app (.app hf hx) hl) (.fold ha hb hf hl)
    | var h => simp [Tm.argN, Tm.args, Tm.kind, vT, nT, lamT, Tm.rootN] at hk
    | app h1 h2 => simp [Tm.argN, Tm.args, Tm.kind, vT, nT, lamT, Tm.rootN] at hk
    | rc h1 h2 h3 h4 => simp [Tm.argN, Tm.args, Tm.kind, vT, nT, lamT, Tm.rootN] at hk
    | fold h1 h2 h3 h4 => simp [Tm.argN, Tm.args, Tm.kind, vT, nT, lamT, Tm.rootN] at hk
    | fst h1 => simp [Tm.argN, Tm.args, Tm.kind, vT, nT, lamT, Tm.rootN] at hk
    | snd h1 => simp [Tm.argN, Tm.args, Tm.kind, vT, nT, lamT, Tm.rootN] at hk
  | fst hx =>
    rename_i b x X
    have hk : x.kind = 10 := of_decide_eq_true hr
    cases hx with
    | pair h1 h2 => exact h1
    | var h => simp [Tm.argN, Tm.args, Tm.kind, vT, nT, lamT, Tm.rootN] at hk
    | app h1 h2 => simp [Tm.argN, Tm.args, Tm.kind, vT, nT, lamT, Tm.rootN] at hk
    | rc h1 h2 h3 h4 => simp [Tm.argN, Tm.args, Tm.kind, vT, nT, lamT, Tm.rootN] at hk
    | fold h1 h2 h3 h4 => simp [Tm.argN, Tm.args, Tm.kind, vT, nT, lamT, Tm.rootN] at hk
    | fst h1 => simp [Tm.argN, Tm.args, Tm.kind, vT, nT, lamT, Tm.rootN] at hk
    | snd h1 => simp [Tm.argN, Tm.args, Tm.kind, vT, nT, lamT, Tm.rootN] at hk
  | snd hx =>
    rename_i b x X
    have hk : x.kind = 10 := of_decide_eq_true hr
    cases hx with
    | pair h1 h2 => exact h2
    | var h => simp [Tm.argN, Tm.args, Tm.kind, vT, nT, lamT, Tm.rootN] at hk
    | app h1 h2 => simp [Tm.argN, Tm.args, Tm.kind, vT, nT, lamT, Tm.rootN] at hk
    | rc h1 h2 h3 h4 => simp [Tm.argN, Tm.args, Tm.kind, vT, nT, lamT, Tm.rootN] at hk
    | fold h1 h2 h3 h4 => simp [Tm.argN, Tm.args, Tm.kind, vT, nT, lamT, Tm.rootN] at hk
    | fst h1 => simp [Tm.argN, Tm.args, Tm.kind, vT, nT, lamT, Tm.rootN] at hk
    | snd h1 => simp [Tm.argN, Tm.args, Tm.kind, vT, nT, lamT, Tm.rootN] at hk
  | var h => simp [Tm.argN, Tm.args, Tm.kind, vT, nT, lamT, Tm.rootN] at hr
  | lam ha hb => simp [Tm.argN, Tm.args, Tm.kind, vT, nT, lamT, Tm.rootN] at hr
  | zero => simp [Tm.argN, Tm.args, Tm.kind, vT, nT, lamT, Tm.rootN] at hr
  | succ h1 => simp [Tm.argN, Tm.args, Tm.kind, vT, nT, lamT, Tm.rootN] at hr
  | nil => simp [Tm.argN, Tm.args, Tm.kind, vT, nT, lamT, Tm.rootN] at hr
  | cons h1 h2 => simp [Tm.argN, Tm.args, Tm.kind, vT, nT, lamT, Tm.rootN] at hr
  | pair h1 h2 => simp [Tm.argN, Tm.args, Tm.kind, vT, nT, lamT, Tm.rootN] at hr
  | unit => simp [Tm.argN, Tm.args, Tm.kind, vT, nT, lamT, Tm.rootN] at hr

theorem Tm.next_root {t : Tm} {room : Int} (h : t.rootN = true) : t.nextN room = if room < t.growthN then (zeroTm, true, false) else (t.reducedN, true, true) := by
  cases t; rw [nextN, h]
theorem Tm.next_no {t : Tm} {room : Int} (h : t.rootN = false) : t.nextN room = match nextN.nexts t.args room with
    | (l, true, f) => (Tm.mk t.kind t.index t.type l, true, f)
    | (_, false, _) => (t, false, true) := by
  cases t; rw [nextN, h]; rfl

/-- what is left where the next redex stands in one of the parts -/
theorem Tm.nexts_some {l : List Tm} {room : Int} {m : List Tm} (h : nextN.nexts l room = (m, true, true)) : ∃ l1 x y l2, l = l1 ++ x :: l2 ∧ m = l1 ++ y :: l2 ∧ x.nextN room = (y, true, true) := by
  induction l generalizing m with
  | nil => simp [nextN.nexts] at h
  | cons a r ih =>
    simp only [nextN.nexts] at h
    rcases ha : a.nextN room with ⟨y, b, f⟩
    rw [ha] at h
    cases b with
    | true =>
      simp only [Prod.mk.injEq, true_and] at h
      obtain ⟨rfl, rfl⟩ := h
      exact ⟨[], a, y, r, rfl, rfl, ha⟩
    | false =>
      rcases hr : nextN.nexts r room with ⟨m', b, f'⟩
      rw [hr] at h
      simp only [Prod.mk.injEq] at h
      obtain ⟨rfl, rfl, rfl⟩ := h
      obtain ⟨l1, x, y', l2, e1, e2, e3⟩ := ih hr
      exact ⟨a :: l1, x, y', l2, by rw [e1]; rfl, by rw [e2]; rfl, e3⟩
theorem Tm.nexts_noN {l : List Tm} {room : Int} (h : (nextN.nexts l room).2.1 = false) : ∀ x ∈ l, (x.nextN room).2.1 = false := by
  induction l with
  | nil => intro x hx; cases hx
  | cons a r ih =>
    simp only [nextN.nexts] at h
    rcases ha : a.nextN room with ⟨y, b, f⟩
    rw [ha] at h
    cases b with
    | true => simp at h
    | false =>
      rcases hr : nextN.nexts r room with ⟨m', b, f'⟩
      rw [hr] at h
      simp only at h
      subst h
      intro x hx
      rcases List.mem_cons.1 hx with rfl | hx
      · rw [ha]
      · exact ih (by rw [hr]) x hx
theorem Tm.next_split {t x : Tm} {room : Int} (h : t.nextN room = (x, true, true)) : (t.rootN = true ∧ x = t.reducedN ∧ t.growthN ≤ room) ∨ (t.rootN = false ∧ ∃ l1 u v l2, t.args = l1 ++ u :: l2 ∧ x = Tm.mk t.kind t.index t.type (l1 ++ v :: l2) ∧ u.nextN room = (v, true, true)) := by
  cases hr : t.rootN with
  | true =>
    rw [next_root hr] at h
    split at h
    · simp at h
    · rename_i hlt
      simp only [Prod.mk.injEq, and_true] at h
      exact .inl ⟨rfl, h.symm, by omega⟩
  | false =>
    rw [next_no hr] at h
    rcases hn : nextN.nexts t.args room with ⟨m, b, f⟩
    rw [hn] at h
    cases b with
    | false => simp at h
    | true =>
      simp only [Prod.mk.injEq, true_and] at h
      obtain ⟨rfl, rfl⟩ := h
      obtain ⟨l1, u, v, l2, e1, e2, e3⟩ := nexts_some hn
      exact .inr ⟨rfl, l1, u, v, l2, e1, by rw [e2], e3⟩
theorem Tm.next_none {t : Tm} {room : Int} (h : (t.nextN room).2.1 = false) : t.rootN = false ∧ ∀ x ∈ t.args, (x.nextN room).2.1 = false := by
  cases hr : t.rootN with
  | true =>
    rw [next_root hr] at h
    split at h <;> simp at h
  | false =>
    rw [next_no hr] at h
    rcases hn : nextN.nexts t.args room with ⟨m, b, f⟩
    rw [hn] at h
    cases b with
    | true => simp at h
    | false => exact ⟨rfl, nexts_noN (by rw [hn])⟩

theorem split1 {a u : Tm} {l1 l2 : List Tm} (h : [a] = l1 ++ u :: l2) : l1 = [] ∧ u = a ∧ l2 = [] := by
  cases l1 with
  | nil => simp at h; exact ⟨rfl, h.1.symm, h.2⟩
  | cons b r => simp at h
theorem split2 {a b u : Tm} {l1 l2 : List Tm} (h : [a, b] = l1 ++ u :: l2) : (l1 = [] ∧ u = a ∧ l2 = [b]) ∨ (l1 = [a] ∧ u = b ∧ l2 = []) := by
  cases l1 with
  | nil => simp at h; exact .inl ⟨rfl, h.1.symm, h.2.symm⟩
  | cons c r =>
    simp at h
    obtain ⟨rfl, h⟩ := h
    obtain ⟨rfl, h2, h3⟩ := split1 h
    exact .inr ⟨rfl, h2, h3⟩
theorem split3 {a b c u : Tm} {l1 l2 : List Tm} (h : [a, b, c] = l1 ++ u :: l2) : (l1 = [] ∧ u = a ∧ l2 = [b, c]) ∨ (l1 = [a] ∧ u = b ∧ l2 = [c]) ∨ (l1 = [a, b] ∧ u = c ∧ l2 = []) := by
  cases l1 with
  | nil => simp at h; exact .inl ⟨rfl, h.1.symm, h.2.symm⟩
  | cons d r =>
    simp at h
    obtain ⟨rfl, h⟩ := h
    rcases split2 h with ⟨rfl, h2, h3⟩ | ⟨rfl, h2, h3⟩
    · exact .inr (.inl ⟨rfl, h2, h3⟩)
    · exact .inr (.inr ⟨rfl, h2, h3⟩)

theorem leaf_next {t x : Tm} {room : Int} {p : Prop} (h : t.nextN room = (x, true, true)) (h1 : t.rootN = false) (h2 : t.args = []) : p := by
  rcases Tm.next_split h with ⟨hr, -, -⟩ | ⟨-, l1, u, v, l2, e1, -, -⟩
  · rw [h1] at hr; cases hr
  · rw [h2] at e1; cases l1 <;> simp at e1

/-- a step of reduction keeps what is denoted -/
theorem dn_next {Γ : List T} {t : Tm} {a : T} {F : Env Γ → a.V} (h : Dn Γ t a F) : ∀ {room : Int} {x : Tm}, t.nextN room = (x, true, true) → Dn Γ x a F := by
  induction h with
  | var h => intro room x hx; exact leaf_next hx rfl rfl
  | zero => intro room x hx; exact leaf_next hx rfl rfl
  | nil => intro room x hx; exact leaf_next hx rfl rfl
  | unit => intro room x hx; exact leaf_next hx rfl rfl
  | lam ha hb ih =>
    intro room x hx
    rcases Tm.next_split hx with ⟨hr, -, -⟩ | ⟨-, l1, u, v, l2, e1, rfl, e3⟩
    · simp [Tm.argN, Tm.args, Tm.kind, vT, nT, lamT, Tm.rootN] at hr
    · obtain ⟨rfl, rfl, rfl⟩ := split1 e1
      exact .lam ha (ih e3)
  | app hf hx ihf ihx =>
    intro room x hn
    rcases Tm.next_split hn with ⟨hr, rfl, -⟩ | ⟨-, l1, u, v, l2, e1, rfl, e3⟩
    · exact dn_reduced (.app hf hx) hr
    · rcases split2 e1 with ⟨rfl, rfl, rfl⟩ | ⟨rfl, rfl, rfl⟩
      · exact .app (ihf e3) hx
      · exact .app hf (ihx e3)
  | succ hx ih =>
    intro room x hn
    rcases Tm.next_split hn with ⟨hr, -, -⟩ | ⟨-, l1, u, v, l2, e1, rfl, e3⟩
    · simp [Tm.argN, Tm.args, Tm.kind, vT, nT, lamT, Tm.rootN] at hr
    · obtain ⟨rfl, rfl, rfl⟩ := split1 e1
      exact .succ (ih e3)
  | rc ha hb hf hn ihb ihf ihn =>
    intro room x hx
    rcases Tm.next_split hx with ⟨hr, rfl, -⟩ | ⟨-, l1, u, v, l2, e1, rfl, e3⟩
    · exact dn_reduced (.rc ha hb hf hn) hr
    · rcases split3 e1 with ⟨rfl, rfl, rfl⟩ | ⟨rfl, rfl, rfl⟩ | ⟨rfl, rfl, rfl⟩
      · exact .rc ha (ihb e3) hf hn
      · exact .rc ha hb (ihf e3) hn
      · exact .rc ha hb hf (ihn e3)
  | cons hx hl ihx ihl =>
    intro room x hn
    rcases Tm.next_split hn with ⟨hr, -, -⟩ | ⟨-, l1, u, v, l2, e1, rfl, e3⟩
    · simp [Tm.argN, Tm.args, Tm.kind, vT, nT, lamT, Tm.rootN] at hr
    · rcases split2 e1 with ⟨rfl, rfl, rfl⟩ | ⟨rfl, rfl, rfl⟩
      · exact .cons (ihx e3) hl
      · exact .cons hx (ihl e3)
  | fold ha hb hf hn ihb ihf ihn =>
    intro room x hx
    rcases Tm.next_split hx with ⟨hr, rfl, -⟩ | ⟨-, l1, u, v, l2, e1, rfl, e3⟩
    · exact dn_reduced (.fold ha hb hf hn) hr
    · rcases split3 e1 with ⟨rfl, rfl, rfl⟩ | ⟨rfl, rfl, rfl⟩ | ⟨rfl, rfl, rfl⟩
      · exact .fold ha (ihb e3) hf hn
      · exact .fold ha hb (ihf e3) hn
      · exact .fold ha hb hf (ihn e3)
  | pair hx hy ihx ihy =>
    intro room x hn
    rcases Tm.next_split hn with ⟨hr, -, -⟩ | ⟨-, l1, u, v, l2, e1, rfl, e3⟩
    · simp [Tm.argN, Tm.args, Tm.kind, vT, nT, lamT, Tm.rootN] at hr
    · rcases split2 e1 with ⟨rfl, rfl, rfl⟩ | ⟨rfl, rfl, rfl⟩
      · exact .pair (ihx e3) hy
      · exact .pair hx (ihy e3)
  | fst hx ih =>
    intro room x hn
    rcases Tm.next_split hn with ⟨hr, rfl, -⟩ | ⟨-, l1, u, v, l2, e1, rfl, e3⟩
    · exact dn_reduced (.fst hx) hr
    · obtain ⟨rfl, rfl, rfl⟩ := split1 e1
      exact .fst (ih e3)
  | snd hx ih =>
    intro room x hn
    rcases Tm.next_split hn with ⟨hr, rfl, -⟩ | ⟨-, l1, u, v, l2, e1, rfl, e3⟩
    · exact dn_reduced (.snd hx) hr
    · obtain ⟨rfl, rfl, rfl⟩ := split1 e1
      exact .snd (ih e3)

/-- a closed term without a redex begins with a constructor of its type -/
def headOf : T → Int → Prop
  | .nat, k => k = 4 ∨ k = 5
  | .list, k => k = 7 ∨ k = 8
  | .unit, k => k = 13
  | .pair _ _, k => k = 10
  | .fn _ _, k => k = 2
theorem headOf_kinds {a : T} {k : Int} (h : headOf a k) : k = 2 ∨ k = 4 ∨ k = 5 ∨ k = 7 ∨ k = 8 ∨ k = 10 ∨ k = 13 := by
  cases a <;> simp only [headOf] at h <;> omega
theorem no_head {a : T} {k : Int} {p : Prop} (h : headOf a k) (hk : k = 3 ∨ k = 6 ∨ k = 9 ∨ k = 11 ∨ k = 12) : p := by
  have := headOf_kinds h
  omega
theorem dn_head {Θ : List T} {t : Tm} {a : T} {F : Env Θ → a.V} (h : Dn Θ t a F) : Θ = [] → ∀ {room : Int}, (t.nextN room).2.1 = false → headOf a t.kind := by
  induction h with
  | var h => intro e; subst e; cases h
  | lam ha hb ih => intro e room hn; exact rfl
  | app hf hx ihf ihx =>
    intro e room hn
    obtain ⟨h1, h2⟩ := Tm.next_none hn
    rename_i a b f x F X
    have h4 : f.kind = 2 := ihf e (h2 f (by simp [nT, Tm.args]))
    have h3 : decide (f.kind = 2) = false := h1
    exact absurd h4 (of_decide_eq_false h3)
  | zero => intro e room hn; exact .inl rfl
  | succ hx ih => intro e room hn; exact .inr rfl
  | rc ha hb hf hn ihb ihf ihn =>
    intro e room hx
    obtain ⟨h1, h2⟩ := Tm.next_none hx
    rename_i b f n B F N
    have := ihn e (h2 n (by simp [Tm.args]))
    have h3 : (decide (n.kind = 4) || decide (n.kind = 5)) = false := h1
    rw [Bool.or_eq_false_iff] at h3
    rcases this with h | h
    · exact absurd h (of_decide_eq_false h3.1)
    · exact absurd h (of_decide_eq_false h3.2)
  | nil => intro e room hn; exact .inl rfl
  | cons hx hl ihx ihl => intro e room hn; exact .inr rfl
  | fold ha hb hf hn ihb ihf ihn =>
    intro e room hx
    obtain ⟨h1, h2⟩ := Tm.next_none hx
    rename_i b f n B F N
    have := ihn e (h2 n (by simp [Tm.args]))
    have h3 : (decide (n.kind = 7) || decide (n.kind = 8)) = false := h1
    rw [Bool.or_eq_false_iff] at h3
    rcases this with h | h
    · exact absurd h (of_decide_eq_false h3.1)
    · exact absurd h (of_decide_eq_false h3.2)
  | pair hx hy ihx ihy => intro e room hn; exact rfl
  | fst hx ih =>
    intro e room hn
    obtain ⟨h1, h2⟩ := Tm.next_none hn
    rename_i b x X
    have h4 : x.kind = 10 := ih e (h2 x (by simp [nT, Tm.args]))
    have h3 : decide (x.kind = 10) = false := h1
    exact absurd h4 (of_decide_eq_false h3)
  | snd hx ih =>
    intro e room hn
    obtain ⟨h1, h2⟩ := Tm.next_none hn
    rename_i b x X
    have h4 : x.kind = 10 := ih e (h2 x (by simp [nT, Tm.args]))
    have h3 : decide (x.kind = 10) = false := h1
    exact absurd h4 (of_decide_eq_false h3)
  | unit => intro e room hn; exact rfl

/-- types without functions -/
def T.plain : T → Prop
  | .nat => True
  | .list => True
  | .unit => True
  | .pair a b => a.plain ∧ b.plain
  | .fn _ _ => False
/-- the plain value of a value -/
def valOf : (a : T) → a.V → Val
  | .nat, n => Val.mk 1 (Int.ofNat n) [] []
  | .list, l => Val.mk 2 0 (List.map Int.ofNat l) []
  | .unit, _ => Val.mk 4 0 [] []
  | .pair a b, p => Val.mk 3 0 [] [valOf a p.1, valOf b p.2]
  | .fn _ _, _ => Val.mk 4 0 [] []

/-- a normal closed term of a plain type reads as what it denotes -/
theorem dn_read {Θ : List T} {t : Tm} {a : T} {F : Env Θ → a.V} (h : Dn Θ t a F) : ∀ (e : Θ = []) {room : Int}, (t.nextN room).2.1 = false → a.plain →
    t.readV = (valOf a (F (cast (congrArg Env e.symm) ())), true) ∧ (a = .nat → (t.peel.2 = 4)) ∧ (a = .list → ∃ l, t.readL = some (l, 7)) := by
  induction h with
  | var h => intro e; subst e; cases h
  | lam ha hb ih => intro e room hn hp; exact hp.elim
  | app hf hx ihf ihx => intro e room hn hp; exact no_head (dn_head (.app hf hx) e hn) (.inl rfl)
  | zero => intro e room hn hp; subst e; exact ⟨by rw [Tm.readV_eq]; rfl, fun _ => rfl, fun h => (by cases h)⟩
  | succ hx ih =>
    intro e room hn hp
    subst e
    obtain ⟨h1, h2⟩ := Tm.next_none hn
    rename_i x X
    obtain ⟨k1, k2, -⟩ := ih rfl (h2 x (by simp [nT, Tm.args])) trivial
    have k2 := k2 rfl
    have hk : x.kind = 4 ∨ x.kind = 5 := dn_head hx rfl (h2 x (by simp [nT, Tm.args]))
    have hpe : (nT 5 [x]).peel = (x.peel.1 + 1, x.peel.2) := Tm.peel_succ _ x rfl rfl
    refine ⟨?_, fun _ => by rw [hpe]; exact k2, fun h => (by cases h)⟩
    rw [Tm.readV_eq, if_pos hk] at k1
    rw [Tm.readV_eq, if_pos (.inr rfl), hpe]
    simp only [k2] at k1 ⊢
    have k3 : (Val.mk 1 (x.peel.1 : Nat) [] []) = valOf .nat (X ()) := congrArg Prod.fst k1
    have k4 : Int.ofNat x.peel.1 = Int.ofNat (X ()) := by injection k3
    have k5 : x.peel.1 = X () := Int.ofNat_inj.1 k4
    rw [k5]
    rfl
  | rc ha hb hf hn ihb ihf ihn => intro e room hx hp; exact no_head (dn_head (.rc ha hb hf hn) e hx) (.inr (.inl rfl))
  | nil => intro e room hn hp; subst e; exact ⟨by rw [Tm.readV_eq]; rfl, fun h => (by cases h), fun _ => ⟨[], rfl⟩⟩
  | cons hx hl ihx ihl =>
    intro e room hn hp
    subst e
    obtain ⟨h1, h2⟩ := Tm.next_none hn
    rename_i x l X L
    obtain ⟨k1, k2, -⟩ := ihx rfl (h2 x (by simp [nT, Tm.args])) trivial
    obtain ⟨m1, -, m2⟩ := ihl rfl (h2 l (by simp [nT, Tm.args])) trivial
    have k2 := k2 rfl
    obtain ⟨ns, m2⟩ := m2 rfl
    have hkx : x.kind = 4 ∨ x.kind = 5 := dn_head hx rfl (h2 x (by simp [nT, Tm.args]))
    have hkl : l.kind = 7 ∨ l.kind = 8 := dn_head hl rfl (h2 l (by simp [nT, Tm.args]))
    have hre := Tm.readL_cons (nT 8 [x, l]) x l rfl rfl
    rw [if_pos k2, m2] at hre
    rw [Tm.readV_eq, if_pos hkx] at k1
    have k3 : (Val.mk 1 (x.peel.1 : Nat) [] []) = valOf .nat (X ()) := congrArg Prod.fst k1
    have k4 : Int.ofNat x.peel.1 = Int.ofNat (X ()) := by injection k3
    have k5 : x.peel.1 = X () := Int.ofNat_inj.1 k4
    rw [Tm.readV_eq, if_neg (by omega), if_pos hkl, m2] at m1
    have m3 : Val.mk 2 0 ns [] = valOf .list (L ()) := congrArg Prod.fst m1
    have m4 : ns = List.map Int.ofNat (L ()) := by injection m3
    refine ⟨?_, fun h => (by cases h), fun _ => ⟨_, hre⟩⟩
    rw [Tm.readV_eq, if_neg (by simp [nT, Tm.kind]), if_pos (.inr rfl), hre]
    simp only [Option.map_some]
    rw [m4, k5]
    rfl
  | fold ha hb hf hn ihb ihf ihn => intro e room hx hp; exact no_head (dn_head (.fold ha hb hf hn) e hx) (.inr (.inr (.inl rfl)))
  | pair hx hy ihx ihy =>
    intro e room hn hp
    subst e
    obtain ⟨h1, h2⟩ := Tm.next_none hn
    rename_i a b x y X Y
    obtain ⟨k1, -, -⟩ := ihx rfl (h2 x (by simp [nT, Tm.args])) hp.1
    obtain ⟨m1, -, -⟩ := ihy rfl (h2 y (by simp [nT, Tm.args])) hp.2
    refine ⟨?_, fun h => (by cases h), fun h => (by cases h)⟩
    rw [Tm.readV_eq, if_neg (by simp [nT, Tm.kind]), if_neg (by simp [nT, Tm.kind]), if_neg (by simp [nT, Tm.kind]), if_pos (show (nT 10 [x, y]).kind = 10 from rfl)]
    simp only [nT, Tm.args, Tm.readV.reads, k1, m1]
    rfl
  | fst hx ih => intro e room hn hp; exact no_head (dn_head (.fst hx) e hn) (.inr (.inr (.inr (.inl rfl))))
  | snd hx ih => intro e room hn hp; exact no_head (dn_head (.snd hx) e hn) (.inr (.inr (.inr (.inr rfl))))
  | unit => intro e room hn hp; subst e; exact ⟨by rw [Tm.readV_eq]; rfl, fun h => (by cases h), fun h => (by cases h)⟩
end Go.Proofs.YtgfjcbofbbcnmaaGreatDoor.Lift

namespace Go.Proofs.YtgfjcbofbbcnmaaGreatDoor.Lift
set_option linter.unusedSimpArgs false
set_option linter.unusedVariables false
set_option linter.unnecessarySimpa false
open Go
variable {gl : Globs}

/-- whether all nodes have a form -/
theorem Val.nodes_flat {v : Val} (h : v.args = []) : v.nodesN.2 = v.okB := by rw [nodesN_eq, h]; rfl
theorem Val.nodes_pair {v a b : Val} (h : v.args = [a, b]) : v.nodesN.2 = (v.okB && (a.nodesN.2 && b.nodesN.2)) := by
  rw [nodesN_eq, h]
  cases ho : v.okB <;> simp [nodesN.nodesL]
  cases ha : a.nodesN.2 <;> simp
theorem Val.nodes_count (v : Val) (h : v.nodesN.2 = true) : v.nodesN.1 = v.count := by
  induction v using Val.ind with
  | h v ih =>
  have key : ∀ l : List Val, (∀ a ∈ l, a.nodesN.2 = true → a.nodesN.1 = a.count) → ∀ (n : Int) (ok : Bool), (nodesN.nodesL l (n, ok)).2 = true → (nodesN.nodesL l (n, ok)).1 = n + count.counts l := by
    intro l
    induction l with
    | nil => intro _ n ok _; simp [nodesN.nodesL, count.counts]
    | cons a r ihr =>
      intro hl n ok hok
      cases ok with
      | false => rw [nodesL_no] at hok; cases hok
      | true =>
        simp only [nodesN.nodesL, if_true] at hok ⊢
        have ha : a.nodesN.2 = true := (nodesL_ok hok).1
        rw [ihr (fun b hb => hl b (List.mem_cons_of_mem _ hb)) _ _ hok, hl a (by simp) ha]
        simp only [count.counts]
        omega
  rw [nodesN_eq] at h ⊢
  rw [key v.args ih _ _ h, count_eq]
  omega

theorem nodes5_ok (v : Val) (hc : v.count ≤ 1073741824) : Con1 Tryz.prog gl 36 [v.dv] [] (dint v.count) [] := by
  induction v using Val.ind with
  | h v ih =>
  refine t_in Tryz.func36 ?_
  intro X hP hgl hf hfn hn hR hids hfit
  have hl1 := Val.fit_args (hfit v.dv (by simp))
  have hcv := Val.count_eq v
  refine t_g0 ?_
  refine t_a ?_
  refine W_sub [] (by simp [go_sem]) (by simp [go_sem, Val.count.counts] <;> omega) (by simp [go_sem]) (W_list (v.args) (fun done rest => [(.slot 9, .one (.v (dint done.length))), (.slot 8, .one (.v (dint v.args.length))), (.slot 7, .one (.v (.sl (v.args.map Val.cells)))), (.slot 3, .one (.v (dint (1 + Val.count.counts done : Nat)))), (.slot 2, .one (.v (dint 0)))]) ?_ ?_)
  · intro done x rest hL hg0 hnext
    have hlt : done.length < v.args.length := by rw [hL]; simp
    have hxm := List.mem_of_getElem? hg0
    have hca := Val.counts_append done (x :: rest)
    have hcs := Val.counts_append done [x]
    rw [← hL] at hca
    simp only [Val.count.counts] at hca hcs
    refine t_rg0 ?_
    refine t_yes ?_
    refine t_g @hg0 ?_
    refine t_c1 @hg0 (ih x hxm (by omega)) ?_
    refine t_gt (wr []) @hcs trivial hnext
  · refine t_rg0 ?_
    refine t_no ?_
    refine t_g0 ?_
    refine t_r ?_
    simp [go_sem, hP, hgl, hn, hcv] <;> (try omega)

end Go.Proofs.YtgfjcbofbbcnmaaGreatDoor.Lift

/-
  Plain law: the rounds of reduction on closed typed terms.
-/
namespace Go.Proofs.YtgfjcbofbbcnmaaGreatDoor.Lift
set_option linter.unusedSimpArgs false
set_option linter.unusedVariables false
set_option linter.unnecessarySimpa false
open Go

theorem dn_shape {Γ : List T} {t : Tm} {a : T} {F : Env Γ → a.V} (h : Dn Γ t a F) : t.shape = true := by
  have one : ∀ {x : Tm}, x.shape = true → ∀ z ∈ [x], z.shape = true := by intro x hx z hz; rw [List.mem_singleton.1 hz]; exact hx
  have two : ∀ {x y : Tm}, x.shape = true → y.shape = true → ∀ z ∈ [x, y], z.shape = true := by
    intro x y hx hy z hz; simp at hz; rcases hz with rfl | rfl; exact hx; exact hy
  have three : ∀ {x y w : Tm}, x.shape = true → y.shape = true → w.shape = true → ∀ z ∈ [x, y, w], z.shape = true := by
    intro x y w hx hy hw z hz; simp at hz; rcases hz with rfl | rfl | rfl; exact hx; exact hy; exact hw
  induction h with
  | var h => exact shape_v
  | lam ha hb ih => exact shape_t rfl (.inl rfl) (T.ok_ty ha) (one ih)
  | app hf hx ihf ihx => exact shape_n rfl (by decide) (two ihf ihx)
  | zero => rfl
  | succ hx ih => exact shape_n rfl (by decide) (one ih)
  | rc ha hb hf hn ihb ihf ihn => exact shape_t rfl (.inr (.inl rfl)) (T.ok_ty ha) (three ihb ihf ihn)
  | nil => rfl
  | cons hx hl ihx ihl => exact shape_n rfl (by decide) (two ihx ihl)
  | fold ha hb hf hn ihb ihf ihn => exact shape_t rfl (.inr (.inr rfl)) (T.ok_ty ha) (three ihb ihf ihn)
  | pair hx hy ihx ihy => exact shape_n rfl (by decide) (two ihx ihy)
  | fst hx ih => exact shape_n rfl (by decide) (one ih)
  | snd hx ih => exact shape_n rfl (by decide) (one ih)
  | unit => rfl

theorem At.lt {Γ : List T} {i : Nat} {a : T} {p : Env Γ → a.V} (h : At Γ i a p) : i < Γ.length := by
  have := h.get
  exact (List.getElem?_eq_some_iff.1 this).1

theorem dn_least {Γ : List T} {t : Tm} {a : T} {F : Env Γ → a.V} (h : Dn Γ t a F) : ∀ m : Int, (Γ.length : Int) + t.count ≤ m → t.leastN m = true := by
  have node0 : ∀ (k : Int) (y : Ty) (m : Int), 0 ≤ m → (Tm.mk k 0 y []).leastN m = true := by
    intro k y m hm; rw [Tm.leastN_eq]; have h9 : decide (m < (0 : Int)) = false := decide_eq_false (by omega); simp [Tm.index, Tm.args, Tm.leastN.leasts, h9] <;> exact decide_eq_false (by omega)
  have node1 : ∀ (k : Int) (y : Ty) (x : Tm) (m : Int), 0 ≤ m → x.leastN m = true → (Tm.mk k 0 y [x]).leastN m = true := by
    intro k y x m hm h1; rw [Tm.leastN_eq]; have h9 : decide (m < (0 : Int)) = false := decide_eq_false (by omega); simp [Tm.index, Tm.args, Tm.leastN.leasts, h9, h1] <;> exact decide_eq_false (by omega)
  have node2 : ∀ (k : Int) (y : Ty) (x z : Tm) (m : Int), 0 ≤ m → x.leastN m = true → z.leastN m = true → (Tm.mk k 0 y [x, z]).leastN m = true := by
    intro k y x z m hm h1 h2; rw [Tm.leastN_eq]; have h9 : decide (m < (0 : Int)) = false := decide_eq_false (by omega); simp [Tm.index, Tm.args, Tm.leastN.leasts, h9, h1, h2] <;> exact decide_eq_false (by omega)
  have node3 : ∀ (k : Int) (y : Ty) (x z w : Tm) (m : Int), 0 ≤ m → x.leastN m = true → z.leastN m = true → w.leastN m = true → (Tm.mk k 0 y [x, z, w]).leastN m = true := by
    intro k y x z w m hm h1 h2 h3; rw [Tm.leastN_eq]; have h9 : decide (m < (0 : Int)) = false := decide_eq_false (by omega); simp [Tm.index, Tm.args, Tm.leastN.leasts, h9, h1, h2, h3] <;> exact decide_eq_false (by omega)
  induction h with
  | var h =>
    intro m hm
    have := h.lt
    rename_i Γ i a p
    have h9 : decide (m < ((i : Nat) : Int)) = false := decide_eq_false (by omega)
    rw [vT, Tm.leastN_eq]
    simp [Tm.index, Tm.args, Tm.leastN.leasts, h9] <;> exact decide_eq_false (by omega)
  | lam ha hb ih =>
    intro m hm
    rename_i Γ a r b f
    have hc : (lamT a b).count = 1 + (b.count + 0) := rfl
    rw [hc] at hm
    exact node1 _ _ _ _ (by omega) (ih m (by simp only [List.length_cons]; omega))
  | app hf hx ihf ihx =>
    intro m hm
    rename_i Γ a b f x F X
    have hc : (nT 3 [f, x]).count = 1 + (f.count + (x.count + 0)) := rfl
    rw [hc] at hm
    exact node2 _ _ _ _ _ (by omega) (ihf m (by omega)) (ihx m (by omega))
  | zero => intro m hm; exact node0 _ _ _ (by omega)
  | succ hx ih =>
    intro m hm
    rename_i Γ x X
    have hc : (nT 5 [x]).count = 1 + (x.count + 0) := rfl
    rw [hc] at hm
    exact node1 _ _ _ _ (by omega) (ih m (by omega))
  | rc ha hb hf hn ihb ihf ihn =>
    intro m hm
    rename_i Γ a b f n B F N
    have hc : (Tm.mk 6 0 a.ty [b, f, n]).count = 1 + (b.count + (f.count + (n.count + 0))) := rfl
    rw [hc] at hm
    exact node3 _ _ _ _ _ _ (by omega) (ihb m (by omega)) (ihf m (by omega)) (ihn m (by omega))
  | nil => intro m hm; exact node0 _ _ _ (by omega)
  | cons hx hl ihx ihl =>
    intro m hm
    rename_i Γ x l X L
    have hc : (nT 8 [x, l]).count = 1 + (x.count + (l.count + 0)) := rfl
    rw [hc] at hm
    exact node2 _ _ _ _ _ (by omega) (ihx m (by omega)) (ihl m (by omega))
  | fold ha hb hf hn ihb ihf ihn =>
    intro m hm
    rename_i Γ a b f n B F N
    have hc : (Tm.mk 9 0 a.ty [b, f, n]).count = 1 + (b.count + (f.count + (n.count + 0))) := rfl
    rw [hc] at hm
    exact node3 _ _ _ _ _ _ (by omega) (ihb m (by omega)) (ihf m (by omega)) (ihn m (by omega))
  | pair hx hy ihx ihy =>
    intro m hm
    rename_i Γ a b x y X Y
    have hc : (nT 10 [x, y]).count = 1 + (x.count + (y.count + 0)) := rfl
    rw [hc] at hm
    exact node2 _ _ _ _ _ (by omega) (ihx m (by omega)) (ihy m (by omega))
  | fst hx ih =>
    intro m hm
    rename_i Γ a b x X
    have hc : (nT 11 [x]).count = 1 + (x.count + 0) := rfl
    rw [hc] at hm
    exact node1 _ _ _ _ (by omega) (ih m (by omega))
  | snd hx ih =>
    intro m hm
    rename_i Γ a b x X
    have hc : (nT 12 [x]).count = 1 + (x.count + 0) := rfl
    rw [hc] at hm
    exact node1 _ _ _ _ (by omega) (ih m (by omega))
  | unit => intro m hm; exact node0 _ _ _ (by omega)

theorem up_count (t : Tm) (f b : Int) : (t.upN f b).count = t.count := by
  induction t using Tm.ind generalizing f with
  | h t ih =>
  rw [Tm.upN_eq, Tm.count_eq, Tm.count_eq t, Tm.args_mk]
  have key : ∀ l : List Tm, (∀ a ∈ l, a ∈ t.args) → Tm.count.counts (l.map fun x => x.upN (f + bindI t.kind) b) = Tm.count.counts l := by
    intro l
    induction l with
    | nil => intro _; rfl
    | cons a r ihr => intro h; simp only [List.map_cons, Tm.count.counts, ih a (h a (by simp)), ihr fun b hb => h b (by simp [hb])]
  rw [key t.args fun _ h => h]

theorem in_count (t : Tm) (p d : Int) (s : Tm) (ht : t.shape = true) : ((t.inN p d s).count : Int) = t.count + t.timesN (p + d) * ((s.count : Int) - 1) := by
  induction t using Tm.ind generalizing d with
  | h t ih =>
  obtain ⟨hlen, -, -, -, hsa⟩ := Tm.shape_node ht
  rw [Tm.inN_eq]
  by_cases h1 : t.kind = 1
  · have ha : t.args = [] := by rw [h1] at hlen; simp [arityI] at hlen; exact hlen
    have hc : t.count = 1 := by rw [Tm.count_eq, ha]; rfl
    have ht0 : t.timesN (p + d) = if t.index = p + d then 1 else 0 := by
      rw [Tm.timesN_eq, ha]
      by_cases h2 : t.index = p + d <;> simp [h1, h2, Tm.timesN.timess]
    rw [if_pos h1, hc, ht0]
    by_cases h2 : t.index = p + d
    · rw [if_pos h2, if_pos h2, up_count]; omega
    · rw [if_neg h2, if_neg h2]
      split
      · show ((1 + 0 : Nat) : Int) = _; omega
      · rw [hc]; omega
  · rw [if_neg h1, Tm.count_eq, Tm.args_mk, Tm.count_eq t, Tm.timesN_eq, if_neg (fun h => h1 h.1)]
    have key : ∀ l : List Tm, (∀ a ∈ l, a ∈ t.args) → (Tm.count.counts (l.map fun x => x.inN p (d + bindI t.kind) s) : Int) = Tm.count.counts l + Tm.timesN.timess l (p + d + bindI t.kind) * ((s.count : Int) - 1) := by
      intro l
      induction l with
      | nil => intro _; simp [Tm.count.counts, Tm.timesN.timess]
      | cons a r ihr =>
        intro h
        have h3 := ih a (h a (by simp)) (d + bindI t.kind) (hsa a (h a (by simp)))
        have h4 := ihr fun b hb => h b (by simp [hb])
        have e : p + (d + bindI t.kind) = p + d + bindI t.kind := by omega
        rw [e] at h3
        simp only [List.map_cons, Tm.count.counts, Tm.timesN.timess, Int.natCast_add, Int.add_mul]
        omega
    have := key t.args fun _ h => h
    simp only [Int.natCast_add, Nat.zero_add]
    omega

theorem reduced_count (t : Tm) (ht : t.shape = true) (hr : t.rootN = true) : (t.reducedN.count : Int) = t.count + t.growthN := by
  obtain ⟨-, -, -, -, hsa⟩ := Tm.shape_node ht
  unfold Tm.rootN at hr
  by_cases h3 : t.kind = 3
  · rw [if_pos h3] at hr
    obtain ⟨f, x, ha⟩ := Tm.parts2 ht (by rw [h3]; rfl)
    have hf : t.argN 0 = f := by unfold Tm.argN; rw [ha]; rfl
    have hx : t.argN 1 = x := by unfold Tm.argN; rw [ha]; rfl
    rw [hf] at hr
    have hfs := hsa f (by rw [ha]; simp)
    obtain ⟨b, hb⟩ := Tm.parts1 hfs (by rw [of_decide_eq_true hr]; rfl)
    have hb0 : f.argN 0 = b := by unfold Tm.argN; rw [hb]; rfl
    have hbs := (Tm.shape_node hfs).2.2.2.2 b (by rw [hb]; simp)
    unfold Tm.reducedN Tm.growthN
    rw [if_pos h3, if_pos h3, hf, hx, hb0, in_count b 0 0 x hbs]
    simp only [Int.add_zero]
    omega
  rw [if_neg h3] at hr
  by_cases h6 : t.kind = 6
  · obtain ⟨b, f, n, ha⟩ := Tm.parts3 ht (by rw [h6]; rfl)
    have e0 : t.argN 0 = b := by unfold Tm.argN; rw [ha]; rfl
    have e1 : t.argN 1 = f := by unfold Tm.argN; rw [ha]; rfl
    have e2 : t.argN 2 = n := by unfold Tm.argN; rw [ha]; rfl
    have hc : t.count = 1 + (b.count + (f.count + (n.count + 0))) := by rw [Tm.count_eq, ha]; rfl
    rw [if_pos h6, e2] at hr
    unfold Tm.reducedN Tm.growthN
    rw [if_neg h3, if_pos h6, if_neg h3, if_pos h6, e0, e1, e2]
    by_cases hz : n.kind = 4
    · rw [if_pos hz, if_pos hz]; omega
    · rw [if_neg hz, if_neg hz]
      have h5 : n.kind = 5 := by
        rcases Bool.or_eq_true_iff.1 hr with h | h
        · exact absurd (of_decide_eq_true h) hz
        · exact of_decide_eq_true h
      obtain ⟨m, hm⟩ := Tm.parts1 (hsa n (by rw [ha]; simp)) (by rw [h5]; rfl)
      have em : n.argN 0 = m := by unfold Tm.argN; rw [hm]; rfl
      have hcn : n.count = 1 + (m.count + 0) := by rw [Tm.count_eq, hm]; rfl
      rw [em]
      have hcr : (appT (appT f m) (Tm.mk 6 0 t.type [b, f, m])).count = 1 + ((1 + (f.count + (m.count + 0))) + ((1 + (b.count + (f.count + (m.count + 0)))) + 0)) := rfl
      rw [hcr]
      omega
  rw [if_neg h6] at hr
  by_cases h9 : t.kind = 9
  · obtain ⟨b, f, n, ha⟩ := Tm.parts3 ht (by rw [h9]; rfl)
    have e0 : t.argN 0 = b := by unfold Tm.argN; rw [ha]; rfl
    have e1 : t.argN 1 = f := by unfold Tm.argN; rw [ha]; rfl
    have e2 : t.argN 2 = n := by unfold Tm.argN; rw [ha]; rfl
    have hc : t.count = 1 + (b.count + (f.count + (n.count + 0))) := by rw [Tm.count_eq, ha]; rfl
    rw [if_pos h9, e2] at hr
    unfold Tm.reducedN Tm.growthN
    rw [if_neg h3, if_neg h6, if_pos h9, if_neg h3, if_neg h6, if_pos h9, e0, e1, e2]
    by_cases hz : n.kind = 7
    · rw [if_pos hz, if_pos hz]; omega
    · rw [if_neg hz, if_neg hz]
      have h5 : n.kind = 8 := by
        rcases Bool.or_eq_true_iff.1 hr with h | h
        · exact absurd (of_decide_eq_true h) hz
        · exact of_decide_eq_true h
      obtain ⟨m, r, hm⟩ := Tm.parts2 (hsa n (by rw [ha]; simp)) (by rw [h5]; rfl)
      have em : n.argN 0 = m := by unfold Tm.argN; rw [hm]; rfl
      have er : n.argN 1 = r := by unfold Tm.argN; rw [hm]; rfl
      have hcn : n.count = 1 + (m.count + (r.count + 0)) := by rw [Tm.count_eq, hm]; rfl
      rw [em, er]
      have hcr : (appT (appT (appT f m) r) (Tm.mk 9 0 t.type [b, f, r])).count = 1 + ((1 + ((1 + (f.count + (m.count + 0))) + (r.count + 0))) + ((1 + (b.count + (f.count + (r.count + 0)))) + 0)) := rfl
      rw [hcr]
      omega
  rw [if_neg h9] at hr
  have pairs : ∀ x : Tm, t.args = [x] → x.kind = 10 → ∃ u v, x.argN 0 = u ∧ x.argN 1 = v := fun x _ _ => ⟨_, _, rfl, rfl⟩
  by_cases h11 : t.kind = 11
  · unfold Tm.reducedN Tm.growthN
    rw [if_neg h3, if_neg h6, if_neg h9, if_pos h11, if_neg h3, if_neg h6, if_neg h9, if_pos h11]
    omega
  · unfold Tm.reducedN Tm.growthN
    rw [if_neg h3, if_neg h6, if_neg h9, if_neg h11, if_neg h3, if_neg h6, if_neg h9, if_neg h11]
    omega

theorem counts_mid (l1 l2 : List Tm) (u : Tm) : Tm.count.counts (l1 ++ u :: l2) = Tm.count.counts l1 + u.count + Tm.count.counts l2 := by
  rw [Tm.counts_append]
  simp only [Tm.count.counts]
  omega

theorem next_count (t : Tm) : t.shape = true → ∀ {room : Int} {x : Tm}, t.nextN room = (x, true, true) → (x.count : Int) ≤ t.count + room := by
  induction t using Tm.ind with
  | h t ih =>
  intro ht room x hx
  rcases Tm.next_split hx with ⟨hr, rfl, hg⟩ | ⟨-, l1, u, v, l2, e1, rfl, e3⟩
  · have := reduced_count t ht hr; omega
  · have hu : u ∈ t.args := by rw [e1]; simp
    have := ih u hu ((Tm.shape_node ht).2.2.2.2 u hu) e3
    rw [Tm.count_eq, Tm.args_mk, Tm.count_eq t, e1, counts_mid, counts_mid]
    omega

/-- all rounds of a closed typed term meet valid terms -/
theorem dn_run {a : T} : ∀ (n : Nat) {t : Tm} {F : Env [] → a.V}, Dn [] t a F → t.count ≤ 4096 → t.runOK n = true
  | 0, t, F, h, hc => by
    have h1 := (Tm.checkN_iff t).2 ⟨dn_shape h, hc⟩
    have h2 := dn_least h 549755813888 (by simp; omega)
    simp [Tm.runOK, h1, h2]
  | n + 1, t, F, h, hc => by
    have h1 := (Tm.checkN_iff t).2 ⟨dn_shape h, hc⟩
    have h2 := dn_least h 549755813888 (by simp; omega)
    rcases hx : t.nextN (4096 - t.count) with ⟨x, b, f⟩
    simp only [Tm.runOK, h1, h2, hx]
    cases b with
    | false => simp
    | true =>
      cases f with
      | false => simp
      | true =>
        have := next_count t (dn_shape h) hx
        simp [dn_run n (dn_next h hx) (by omega)]

/-- what the rounds lead to -/
theorem dn_loop {a : T} : ∀ (n : Nat) {t : Tm} {F : Env [] → a.V} (k : Int), Dn [] t a F → t.count ≤ 4096 →
    ((Tm.loopN n t k).2.2 = 4 ∨ (Tm.loopN n t k).2.2 = 5) ∨ ((Tm.loopN n t k).2.2 = 0 ∧ Dn [] (Tm.loopN n t k).1 a F ∧ (Tm.loopN n t k).1.count ≤ 4096 ∧ ((Tm.loopN n t k).1.nextN (4096 - (Tm.loopN n t k).1.count)).2.1 = false)
  | 0, t, F, k, h, hc => by
    by_cases hn : (t.nextN (4096 - t.count)).2.1 = true
    · rw [Tm.loopN_zero hn]; exact .inl (.inr rfl)
    · have hn : (t.nextN (4096 - t.count)).2.1 = false := by simpa using hn
      rw [Tm.loopN_end hn]; exact .inr ⟨rfl, h, hc, hn⟩
  | n + 1, t, F, k, h, hc => by
    by_cases hn : (t.nextN (4096 - t.count)).2.1 = true
    · by_cases hf : (t.nextN (4096 - t.count)).2.2 = true
      · rw [Tm.loopN_on hn hf]
        have hx : t.nextN (4096 - t.count) = ((t.nextN (4096 - t.count)).1, true, true) := Prod.ext rfl (Prod.ext hn hf)
        have := next_count t (dn_shape h) hx
        exact dn_loop n (k + 1) (dn_next h hx) (by omega)
      · have hf : (t.nextN (4096 - t.count)).2.2 = false := by simpa using hf
        rw [Tm.loopN_big hn hf]; exact .inl (.inl rfl)
    · have hn : (t.nextN (4096 - t.count)).2.1 = false := by simpa using hn
      rw [Tm.loopN_end hn]; exact .inr ⟨rfl, h, hc, hn⟩

/-- plain values have a form, and as many nodes as their types at most -/
theorem valOf_nodes : ∀ (a : T) (v : a.V), a.plain → (valOf a v).nodesN.2 = true ∧ (valOf a v).count ≤ a.size
  | .nat, n, _ => ⟨by rw [Val.nodes_flat rfl]; simp [valOf, Val.okB, Val.kind, Val.num, Val.list, Val.args]; exact decide_eq_true (Int.natCast_nonneg _), Nat.le_refl _⟩
  | .list, l, _ => ⟨by rw [Val.nodes_flat rfl]; simp [valOf, Val.okB, Val.kind, Val.num, Val.list, Val.args]; intro x hx; obtain ⟨n, _, rfl⟩ := List.mem_map.1 hx; exact Int.natCast_nonneg _, Nat.le_refl _⟩
  | .unit, _, _ => ⟨rfl, Nat.le_refl _⟩
  | .pair a b, p, h => by
    obtain ⟨a1, a2⟩ := valOf_nodes a p.1 h.1
    obtain ⟨b1, b2⟩ := valOf_nodes b p.2 h.2
    refine ⟨?_, ?_⟩
    · rw [Val.nodes_pair (v := valOf (.pair a b) p) rfl, a1, b1]; rfl
    · show 1 + ((valOf a p.1).count + ((valOf b p.2).count + 0)) ≤ 1 + a.size + b.size
      omega
  | .fn _ _, _, h => h.elim

theorem dn_readE {t : Tm} {a : T} {F : Env [] → a.V} (h : Dn [] t a F) (hc : t.count ≤ 4096) {room : Int} (hn : (t.nextN room).2.1 = false) (hp : a.plain) (hs : a.size ≤ 64) : t.readE = (valOf a (F ()), 0) := by
  obtain ⟨h1, -, -⟩ := dn_read h rfl hn hp
  obtain ⟨v1, v2⟩ := valOf_nodes a (F ()) hp
  have hk := (Tm.checkN_iff t).2 ⟨dn_shape h, hc⟩
  have h1 : t.readV = (valOf a (F ()), true) := h1
  unfold Tm.readE
  rw [if_neg (by simp [hk]), h1]
  simp only
  rw [if_neg (by simp), if_neg (by rw [Val.nodes_count _ v1]; omega)]
end Go.Proofs.YtgfjcbofbbcnmaaGreatDoor.Lift

namespace Go.Proofs.YtgfjcbofbbcnmaaGreatDoor.Lift
set_option linter.unusedSimpArgs false
set_option linter.unusedVariables false
set_option linter.unnecessarySimpa false
open Go
variable {gl : Globs}

theorem numeral_ok (n : Nat) : Con1 Tryz.prog gl 58 [dint n] [] (numTm n).dv [] := by
  refine t_in Tryz.func58 ?_
  intro X hP hgl hf hfn hn hR hids hfit
  have hn1 : intOK .i64 n := hfit (dint n) (by simp)
  rw [intOK_i64] at hn1
  refine t_g0 ?_
  refine t_c1 trivial (ref02_n_ok 4 []) ?_
  refine t_a ?_
  refine W_sub [] (by simp [go_sem]) (by simp [go_sem, numTm] <;> omega) (by simp [go_sem]) (W_rounds (fun x : Nat => x ≤ n) (fun x : Nat => [(.slot 0, .one (.v (dint x))), (.loc 3, .row ((numTm (n - x)).cells.map .v)), (.slot 3, .one (.loc 3 0)), (.loc 2, .row ([.v (dint 0), .v (dint 0), .v (dint 0), .own 0 [], .own 0 []])), (.slot 2, .one (.loc 2 0))]) (fun x : Nat => x) n (Nat.le_refl n) ?_)
  intro x hx ih
  cases x with
  | zero =>
    refine t_rg0 ?_
    refine t_no ?_
    refine t_g0 ?_
    refine t_r ?_
    simp [go_sem, hP, hgl, hn] <;> (try omega)
  | succ x =>
    have hs : n - x = (n - (x + 1)) + 1 := by omega
    refine t_rg0 ?_
    refine t_yes ?_
    refine t_rg0 ?_
    refine t_rg0 ?_
    repeat (first | refine W_inBlock ?_ | refine W_skip ?_ | refine W_label ?_ | refine W_exit rfl ?_)
    refine W_sub [] (by simp [go_sem]) (by simp [go_sem, hs, numTm] <;> omega) (by simp [go_sem]) (ih x (by omega) (by omega))

theorem ref05_number_ok (n : Nat) (hn4 : n < 4096) : Con1 Tryz.prog gl 41 [dint n] [] (.tup [(numTm n).dv, dint 0]) [] := by
  refine t_in Tryz.func41 ?_
  intro X hP hgl hf hfn hn hR hids hfit
  have h1 : ¬ (n : Int) < 0 := by omega
  have h2 : ¬ (4096 : Int) ≤ n := by omega
  refine t_g (j2 @h1 @h2) ?_
  refine t_c1 trivial (numeral_ok n) ?_
  refine t_r ?_
  simp [go_sem, hP, hgl, hn] <;> (try omega)

theorem mk_num_ok (n : Nat) (hn4 : n < 4096) : Con1 Tryz.prog gl 21 [dint n] [] (numTm n).dv [] := by
  refine t_in Tryz.func21 ?_
  intro X hP hgl hf hfn hn hR hids hfit
  refine t_g0 ?_
  refine t_c1 trivial (ref05_number_ok n hn4) ?_
  refine t_g0 ?_
  refine t_r ?_
  simp [go_sem, hP, hgl, hn] <;> (try omega)
  all_goals exact t_f

theorem lam5_ok (t : Tm) : Con1 Tryz.prog gl 42 [t.dv] [] (Tm.mk 2 0 (Ty.mk 1 []) [t]).dv [] := by
  refine t_in Tryz.func42 ?_
  intro X hP hgl hf hfn hn hR hids hfit
  refine t_g0 ?_
  refine t_c2 @nat_v ref01_nat_ok (ref02_t_ok 2 (Ty.mk 1 []) [t]) ?_
  refine t_r ?_
  simp [go_sem, hP, hgl, hn] <;> (try omega)
  all_goals exact t_f
theorem rec5_ok (a b c : Tm) : Con1 Tryz.prog gl 43 [a.dv, b.dv, c.dv] [] (Tm.mk 6 0 (Ty.mk 1 []) [a, b, c]).dv [] := by
  refine t_in Tryz.func43 ?_
  intro X hP hgl hf hfn hn hR hids hfit
  refine t_g0 ?_
  refine t_c2 @nat_v ref01_nat_ok (ref02_t_ok 6 (Ty.mk 1 []) [a, b, c]) ?_
  refine t_r ?_
  simp [go_sem, hP, hgl, hn] <;> (try omega)
  all_goals exact t_f
def lamN (t : Tm) : Tm := Tm.mk 2 0 (Ty.mk 1 []) [t]
def recN (a b c : Tm) : Tm := Tm.mk 6 0 (Ty.mk 1 []) [a, b, c]
theorem lam5' (t : Tm) : Con1 Tryz.prog gl 42 [t.dv] [] (lamN t).dv [] := lam5_ok t
theorem rec5' (a b c : Tm) : Con1 Tryz.prog gl 43 [a.dv, b.dv, c.dv] [] (recN a b c).dv [] := rec5_ok a b c
theorem var5 (i : Int) : Con1 Tryz.prog gl 16 [dint i] [] (vT i).dv [] := ref02_var_ok i
theorem n5 (k : Int) (l : List Tm) : Con1 Tryz.prog gl 13 [dint k, .sl (l.map Tm.cells)] [] (nT k l).dv [] := ref02_n_ok k l

theorem pred_eq : lamN (recN (nT 4 []) (lamN (lamN (vT 1))) (vT 0)) = predT := rfl
theorem plus_eq : lamN (lamN (recN (vT 1) (lamN (lamN (nT 5 [vT 0]))) (vT 0))) = plusT := rfl
theorem sub_eq : lamN (lamN (recN (vT 1) (lamN (lamN (nT 3 [predT, vT 0]))) (vT 0))) = subT := rfl
theorem ref05_pred_ok : Con1 Tryz.prog gl 44 [] [] predT.dv [] := by
  refine t_in Tryz.func44 ?_
  intro X hP hgl hf hfn hn hR hids hfit
  refine t_g0 ?_
  refine t_c7 trivial (n5 4 []) (var5 1) (lam5' (vT 1)) (lam5' (lamN (vT 1))) (var5 0) (rec5' (nT 4 []) (lamN (lamN (vT 1))) (vT 0)) (lam5' (recN (nT 4 []) (lamN (lamN (vT 1))) (vT 0))) ?_
  refine t_r ?_
  simp [go_sem, hP, hgl, hn, pred_eq] <;> (try omega)
theorem ref05_plus_ok : Con1 Tryz.prog gl 25 [] [] plusT.dv [] := by
  refine t_in Tryz.func25 ?_
  intro X hP hgl hf hfn hn hR hids hfit
  refine t_g0 ?_
  refine t_c9 trivial (var5 1) (var5 0) (n5 5 [vT 0]) (lam5' (nT 5 [vT 0])) (lam5' (lamN (nT 5 [vT 0]))) (var5 0) (rec5' (vT 1) (lamN (lamN (nT 5 [vT 0]))) (vT 0)) (lam5' (recN (vT 1) (lamN (lamN (nT 5 [vT 0]))) (vT 0))) (lam5' (lamN (recN (vT 1) (lamN (lamN (nT 5 [vT 0]))) (vT 0)))) ?_
  refine t_r ?_
  simp [go_sem, hP, hgl, hn, plus_eq] <;> (try omega)
theorem ref05_sub_ok : Con1 Tryz.prog gl 26 [] [] subT.dv [] := by
  refine t_in Tryz.func26 ?_
  intro X hP hgl hf hfn hn hR hids hfit
  refine t_g0 ?_
  refine t_c10 trivial (var5 1) ref05_pred_ok (var5 0) (n5 3 [predT, vT 0]) (lam5' (nT 3 [predT, vT 0])) (lam5' (lamN (nT 3 [predT, vT 0]))) (var5 0) (rec5' (vT 1) (lamN (lamN (nT 3 [predT, vT 0]))) (vT 0)) (lam5' (recN (vT 1) (lamN (lamN (nT 3 [predT, vT 0]))) (vT 0))) (lam5' (lamN (recN (vT 1) (lamN (lamN (nT 3 [predT, vT 0]))) (vT 0)))) ?_
  refine t_r ?_
  simp [go_sem, hP, hgl, hn, sub_eq] <;> (try omega)
end Go.Proofs.YtgfjcbofbbcnmaaGreatDoor.Lift

namespace Go.Proofs.YtgfjcbofbbcnmaaGreatDoor.Lift
set_option linter.unusedSimpArgs false
set_option linter.unusedVariables false
set_option linter.unnecessarySimpa false
open Go
variable {gl : Globs}

theorem mk_type_ok (n : Nat) (b : Nat) (l : List Int) (p : Nat) (hl : l.length ≤ 500) (hp : p ≤ l.length) (hn3 : n ≤ 3) :
    Con1 Tryz.prog gl 17 [ptr b, dint n] [(b, deck l p)] (typeD l n p).1.dv [(b, deck l (typeD l n p).2)] := by
  induction n generalizing p with
  | zero =>
    refine t_in Tryz.func17 ?_
    intro X hP hgl hf hfn hn hR hids hfit
    rw [typeD] at hR
    have hkb := nextD_bd (l := l) (p := p) (n := 7) (by decide)
    refine t_g0 ?_
    refine t_c1 trivial (next_ok b l p 7 (by decide) (by omega)) ?_
    generalize hd : nextD l p 7 = d at *
    obtain ⟨k, q⟩ := d
    simp only at hkb hR
    by_cases h3 : k = 3
    · refine t_g @h3 ?_
      refine t_c1 trivial ref01_list_ok ?_
      repeat (first | refine W_seq ?_ | refine W_skip ?_ | refine W_block ?_ | refine W_inBlock ?_ | refine W_label ?_ | refine W_exit rfl ?_)
      first | refine W_retR hP hf hfn _ ([(b, deck l q)]) (by first | (simp [go_sem, hP, hgl, hn, h3]; done) | (simp [go_sem, hP, hgl, hn, h3]; rfl)) (by simp [go_sem, hP, hgl, hn, h3]) (by simp) ?_ hR.2 | refine W_endR hP hf hfn _ ([(b, deck l q)]) (by first | (simp [go_sem, hP, hgl, hn, h3]; done) | (simp [go_sem, hP, hgl, hn, h3]; rfl)) (by simp [go_sem, hP, hgl, hn, h3]) (by simp) ?_ hR.2
      rw [hR.1]
      refine ⟨?_, by simp [h3]⟩
      try simp [h3]
      try all_goals (simp [Ty.dv, Ty.cells_eq, Ty.kind_mk, Ty.args_mk, Tm.dv, Tm.cells_eq, Tm.kind_mk, Tm.index_mk, Tm.type_mk, Tm.args_mk, Val.dv, Val.cells_eq, Val.kind_mk, Val.num_mk, Val.list_mk, Val.args_mk, ints])
    by_cases h4 : k = 4
    · refine t_g @h4 ?_
      refine t_c1 trivial ref01_unit_ok ?_
      repeat (first | refine W_seq ?_ | refine W_skip ?_ | refine W_block ?_ | refine W_inBlock ?_ | refine W_label ?_ | refine W_exit rfl ?_)
      first | refine W_retR hP hf hfn _ ([(b, deck l q)]) (by first | (simp [go_sem, hP, hgl, hn, h4]; done) | (simp [go_sem, hP, hgl, hn, h4]; rfl)) (by simp [go_sem, hP, hgl, hn, h4]) (by simp) ?_ hR.2 | refine W_endR hP hf hfn _ ([(b, deck l q)]) (by first | (simp [go_sem, hP, hgl, hn, h4]; done) | (simp [go_sem, hP, hgl, hn, h4]; rfl)) (by simp [go_sem, hP, hgl, hn, h4]) (by simp) ?_ hR.2
      rw [hR.1]
      refine ⟨?_, by simp [h4]⟩
      try simp [h4]
      try all_goals (simp [Ty.dv, Ty.cells_eq, Ty.kind_mk, Ty.args_mk, Tm.dv, Tm.cells_eq, Tm.kind_mk, Tm.index_mk, Tm.type_mk, Tm.args_mk, Val.dv, Val.cells_eq, Val.kind_mk, Val.num_mk, Val.list_mk, Val.args_mk, ints])
    by_cases h0 : k = 0
    · refine t_g @h0 ?_
      refine t_c1 trivial ref01_nat_ok ?_
      repeat (first | refine W_seq ?_ | refine W_skip ?_ | refine W_block ?_ | refine W_inBlock ?_ | refine W_label ?_ | refine W_exit rfl ?_)
      first | refine W_retR hP hf hfn _ ([(b, deck l q)]) (by first | (simp [go_sem, hP, hgl, hn, h0]; done) | (simp [go_sem, hP, hgl, hn, h0]; rfl)) (by simp [go_sem, hP, hgl, hn, h0]) (by simp) ?_ hR.2 | refine W_endR hP hf hfn _ ([(b, deck l q)]) (by first | (simp [go_sem, hP, hgl, hn, h0]; done) | (simp [go_sem, hP, hgl, hn, h0]; rfl)) (by simp [go_sem, hP, hgl, hn, h0]) (by simp) ?_ hR.2
      rw [hR.1]
      refine ⟨?_, by simp [h0]⟩
      try simp [h0]
      try all_goals (simp [Ty.dv, Ty.cells_eq, Ty.kind_mk, Ty.args_mk, Tm.dv, Tm.cells_eq, Tm.kind_mk, Tm.index_mk, Tm.type_mk, Tm.args_mk, Val.dv, Val.cells_eq, Val.kind_mk, Val.num_mk, Val.list_mk, Val.args_mk, ints])
    by_cases h1 : k = 1
    · refine t_g @h1 ?_
      refine t_c1 trivial ref01_nat_ok ?_
      repeat (first | refine W_seq ?_ | refine W_skip ?_ | refine W_block ?_ | refine W_inBlock ?_ | refine W_label ?_ | refine W_exit rfl ?_)
      first | refine W_retR hP hf hfn _ ([(b, deck l q)]) (by first | (simp [go_sem, hP, hgl, hn, h1]; done) | (simp [go_sem, hP, hgl, hn, h1]; rfl)) (by simp [go_sem, hP, hgl, hn, h1]) (by simp) ?_ hR.2 | refine W_endR hP hf hfn _ ([(b, deck l q)]) (by first | (simp [go_sem, hP, hgl, hn, h1]; done) | (simp [go_sem, hP, hgl, hn, h1]; rfl)) (by simp [go_sem, hP, hgl, hn, h1]) (by simp) ?_ hR.2
      rw [hR.1]
      refine ⟨?_, by simp [h1]⟩
      try simp [h1]
      try all_goals (simp [Ty.dv, Ty.cells_eq, Ty.kind_mk, Ty.args_mk, Tm.dv, Tm.cells_eq, Tm.kind_mk, Tm.index_mk, Tm.type_mk, Tm.args_mk, Val.dv, Val.cells_eq, Val.kind_mk, Val.num_mk, Val.list_mk, Val.args_mk, ints])
    by_cases h2 : k = 2
    · refine t_g @h2 ?_
      refine t_c1 trivial ref01_nat_ok ?_
      repeat (first | refine W_seq ?_ | refine W_skip ?_ | refine W_block ?_ | refine W_inBlock ?_ | refine W_label ?_ | refine W_exit rfl ?_)
      first | refine W_retR hP hf hfn _ ([(b, deck l q)]) (by first | (simp [go_sem, hP, hgl, hn, h2]; done) | (simp [go_sem, hP, hgl, hn, h2]; rfl)) (by simp [go_sem, hP, hgl, hn, h2]) (by simp) ?_ hR.2 | refine W_endR hP hf hfn _ ([(b, deck l q)]) (by first | (simp [go_sem, hP, hgl, hn, h2]; done) | (simp [go_sem, hP, hgl, hn, h2]; rfl)) (by simp [go_sem, hP, hgl, hn, h2]) (by simp) ?_ hR.2
      rw [hR.1]
      refine ⟨?_, by simp [h2]⟩
      try simp [h2]
      try all_goals (simp [Ty.dv, Ty.cells_eq, Ty.kind_mk, Ty.args_mk, Tm.dv, Tm.cells_eq, Tm.kind_mk, Tm.index_mk, Tm.type_mk, Tm.args_mk, Val.dv, Val.cells_eq, Val.kind_mk, Val.num_mk, Val.list_mk, Val.args_mk, ints])
    by_cases h5 : k = 5
    · refine t_g @h5 ?_
      refine t_c1 trivial ref01_nat_ok ?_
      repeat (first | refine W_seq ?_ | refine W_skip ?_ | refine W_block ?_ | refine W_inBlock ?_ | refine W_label ?_ | refine W_exit rfl ?_)
      first | refine W_retR hP hf hfn _ ([(b, deck l q)]) (by first | (simp [go_sem, hP, hgl, hn, h5]; done) | (simp [go_sem, hP, hgl, hn, h5]; rfl)) (by simp [go_sem, hP, hgl, hn, h5]) (by simp) ?_ hR.2 | refine W_endR hP hf hfn _ ([(b, deck l q)]) (by first | (simp [go_sem, hP, hgl, hn, h5]; done) | (simp [go_sem, hP, hgl, hn, h5]; rfl)) (by simp [go_sem, hP, hgl, hn, h5]) (by simp) ?_ hR.2
      rw [hR.1]
      refine ⟨?_, by simp [h5]⟩
      try simp [h5]
      try all_goals (simp [Ty.dv, Ty.cells_eq, Ty.kind_mk, Ty.args_mk, Tm.dv, Tm.cells_eq, Tm.kind_mk, Tm.index_mk, Tm.type_mk, Tm.args_mk, Val.dv, Val.cells_eq, Val.kind_mk, Val.num_mk, Val.list_mk, Val.args_mk, ints])
    have h6 : k = 6 := by omega
    refine t_g @h6 ?_
    refine t_c1 trivial ref01_nat_ok ?_
    repeat (first | refine W_seq ?_ | refine W_skip ?_ | refine W_block ?_ | refine W_inBlock ?_ | refine W_label ?_ | refine W_exit rfl ?_)
    first | refine W_retR hP hf hfn _ ([(b, deck l q)]) (by first | (simp [go_sem, hP, hgl, hn, h6]; done) | (simp [go_sem, hP, hgl, hn, h6]; rfl)) (by simp [go_sem, hP, hgl, hn, h6]) (by simp) ?_ hR.2 | refine W_endR hP hf hfn _ ([(b, deck l q)]) (by first | (simp [go_sem, hP, hgl, hn, h6]; done) | (simp [go_sem, hP, hgl, hn, h6]; rfl)) (by simp [go_sem, hP, hgl, hn, h6]) (by simp) ?_ hR.2
    rw [hR.1]
    refine ⟨?_, by simp [h6]⟩
    try simp [h6]
    try all_goals (simp [Ty.dv, Ty.cells_eq, Ty.kind_mk, Ty.args_mk, Tm.dv, Tm.cells_eq, Tm.kind_mk, Tm.index_mk, Tm.type_mk, Tm.args_mk, Val.dv, Val.cells_eq, Val.kind_mk, Val.num_mk, Val.list_mk, Val.args_mk, ints])
  | succ n ih =>
    refine t_in Tryz.func17 ?_
    intro X hP hgl hf hfn hn hR hids hfit
    rw [typeD] at hR
    have hkb := nextD_bd (l := l) (p := p) (n := 7) (by decide)
    have hq := nextD_le (n := 7) hp
    refine t_g0 ?_
    refine t_c1 trivial (next_ok b l p 7 (by decide) (by omega)) ?_
    generalize hd : nextD l p 7 = d at *
    obtain ⟨k, q⟩ := d
    simp only at hkb hR hq
    have hpos : (0 : Int) < ((n + 1 : Nat) : Int) := by omega
    have hsub : ((n + 1 : Nat) : Int) - 1 = (n : Int) := by omega
    obtain ⟨a1, -⟩ := typeD_facts l n q hq
    by_cases h3 : k = 3
    · refine t_g @h3 ?_
      refine t_c1 trivial ref01_list_ok ?_
      repeat (first | refine W_seq ?_ | refine W_skip ?_ | refine W_block ?_ | refine W_inBlock ?_ | refine W_label ?_ | refine W_exit rfl ?_)
      first | refine W_retR hP hf hfn _ ([(b, deck l q)]) (by first | (simp [go_sem, hP, hgl, hn, h3]; done) | (simp [go_sem, hP, hgl, hn, h3]; rfl)) (by simp [go_sem, hP, hgl, hn, h3]) (by simp) ?_ hR.2 | refine W_endR hP hf hfn _ ([(b, deck l q)]) (by first | (simp [go_sem, hP, hgl, hn, h3]; done) | (simp [go_sem, hP, hgl, hn, h3]; rfl)) (by simp [go_sem, hP, hgl, hn, h3]) (by simp) ?_ hR.2
      rw [hR.1]
      refine ⟨?_, by simp [h3]⟩
      try simp [h3]
      try all_goals (simp [Ty.dv, Ty.cells_eq, Ty.kind_mk, Ty.args_mk, Tm.dv, Tm.cells_eq, Tm.kind_mk, Tm.index_mk, Tm.type_mk, Tm.args_mk, Val.dv, Val.cells_eq, Val.kind_mk, Val.num_mk, Val.list_mk, Val.args_mk, ints])
    by_cases h4 : k = 4
    · refine t_g @h4 ?_
      refine t_c1 trivial ref01_unit_ok ?_
      repeat (first | refine W_seq ?_ | refine W_skip ?_ | refine W_block ?_ | refine W_inBlock ?_ | refine W_label ?_ | refine W_exit rfl ?_)
      first | refine W_retR hP hf hfn _ ([(b, deck l q)]) (by first | (simp [go_sem, hP, hgl, hn, h4]; done) | (simp [go_sem, hP, hgl, hn, h4]; rfl)) (by simp [go_sem, hP, hgl, hn, h4]) (by simp) ?_ hR.2 | refine W_endR hP hf hfn _ ([(b, deck l q)]) (by first | (simp [go_sem, hP, hgl, hn, h4]; done) | (simp [go_sem, hP, hgl, hn, h4]; rfl)) (by simp [go_sem, hP, hgl, hn, h4]) (by simp) ?_ hR.2
      rw [hR.1]
      refine ⟨?_, by simp [h4]⟩
      try simp [h4]
      try all_goals (simp [Ty.dv, Ty.cells_eq, Ty.kind_mk, Ty.args_mk, Tm.dv, Tm.cells_eq, Tm.kind_mk, Tm.index_mk, Tm.type_mk, Tm.args_mk, Val.dv, Val.cells_eq, Val.kind_mk, Val.num_mk, Val.list_mk, Val.args_mk, ints])
    by_cases h0 : k = 0
    · refine t_g @h0 ?_
      refine t_c1 trivial ref01_nat_ok ?_
      repeat (first | refine W_seq ?_ | refine W_skip ?_ | refine W_block ?_ | refine W_inBlock ?_ | refine W_label ?_ | refine W_exit rfl ?_)
      first | refine W_retR hP hf hfn _ ([(b, deck l q)]) (by first | (simp [go_sem, hP, hgl, hn, h0]; done) | (simp [go_sem, hP, hgl, hn, h0]; rfl)) (by simp [go_sem, hP, hgl, hn, h0]) (by simp) ?_ hR.2 | refine W_endR hP hf hfn _ ([(b, deck l q)]) (by first | (simp [go_sem, hP, hgl, hn, h0]; done) | (simp [go_sem, hP, hgl, hn, h0]; rfl)) (by simp [go_sem, hP, hgl, hn, h0]) (by simp) ?_ hR.2
      rw [hR.1]
      refine ⟨?_, by simp [h0]⟩
      try simp [h0]
      try all_goals (simp [Ty.dv, Ty.cells_eq, Ty.kind_mk, Ty.args_mk, Tm.dv, Tm.cells_eq, Tm.kind_mk, Tm.index_mk, Tm.type_mk, Tm.args_mk, Val.dv, Val.cells_eq, Val.kind_mk, Val.num_mk, Val.list_mk, Val.args_mk, ints])
    by_cases h1 : k = 1
    · refine t_g @h1 ?_
      refine t_c1 trivial ref01_nat_ok ?_
      repeat (first | refine W_seq ?_ | refine W_skip ?_ | refine W_block ?_ | refine W_inBlock ?_ | refine W_label ?_ | refine W_exit rfl ?_)
      first | refine W_retR hP hf hfn _ ([(b, deck l q)]) (by first | (simp [go_sem, hP, hgl, hn, h1]; done) | (simp [go_sem, hP, hgl, hn, h1]; rfl)) (by simp [go_sem, hP, hgl, hn, h1]) (by simp) ?_ hR.2 | refine W_endR hP hf hfn _ ([(b, deck l q)]) (by first | (simp [go_sem, hP, hgl, hn, h1]; done) | (simp [go_sem, hP, hgl, hn, h1]; rfl)) (by simp [go_sem, hP, hgl, hn, h1]) (by simp) ?_ hR.2
      rw [hR.1]
      refine ⟨?_, by simp [h1]⟩
      try simp [h1]
      try all_goals (simp [Ty.dv, Ty.cells_eq, Ty.kind_mk, Ty.args_mk, Tm.dv, Tm.cells_eq, Tm.kind_mk, Tm.index_mk, Tm.type_mk, Tm.args_mk, Val.dv, Val.cells_eq, Val.kind_mk, Val.num_mk, Val.list_mk, Val.args_mk, ints])
    by_cases h2 : k = 2
    · refine t_g @h2 ?_
      refine t_c1 trivial ref01_nat_ok ?_
      repeat (first | refine W_seq ?_ | refine W_skip ?_ | refine W_block ?_ | refine W_inBlock ?_ | refine W_label ?_ | refine W_exit rfl ?_)
      first | refine W_retR hP hf hfn _ ([(b, deck l q)]) (by first | (simp [go_sem, hP, hgl, hn, h2]; done) | (simp [go_sem, hP, hgl, hn, h2]; rfl)) (by simp [go_sem, hP, hgl, hn, h2]) (by simp) ?_ hR.2 | refine W_endR hP hf hfn _ ([(b, deck l q)]) (by first | (simp [go_sem, hP, hgl, hn, h2]; done) | (simp [go_sem, hP, hgl, hn, h2]; rfl)) (by simp [go_sem, hP, hgl, hn, h2]) (by simp) ?_ hR.2
      rw [hR.1]
      refine ⟨?_, by simp [h2]⟩
      try simp [h2]
      try all_goals (simp [Ty.dv, Ty.cells_eq, Ty.kind_mk, Ty.args_mk, Tm.dv, Tm.cells_eq, Tm.kind_mk, Tm.index_mk, Tm.type_mk, Tm.args_mk, Val.dv, Val.cells_eq, Val.kind_mk, Val.num_mk, Val.list_mk, Val.args_mk, ints])
    by_cases h5 : k = 5
    · refine t_g (j2 @h5 @hpos) ?_
      refine t_c3 @hsub (ih q hq (by omega)) (ih _ a1 (by omega)) (ref01_two_ok (typeD l n q).1 (typeD l n (typeD l n q).2).1) ?_
      repeat (first | refine W_seq ?_ | refine W_skip ?_ | refine W_block ?_ | refine W_inBlock ?_ | refine W_label ?_ | refine W_exit rfl ?_)
      first | refine W_retR hP hf hfn _ ([(b, deck l (typeD l n (typeD l n q).2).2)]) (by first | (simp [go_sem, hP, hgl, hn, h5]; done) | (simp [go_sem, hP, hgl, hn, h5]; rfl)) (by simp [go_sem, hP, hgl, hn, h5]) (by simp) ?_ hR.2 | refine W_endR hP hf hfn _ ([(b, deck l (typeD l n (typeD l n q).2).2)]) (by first | (simp [go_sem, hP, hgl, hn, h5]; done) | (simp [go_sem, hP, hgl, hn, h5]; rfl)) (by simp [go_sem, hP, hgl, hn, h5]) (by simp) ?_ hR.2
      rw [hR.1]
      refine ⟨?_, by simp [h5]⟩
      try simp [h5]
      try all_goals (simp [Ty.dv, Ty.cells_eq, Ty.kind_mk, Ty.args_mk, Tm.dv, Tm.cells_eq, Tm.kind_mk, Tm.index_mk, Tm.type_mk, Tm.args_mk, Val.dv, Val.cells_eq, Val.kind_mk, Val.num_mk, Val.list_mk, Val.args_mk, ints])
    have h6 : k = 6 := by omega
    refine t_g (j2 @h6 @hpos) ?_
    refine t_c3 @hsub (ih q hq (by omega)) (ih _ a1 (by omega)) (ref01_fun_ok (typeD l n q).1 (typeD l n (typeD l n q).2).1) ?_
    repeat (first | refine W_seq ?_ | refine W_skip ?_ | refine W_block ?_ | refine W_inBlock ?_ | refine W_label ?_ | refine W_exit rfl ?_)
    first | refine W_retR hP hf hfn _ ([(b, deck l (typeD l n (typeD l n q).2).2)]) (by first | (simp [go_sem, hP, hgl, hn, h6]; done) | (simp [go_sem, hP, hgl, hn, h6]; rfl)) (by simp [go_sem, hP, hgl, hn, h6]) (by simp) ?_ hR.2 | refine W_endR hP hf hfn _ ([(b, deck l (typeD l n (typeD l n q).2).2)]) (by first | (simp [go_sem, hP, hgl, hn, h6]; done) | (simp [go_sem, hP, hgl, hn, h6]; rfl)) (by simp [go_sem, hP, hgl, hn, h6]) (by simp) ?_ hR.2
    rw [hR.1]
    refine ⟨?_, by simp [h6]⟩
    try simp [h6]
    try all_goals (simp [Ty.dv, Ty.cells_eq, Ty.kind_mk, Ty.args_mk, Tm.dv, Tm.cells_eq, Tm.kind_mk, Tm.index_mk, Tm.type_mk, Tm.args_mk, Val.dv, Val.cells_eq, Val.kind_mk, Val.num_mk, Val.list_mk, Val.args_mk, ints])

def varsP (g : List Ty) (t : Ty) (n : Nat) : List Nat := (List.range n).filter fun i => (varTy g i).same t
theorem varsP_succ (g : List Ty) (t : Ty) (n : Nat) : varsP g t (n + 1) = if (varTy g n).same t = true then varsP g t n ++ [n] else varsP g t n := by
  unfold varsP
  rw [List.range_succ, List.filter_append]
  split <;> simp_all
theorem varsP_le (g : List Ty) (t : Ty) (n : Nat) : (varsP g t n).length ≤ n := by
  have := List.length_filter_le (fun i => (varTy g i).same t) (List.range n)
  simpa [varsP] using this
def natI (l : List Nat) : List Int := l.map Int.ofNat
theorem natI_len (l : List Nat) : (natI l).length = l.length := by simp [natI]
theorem natI_snoc (l : List Nat) (n : Nat) : natI (l ++ [n]) = natI l ++ [(n : Int)] := by simp [natI]

theorem mk_vars_ok (g : List Ty) (t : Ty) (hlg : g.length ≤ 1000000) :
    Con1 Tryz.prog gl 14 [.sl (g.map Ty.cells), t.dv] [] (.sl (ints (natI (varsN g t)))) [] := by
  refine t_in Tryz.func14 ?_
  intro X hP hgl hf hfn hn hR hids hfit
  refine t_g0 ?_
  refine t_a ?_
  refine W_sub [(1005, 0)] (by simp [go_sem]) (by simp [go_sem, natI, varsP, ints_nil] <;> omega) (by simp [go_sem]) (W_upto (g.length) (fun i => True) (fun i => [(.slot 9, .one (.v (dint i))), (.slot 8, .one (.v (dint g.length))), (.slot 5, .one (.own 1005 (ints (natI (varsP g t i))))), (.tok 1005, .tk 1 (varsP g t i).length), (.slot 0, .one (.v (.sl (g.map Ty.cells)))), (.loc 3, .row ([.v (dint t.kind), .v (.sl (t.args.map Ty.cells))])), (.slot 3, .one (.loc 3 0)), (.slot 4, .one (.own 0 []))]) (trivial) ?_ ?_)
  · intro i hi _ hnext
    have hli := varsP_le g t i
    have hvt := (varTy_mem hi).2
    have hix : (g.length : Int) - 1 - i = ((g.length - 1 - i : Nat) : Int) := by omega
    refine t_rg0 ?_
    refine t_yes ?_
    refine t_g0 ?_
    refine t_c1 (j2 @hix @hvt) (ref01_same_ok (varTy g i) t) ?_
    have hsu := varsP_succ g t i
    by_cases hs : (varTy g i).same t = true
    · rw [if_pos hs] at hsu
      rw [hsu] at hnext
      refine t_gt (wr [(1005, 25)]) (j2 @natI_len (j2 @natI_snoc (j2 @ints_cons @ints_nil))) (j2 @hs @natI_len) (hnext trivial)
    · rw [if_neg hs] at hsu
      rw [hsu] at hnext
      refine t_gt (wr []) trivial @hs (hnext trivial)
  · intro _
    refine t_rg0 ?_
    refine t_no ?_
    refine t_g0 ?_
    refine t_r ?_
    simp [go_sem, hP, hgl, hn, varsN, varsP] <;> (try omega)

theorem mk_longer_ok (g h : List Ty) (hlg : g.length + h.length ≤ 1000000) :
    Con1 Tryz.prog gl 19 [.sl (g.map Ty.cells), .sl (h.map Ty.cells)] [] (.sl ((g ++ h).map Ty.cells)) [] := by
  refine t_in Tryz.func19 ?_
  intro X hP hgl hf hfn hn hR hids hfit
  have hl1 : g.length ≤ 1000000 := by omega
  refine t_g0 ?_
  refine t_r ?_
  simp [go_sem, hP, hgl, hn] <;> (try omega)
end Go.Proofs.YtgfjcbofbbcnmaaGreatDoor.Lift

namespace Go.Proofs.YtgfjcbofbbcnmaaGreatDoor.Lift
set_option linter.unusedSimpArgs false
set_option linter.unusedVariables false
set_option linter.unnecessarySimpa false
open Go
variable {gl : Globs}

theorem pickD_none {l : List Int} {t : Ty} {g : List Ty} {p q : Nat} (h : pickD l t g p = (none, q)) : ((varsN g t).length = 0 ∧ q = p) ∨ ((varsN g t).length ≠ 0 ∧ (nextD l p 3).1 = 0 ∧ q = (nextD l p 3).2) := by
  unfold pickD at h
  split at h
  · rename_i h0; cases h; exact .inl ⟨h0, rfl⟩
  · rename_i h0
    split at h
    · rename_i h1; cases h; exact .inr ⟨h0, h1, rfl⟩
    · cases h
theorem pickD_some' {l : List Int} {t : Ty} {g : List Ty} {p q : Nat} {x : Tm} (h : pickD l t g p = (some x, q)) : (varsN g t).length ≠ 0 ∧ (nextD l p 3).1 ≠ 0 ∧ ∃ k i : Nat, (nextD l (nextD l p 3).2 (varsN g t).length).1 = k ∧ (varsN g t)[k]? = some i ∧ x = vT i ∧ q = (nextD l (nextD l p 3).2 (varsN g t).length).2 := by
  unfold pickD at h
  split at h
  · cases h
  · rename_i h0
    split at h
    · cases h
    · rename_i h1
      have hb := nextD_bd (l := l) (p := (nextD l p 3).2) (n := (varsN g t).length) (by omega)
      cases h
      obtain ⟨k, hk⟩ : ∃ k : Nat, (nextD l (nextD l p 3).2 (varsN g t).length).1 = k := ⟨_, (Int.toNat_of_nonneg hb.1).symm⟩
      rw [hk] at hb
      have hlt : k < (varsN g t).length := by omega
      refine ⟨h0, h1, k, (varsN g t)[k], hk, List.getElem?_eq_getElem hlt, ?_, rfl⟩
      rw [hk, Int.toNat_natCast, List.getD_eq_getElem?_getD, List.getElem?_eq_getElem hlt, Option.getD_some]

set_option maxHeartbeats 1000000 in
theorem mk_term_leaf (b : Nat) (l : List Int) (hl : l.length ≤ 500) (t : Ty) : ∀ (z : Int) (g : List Ty) (p : Nat), z ≤ 0 → t.count ≤ z + 1000 → t.small → (∀ x ∈ g, x.small) → g.length + t.count ≤ 1000000 → p ≤ l.length →
    Con1 Tryz.prog gl 7 [ptr b, .sl (g.map Ty.cells), t.dv, dint z] [(b, deck l p)] (leafD l t g p).1.dv [(b, deck l (leafD l t g p).2)] := by
  induction t using Ty.ind with
  | h t ih =>
  intro z g p hz hz1 ht hg hgl1 hp
  refine t_in Tryz.func7 ?_
  intro X hP hgl hf hfn hn hR hids hfit
  rw [leafD_eq l t g p ht.ok] at hR
  have hvl : (varsN g t).length ≤ g.length := varsP_le g t g.length
  have hq3 := nextD_le (n := 3) hp
  have hb3 := nextD_bd (l := l) (p := p) (n := 3) (by decide)
  rcases hpk : pickD l t g p with ⟨_ | x, q⟩
  · rw [hpk] at hR
    simp only at hR
    have hq : q ≤ l.length := by have := pickD_le (t := t) (g := g) hp; rw [hpk] at this; exact this
    apply W_cutX [(.slot 215, .one (.v (dbool (decide (t.kind = 1))))), (.slot 214, .one (.v (dint t.kind))), (.slot 0, .one (.v (ptr b))), (.slot 1, .one (.v (.sl (g.map Ty.cells)))), (.slot 3, .one (.v (dint z))), (.slot 6, .one (.loc 6 0)), (.loc 6, .row ([.v (dint t.kind), .v (.sl (t.args.map Ty.cells))])), (.slot 8, .one (.loc 8 0)), (.loc 8, .row ([.v (dint 0), .v (dint 0), .v (dint 0), .own 0 [], .own 0 []])), (.heap  b, .row ([.v (.sl (ints l)), .v (dint q)]))]
    · intro hrest
      refine t_g0 ?_
      refine t_c1 trivial (mk_vars_ok g t (by omega)) ?_
      rcases pickD_none hpk with ⟨h0, rfl⟩ | ⟨h0, h1, rfl⟩
      · refine t_g (j2 @natI_len @h0) ?_
        refine t_b ?_
        refine t_sub [] trivial hrest
      · have hpos : 0 < (varsN g t).length := by omega
        refine t_g0 ?_
        refine t_c1 (j2 @natI_len (j2 @hpos @h1)) (next_ok b l p 3 (by decide) (by omega)) ?_
        refine t_g @h1 ?_
        refine t_b ?_
        refine t_sub [] trivial hrest
    · have hz2 : ¬ 0 < z := by omega
      rcases small_kinds ht with ⟨h, e⟩ | ⟨h, e⟩ | ⟨h, e⟩ | ⟨h, e⟩ | ⟨h, e⟩
      · rw [if_pos h] at hR
        have hb := nextD_bd (l := l) (p := q) (n := 3) (by decide)
        obtain ⟨k, hk⟩ : ∃ k : Nat, (nextD l q 3).1 = k := ⟨_, (Int.toNat_of_nonneg hb.1).symm⟩
        rw [hk] at hb
        refine t_g (j2 @hz2 @h) ?_
        refine t_c2 @hk (next_ok b l q 3 (by decide) (by omega)) (mk_num_ok k (by omega)) ?_
        repeat (first | refine W_seq ?_ | refine W_skip ?_ | refine W_block ?_ | refine W_inBlock ?_ | refine W_label ?_ | refine W_exit rfl ?_)
        first | refine W_retR hP hf hfn _ ([(b, deck l (nextD l q 3).2)]) (by first | (simp [go_sem, hP, hgl, hn, numD, hk]; done) | (simp [go_sem, hP, hgl, hn, numD, hk]; rfl)) (by simp [go_sem, hP, hgl, hn, numD, hk]) (by simp) ?_ hR.2 | refine W_endR hP hf hfn _ ([(b, deck l (nextD l q 3).2)]) (by first | (simp [go_sem, hP, hgl, hn, numD, hk]; done) | (simp [go_sem, hP, hgl, hn, numD, hk]; rfl)) (by simp [go_sem, hP, hgl, hn, numD, hk]) (by simp) ?_ hR.2
        rw [hR.1]
        refine ⟨?_, by simp [numD, hk]⟩
        try simp [numD, hk]
        try all_goals (simp [Ty.dv, Ty.cells_eq, Ty.kind_mk, Ty.args_mk, Tm.dv, Tm.cells_eq, Tm.kind_mk, Tm.index_mk, Tm.type_mk, Tm.args_mk, Val.dv, Val.cells_eq, Val.kind_mk, Val.num_mk, Val.list_mk, Val.args_mk, ints])
      · rw [if_neg (by omega), if_pos h] at hR
        refine t_g (j2 @hz2 @h) ?_
        refine t_c1 trivial (ref02_n_ok 7 []) ?_
        repeat (first | refine W_seq ?_ | refine W_skip ?_ | refine W_block ?_ | refine W_inBlock ?_ | refine W_label ?_ | refine W_exit rfl ?_)
        first | refine W_retR hP hf hfn _ ([(b, deck l q)]) (by first | (simp [go_sem, hP, hgl, hn, nT]; done) | (simp [go_sem, hP, hgl, hn, nT]; rfl)) (by simp [go_sem, hP, hgl, hn, nT]) (by simp) ?_ hR.2 | refine W_endR hP hf hfn _ ([(b, deck l q)]) (by first | (simp [go_sem, hP, hgl, hn, nT]; done) | (simp [go_sem, hP, hgl, hn, nT]; rfl)) (by simp [go_sem, hP, hgl, hn, nT]) (by simp) ?_ hR.2
        rw [hR.1]
        refine ⟨?_, by simp [nT]⟩
        try simp [nT]
        try all_goals (simp [Ty.dv, Ty.cells_eq, Ty.kind_mk, Ty.args_mk, Tm.dv, Tm.cells_eq, Tm.kind_mk, Tm.index_mk, Tm.type_mk, Tm.args_mk, Val.dv, Val.cells_eq, Val.kind_mk, Val.num_mk, Val.list_mk, Val.args_mk, ints])
      · rw [if_neg (by omega), if_neg (by omega), if_neg (by omega), if_neg (by omega)] at hR
        refine t_g (j2 @hz2 @h) ?_
        refine t_c1 trivial (ref02_n_ok 13 []) ?_
        repeat (first | refine W_seq ?_ | refine W_skip ?_ | refine W_block ?_ | refine W_inBlock ?_ | refine W_label ?_ | refine W_exit rfl ?_)
        first | refine W_retR hP hf hfn _ ([(b, deck l q)]) (by first | (simp [go_sem, hP, hgl, hn, nT]; done) | (simp [go_sem, hP, hgl, hn, nT]; rfl)) (by simp [go_sem, hP, hgl, hn, nT]) (by simp) ?_ hR.2 | refine W_endR hP hf hfn _ ([(b, deck l q)]) (by first | (simp [go_sem, hP, hgl, hn, nT]; done) | (simp [go_sem, hP, hgl, hn, nT]; rfl)) (by simp [go_sem, hP, hgl, hn, nT]) (by simp) ?_ hR.2
        rw [hR.1]
        refine ⟨?_, by simp [nT]⟩
        try simp [nT]
        try all_goals (simp [Ty.dv, Ty.cells_eq, Ty.kind_mk, Ty.args_mk, Tm.dv, Tm.cells_eq, Tm.kind_mk, Tm.index_mk, Tm.type_mk, Tm.args_mk, Val.dv, Val.cells_eq, Val.kind_mk, Val.num_mk, Val.list_mk, Val.args_mk, ints])
      · rw [if_neg (by omega), if_neg (by omega), if_pos h] at hR
        obtain ⟨s0, s1, hc⟩ := ht.arg (.inl h)
        have p0 := Ty.count_eq (t.arg 0)
        have p1 := Ty.count_eq (t.arg 1)
        have ha : t.args = [t.arg 0, t.arg 1] := by rw [e]; rfl
        obtain ⟨a1, -⟩ := leafD_facts closed_shape (t.arg 0) g q s0 hg hq
        refine t_g (j2 @hz2 @h) ?_
        refine t_c3 @ha (ih (t.arg 0) (by rw [ha]; simp) (z - 1) g q (by omega) (by omega) s0 hg (by omega) hq) (ih (t.arg 1) (by rw [ha]; simp) (z - 1) g (leafD l (t.arg 0) g q).2 (by omega) (by omega) s1 hg (by omega) a1) (ref02_n_ok 10 [(leafD l (t.arg 0) g q).1, (leafD l (t.arg 1) g (leafD l (t.arg 0) g q).2).1]) ?_
        repeat (first | refine W_seq ?_ | refine W_skip ?_ | refine W_block ?_ | refine W_inBlock ?_ | refine W_label ?_ | refine W_exit rfl ?_)
        first | refine W_retR hP hf hfn _ ([(b, deck l (leafD l (t.arg 1) g (leafD l (t.arg 0) g q).2).2)]) (by first | (simp [go_sem, hP, hgl, hn, nT]; done) | (simp [go_sem, hP, hgl, hn, nT]; rfl)) (by simp [go_sem, hP, hgl, hn, nT]) (by simp) ?_ hR.2 | refine W_endR hP hf hfn _ ([(b, deck l (leafD l (t.arg 1) g (leafD l (t.arg 0) g q).2).2)]) (by first | (simp [go_sem, hP, hgl, hn, nT]; done) | (simp [go_sem, hP, hgl, hn, nT]; rfl)) (by simp [go_sem, hP, hgl, hn, nT]) (by simp) ?_ hR.2
        rw [hR.1]
        refine ⟨?_, by simp [nT]⟩
        try simp [nT]
        try all_goals (simp [Ty.dv, Ty.cells_eq, Ty.kind_mk, Ty.args_mk, Tm.dv, Tm.cells_eq, Tm.kind_mk, Tm.index_mk, Tm.type_mk, Tm.args_mk, Val.dv, Val.cells_eq, Val.kind_mk, Val.num_mk, Val.list_mk, Val.args_mk, ints])
      · rw [if_neg (by omega), if_neg (by omega), if_neg (by omega), if_pos h] at hR
        obtain ⟨s0, s1, hc⟩ := ht.arg (.inr h)
        have p0 := Ty.count_eq (t.arg 0)
        have p1 := Ty.count_eq (t.arg 1)
        have ha : t.args = [t.arg 0, t.arg 1] := by rw [e]; rfl
        have hgs : ∀ x ∈ g ++ [t.arg 0], x.small := by intro x hx; rcases List.mem_append.1 hx with hx | hx; exact hg x hx; rw [List.mem_singleton.1 hx]; exact s0
        refine t_g (j2 @hz2 @h) ?_
        refine t_c3 @ha (mk_longer_ok g [t.arg 0] (by simp; omega)) (ih (t.arg 1) (by rw [ha]; simp) (z - 1) (g ++ [t.arg 0]) q (by omega) (by omega) s1 hgs (by simp; omega) hq) (ref02_t_ok 2 (t.arg 0) [(leafD l (t.arg 1) (g ++ [t.arg 0]) q).1]) ?_
        repeat (first | refine W_seq ?_ | refine W_skip ?_ | refine W_block ?_ | refine W_inBlock ?_ | refine W_label ?_ | refine W_exit rfl ?_)
        first | refine W_retR hP hf hfn _ ([(b, deck l (leafD l (t.arg 1) (g ++ [t.arg 0]) q).2)]) (by first | (simp [go_sem, hP, hgl, hn]; done) | (simp [go_sem, hP, hgl, hn]; rfl)) (by simp [go_sem, hP, hgl, hn]) (by simp) ?_ hR.2 | refine W_endR hP hf hfn _ ([(b, deck l (leafD l (t.arg 1) (g ++ [t.arg 0]) q).2)]) (by first | (simp [go_sem, hP, hgl, hn]; done) | (simp [go_sem, hP, hgl, hn]; rfl)) (by simp [go_sem, hP, hgl, hn]) (by simp) ?_ hR.2
        rw [hR.1]
        refine ⟨?_, by simp⟩
        try simp
        try all_goals (simp [Ty.dv, Ty.cells_eq, Ty.kind_mk, Ty.args_mk, Tm.dv, Tm.cells_eq, Tm.kind_mk, Tm.index_mk, Tm.type_mk, Tm.args_mk, Val.dv, Val.cells_eq, Val.kind_mk, Val.num_mk, Val.list_mk, Val.args_mk, ints])
  · rw [hpk] at hR
    simp only at hR
    obtain ⟨h0, h1, k, i, hk, hi, rfl, rfl⟩ := pickD_some' hpk
    have hpos : 0 < (varsN g t).length := by omega
    have hpos3 : 0 < (nextD l p 3).1 := by omega
    have hgi := ints_get (l := natI (varsN g t)) (i := k) (n := i) (by simp [natI, hi])
    have hkl := (List.getElem?_eq_some_iff.1 hi).1
    refine t_g0 ?_
    refine t_c1 trivial (mk_vars_ok g t (by omega)) ?_
    refine t_g0 ?_
    refine t_c1 (j2 @natI_len (j2 @hpos @hpos3)) (next_ok b l p 3 (by decide) (by omega)) ?_
    refine t_g @hpos3 ?_
    refine t_c2 (j2 @natI_len (j2 @hk @hgi)) (next_ok b l (nextD l p 3).2 (varsN g t).length (by omega) (by omega)) (ref02_var_ok i) ?_
    repeat (first | refine W_seq ?_ | refine W_skip ?_ | refine W_block ?_ | refine W_inBlock ?_ | refine W_label ?_ | refine W_exit rfl ?_)
    first | refine W_retR hP hf hfn _ ([(b, deck l (nextD l (nextD l p 3).2 (varsN g t).length).2)]) (by first | (simp [go_sem, hP, hgl, hn, vT]; done) | (simp [go_sem, hP, hgl, hn, vT]; rfl)) (by simp [go_sem, hP, hgl, hn, vT]) (by simp) ?_ hR.2 | refine W_endR hP hf hfn _ ([(b, deck l (nextD l (nextD l p 3).2 (varsN g t).length).2)]) (by first | (simp [go_sem, hP, hgl, hn, vT]; done) | (simp [go_sem, hP, hgl, hn, vT]; rfl)) (by simp [go_sem, hP, hgl, hn, vT]) (by simp) ?_ hR.2
    rw [hR.1]
    refine ⟨?_, by simp [vT]⟩
    try simp [vT]
    try all_goals (simp [Ty.dv, Ty.cells_eq, Ty.kind_mk, Ty.args_mk, Tm.dv, Tm.cells_eq, Tm.kind_mk, Tm.index_mk, Tm.type_mk, Tm.args_mk, Val.dv, Val.cells_eq, Val.kind_mk, Val.num_mk, Val.list_mk, Val.args_mk, ints])
end Go.Proofs.YtgfjcbofbbcnmaaGreatDoor.Lift

namespace Go.Proofs.YtgfjcbofbbcnmaaGreatDoor.Lift
set_option linter.unusedSimpArgs false
set_option linter.unusedVariables false
set_option linter.unnecessarySimpa false
open Go
variable {gl : Globs}

def funP (g : List Ty) (t : Ty) (i : Nat) : Bool := decide ((varTy g i).kind = 4) && ((varTy g i).arg 1).same t
theorem upto_snoc {Q : Nat → Prop} {i : Nat} (h : ∀ j, j < i → Q j) (hi : Q i) : ∀ j, j < i + 1 → Q j := by
  intro j hj
  by_cases e : j = i
  · rw [e]; exact hi
  · exact h j (by omega)
theorem funN_found {g : List Ty} {t : Ty} {i : Nat} (hi : i < g.length) (h : ∀ j, j < i → funP g t j = false) (hp : funP g t i = true) : funN g t = some i := by
  unfold funN
  rw [List.find?_range_eq_some]
  exact ⟨hp, List.mem_range.2 hi, fun j hj => by show (!funP g t j) = true; rw [h j hj]; rfl⟩
theorem funN_none {g : List Ty} {t : Ty} (h : ∀ j, j < g.length → funP g t j = false) : funN g t = none := by
  unfold funN
  rw [List.find?_eq_none]
  intro j hj
  show ¬ funP g t j = true
  rw [h j (List.mem_range.1 hj)]
  decide

theorem W_cutXP {X : Ctx} {k kk : List Item} {s : St} (E : Prop) (S : St) (h1 : (E → W X kk S) → W X k s) (h2 : E → W X kk S) : W X k s := h1 h2

set_option maxHeartbeats 4000000 in
theorem mk_term_ok (b : Nat) (l : List Int) (hl : l.length ≤ 500) (n : Nat) (hn9 : n ≤ 9) : ∀ (t : Ty) (g : List Ty) (p : Nat), t.small → (∀ x ∈ g, x.small) → g.length + 3 * n + 15 ≤ 1000000 → p ≤ l.length →
    Con1 Tryz.prog gl 7 [ptr b, .sl (g.map Ty.cells), t.dv, dint n] [(b, deck l p)] (termD l n t g p).1.dv [(b, deck l (termD l n t g p).2)] := by
  induction n with
  | zero =>
    intro t g p ht hg hgl1 hp
    exact mk_term_leaf b l hl t 0 g p (by omega) (by have := ht.2; omega) ht hg (by have := ht.2; omega) hp
  | succ n ihn0 =>
  intro t g p ht hg hgl1 hp
  have ihn := ihn0 (by omega)
  have hD := termD_facts (l := l) closed_shape n
  have hg1 : ∀ a : List Ty, (∀ x ∈ a, x.small) → ∀ x ∈ g ++ a, x.small := by
    intro a ha x hx
    rcases List.mem_append.1 hx with hx | hx
    · exact hg x hx
    · exact ha x hx
  have hz2 : (0 : Int) < ((n + 1 : Nat) : Int) := by omega
  have hsub : ((n + 1 : Nat) : Int) - 1 = (n : Int) := by omega
  refine t_in Tryz.func7 ?_
  intro X hP hgl hf hfn hn hR hids hfit
  rw [termD] at hR
  have hvl : (varsN g t).length ≤ g.length := varsP_le g t g.length
  have hq3 := nextD_le (n := 3) hp
  have hb3 := nextD_bd (l := l) (p := p) (n := 3) (by decide)
  rcases hpk : pickD l t g p with ⟨_ | x, q⟩
  · rw [hpk] at hR
    simp only at hR
    have hq : q ≤ l.length := by have := pickD_le (t := t) (g := g) hp; rw [hpk] at this; exact this
    apply W_cutX [(.slot 0, .one (.v (ptr b))), (.slot 1, .one (.v (.sl (g.map Ty.cells)))), (.slot 3, .one (.v (dint ((n + 1 : Nat) : Int)))), (.slot 6, .one (.loc 6 0)), (.loc 6, .row ([.v (dint t.kind), .v (.sl (t.args.map Ty.cells))])), (.slot 8, .one (.loc 8 0)), (.loc 8, .row ([.v (dint 0), .v (dint 0), .v (dint 0), .own 0 [], .own 0 []])), (.heap  b, .row ([.v (.sl (ints l)), .v (dint q)]))]
    · intro hrest
      refine t_g0 ?_
      refine t_c1 trivial (mk_vars_ok g t (by omega)) ?_
      rcases pickD_none hpk with ⟨h0, rfl⟩ | ⟨h0, h1, rfl⟩
      · refine t_g (j2 @natI_len @h0) ?_
        refine t_b ?_
        refine t_sub [] trivial hrest
      · have hpos : 0 < (varsN g t).length := by omega
        refine t_g0 ?_
        refine t_c1 (j2 @natI_len (j2 @hpos @h1)) (next_ok b l p 3 (by decide) (by omega)) ?_
        refine t_g @h1 ?_
        refine t_b ?_
        refine t_sub [] trivial hrest
    · have hq8 := nextD_le (n := 8) hq
      have hb8 := nextD_bd (l := l) (p := q) (n := 8) (by decide)
      refine t_g @hz2 ?_
      refine t_c1 trivial (next_ok b l q 8 (by decide) (by omega)) ?_
      generalize hd : nextD l q 8 = d at *
      obtain ⟨k, r⟩ := d
      simp only at hR hb8 hq8
      have hr : r ≤ l.length := hq8
      by_cases h0 : k = 0
      · rw [stepD, if_pos h0] at hR
        have cs := mk_type_ok (gl := gl) 0 b l r hl hr (by decide)
        obtain ⟨fs, ss⟩ := typeD_small l (n := 0) hr (by decide)
        generalize hes : typeD l 0 r = rs at cs fs ss hR
        obtain ⟨s, qs⟩ := rs
        simp only at cs fs ss hR
        have cx := ihn (t) (g ++ [s]) qs ht (hg1 [s] (by simpa using ss)) (by simp; omega) fs
        have fx := (hD (t) (g ++ [s]) qs ht (hg1 [s] (by simpa using ss)) fs).1
        generalize hex : termD l n (t) (g ++ [s]) qs = rx at cx fx hR
        obtain ⟨x, qx⟩ := rx
        simp only at cx fx hR
        have cy := ihn (s) (g) qx ss hg (by omega) fx
        have fy := (hD (s) (g) qx ss hg fx).1
        generalize hey : termD l n (s) (g) qx = ry at cy fy hR
        obtain ⟨y, qy⟩ := ry
        simp only at cy fy hR
        refine t_g @h0 ?_
        refine t_c1 trivial cs ?_
        refine t_c5 @hsub (mk_longer_ok g [s] (by simp; omega)) cx (ref02_t_ok 2 s [x]) cy (ref02_n_ok 3 [Tm.mk 2 0 s [x], y]) ?_
        repeat (first | refine W_seq ?_ | refine W_skip ?_ | refine W_block ?_ | refine W_inBlock ?_ | refine W_label ?_ | refine W_exit rfl ?_)
        first | refine W_retR hP hf hfn _ ([(b, deck l qy)]) (by first | (simp [go_sem, hP, hgl, hn, nT]; done) | (simp [go_sem, hP, hgl, hn, nT]; rfl)) (by simp [go_sem, hP, hgl, hn, nT]) (by simp) ?_ hR.2 | refine W_endR hP hf hfn _ ([(b, deck l qy)]) (by first | (simp [go_sem, hP, hgl, hn, nT]; done) | (simp [go_sem, hP, hgl, hn, nT]; rfl)) (by simp [go_sem, hP, hgl, hn, nT]) (by simp) ?_ hR.2
        rw [hR.1]
        refine ⟨?_, by simp [nT]⟩
        try simp [nT]
        try all_goals (simp [Ty.dv, Ty.cells_eq, Ty.kind_mk, Ty.args_mk, Tm.dv, Tm.cells_eq, Tm.kind_mk, Tm.index_mk, Tm.type_mk, Tm.args_mk, Val.dv, Val.cells_eq, Val.kind_mk, Val.num_mk, Val.list_mk, Val.args_mk, ints])
      by_cases h1 : k = 1
      · rw [stepD, if_neg h0, if_pos h1] at hR
        have cs := mk_type_ok (gl := gl) 0 b l r hl hr (by decide)
        obtain ⟨fs, ss⟩ := typeD_small l (n := 0) hr (by decide)
        generalize hes : typeD l 0 r = rs at cs fs ss hR
        obtain ⟨s, qs⟩ := rs
        simp only at cs fs ss hR
        have cx := ihn (t) (g) qs ht hg (by omega) fs
        have fx := (hD (t) (g) qs ht hg fs).1
        generalize hex : termD l n (t) (g) qs = rx at cx fx hR
        obtain ⟨x, qx⟩ := rx
        simp only at cx fx hR
        have cy := ihn (s) (g) qx ss hg (by omega) fx
        have fy := (hD (s) (g) qx ss hg fx).1
        generalize hey : termD l n (s) (g) qx = ry at cy fy hR
        obtain ⟨y, qy⟩ := ry
        simp only at cy fy hR
        refine t_g @h1 ?_
        refine t_c1 trivial cs ?_
        refine t_c4 @hsub cx cy (ref02_n_ok 10 [x, y]) (ref02_n_ok 11 [Tm.mk 10 0 (Ty.mk 0 []) [x, y]]) ?_
        repeat (first | refine W_seq ?_ | refine W_skip ?_ | refine W_block ?_ | refine W_inBlock ?_ | refine W_label ?_ | refine W_exit rfl ?_)
        first | refine W_retR hP hf hfn _ ([(b, deck l qy)]) (by first | (simp [go_sem, hP, hgl, hn, nT]; done) | (simp [go_sem, hP, hgl, hn, nT]; rfl)) (by simp [go_sem, hP, hgl, hn, nT]) (by simp) ?_ hR.2 | refine W_endR hP hf hfn _ ([(b, deck l qy)]) (by first | (simp [go_sem, hP, hgl, hn, nT]; done) | (simp [go_sem, hP, hgl, hn, nT]; rfl)) (by simp [go_sem, hP, hgl, hn, nT]) (by simp) ?_ hR.2
        rw [hR.1]
        refine ⟨?_, by simp [nT]⟩
        try simp [nT]
        try all_goals (simp [Ty.dv, Ty.cells_eq, Ty.kind_mk, Ty.args_mk, Tm.dv, Tm.cells_eq, Tm.kind_mk, Tm.index_mk, Tm.type_mk, Tm.args_mk, Val.dv, Val.cells_eq, Val.kind_mk, Val.num_mk, Val.list_mk, Val.args_mk, ints])
      by_cases h2 : k = 2
      · rw [stepD, if_neg h0, if_neg h1, if_pos h2] at hR
        have cx := ihn (t) (g ++ [Ty.mk 1 [], t]) r ht (hg1 [Ty.mk 1 [], t] (by intro x hx; simp at hx; rcases hx with rfl | rfl; exact small_nat; exact ht)) (by simp; omega) hr
        have fx := (hD (t) (g ++ [Ty.mk 1 [], t]) r ht (hg1 [Ty.mk 1 [], t] (by intro x hx; simp at hx; rcases hx with rfl | rfl; exact small_nat; exact ht)) hr).1
        generalize hex : termD l n (t) (g ++ [Ty.mk 1 [], t]) r = rx at cx fx hR
        obtain ⟨x, qx⟩ := rx
        simp only at cx fx hR
        have cy := ihn (t) (g) qx ht hg (by omega) fx
        have fy := (hD (t) (g) qx ht hg fx).1
        generalize hey : termD l n (t) (g) qx = ry at cy fy hR
        obtain ⟨y, qy⟩ := ry
        simp only at cy fy hR
        have hqy := nextD_le (n := 3) fy
        have hby := nextD_bd (l := l) (p := qy) (n := 3) (by decide)
        obtain ⟨m, hm⟩ : ∃ m : Nat, (nextD l qy 3).1 = m := ⟨_, (Int.toNat_of_nonneg hby.1).symm⟩
        rw [hm] at hby
        refine t_g @h2 ?_
        refine t_c6 (j2 @hsub @nat_v) ref01_nat_ok ref01_nat_ok (mk_longer_ok g [Ty.mk 1 [], t] (by simp; omega)) cx (ref02_t_ok 2 t [x]) (ref02_t_ok 2 (Ty.mk 1 []) [Tm.mk 2 0 t [x]]) ?_
        refine t_c4 (j2 @hsub @hm) cy (next_ok b l qy 3 (by decide) (by omega)) (mk_num_ok m (by omega)) (ref02_t_ok 6 t [y, Tm.mk 2 0 (Ty.mk 1 []) [Tm.mk 2 0 t [x]], numTm m]) ?_
        repeat (first | refine W_seq ?_ | refine W_skip ?_ | refine W_block ?_ | refine W_inBlock ?_ | refine W_label ?_ | refine W_exit rfl ?_)
        first | refine W_retR hP hf hfn _ ([(b, deck l (nextD l qy 3).2)]) (by first | (simp [go_sem, hP, hgl, hn, numD, hm]; done) | (simp [go_sem, hP, hgl, hn, numD, hm]; rfl)) (by simp [go_sem, hP, hgl, hn, numD, hm]) (by simp) ?_ hR.2 | refine W_endR hP hf hfn _ ([(b, deck l (nextD l qy 3).2)]) (by first | (simp [go_sem, hP, hgl, hn, numD, hm]; done) | (simp [go_sem, hP, hgl, hn, numD, hm]; rfl)) (by simp [go_sem, hP, hgl, hn, numD, hm]) (by simp) ?_ hR.2
        rw [hR.1]
        refine ⟨?_, by simp [numD, hm]⟩
        try simp [numD, hm]
        try all_goals (simp [Ty.dv, Ty.cells_eq, Ty.kind_mk, Ty.args_mk, Tm.dv, Tm.cells_eq, Tm.kind_mk, Tm.index_mk, Tm.type_mk, Tm.args_mk, Val.dv, Val.cells_eq, Val.kind_mk, Val.num_mk, Val.list_mk, Val.args_mk, ints])
      by_cases h3 : k = 3
      · rw [stepD, if_neg h0, if_neg h1, if_neg h2, if_pos h3] at hR
        have cx := ihn (t) (g ++ [Ty.mk 1 [], Ty.mk 2 [], t]) r ht (hg1 [Ty.mk 1 [], Ty.mk 2 [], t] (by intro x hx; simp at hx; rcases hx with rfl | rfl | rfl; exact small_nat; exact small_list; exact ht)) (by simp; omega) hr
        have fx := (hD (t) (g ++ [Ty.mk 1 [], Ty.mk 2 [], t]) r ht (hg1 [Ty.mk 1 [], Ty.mk 2 [], t] (by intro x hx; simp at hx; rcases hx with rfl | rfl | rfl; exact small_nat; exact small_list; exact ht)) hr).1
        generalize hex : termD l n (t) (g ++ [Ty.mk 1 [], Ty.mk 2 [], t]) r = rx at cx fx hR
        obtain ⟨x, qx⟩ := rx
        simp only at cx fx hR
        have cy := ihn (t) (g) qx ht hg (by omega) fx
        have fy := (hD (t) (g) qx ht hg fx).1
        generalize hey : termD l n (t) (g) qx = ry at cy fy hR
        obtain ⟨y, qy⟩ := ry
        simp only at cy fy hR
        have cz := ihn (Ty.mk 2 []) (g) qy small_list hg (by omega) fy
        have fz := (hD (Ty.mk 2 []) (g) qy small_list hg fy).1
        generalize hez : termD l n (Ty.mk 2 []) (g) qy = rz at cz fz hR
        obtain ⟨z, qz⟩ := rz
        simp only at cz fz hR
        refine t_g @h3 ?_
        refine t_c9 (j2 @hsub (j2 @nat_v @list_v)) ref01_nat_ok ref01_list_ok ref01_nat_ok ref01_list_ok (mk_longer_ok g [Ty.mk 1 [], Ty.mk 2 [], t] (by simp; omega)) cx (ref02_t_ok 2 t [x]) (ref02_t_ok 2 (Ty.mk 2 []) [Tm.mk 2 0 t [x]]) (ref02_t_ok 2 (Ty.mk 1 []) [Tm.mk 2 0 (Ty.mk 2 []) [Tm.mk 2 0 t [x]]]) ?_
        refine t_c4 (j2 @hsub @list_v) cy ref01_list_ok cz (ref02_t_ok 9 t [y, Tm.mk 2 0 (Ty.mk 1 []) [Tm.mk 2 0 (Ty.mk 2 []) [Tm.mk 2 0 t [x]]], z]) ?_
        repeat (first | refine W_seq ?_ | refine W_skip ?_ | refine W_block ?_ | refine W_inBlock ?_ | refine W_label ?_ | refine W_exit rfl ?_)
        first | refine W_retR hP hf hfn _ ([(b, deck l qz)]) (by first | (simp [go_sem, hP, hgl, hn]; done) | (simp [go_sem, hP, hgl, hn]; rfl)) (by simp [go_sem, hP, hgl, hn]) (by simp) ?_ hR.2 | refine W_endR hP hf hfn _ ([(b, deck l qz)]) (by first | (simp [go_sem, hP, hgl, hn]; done) | (simp [go_sem, hP, hgl, hn]; rfl)) (by simp [go_sem, hP, hgl, hn]) (by simp) ?_ hR.2
        rw [hR.1]
        refine ⟨?_, by simp⟩
        try simp
        try all_goals (simp [Ty.dv, Ty.cells_eq, Ty.kind_mk, Ty.args_mk, Tm.dv, Tm.cells_eq, Tm.kind_mk, Tm.index_mk, Tm.type_mk, Tm.args_mk, Val.dv, Val.cells_eq, Val.kind_mk, Val.num_mk, Val.list_mk, Val.args_mk, ints])
      by_cases h4 : k = 4
      · rw [stepD, if_neg h0, if_neg h1, if_neg h2, if_neg h3, if_pos h4] at hR
        have cs := mk_type_ok (gl := gl) 0 b l r hl hr (by decide)
        obtain ⟨fs, ss⟩ := typeD_small l (n := 0) hr (by decide)
        generalize hes : typeD l 0 r = rs at cs fs ss hR
        obtain ⟨s, qs⟩ := rs
        simp only at cs fs ss hR
        have cx := ihn (s) (g) qs ss hg (by omega) fs
        have fx := (hD (s) (g) qs ss hg fs).1
        generalize hex : termD l n (s) (g) qs = rx at cx fx hR
        obtain ⟨x, qx⟩ := rx
        simp only at cx fx hR
        have cy := ihn (t) (g) qx ht hg (by omega) fx
        have fy := (hD (t) (g) qx ht hg fx).1
        generalize hey : termD l n (t) (g) qx = ry at cy fy hR
        obtain ⟨y, qy⟩ := ry
        simp only at cy fy hR
        refine t_g @h4 ?_
        refine t_c1 trivial cs ?_
        refine t_c4 @hsub cx cy (ref02_n_ok 10 [x, y]) (ref02_n_ok 12 [Tm.mk 10 0 (Ty.mk 0 []) [x, y]]) ?_
        repeat (first | refine W_seq ?_ | refine W_skip ?_ | refine W_block ?_ | refine W_inBlock ?_ | refine W_label ?_ | refine W_exit rfl ?_)
        first | refine W_retR hP hf hfn _ ([(b, deck l qy)]) (by first | (simp [go_sem, hP, hgl, hn, nT]; done) | (simp [go_sem, hP, hgl, hn, nT]; rfl)) (by simp [go_sem, hP, hgl, hn, nT]) (by simp) ?_ hR.2 | refine W_endR hP hf hfn _ ([(b, deck l qy)]) (by first | (simp [go_sem, hP, hgl, hn, nT]; done) | (simp [go_sem, hP, hgl, hn, nT]; rfl)) (by simp [go_sem, hP, hgl, hn, nT]) (by simp) ?_ hR.2
        rw [hR.1]
        refine ⟨?_, by simp [nT]⟩
        try simp [nT]
        try all_goals (simp [Ty.dv, Ty.cells_eq, Ty.kind_mk, Ty.args_mk, Tm.dv, Tm.cells_eq, Tm.kind_mk, Tm.index_mk, Tm.type_mk, Tm.args_mk, Val.dv, Val.cells_eq, Val.kind_mk, Val.num_mk, Val.list_mk, Val.args_mk, ints])
      apply W_cutXP (stepD l (termD l n) t g k r = endD l (termD l n) t g r) [(.slot 215, .one (.v (dbool (decide (t.kind = 1))))), (.slot 214, .one (.v (dint t.kind))), (.slot 0, .one (.v (ptr b))), (.slot 1, .one (.v (.sl (g.map Ty.cells)))), (.slot 3, .one (.v (dint ((n + 1 : Nat) : Int)))), (.slot 6, .one (.loc 6 0)), (.loc 6, .row ([.v (dint t.kind), .v (.sl (t.args.map Ty.cells))])), (.slot 8, .one (.loc 8 0)), (.loc 8, .row ([.v (dint 0), .v (dint 0), .v (dint 0), .own 0 [], .own 0 []])), (.heap  b, .row ([.v (.sl (ints l)), .v (dint r)]))]
      · intro hrest
        by_cases h5 : k = 5
        · refine t_g @h5 ?_
          refine t_a ?_
          refine t_sub [] trivial (W_upto (g.length) (fun i => ∀ j, j < i → funP g t j = false) (fun i => [(.slot 177, .one (.v (dint i))), (.slot 176, .one (.v (dint g.length))), (.slot 0, .one (.v (ptr b))), (.slot 1, .one (.v (.sl (g.map Ty.cells)))), (.slot 3, .one (.v (dint ((n + 1 : Nat) : Int)))), (.slot 6, .one (.loc 6 0)), (.loc 6, .row ([.v (dint t.kind), .v (.sl (t.args.map Ty.cells))])), (.slot 8, .one (.loc 8 0)), (.loc 8, .row ([.v (dint 0), .v (dint 0), .v (dint 0), .own 0 [], .own 0 []])), (.heap  b, .row ([.v (.sl (ints l)), .v (dint r)]))]) (by intro j hj; omega) ?_ ?_)
          · intro i hi hI hnext
            have hvt := (varTy_mem hi).2
            have hix : (g.length : Int) - 1 - i = ((g.length - 1 - i : Nat) : Int) := by omega
            refine t_rg0 ?_
            refine t_yes ?_
            refine t_g (j2 @hix @hvt) ?_
            by_cases hk4 : (varTy g i).kind = 4
            · have hfs := hg _ (varTy_mem hi).1
              obtain ⟨c0, c1, -⟩ := hfs.arg (.inr hk4)
              obtain ⟨a0, a1, ha, -, -, e0, e1⟩ := Ty.ok_args hfs.ok (.inr hk4)
              rw [e0] at c0
              refine t_c1 (j2 @hix (j2 @hvt (j2 @hk4 @ha))) (ref01_same_ok a1 t) ?_
              by_cases hs : a1.same t = true
              · have hfi : funN g t = some i := funN_found hi hI (by simp [funP, hk4, e1, hs])
                rw [stepD, if_neg h0, if_neg h1, if_neg h2, if_neg h3, if_neg h4, if_pos h5, hfi] at hR
                simp only at hR
                rw [e0] at hR
                have cx := ihn (a0) (g) r c0 hg (by omega) hr
                have fx := (hD (a0) (g) r c0 hg hr).1
                generalize hex : termD l n (a0) (g) r = rx at cx fx hR
                obtain ⟨x, qx⟩ := rx
                simp only at cx fx hR
                refine t_g @hs ?_
                refine t_a ?_
                first | refine W_reg [] fun K hK => ?_ | refine W_regd (by rw [hP]; exact mixed) [] fun K hK => ?_
                simp [go_sem, hP, hgl, hn, hsub, ha, vT]
                repeat (refine ⟨by omega, ?_⟩)
                first | refine vcK_call hP hgl (ref02_var_ok i) (by simp [go_sem, hP, hgl, hn, hsub, ha, vT]) rfl (by simp [go_sem]) (by simp) (by rw [hn]; exact Nat.le_of_ble_eq_true rfl) ?_ | refine vcdC_call (fun _ _ => vcd_sound) hP hgl (ref02_var_ok i) (by simp [go_sem, hP, hgl, hn, hsub, ha, vT]) rfl (by simp [go_sem]) (by simp) (by rw [hn]; exact Nat.le_of_ble_eq_true rfl) ?_ | refine vcK_callG hP hgl (ref02_var_ok i) (by simp [go_sem, hP, hgl, hn, hsub, ha, vT]) rfl (by simp [go_sem]) (by simp) (by rw [hn]; exact Nat.le_of_ble_eq_true rfl) (by simp [go_sem]; rfl) (by rw [hn]; exact Nat.le_of_ble_eq_true rfl) (by simp [go_sem]) ?_ | refine vcdC_callG (fun _ _ => vcd_sound) hP hgl (ref02_var_ok i) (by simp [go_sem, hP, hgl, hn, hsub, ha, vT]) rfl (by simp [go_sem]) (by simp) (by rw [hn]; exact Nat.le_of_ble_eq_true rfl) (by simp [go_sem]; rfl) (by rw [hn]; exact Nat.le_of_ble_eq_true rfl) (by simp [go_sem]) ?_
                simp [go_sem, hP, hgl, hn, hsub, ha, vT]
                repeat (refine ⟨by omega, ?_⟩)
                first | refine vcK_call hP hgl (cx) (by simp [go_sem, hP, hgl, hn, hsub, ha, vT]) rfl (by simp [go_sem]) (by simp) (by rw [hn]; exact Nat.le_of_ble_eq_true rfl) ?_ | refine vcdC_call (fun _ _ => vcd_sound) hP hgl (cx) (by simp [go_sem, hP, hgl, hn, hsub, ha, vT]) rfl (by simp [go_sem]) (by simp) (by rw [hn]; exact Nat.le_of_ble_eq_true rfl) ?_ | refine vcK_callG hP hgl (cx) (by simp [go_sem, hP, hgl, hn, hsub, ha, vT]) rfl (by simp [go_sem]) (by simp) (by rw [hn]; exact Nat.le_of_ble_eq_true rfl) (by simp [go_sem]; rfl) (by rw [hn]; exact Nat.le_of_ble_eq_true rfl) (by simp [go_sem]) ?_ | refine vcdC_callG (fun _ _ => vcd_sound) hP hgl (cx) (by simp [go_sem, hP, hgl, hn, hsub, ha, vT]) rfl (by simp [go_sem]) (by simp) (by rw [hn]; exact Nat.le_of_ble_eq_true rfl) (by simp [go_sem]; rfl) (by rw [hn]; exact Nat.le_of_ble_eq_true rfl) (by simp [go_sem]) ?_
                simp [go_sem, hP, hgl, hn, hsub, ha, vT]
                repeat (refine ⟨by omega, ?_⟩)
                first | refine vcK_call hP hgl (ref02_n_ok 3 [vT i, x]) (by simp [go_sem, hP, hgl, hn, hsub, ha, vT]) rfl (by simp [go_sem]) (by simp) (by rw [hn]; exact Nat.le_of_ble_eq_true rfl) ?_ | refine vcdC_call (fun _ _ => vcd_sound) hP hgl (ref02_n_ok 3 [vT i, x]) (by simp [go_sem, hP, hgl, hn, hsub, ha, vT]) rfl (by simp [go_sem]) (by simp) (by rw [hn]; exact Nat.le_of_ble_eq_true rfl) ?_ | refine vcK_callG hP hgl (ref02_n_ok 3 [vT i, x]) (by simp [go_sem, hP, hgl, hn, hsub, ha, vT]) rfl (by simp [go_sem]) (by simp) (by rw [hn]; exact Nat.le_of_ble_eq_true rfl) (by simp [go_sem]; rfl) (by rw [hn]; exact Nat.le_of_ble_eq_true rfl) (by simp [go_sem]) ?_ | refine vcdC_callG (fun _ _ => vcd_sound) hP hgl (ref02_n_ok 3 [vT i, x]) (by simp [go_sem, hP, hgl, hn, hsub, ha, vT]) rfl (by simp [go_sem]) (by simp) (by rw [hn]; exact Nat.le_of_ble_eq_true rfl) (by simp [go_sem]; rfl) (by rw [hn]; exact Nat.le_of_ble_eq_true rfl) (by simp [go_sem]) ?_
                simp [go_sem, hP, hgl, hn, hsub, ha, vT]
                refine t_e ?_
                clear hK K
                repeat (first | refine W_seq ?_ | refine W_skip ?_ | refine W_block ?_ | refine W_inBlock ?_ | refine W_label ?_ | refine W_exit rfl ?_)
                first | refine W_retR hP hf hfn _ ([(b, deck l qx)]) (by first | (simp [go_sem, hP, hgl, hn, nT, vT]; done) | (simp [go_sem, hP, hgl, hn, nT, vT]; rfl)) (by simp [go_sem, hP, hgl, hn, nT, vT]) (by simp) ?_ hR.2 | refine W_endR hP hf hfn _ ([(b, deck l qx)]) (by first | (simp [go_sem, hP, hgl, hn, nT, vT]; done) | (simp [go_sem, hP, hgl, hn, nT, vT]; rfl)) (by simp [go_sem, hP, hgl, hn, nT, vT]) (by simp) ?_ hR.2
                rw [hR.1]
                refine ⟨?_, by simp [nT, vT]⟩
                try simp [nT, vT]
                try all_goals (simp [Ty.dv, Ty.cells_eq, Ty.kind_mk, Ty.args_mk, Tm.dv, Tm.cells_eq, Tm.kind_mk, Tm.index_mk, Tm.type_mk, Tm.args_mk, Val.dv, Val.cells_eq, Val.kind_mk, Val.num_mk, Val.list_mk, Val.args_mk, ints])
              · refine t_gt (wr []) trivial @hs (hnext (upto_snoc hI (by simp [funP, hk4, e1, hs])))
            · refine t_gt (wr []) trivial @hk4 (hnext (upto_snoc hI (by simp [funP, hk4])))
          · intro hI
            refine t_rg0 ?_
            refine t_no ?_
            refine t_g0 ?_
            refine t_b ?_
            refine t_sub [] trivial (hrest (by rw [stepD, if_neg h0, if_neg h1, if_neg h2, if_neg h3, if_neg h4, if_pos h5, funN_none hI]))
        · have hE : stepD l (termD l n) t g k r = endD l (termD l n) t g r := by rw [stepD, if_neg h0, if_neg h1, if_neg h2, if_neg h3, if_neg h4, if_neg h5]
          by_cases h6 : k = 6
          · refine t_g @h6 ?_
            refine t_b ?_
            refine t_sub [] trivial (hrest hE)
          · have h7 : k = 7 := by omega
            refine t_g @h7 ?_
            refine t_b ?_
            refine t_sub [] trivial (hrest hE)
      · intro hE
        rw [hE, endD] at hR
        have h5q := nextD_le (n := 5) hr
        have h2q := nextD_le (n := 2) hr
        have hfd := Ty.fold t
        rcases small_kinds ht with ⟨h, e⟩ | ⟨h, e⟩ | ⟨h, e⟩ | ⟨h, e⟩ | ⟨h, e⟩
        · rw [if_pos h] at hR
          rw [h] at hfd
          have hb5 := nextD_bd (l := l) (p := r) (n := 5) (by decide)
          refine t_g (j2 @h @hz2) ?_
          refine t_c1 trivial (next_ok b l r 5 (by decide) (by omega)) ?_
          generalize hd5 : nextD l r 5 = d at *
          obtain ⟨c, q5⟩ := d
          simp only at hR hb5 h5q
          by_cases c0 : c = 0
          · rw [if_pos c0] at hR
            have cx := ihn (t) (g) q5 ht hg (by omega) h5q
            have fx := (hD (t) (g) q5 ht hg h5q).1
            generalize hex : termD l n (t) (g) q5 = rx at cx fx hR
            obtain ⟨x, qx⟩ := rx
            simp only at cx fx hR
            refine t_g @c0 ?_
            refine t_c2 (j2 @hsub @hfd) cx (ref02_n_ok 5 [x]) ?_
            repeat (first | refine W_seq ?_ | refine W_skip ?_ | refine W_block ?_ | refine W_inBlock ?_ | refine W_label ?_ | refine W_exit rfl ?_)
            first | refine W_retR hP hf hfn _ ([(b, deck l qx)]) (by first | (simp [go_sem, hP, hgl, hn, nT]; done) | (simp [go_sem, hP, hgl, hn, nT]; rfl)) (by simp [go_sem, hP, hgl, hn, nT]) (by simp) ?_ hR.2 | refine W_endR hP hf hfn _ ([(b, deck l qx)]) (by first | (simp [go_sem, hP, hgl, hn, nT]; done) | (simp [go_sem, hP, hgl, hn, nT]; rfl)) (by simp [go_sem, hP, hgl, hn, nT]) (by simp) ?_ hR.2
            rw [hR.1]
            refine ⟨?_, by simp [nT]⟩
            try simp [nT]
            try all_goals (simp [Ty.dv, Ty.cells_eq, Ty.kind_mk, Ty.args_mk, Tm.dv, Tm.cells_eq, Tm.kind_mk, Tm.index_mk, Tm.type_mk, Tm.args_mk, Val.dv, Val.cells_eq, Val.kind_mk, Val.num_mk, Val.list_mk, Val.args_mk, ints])
          rw [if_neg c0] at hR
          by_cases c1 : c = 1
          · rw [if_pos c1] at hR
            have cx := ihn (t) (g) q5 ht hg (by omega) h5q
            have fx := (hD (t) (g) q5 ht hg h5q).1
            generalize hex : termD l n (t) (g) q5 = rx at cx fx hR
            obtain ⟨x, qx⟩ := rx
            simp only at cx fx hR
            have cy := ihn (t) (g) qx ht hg (by omega) fx
            have fy := (hD (t) (g) qx ht hg fx).1
            generalize hey : termD l n (t) (g) qx = ry at cy fy hR
            obtain ⟨y, qy⟩ := ry
            simp only at cy fy hR
            refine t_g @c1 ?_
            refine t_c4 (j2 @hsub @hfd) ref05_plus_ok cx cy (mk_app_ok plusT [x, y]) ?_
            repeat (first | refine W_seq ?_ | refine W_skip ?_ | refine W_block ?_ | refine W_inBlock ?_ | refine W_label ?_ | refine W_exit rfl ?_)
            first | refine W_retR hP hf hfn _ ([(b, deck l qy)]) (by first | (simp [go_sem, hP, hgl, hn]; done) | (simp [go_sem, hP, hgl, hn]; rfl)) (by simp [go_sem, hP, hgl, hn]) (by simp) ?_ hR.2 | refine W_endR hP hf hfn _ ([(b, deck l qy)]) (by first | (simp [go_sem, hP, hgl, hn]; done) | (simp [go_sem, hP, hgl, hn]; rfl)) (by simp [go_sem, hP, hgl, hn]) (by simp) ?_ hR.2
            rw [hR.1]
            refine ⟨?_, by simp⟩
            try simp
            try all_goals (simp [Ty.dv, Ty.cells_eq, Ty.kind_mk, Ty.args_mk, Tm.dv, Tm.cells_eq, Tm.kind_mk, Tm.index_mk, Tm.type_mk, Tm.args_mk, Val.dv, Val.cells_eq, Val.kind_mk, Val.num_mk, Val.list_mk, Val.args_mk, ints])
          rw [if_neg c1] at hR
          by_cases c2 : c = 2
          · rw [if_pos c2] at hR
            have cx := ihn (t) (g) q5 ht hg (by omega) h5q
            have fx := (hD (t) (g) q5 ht hg h5q).1
            generalize hex : termD l n (t) (g) q5 = rx at cx fx hR
            obtain ⟨x, qx⟩ := rx
            simp only at cx fx hR
            have cy := ihn (t) (g) qx ht hg (by omega) fx
            have fy := (hD (t) (g) qx ht hg fx).1
            generalize hey : termD l n (t) (g) qx = ry at cy fy hR
            obtain ⟨y, qy⟩ := ry
            simp only at cy fy hR
            refine t_g @c2 ?_
            refine t_c4 (j2 @hsub @hfd) ref05_sub_ok cx cy (mk_app_ok subT [x, y]) ?_
            repeat (first | refine W_seq ?_ | refine W_skip ?_ | refine W_block ?_ | refine W_inBlock ?_ | refine W_label ?_ | refine W_exit rfl ?_)
            first | refine W_retR hP hf hfn _ ([(b, deck l qy)]) (by first | (simp [go_sem, hP, hgl, hn]; done) | (simp [go_sem, hP, hgl, hn]; rfl)) (by simp [go_sem, hP, hgl, hn]) (by simp) ?_ hR.2 | refine W_endR hP hf hfn _ ([(b, deck l qy)]) (by first | (simp [go_sem, hP, hgl, hn]; done) | (simp [go_sem, hP, hgl, hn]; rfl)) (by simp [go_sem, hP, hgl, hn]) (by simp) ?_ hR.2
            rw [hR.1]
            refine ⟨?_, by simp⟩
            try simp
            try all_goals (simp [Ty.dv, Ty.cells_eq, Ty.kind_mk, Ty.args_mk, Tm.dv, Tm.cells_eq, Tm.kind_mk, Tm.index_mk, Tm.type_mk, Tm.args_mk, Val.dv, Val.cells_eq, Val.kind_mk, Val.num_mk, Val.list_mk, Val.args_mk, ints])
          rw [if_neg c2] at hR
          have hb3 := nextD_bd (l := l) (p := q5) (n := 3) (by decide)
          obtain ⟨m, hm⟩ : ∃ m : Nat, (nextD l q5 3).1 = m := ⟨_, (Int.toNat_of_nonneg hb3.1).symm⟩
          rw [hm] at hb3
          by_cases c3 : c = 3
          · refine t_g @c3 ?_
            refine t_c2 @hm (next_ok b l q5 3 (by decide) (by omega)) (mk_num_ok m (by omega)) ?_
            repeat (first | refine W_seq ?_ | refine W_skip ?_ | refine W_block ?_ | refine W_inBlock ?_ | refine W_label ?_ | refine W_exit rfl ?_)
            first | refine W_retR hP hf hfn _ ([(b, deck l (nextD l q5 3).2)]) (by first | (simp [go_sem, hP, hgl, hn, numD, hm]; done) | (simp [go_sem, hP, hgl, hn, numD, hm]; rfl)) (by simp [go_sem, hP, hgl, hn, numD, hm]) (by simp) ?_ hR.2 | refine W_endR hP hf hfn _ ([(b, deck l (nextD l q5 3).2)]) (by first | (simp [go_sem, hP, hgl, hn, numD, hm]; done) | (simp [go_sem, hP, hgl, hn, numD, hm]; rfl)) (by simp [go_sem, hP, hgl, hn, numD, hm]) (by simp) ?_ hR.2
            rw [hR.1]
            refine ⟨?_, by simp [numD, hm]⟩
            try simp [numD, hm]
            try all_goals (simp [Ty.dv, Ty.cells_eq, Ty.kind_mk, Ty.args_mk, Tm.dv, Tm.cells_eq, Tm.kind_mk, Tm.index_mk, Tm.type_mk, Tm.args_mk, Val.dv, Val.cells_eq, Val.kind_mk, Val.num_mk, Val.list_mk, Val.args_mk, ints])
          · have c4 : c = 4 := by omega
            refine t_g @c4 ?_
            refine t_c2 @hm (next_ok b l q5 3 (by decide) (by omega)) (mk_num_ok m (by omega)) ?_
            repeat (first | refine W_seq ?_ | refine W_skip ?_ | refine W_block ?_ | refine W_inBlock ?_ | refine W_label ?_ | refine W_exit rfl ?_)
            first | refine W_retR hP hf hfn _ ([(b, deck l (nextD l q5 3).2)]) (by first | (simp [go_sem, hP, hgl, hn, numD, hm]; done) | (simp [go_sem, hP, hgl, hn, numD, hm]; rfl)) (by simp [go_sem, hP, hgl, hn, numD, hm]) (by simp) ?_ hR.2 | refine W_endR hP hf hfn _ ([(b, deck l (nextD l q5 3).2)]) (by first | (simp [go_sem, hP, hgl, hn, numD, hm]; done) | (simp [go_sem, hP, hgl, hn, numD, hm]; rfl)) (by simp [go_sem, hP, hgl, hn, numD, hm]) (by simp) ?_ hR.2
            rw [hR.1]
            refine ⟨?_, by simp [numD, hm]⟩
            try simp [numD, hm]
            try all_goals (simp [Ty.dv, Ty.cells_eq, Ty.kind_mk, Ty.args_mk, Tm.dv, Tm.cells_eq, Tm.kind_mk, Tm.index_mk, Tm.type_mk, Tm.args_mk, Val.dv, Val.cells_eq, Val.kind_mk, Val.num_mk, Val.list_mk, Val.args_mk, ints])
        · rw [if_neg (by omega), if_pos h] at hR
          rw [h] at hfd
          have hb2 := nextD_bd (l := l) (p := r) (n := 2) (by decide)
          refine t_g @h ?_
          generalize hd2 : nextD l r 2 = d at *
          obtain ⟨c, q2⟩ := d
          have cn := next_ok (gl := gl) b l r 2 (by decide) (by omega)
          rw [hd2] at cn
          simp only at hR hb2 h2q cn
          by_cases c0 : c = 0
          · rw [if_pos c0] at hR
            have cx := ihn (Ty.mk 1 []) (g) q2 small_nat hg (by omega) h2q
            have fx := (hD (Ty.mk 1 []) (g) q2 small_nat hg h2q).1
            generalize hex : termD l n (Ty.mk 1 []) (g) q2 = rx at cx fx hR
            obtain ⟨x, qx⟩ := rx
            simp only at cx fx hR
            have cy := ihn (t) (g) qx ht hg (by omega) fx
            have fy := (hD (t) (g) qx ht hg fx).1
            generalize hey : termD l n (t) (g) qx = ry at cy fy hR
            obtain ⟨y, qy⟩ := ry
            simp only at cy fy hR
            refine t_c1 (j2 @hz2 @c0) cn ?_
            refine t_g @c0 ?_
            refine t_c4 (j2 @hsub (j2 @nat_v @hfd)) ref01_nat_ok cx cy (ref02_n_ok 8 [x, y]) ?_
            repeat (first | refine W_seq ?_ | refine W_skip ?_ | refine W_block ?_ | refine W_inBlock ?_ | refine W_label ?_ | refine W_exit rfl ?_)
            first | refine W_retR hP hf hfn _ ([(b, deck l qy)]) (by first | (simp [go_sem, hP, hgl, hn, nT]; done) | (simp [go_sem, hP, hgl, hn, nT]; rfl)) (by simp [go_sem, hP, hgl, hn, nT]) (by simp) ?_ hR.2 | refine W_endR hP hf hfn _ ([(b, deck l qy)]) (by first | (simp [go_sem, hP, hgl, hn, nT]; done) | (simp [go_sem, hP, hgl, hn, nT]; rfl)) (by simp [go_sem, hP, hgl, hn, nT]) (by simp) ?_ hR.2
            rw [hR.1]
            refine ⟨?_, by simp [nT]⟩
            try simp [nT]
            try all_goals (simp [Ty.dv, Ty.cells_eq, Ty.kind_mk, Ty.args_mk, Tm.dv, Tm.cells_eq, Tm.kind_mk, Tm.index_mk, Tm.type_mk, Tm.args_mk, Val.dv, Val.cells_eq, Val.kind_mk, Val.num_mk, Val.list_mk, Val.args_mk, ints])
          · rw [if_neg c0] at hR
            refine t_c1 (j2 @hz2 @c0) cn ?_
            refine t_g @c0 ?_
            refine t_c1 trivial (ref02_n_ok 7 []) ?_
            repeat (first | refine W_seq ?_ | refine W_skip ?_ | refine W_block ?_ | refine W_inBlock ?_ | refine W_label ?_ | refine W_exit rfl ?_)
            first | refine W_retR hP hf hfn _ ([(b, deck l q2)]) (by first | (simp [go_sem, hP, hgl, hn, nT]; done) | (simp [go_sem, hP, hgl, hn, nT]; rfl)) (by simp [go_sem, hP, hgl, hn, nT]) (by simp) ?_ hR.2 | refine W_endR hP hf hfn _ ([(b, deck l q2)]) (by first | (simp [go_sem, hP, hgl, hn, nT]; done) | (simp [go_sem, hP, hgl, hn, nT]; rfl)) (by simp [go_sem, hP, hgl, hn, nT]) (by simp) ?_ hR.2
            rw [hR.1]
            refine ⟨?_, by simp [nT]⟩
            try simp [nT]
            try all_goals (simp [Ty.dv, Ty.cells_eq, Ty.kind_mk, Ty.args_mk, Tm.dv, Tm.cells_eq, Tm.kind_mk, Tm.index_mk, Tm.type_mk, Tm.args_mk, Val.dv, Val.cells_eq, Val.kind_mk, Val.num_mk, Val.list_mk, Val.args_mk, ints])
        · rw [if_neg (by omega), if_neg (by omega), if_neg (by omega), if_neg (by omega)] at hR
          refine t_g @h ?_
          refine t_c1 trivial (ref02_n_ok 13 []) ?_
          repeat (first | refine W_seq ?_ | refine W_skip ?_ | refine W_block ?_ | refine W_inBlock ?_ | refine W_label ?_ | refine W_exit rfl ?_)
          first | refine W_retR hP hf hfn _ ([(b, deck l r)]) (by first | (simp [go_sem, hP, hgl, hn, nT]; done) | (simp [go_sem, hP, hgl, hn, nT]; rfl)) (by simp [go_sem, hP, hgl, hn, nT]) (by simp) ?_ hR.2 | refine W_endR hP hf hfn _ ([(b, deck l r)]) (by first | (simp [go_sem, hP, hgl, hn, nT]; done) | (simp [go_sem, hP, hgl, hn, nT]; rfl)) (by simp [go_sem, hP, hgl, hn, nT]) (by simp) ?_ hR.2
          rw [hR.1]
          refine ⟨?_, by simp [nT]⟩
          try simp [nT]
          try all_goals (simp [Ty.dv, Ty.cells_eq, Ty.kind_mk, Ty.args_mk, Tm.dv, Tm.cells_eq, Tm.kind_mk, Tm.index_mk, Tm.type_mk, Tm.args_mk, Val.dv, Val.cells_eq, Val.kind_mk, Val.num_mk, Val.list_mk, Val.args_mk, ints])
        · rw [if_neg (by omega), if_neg (by omega), if_pos h] at hR
          obtain ⟨s0, s1, hc⟩ := ht.arg (.inl h)
          have ha : t.args = [t.arg 0, t.arg 1] := by rw [e]; rfl
          have cx := ihn (t.arg 0) (g) r s0 hg (by omega) hr
          have fx := (hD (t.arg 0) (g) r s0 hg hr).1
          generalize hex : termD l n (t.arg 0) (g) r = rx at cx fx hR
          obtain ⟨x, qx⟩ := rx
          simp only at cx fx hR
          have cy := ihn (t.arg 1) (g) qx s1 hg (by omega) fx
          have fy := (hD (t.arg 1) (g) qx s1 hg fx).1
          generalize hey : termD l n (t.arg 1) (g) qx = ry at cy fy hR
          obtain ⟨y, qy⟩ := ry
          simp only at cy fy hR
          refine t_g @h ?_
          refine t_c3 (j2 @hsub @ha) cx cy (ref02_n_ok 10 [x, y]) ?_
          repeat (first | refine W_seq ?_ | refine W_skip ?_ | refine W_block ?_ | refine W_inBlock ?_ | refine W_label ?_ | refine W_exit rfl ?_)
          first | refine W_retR hP hf hfn _ ([(b, deck l qy)]) (by first | (simp [go_sem, hP, hgl, hn, nT]; done) | (simp [go_sem, hP, hgl, hn, nT]; rfl)) (by simp [go_sem, hP, hgl, hn, nT]) (by simp) ?_ hR.2 | refine W_endR hP hf hfn _ ([(b, deck l qy)]) (by first | (simp [go_sem, hP, hgl, hn, nT]; done) | (simp [go_sem, hP, hgl, hn, nT]; rfl)) (by simp [go_sem, hP, hgl, hn, nT]) (by simp) ?_ hR.2
          rw [hR.1]
          refine ⟨?_, by simp [nT]⟩
          try simp [nT]
          try all_goals (simp [Ty.dv, Ty.cells_eq, Ty.kind_mk, Ty.args_mk, Tm.dv, Tm.cells_eq, Tm.kind_mk, Tm.index_mk, Tm.type_mk, Tm.args_mk, Val.dv, Val.cells_eq, Val.kind_mk, Val.num_mk, Val.list_mk, Val.args_mk, ints])
        · rw [if_neg (by omega), if_neg (by omega), if_neg (by omega), if_pos h] at hR
          obtain ⟨s0, s1, hc⟩ := ht.arg (.inr h)
          have ha : t.args = [t.arg 0, t.arg 1] := by rw [e]; rfl
          have cx := ihn (t.arg 1) (g ++ [t.arg 0]) r s1 (hg1 [t.arg 0] (by simpa using s0)) (by simp; omega) hr
          have fx := (hD (t.arg 1) (g ++ [t.arg 0]) r s1 (hg1 [t.arg 0] (by simpa using s0)) hr).1
          generalize hex : termD l n (t.arg 1) (g ++ [t.arg 0]) r = rx at cx fx hR
          obtain ⟨x, qx⟩ := rx
          simp only at cx fx hR
          refine t_g @h ?_
          refine t_c3 (j2 @hsub @ha) (mk_longer_ok g [t.arg 0] (by simp; omega)) cx (ref02_t_ok 2 (t.arg 0) [x]) ?_
          repeat (first | refine W_seq ?_ | refine W_skip ?_ | refine W_block ?_ | refine W_inBlock ?_ | refine W_label ?_ | refine W_exit rfl ?_)
          first | refine W_retR hP hf hfn _ ([(b, deck l qx)]) (by first | (simp [go_sem, hP, hgl, hn]; done) | (simp [go_sem, hP, hgl, hn]; rfl)) (by simp [go_sem, hP, hgl, hn]) (by simp) ?_ hR.2 | refine W_endR hP hf hfn _ ([(b, deck l qx)]) (by first | (simp [go_sem, hP, hgl, hn]; done) | (simp [go_sem, hP, hgl, hn]; rfl)) (by simp [go_sem, hP, hgl, hn]) (by simp) ?_ hR.2
          rw [hR.1]
          refine ⟨?_, by simp⟩
          try simp
          try all_goals (simp [Ty.dv, Ty.cells_eq, Ty.kind_mk, Ty.args_mk, Tm.dv, Tm.cells_eq, Tm.kind_mk, Tm.index_mk, Tm.type_mk, Tm.args_mk, Val.dv, Val.cells_eq, Val.kind_mk, Val.num_mk, Val.list_mk, Val.args_mk, ints])
  · rw [hpk] at hR
    simp only at hR
    obtain ⟨h0, h1, k, i, hk, hi, rfl, rfl⟩ := pickD_some' hpk
    have hpos : 0 < (varsN g t).length := by omega
    have hpos3 : 0 < (nextD l p 3).1 := by omega
    have hgi := ints_get (l := natI (varsN g t)) (i := k) (n := i) (by simp [natI, hi])
    have hkl := (List.getElem?_eq_some_iff.1 hi).1
    refine t_g0 ?_
    refine t_c1 trivial (mk_vars_ok g t (by omega)) ?_
    refine t_g0 ?_
    refine t_c1 (j2 @natI_len (j2 @hpos @hpos3)) (next_ok b l p 3 (by decide) (by omega)) ?_
    refine t_g @hpos3 ?_
    refine t_c2 (j2 @natI_len (j2 @hk @hgi)) (next_ok b l (nextD l p 3).2 (varsN g t).length (by omega) (by omega)) (ref02_var_ok i) ?_
    repeat (first | refine W_seq ?_ | refine W_skip ?_ | refine W_block ?_ | refine W_inBlock ?_ | refine W_label ?_ | refine W_exit rfl ?_)
    first | refine W_retR hP hf hfn _ ([(b, deck l (nextD l (nextD l p 3).2 (varsN g t).length).2)]) (by first | (simp [go_sem, hP, hgl, hn, vT]; done) | (simp [go_sem, hP, hgl, hn, vT]; rfl)) (by simp [go_sem, hP, hgl, hn, vT]) (by simp) ?_ hR.2 | refine W_endR hP hf hfn _ ([(b, deck l (nextD l (nextD l p 3).2 (varsN g t).length).2)]) (by first | (simp [go_sem, hP, hgl, hn, vT]; done) | (simp [go_sem, hP, hgl, hn, vT]; rfl)) (by simp [go_sem, hP, hgl, hn, vT]) (by simp) ?_ hR.2
    rw [hR.1]
    refine ⟨?_, by simp [vT]⟩
    try simp [vT]
    try all_goals (simp [Ty.dv, Ty.cells_eq, Ty.kind_mk, Ty.args_mk, Tm.dv, Tm.cells_eq, Tm.kind_mk, Tm.index_mk, Tm.type_mk, Tm.args_mk, Val.dv, Val.cells_eq, Val.kind_mk, Val.num_mk, Val.list_mk, Val.args_mk, ints])
end Go.Proofs.YtgfjcbofbbcnmaaGreatDoor.Lift

namespace Go.Proofs.YtgfjcbofbbcnmaaGreatDoor.Lift
set_option linter.unusedSimpArgs false
set_option linter.unusedVariables false
set_option linter.unnecessarySimpa false
open Go
variable {gl : Globs}

theorem types_check_ok (t : Ty) (hc : t.count ≤ 2147483648) : Con1 Tryz.prog gl 67 [t.dv] [] (dint t.checkN) [] := by
  refine t_in Tryz.func67 ?_
  intro X hP hgl hf hfn hn hR hids hfit
  refine t_g0 ?_
  refine t_c1 trivial (checktype_ok t hc) ?_
  refine t_g0 ?_
  refine t_r ?_
  simp [go_sem, hP, hgl, hn] <;> (try omega)

/-! the maker: an object that holds its error -/
end Go.Proofs.YtgfjcbofbbcnmaaGreatDoor.Lift

namespace Go.Proofs.YtgfjcbofbbcnmaaGreatDoor.Lift
set_option linter.unusedSimpArgs false
set_option linter.unusedVariables false
set_option linter.unnecessarySimpa false
open Go
variable {gl : Globs}

/-- a term is as good as it needs be where there is no error -/
def Fine (e : Int) (M : Int) (t : Tm) : Prop := t.count ≤ 268435456 ∧ (e = 0 → t.shape = true ∧ t.idx M)
theorem Fine.mono {e M M' : Int} {t : Tm} (h : Fine e M t) (hM : M ≤ M') : Fine e M' t := ⟨h.1, fun he => ⟨(h.2 he).1, Tm.idx_mono hM (h.2 he).2⟩⟩
theorem Fine.later {e e' M : Int} {t : Tm} (h : Fine e M t) (he : e' = 0 → e = 0) : Fine e' M t := ⟨h.1, fun h' => h.2 (he h')⟩
end Go.Proofs.YtgfjcbofbbcnmaaGreatDoor.Lift

namespace Go.Proofs.YtgfjcbofbbcnmaaGreatDoor.Lift
set_option linter.unusedSimpArgs false
set_option linter.unusedVariables false
set_option linter.unnecessarySimpa false
open Go
variable {gl : Globs}

theorem anyLoc_mapv (d : Nat) (l : List DV) : anyLoc d (l.map SV.v) = false := by
  induction l with
  | nil => rfl
  | cons x r ih => simp [anyLoc, hasLoc, ih]
theorem anyTok_mapv (d : Nat) (l : List DV) : anyTok d (l.map SV.v) = false := by
  induction l with
  | nil => rfl
  | cons x r ih => simp [anyTok, hasTok, ih]
theorem exRow_mapv (k b : Nat) (l : List DV) : exRow k b (l.map SV.v) = l.map SV.v := by
  induction l with
  | nil => rfl
  | cons x r ih => simp only [List.map_cons, exRow, ih]; rfl
attribute [go_sem] anyLoc_mapv anyTok_mapv exRow_mapv

end Go.Proofs.YtgfjcbofbbcnmaaGreatDoor.Lift

namespace Go.Proofs.YtgfjcbofbbcnmaaGreatDoor.Lift
set_option linter.unusedSimpArgs false
set_option linter.unusedVariables false
set_option linter.unnecessarySimpa false
open Go

/-! what is drawn means something -/
def TyQ (t : Ty) (g : List Ty) (x : Tm) : Prop := ∀ (G : List T) (a : T), g = G.map T.ty → t = a.ty → ∃ F : Env G.reverse → a.V, Dn G.reverse x a F

theorem ty_fn_of {s t : Ty} {a : T} (h : Ty.mk 4 [s, t] = a.ty) : ∃ S b, a = .fn S b ∧ s = S.ty ∧ t = b.ty := by
  cases a with
  | fn S b => simp [T.ty] at h; exact ⟨S, b, rfl, h.1, h.2⟩
  | pair S b => simp [T.ty] at h
  | nat => simp [T.ty] at h
  | list => simp [T.ty] at h
  | unit => simp [T.ty] at h
theorem ty_pair_of {s t : Ty} {a : T} (h : Ty.mk 3 [s, t] = a.ty) : ∃ S b, a = .pair S b ∧ s = S.ty ∧ t = b.ty := by
  cases a with
  | pair S b => simp [T.ty] at h; exact ⟨S, b, rfl, h.1, h.2⟩
  | fn S b => simp [T.ty] at h
  | nat => simp [T.ty] at h
  | list => simp [T.ty] at h
  | unit => simp [T.ty] at h
theorem ty_nat_of {a : T} (h : Ty.mk 1 [] = a.ty) : a = .nat := by cases a <;> simp [T.ty] at h ⊢
theorem ty_list_of {a : T} (h : Ty.mk 2 [] = a.ty) : a = .list := by cases a <;> simp [T.ty] at h ⊢
theorem ty_unit_of {a : T} (h : Ty.mk 5 [] = a.ty) : a = .unit := by cases a <;> simp [T.ty] at h ⊢
theorem small_T {s : Ty} (h : s.small) : ∃ S : T, s = S.ty ∧ S.ok ∧ S.size ≤ 15 := by
  obtain ⟨S, rfl⟩ := T.of_shape s h.1
  have := h.2
  rw [T.ty_count] at this
  exact ⟨S, rfl, by unfold T.ok; omega, this⟩
theorem dn_num (Γ : List T) : ∀ n : Nat, ∃ F : Env Γ → T.nat.V, Dn Γ (numTm n) .nat F
  | 0 => ⟨_, .zero⟩
  | n + 1 => by
    obtain ⟨F, h⟩ := dn_num Γ n
    exact ⟨_, .succ h⟩

theorem draw_typed : DrawOK TyQ where
  var g i hi G a hg ht := by
    subst hg
    have hl : i < G.length := by simpa using hi
    obtain ⟨b, hb⟩ : ∃ b, G[G.length - 1 - i]? = some b := ⟨_, List.getElem?_eq_getElem (by omega)⟩
    have hv : varTy (G.map T.ty) i = b.ty := by
      unfold varTy
      rw [List.getD_eq_getElem?_getD, List.length_map, List.getElem?_map, hb]
      rfl
    have hab : a = b := T.ty_inj (by rw [← ht, hv])
    subst hab
    have hr : G.reverse[i]? = some a := by rw [List.getElem?_reverse hl, hb]
    obtain ⟨p, hp⟩ := At.of hr
    exact ⟨p, .var hp⟩
  num g n _ G a hg ht := by
    obtain rfl := ty_nat_of ht
    exact dn_num _ n
  app g s t f x hs ht hf hx G a hg hta := by
    obtain ⟨S, rfl, -⟩ := small_T hs
    obtain ⟨F, h1⟩ := hf G (.fn S a) hg (by rw [hta]; rfl)
    obtain ⟨X, h2⟩ := hx G S hg rfl
    exact ⟨_, .app h1 h2⟩
  lam g s t x hs ht hx G a hg hta := by
    obtain ⟨S, b, rfl, rfl, rfl⟩ := ty_fn_of hta
    obtain ⟨S', e, ho, -⟩ := small_T hs
    obtain rfl := T.ty_inj e
    have := hx (G ++ [S]) b (by rw [hg, List.map_append]; rfl) rfl
    rw [List.reverse_append] at this
    obtain ⟨F, h1⟩ := this
    exact ⟨_, .lam ho h1⟩
  lam2 g s t r x hs ht hr hx G a hg hta := by
    obtain ⟨S, b1, rfl, rfl, hb1⟩ := ty_fn_of hta
    obtain ⟨S2, b, rfl, rfl, rfl⟩ := ty_fn_of hb1
    obtain ⟨_, e, ho, -⟩ := small_T hs
    obtain rfl := T.ty_inj e
    obtain ⟨_, e, ho2, -⟩ := small_T ht
    obtain rfl := T.ty_inj e
    have := hx (G ++ [S, S2]) b (by rw [hg, List.map_append]; rfl) rfl
    rw [List.reverse_append] at this
    obtain ⟨F, h1⟩ := this
    exact ⟨_, .lam ho (.lam ho2 h1)⟩
  lam3 g s t u r x hs ht hu hr hx G a hg hta := by
    obtain ⟨S, b1, rfl, rfl, hb1⟩ := ty_fn_of hta
    obtain ⟨S2, b2, rfl, rfl, hb2⟩ := ty_fn_of hb1
    obtain ⟨S3, b, rfl, rfl, rfl⟩ := ty_fn_of hb2
    obtain ⟨_, e, ho, -⟩ := small_T hs
    obtain rfl := T.ty_inj e
    obtain ⟨_, e, ho2, -⟩ := small_T ht
    obtain rfl := T.ty_inj e
    obtain ⟨_, e, ho3, -⟩ := small_T hu
    obtain rfl := T.ty_inj e
    have := hx (G ++ [S, S2, S3]) b (by rw [hg, List.map_append]; rfl) rfl
    rw [List.reverse_append] at this
    obtain ⟨F, h1⟩ := this
    exact ⟨_, .lam ho (.lam ho2 (.lam ho3 h1))⟩
  pair g s t x y hs ht hx hy G a hg hta := by
    obtain ⟨S, b, rfl, rfl, rfl⟩ := ty_pair_of hta
    obtain ⟨F, h1⟩ := hx G S hg rfl
    obtain ⟨X, h2⟩ := hy G b hg rfl
    exact ⟨_, .pair h1 h2⟩
  fst g s t x hs ht hx G a hg hta := by
    obtain ⟨S, rfl, -⟩ := small_T ht
    obtain ⟨F, h1⟩ := hx G (.pair a S) hg (by rw [hta]; rfl)
    exact ⟨_, .fst h1⟩
  snd g s t x hs ht hx G a hg hta := by
    obtain ⟨S, rfl, -⟩ := small_T hs
    obtain ⟨F, h1⟩ := hx G (.pair S a) hg (by rw [hta]; rfl)
    exact ⟨_, .snd h1⟩
  rc g t x f n ht hx hf hn G a hg hta := by
    subst hta
    obtain ⟨_, e, ho, -⟩ := small_T ht
    obtain rfl := T.ty_inj e
    obtain ⟨B, h1⟩ := hx G a hg rfl
    obtain ⟨F, h2⟩ := hf G (.fn .nat (.fn a a)) hg rfl
    obtain ⟨N, h3⟩ := hn G .nat hg rfl
    exact ⟨_, .rc ho h1 h2 h3⟩
  fold g t x f n ht hx hf hn G a hg hta := by
    subst hta
    obtain ⟨_, e, ho, -⟩ := small_T ht
    obtain rfl := T.ty_inj e
    obtain ⟨B, h1⟩ := hx G a hg rfl
    obtain ⟨F, h2⟩ := hf G (.fn .nat (.fn .list (.fn a a))) hg rfl
    obtain ⟨N, h3⟩ := hn G .list hg rfl
    exact ⟨_, .fold ho h1 h2 h3⟩
  succ g x hx G a hg hta := by
    obtain rfl := ty_nat_of hta
    obtain ⟨F, h1⟩ := hx G .nat hg rfl
    exact ⟨_, .succ h1⟩
  plus g x y hx hy G a hg hta := by
    obtain rfl := ty_nat_of hta
    obtain ⟨F, h1⟩ := hx G .nat hg rfl
    obtain ⟨X, h2⟩ := hy G .nat hg rfl
    exact ⟨_, .app (.app (dn_plus _) h1) h2⟩
  sub g x y hx hy G a hg hta := by
    obtain rfl := ty_nat_of hta
    obtain ⟨F, h1⟩ := hx G .nat hg rfl
    obtain ⟨X, h2⟩ := hy G .nat hg rfl
    exact ⟨_, .app (.app (dn_sub _) h1) h2⟩
  nil g G a hg hta := by
    obtain rfl := ty_list_of hta
    exact ⟨_, .nil⟩
  cons g x y hx hy G a hg hta := by
    obtain rfl := ty_list_of hta
    obtain ⟨F, h1⟩ := hx G .nat hg rfl
    obtain ⟨X, h2⟩ := hy G .list hg rfl
    exact ⟨_, .cons h1 h2⟩
  unit g G a hg hta := by
    obtain rfl := ty_unit_of hta
    exact ⟨_, .unit⟩

theorem termD_dn (l : List Int) (n : Nat) {t : Ty} {g : List Ty} {p : Nat} (ht : t.small) (hg : ∀ x ∈ g, x.small) (hp : p ≤ l.length) {G : List T} {a : T} (eg : g = G.map T.ty) (et : t = a.ty) :
    ∃ F : Env G.reverse → a.V, Dn G.reverse (termD l n t g p).1 a F := (termD_facts draw_typed n t g p ht hg hp).2 G a eg et

end Go.Proofs.YtgfjcbofbbcnmaaGreatDoor.Lift

/-
  Plain law: a machine that evaluates terms and counts its work; it returns what is denoted.
-/
namespace Go.Proofs.YtgfjcbofbbcnmaaGreatDoor.Lift
set_option linter.unusedSimpArgs false
set_option linter.unusedVariables false
set_option linter.unnecessarySimpa false
open Go

/-- a value of a machine -/
inductive MV where
  | num (n : Nat)
  | list (l : List Nat)
  | both (a b : MV)
  | unit
  | clo (b : Tm) (e : List MV)

abbrev Evl := Tm → List MV → Option (MV × Nat)

/-- some terms, one after the other -/
def allC (ev : Evl) : List Tm → List MV → Option (List MV × Nat)
  | [], _ => some ([], 0)
  | t :: r, e => match ev t e with
    | none => none
    | some (v, c) => match allC ev r e with
      | none => none
      | some (l, c') => some (v :: l, c + c')
/-- a closure called with some values -/
def callC (ev : Evl) : MV → List MV → Option (MV × Nat)
  | f, [] => some (f, 0)
  | .clo b e, a :: r => match ev b (a :: e) with
    | none => none
    | some (v, c) => match callC ev v r with
      | none => none
      | some (w, c') => some (w, c + c')
  | _, _ => none
/-- n rounds from k on -/
def recC (ev : Evl) (f : MV) : Nat → Nat → MV → Option (MV × Nat)
  | 0, _, r => some (r, 0)
  | n + 1, k, r => match callC ev f [.num k, r] with
    | none => none
    | some (r', c) => match recC ev f n (k + 1) r' with
      | none => none
      | some (w, c') => some (w, c + c')
/-- through a list, from its end -/
def foldC (ev : Evl) (f : MV) (r : MV) : List Nat → Option (MV × Nat)
  | [] => some (r, 0)
  | x :: l => match foldC ev f r l with
    | none => none
    | some (r', c) => match callC ev f [.num x, .list l, r'] with
      | none => none
      | some (w, c') => some (w, c + c')
/-- a node whose parts have values -/
def nodeC (ev : Evl) (k : Int) (l : List MV) : Option (MV × Nat) :=
  if k = 3 then match l with
    | [f, x] => callC ev f [x]
    | _ => none
  else if k = 4 then some (.num 0, 0)
  else if k = 5 then match l with
    | [.num n] => some (.num (n + 1), 0)
    | _ => none
  else if k = 6 then match l with
    | [b, f, .num n] => recC ev f n 0 b
    | _ => none
  else if k = 7 then some (.list [], 0)
  else if k = 8 then match l with
    | [.num n, .list m] => some (.list (n :: m), 0)
    | _ => none
  else if k = 9 then match l with
    | [b, f, .list m] => foldC ev f b m
    | _ => none
  else if k = 10 then match l with
    | [x, y] => some (.both x y, 0)
    | _ => none
  else if k = 11 then match l with
    | [.both x _] => some (x, 0)
    | _ => none
  else if k = 12 then match l with
    | [.both _ y] => some (y, 0)
    | _ => none
  else some (.unit, 0)
/-- a term below some values, to a depth: its value and the work -/
def evC : Nat → Tm → List MV → Option (MV × Nat)
  | 0, _, _ => none
  | d + 1, t, e =>
    if t.kind = 1 then some (e.getD t.index.toNat .unit, 1)
    else if t.kind = 2 then some (.clo (t.argN 0) e, 1)
    else match allC (evC d) t.args e with
      | none => none
      | some (l, c) => match nodeC (evC d) t.kind l with
        | none => none
        | some (v, c') => some (v, 1 + c + c')

/-- what a value of a machine is a value of -/
def Rl : (a : T) → MV → a.V → Prop
  | .nat, v, n => v = .num n
  | .list, v, l => v = .list l
  | .unit, v, _ => v = .unit
  | .pair a b, v, p => ∃ x y, v = .both x y ∧ Rl a x p.1 ∧ Rl b y p.2
  | .fn a b, v, f => ∃ body e, v = .clo body e ∧ ∀ (x : MV) (y : a.V), Rl a x y → ∀ (d : Nat) (r : MV) (c : Nat), evC d body (x :: e) = some (r, c) → Rl b r (f y)

/-- the values of the variables -/
def RlE : (Γ : List T) → List MV → Env Γ → Prop
  | [], e, _ => e = []
  | a :: Γ, e, ρ => ∃ x r, e = x :: r ∧ Rl a x ρ.1 ∧ RlE Γ r ρ.2

theorem RlE.get {Γ : List T} {i : Nat} {a : T} {p : Env Γ → a.V} (h : At Γ i a p) : ∀ {e : List MV} {ρ : Env Γ}, RlE Γ e ρ → Rl a (e.getD i .unit) (p ρ) := by
  induction h with
  | zero => rintro e ρ ⟨x, r, rfl, h1, h2⟩; exact h1
  | succ h ih => rintro e ρ ⟨x, r, rfl, h1, h2⟩; simpa using ih h2

theorem natRec_range {α : Type} (b : α) (f : Nat → α → α) : ∀ n : Nat, natRec b f n = (List.range' 0 n).foldl (fun r i => f i r) b
  | 0 => rfl
  | n + 1 => by
    rw [List.range'_1_concat, List.foldl_append, ← natRec_range b f n]
    simp [natRec]
end Go.Proofs.YtgfjcbofbbcnmaaGreatDoor.Lift

namespace Go.Proofs.YtgfjcbofbbcnmaaGreatDoor.Lift
set_option linter.unusedSimpArgs false
set_option linter.unusedVariables false
set_option linter.unnecessarySimpa false
open Go

/-- what a run of the second form's machine leaves: a value, the work used so far, and whether the work is out; none: stuck -/
abbrev Rn := Option (MV × Int × Bool)
end Go.Proofs.YtgfjcbofbbcnmaaGreatDoor.Lift

namespace Go.Proofs.YtgfjcbofbbcnmaaGreatDoor.Lift
set_option linter.unusedSimpArgs false
set_option linter.unusedVariables false
set_option linter.unnecessarySimpa false
open Go

/-! the second form's machine on typed terms: it is never stuck, and returns what is denoted -/

mutual
/-- a machine's value has a type and a meaning -/
inductive MVT : (a : T) → MV → a.V → Prop
  | num (n : Nat) : MVT .nat (.num n) n
  | list (l : List Nat) : MVT .list (.list l) l
  | unit : MVT .unit .unit ()
  | both {a b : T} {x y : MV} {X : a.V} {Y : b.V} (hx : MVT a x X) (hy : MVT b y Y) : MVT (.pair a b) (.both x y) (X, Y)
  | clo {Γ : List T} {a r : T} {b : Tm} {f : Env (a :: Γ) → r.V} {e : List MV} {ρ : Env Γ} (he : MVE Γ e ρ) (hb : Dn (a :: Γ) b r f) : MVT (.fn a r) (.clo b e) (fun x => f (x, ρ))
inductive MVE : (Γ : List T) → List MV → Env Γ → Prop
  | nil : MVE [] [] ()
  | cons {Γ : List T} {a : T} {x : MV} {X : a.V} {e : List MV} {ρ : Env Γ} (h : MVT a x X) (k : MVE Γ e ρ) : MVE (a :: Γ) (x :: e) (X, ρ)
end

theorem MVE.get {Γ : List T} {i : Nat} {a : T} {p : Env Γ → a.V} (h : At Γ i a p) : ∀ {e : List MV} {ρ : Env Γ}, MVE Γ e ρ → ∃ x, e[i]? = some x ∧ MVT a x (p ρ) := by
  induction h with
  | zero => intro e ρ he; cases he with | cons h k => exact ⟨_, rfl, h⟩
  | succ h ih => intro e ρ he; cases he with | cons h k => obtain ⟨x, e1, e2⟩ := ih k; exact ⟨x, by simpa using e1, e2⟩
/-- a run is not stuck; when the work is not out it leaves a value of the kind that is told -/
def Out (most : Int) (P : MV → Prop) (u : Int) (r : Rn) : Prop := ∃ v u' o, r = some (v, u', o) ∧ u ≤ u' ∧ u' ≤ most ∧ (o = false → P v)
theorem Out.mono {most u u0 : Int} {P Q : MV → Prop} {r : Rn} (h : Out most P u r) (hu : u0 ≤ u) (hq : ∀ v, P v → Q v) : Out most Q u0 r := by
  obtain ⟨v, u', o, h1, h2, h3, h4⟩ := h
  exact ⟨v, u', o, h1, by omega, h3, fun h => hq v (h4 h)⟩

end Go.Proofs.YtgfjcbofbbcnmaaGreatDoor.Lift

namespace Go.Proofs.YtgfjcbofbbcnmaaGreatDoor.Lift
set_option linter.unusedSimpArgs false
set_option linter.unusedVariables false
set_option linter.unnecessarySimpa false
open Go

/-! how large the values of the second form's machine grow -/

mutual
def MV.le (n : Int) : MV → Prop
  | .num k => (k : Int) ≤ n
  | .list l => (l.length : Int) ≤ n ∧ ∀ x ∈ l, (x : Int) ≤ n
  | .both a b => MV.le n a ∧ MV.le n b
  | .unit => True
  | .clo _ e => (e.length : Int) ≤ n ∧ MV.les n e
def MV.les (n : Int) : List MV → Prop
  | [] => True
  | x :: r => MV.le n x ∧ MV.les n r
end
end Go.Proofs.YtgfjcbofbbcnmaaGreatDoor.Lift

namespace Go.Proofs.YtgfjcbofbbcnmaaGreatDoor.Lift
set_option linter.unusedSimpArgs false
set_option linter.unusedVariables false
set_option linter.unnecessarySimpa false
open Go
variable {gl : Globs}

/-! the results of the second form's machine as data -/

mutual
def MV.cells : MV → List DV
  | .num n => [dint (n : Int), .sl [], .sl [], dint 0, dint 0, dint 0, .sl [], .sl [], .sl []]
  | .list l => [dint 0, .sl (ints (l.map Int.ofNat)), .sl [], dint 0, dint 0, dint 0, .sl [], .sl [], .sl []]
  | .both a b => [dint 0, .sl [], .sl [MV.cells a, MV.cells b], dint 0, dint 0, dint 0, .sl [], .sl [], .sl []]
  | .unit => [dint 0, .sl [], .sl [], dint 0, dint 0, dint 0, .sl [], .sl [], .sl []]
  | .clo b e => [dint 0, .sl [], .sl [], dint b.kind, dint b.index, dint b.type.kind, .sl (List.map Ty.cells b.type.args), .sl (List.map Tm.cells b.args), .sl (MV.cellss e).reverse]
def MV.cellss : List MV → List (List DV)
  | [] => []
  | x :: r => MV.cells x :: MV.cellss r
end
namespace MV
set_option linter.unusedSimpArgs false
set_option linter.unusedVariables false
set_option linter.unnecessarySimpa false
theorem cellss_map : ∀ l : List MV, cellss l = l.map cells
  | [] => rfl
  | x :: r => by simp only [cellss, List.map_cons, cellss_map r]
def numF : MV → Int | .num n => n | _ => 0
def listF : MV → List Int | .list l => l.map Int.ofNat | _ => []
def pairF : MV → List MV | .both a b => [a, b] | _ => []
def bodyF : MV → Tm | .clo b _ => b | _ => zeroTm
def envF : MV → List MV | .clo _ e => e.reverse | _ => []
theorem cells_eq (v : MV) : v.cells = [dint v.numF, .sl (ints v.listF), .sl (v.pairF.map cells), dint v.bodyF.kind, dint v.bodyF.index, dint v.bodyF.type.kind, .sl (v.bodyF.type.args.map Ty.cells), .sl (v.bodyF.args.map Tm.cells), .sl (v.envF.map cells)] := by
  cases v with
  | num n => rfl
  | list l => rfl
  | both a b => simp only [cells, numF, listF, pairF, bodyF, envF]; rfl
  | unit => rfl
  | clo b e => simp only [cells, numF, listF, pairF, bodyF, envF, cellss_map, List.map_reverse]; rfl
def dv (v : MV) : DV := .agg v.cells
theorem fold (v : MV) : DV.agg [dint v.numF, .sl (ints v.listF), .sl (v.pairF.map cells), dint v.bodyF.kind, dint v.bodyF.index, dint v.bodyF.type.kind, .sl (v.bodyF.type.args.map Ty.cells), .sl (v.bodyF.args.map Tm.cells), .sl (v.envF.map cells)] = v.dv := by rw [dv, cells_eq]
theorem cellsD_dv (v : MV) : cellsD v.dv = [dint v.numF, .sl (ints v.listF), .sl (v.pairF.map cells), dint v.bodyF.kind, dint v.bodyF.index, dint v.bodyF.type.kind, .sl (v.bodyF.type.args.map Ty.cells), .sl (v.bodyF.args.map Tm.cells), .sl (v.envF.map cells)] := by rw [dv, cellsD, cells_eq]
theorem isCell_dv (v : MV) : v.dv.isCell = false := rfl
theorem isAgg_dv (v : MV) : v.dv.isAgg = true := rfl
theorem length_cells (v : MV) : v.cells.length = 9 := by rw [cells_eq]; rfl
theorem wide (l : List MV) : (∀ e ∈ List.map cells l, e.length = 9) = True := by simp [length_cells]
theorem numF_num (n : Nat) : (MV.num n).numF = n := rfl
theorem listF_list (l : List Nat) : (MV.list l).listF = l.map Int.ofNat := rfl
theorem pairF_both (a b : MV) : (MV.both a b).pairF = [a, b] := rfl
theorem bodyF_clo (b : Tm) (e : List MV) : (MV.clo b e).bodyF = b := rfl
theorem envF_clo (b : Tm) (e : List MV) : (MV.clo b e).envF = e.reverse := rfl
end MV
attribute [go_sem] MV.cells_eq MV.fold MV.cellsD_dv MV.isCell_dv MV.isAgg_dv MV.wide MV.numF_num MV.listF_list MV.pairF_both MV.bodyF_clo MV.envF_clo

end Go.Proofs.YtgfjcbofbbcnmaaGreatDoor.Lift

namespace Go.Proofs.YtgfjcbofbbcnmaaGreatDoor.Lift
set_option linter.unusedSimpArgs false
set_option linter.unusedVariables false
set_option linter.unnecessarySimpa false
open Go
variable {gl : Globs}

/-! types without functions; values of the machine read back and given -/

theorem T.ty_fn (a b : T) : (T.fn a b).ty = Ty.mk 4 [a.ty, b.ty] := rfl

/-- a plain value as one of the machine -/
def ofM : (a : T) → a.V → MV
  | .nat, n => .num n
  | .list, l => .list l
  | .unit, _ => .unit
  | .pair a b, p => .both (ofM a p.1) (ofM b p.2)
  | .fn _ _, _ => .unit
theorem valOf_pair {a b : T} (p : (T.pair a b).V) : valOf (.pair a b) p = Val.mk 3 0 [] [valOf a p.1, valOf b p.2] := rfl
end Go.Proofs.YtgfjcbofbbcnmaaGreatDoor.Lift

namespace Go.Proofs.YtgfjcbofbbcnmaaGreatDoor.Lift
set_option linter.unusedSimpArgs false
set_option linter.unusedVariables false
set_option linter.unnecessarySimpa false
open Go
variable {gl : Globs}

theorem MV.fit_list {v : MV} (h : v.dv.fit) : v.listF.length ≤ 2147483648 := by
  rw [MV.dv, MV.cells_eq] at h
  simp only [DV.fit, DV.fit.fits, ints_length, BIG] at h
  exact h.2.1.1
end Go.Proofs.YtgfjcbofbbcnmaaGreatDoor.Lift

namespace Go.Proofs.YtgfjcbofbbcnmaaGreatDoor.Lift
set_option linter.unusedSimpArgs false
set_option linter.unusedVariables false
set_option linter.unnecessarySimpa false
open Go

/-! closed functions of several plain arguments, and what a call of them leaves -/

def FnT : List T → T → T
  | [], r => r
  | a :: l, r => .fn a (FnT l r)
def appl : (l : List T) → {r : T} → (FnT l r).V → Env l → r.V
  | [], _, f, _ => f
  | _ :: l, _, f, e => appl l (f e.1) e.2
def valsOf : (l : List T) → Env l → List Val
  | [], _ => []
  | a :: l, e => valOf a e.1 :: valsOf l e.2
def mvsOf : (l : List T) → Env l → List MV
  | [], _ => []
  | a :: l, e => ofM a e.1 :: mvsOf l e.2
def Plains : List T → Prop
  | [] => True
  | a :: l => a.plain ∧ a.ok ∧ Plains l

theorem valsOf_len : ∀ (l : List T) (X : Env l), (valsOf l X).length = l.length
  | [], _ => rfl
  | a :: l, X => by simp only [valsOf, List.length_cons, valsOf_len l X.2]
theorem mvsOf_len : ∀ (l : List T) (X : Env l), (mvsOf l X).length = l.length
  | [], _ => rfl
  | a :: l, X => by simp only [mvsOf, List.length_cons, mvsOf_len l X.2]
theorem args_at {r : T} : ∀ (l : List T) (X : Env l) (i : Nat), i < l.length → Plains l → ∃ (a : T) (x : a.V), (valsOf l X)[i]? = some (valOf a x) ∧ (mvsOf l X)[i]? = some (ofM a x) ∧ FnT (l.drop i) r = .fn a (FnT (l.drop (i + 1)) r) ∧ a.plain ∧ a.ok
  | [], X, i, h, _ => absurd h (Nat.not_lt_zero _)
  | a :: l, X, 0, h, hp => ⟨a, X.1, rfl, rfl, rfl, hp.1, hp.2.1⟩
  | a :: l, X, i + 1, h, hp => by
    obtain ⟨b, x, h1, h2, h3, h4⟩ := args_at (r := r) l X.2 i (by simpa using h) hp.2.2
    exact ⟨b, x, by simpa [valsOf] using h1, by simpa [mvsOf] using h2, by simpa using h3, h4⟩

theorem valOf_check {a : T} (x : a.V) (hp : a.plain) (hs : a.ok) : (valOf a x).checkN = 0 := by
  obtain ⟨v1, v2⟩ := valOf_nodes a x hp
  have hs : a.size ≤ 64 := hs
  unfold Val.checkN
  rw [if_pos v1, if_neg (by rw [Val.nodes_count _ v1]; omega)]
theorem valOf_ty : ∀ (a : T) (x : a.V), a.plain → (valOf a x).tyN = a.ty
  | .nat, n, _ => by rw [Val.tyN_eq]; rfl
  | .list, l, _ => by rw [Val.tyN_eq]; rfl
  | .unit, _, _ => by rw [Val.tyN_eq]; rfl
  | .pair a b, p, h => by
    rw [Val.tyN_eq, valOf_pair]
    simp only [Val.kind, Val.args, List.map_cons, List.map_nil, valOf_ty a p.1 h.1, valOf_ty b p.2 h.2]
    rfl
  | .fn _ _, _, h => h.elim
theorem valOf_typeE {a : T} (x : a.V) (hp : a.plain) (hs : a.ok) : (valOf a x).typeE = (a.ty, 0) := by
  unfold Val.typeE
  rw [valOf_check x hp hs, valOf_ty a x hp]
  rfl

end Go.Proofs.YtgfjcbofbbcnmaaGreatDoor.Lift

