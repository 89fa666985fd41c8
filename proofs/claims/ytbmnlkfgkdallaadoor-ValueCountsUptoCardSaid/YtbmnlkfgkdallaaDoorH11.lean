import Derived.Test.YtbmnlkfgkdallaaDoorH10
namespace Go.Proofs.YtbmnlkfgkdallaaDoor.Lift
set_option linter.unusedSimpArgs false
set_option linter.unusedVariables false
set_option linter.unnecessarySimpa false
open Go
variable {gl : Globs}

def appT (f a : Tm) : Tm := Tm.mk 3 0 (Ty.mk 0 []) [f, a]

/-- what a redex becomes -/
def Tm.reducedN (t : Tm) : Tm :=
  if t.kind = 3 then ((t.argN 0).argN 0).inN 0 0 (t.argN 1)
  else if t.kind = 6 then
    if (t.argN 2).kind = 4 then t.argN 0
    else appT (appT (t.argN 1) ((t.argN 2).argN 0)) (Tm.mk 6 0 t.type [t.argN 0, t.argN 1, (t.argN 2).argN 0])
  else if t.kind = 9 then
    if (t.argN 2).kind = 7 then t.argN 0
    else appT (appT (appT (t.argN 1) ((t.argN 2).argN 0)) ((t.argN 2).argN 1)) (Tm.mk 9 0 t.type [t.argN 0, t.argN 1, (t.argN 2).argN 1])
  else if t.kind = 11 then (t.argN 0).argN 0
  else (t.argN 0).argN 1

/-- how many nodes more it has then -/
def Tm.growthN (t : Tm) : Int :=
  if t.kind = 3 then ((t.argN 0).argN 0).count + ((t.argN 0).argN 0).timesN 0 * ((t.argN 1).count - 1 : Int) - t.count
  else if t.kind = 6 then
    if (t.argN 2).kind = 4 then ((t.argN 0).count : Int) - t.count
    else 2 + (t.argN 1).count + ((t.argN 2).argN 0).count + t.count - 1 - t.count
  else if t.kind = 9 then
    if (t.argN 2).kind = 7 then ((t.argN 0).count : Int) - t.count
    else 3 + (t.argN 1).count + ((t.argN 2).argN 0).count + ((t.argN 2).argN 1).count + t.count - 1 - ((t.argN 2).argN 0).count - t.count
  else if t.kind = 11 then (((t.argN 0).argN 0).count : Int) - t.count
  else (((t.argN 0).argN 1).count : Int) - t.count

theorem ref02_t_ok (k : Int) (s : Ty) (l : List Tm) : Con1 Tryd.prog gl 54 [dint k, s.dv, .sl (l.map Tm.cells)] [] (Tm.mk k 0 s l).dv [] := by
  refine t_in Tryd.func54 ?_
  intro X hP hgl hf hfn hn hR hids hfit
  refine t_g0 ?_
  refine t_c1 trivial (ref02_n_ok k l) ?_
  refine t_g0 ?_
  refine t_c1 trivial (ref01_copy_ok s) ?_
  refine t_g0 ?_
  refine t_r ?_
  simp [go_sem, hP, hgl, hn] <;> (try omega)
  all_goals exact t_f

theorem count2 {t x y : Tm} (h : t.args = [x, y]) : t.count = 1 + (x.count + (y.count + 0)) := by rw [Tm.count_eq, h]; rfl
theorem count3 {t x y z : Tm} (h : t.args = [x, y, z]) : t.count = 1 + (x.count + (y.count + (z.count + 0))) := by rw [Tm.count_eq, h]; rfl
theorem count1 {t x : Tm} (h : t.args = [x]) : t.count = 1 + (x.count + 0) := by rw [Tm.count_eq, h]; rfl

theorem growth_ok (t : Tm) (ht : t.shape = true) (hr : t.rootN = true) (hc : t.count ≤ 1048576) : Con1 Tryd.prog gl 120 [t.dv] [] (dint t.growthN) [] := by
  have hs := (Tm.shape_node ht).2.2.2.2
  refine t_in Tryd.func120 ?_
  intro X hP hgl hf hfn hn hR hids hfit
  refine t_g0 ?_
  refine t_c1 trivial (ref02_count_ok t (by omega)) ?_
  by_cases h3 : t.kind = 3
  · obtain ⟨x, y, hx⟩ := Tm.parts2 ht (by rw [h3]; rfl)
    have hk : x.kind = 2 := by simpa [Tm.rootN, h3, Tm.argN, hx] using hr
    obtain ⟨b, hb⟩ := Tm.parts1 (hs x (by rw [hx]; simp)) (by rw [hk]; rfl)
    have c1 := count2 hx
    have c2 := count1 hb
    have c3 := Tm.timesN_le b 0
    have c4 := Tm.count_pos y
    have c5 : 0 ≤ (b.timesN 0 : Int) * ((y.count : Int) - 1) ∧ (b.timesN 0 : Int) * ((y.count : Int) - 1) ≤ 1099511627776 := by
      have e : (b.timesN 0 : Int) * ((y.count : Int) - 1) = ((b.timesN 0 * (y.count - 1) : Nat) : Int) := by
        rw [Int.natCast_mul]; congr 1; omega
      rw [e]
      have := Nat.mul_le_mul (show b.timesN 0 ≤ 1048576 by omega) (show y.count - 1 ≤ 1048576 by omega)
      omega
    refine t_g (j2 @h3 (j2 @hx @hb)) ?_
    refine t_c3 trivial (ref02_count_ok b (by omega)) (times_ok b 0 (by omega) (by omega) (by omega)) (ref02_count_ok y (by omega)) ?_
    refine t_r ?_
    simp [go_sem, hP, hgl, hn, Tm.growthN, h3, Tm.argN, hx, hb] <;> (try omega)
  by_cases h6 : t.kind = 6
  · obtain ⟨x, y, z, hx⟩ := Tm.parts3 ht (by rw [h6]; rfl)
    have c1 := count3 hx
    by_cases hz : z.kind = 4
    · refine t_g (j2 @h6 (j2 @hx @hz)) ?_
      refine t_c1 (j2 @h6 @hx) (ref02_count_ok x (by omega)) ?_
      refine t_r ?_
      simp [go_sem, hP, hgl, hn, Tm.growthN, h6, Tm.argN, hx, hz] <;> (try omega)
    · have hz5 : z.kind = 5 := by
        have : z.kind = 4 ∨ z.kind = 5 := by simpa [Tm.rootN, h6, Tm.argN, hx] using hr
        exact this.resolve_left hz
      obtain ⟨n, hn0⟩ := Tm.parts1 (hs z (by rw [hx]; simp)) (by rw [hz5]; rfl)
      have c2 := count1 hn0
      refine t_g (j2 @h6 (j2 @hx @hz)) ?_
      refine t_c2 (j2 @h6 (j2 @hx @hn0)) (ref02_count_ok y (by omega)) (ref02_count_ok n (by omega)) ?_
      refine t_r ?_
      simp [go_sem, hP, hgl, hn, Tm.growthN, h6, Tm.argN, hx, hz, hn0] <;> (try omega)
  by_cases h9 : t.kind = 9
  · obtain ⟨x, y, z, hx⟩ := Tm.parts3 ht (by rw [h9]; rfl)
    have c1 := count3 hx
    by_cases hz : z.kind = 7
    · refine t_g (j2 @h9 (j2 @hx @hz)) ?_
      refine t_c1 (j2 @h9 @hx) (ref02_count_ok x (by omega)) ?_
      refine t_r ?_
      simp [go_sem, hP, hgl, hn, Tm.growthN, h9, Tm.argN, hx, hz] <;> (try omega)
    · have hz5 : z.kind = 8 := by
        have : z.kind = 7 ∨ z.kind = 8 := by simpa [Tm.rootN, h9, Tm.argN, hx] using hr
        exact this.resolve_left hz
      obtain ⟨n, r, hn0⟩ := Tm.parts2 (hs z (by rw [hx]; simp)) (by rw [hz5]; rfl)
      have c2 := count2 hn0
      refine t_g (j2 @h9 (j2 @hx (j2 @hz @hn0))) ?_
      refine t_c4 (j2 @h9 (j2 @hx @hn0)) (ref02_count_ok y (by omega)) (ref02_count_ok n (by omega)) (ref02_count_ok r (by omega)) (ref02_count_ok n (by omega)) ?_
      refine t_r ?_
      simp [go_sem, hP, hgl, hn, Tm.growthN, h9, Tm.argN, hx, hz, hn0] <;> (try omega)
  by_cases h11 : t.kind = 11
  · obtain ⟨x, hx⟩ := Tm.parts1 ht (by rw [h11]; rfl)
    have hk : x.kind = 10 := by simpa [Tm.rootN, h11, Tm.argN, hx] using hr
    obtain ⟨p, q, hp⟩ := Tm.parts2 (hs x (by rw [hx]; simp)) (by rw [hk]; rfl)
    have c1 := count1 hx
    have c2 := count2 hp
    refine t_g (j2 @h11 (j2 @hx @hp)) ?_
    refine t_c1 (j2 @h11 (j2 @hx @hp)) (ref02_count_ok p (by omega)) ?_
    refine t_r ?_
    simp [go_sem, hP, hgl, hn, Tm.growthN, h11, Tm.argN, hx, hp] <;> (try omega)
  have h12 : t.kind = 12 := by
    by_cases h : t.kind = 12
    · exact h
    · simp [Tm.rootN, h3, h6, h9, h11, h] at hr
  obtain ⟨x, hx⟩ := Tm.parts1 ht (by rw [h12]; rfl)
  have hk : x.kind = 10 := by simpa [Tm.rootN, h12, Tm.argN, hx] using hr
  obtain ⟨p, q, hp⟩ := Tm.parts2 (hs x (by rw [hx]; simp)) (by rw [hk]; rfl)
  have c1 := count1 hx
  have c2 := count2 hp
  refine t_g (j2 @h12 (j2 @hx @hp)) ?_
  refine t_c1 (j2 @h12 (j2 @hx @hp)) (ref02_count_ok q (by omega)) ?_
  refine t_r ?_
  simp [go_sem, hP, hgl, hn, Tm.growthN, h12, Tm.argN, hx, hp] <;> (try omega)

theorem reduced_ok (t : Tm) (ht : t.shape = true) (hr : t.rootN = true) (hi : t.idx 549755813888) (hc : t.count ≤ 1048576) : Con1 Tryd.prog gl 121 [t.dv] [] t.reducedN.dv [] := by
  have hs := (Tm.shape_node ht).2.2.2.2
  have hi2 := ((Tm.idx_eq t _).1 hi).2
  refine t_in Tryd.func121 ?_
  intro X hP hgl hf hfn hn hR hids hfit
  by_cases h3 : t.kind = 3
  · obtain ⟨x, y, hx⟩ := Tm.parts2 ht (by rw [h3]; rfl)
    have hk : x.kind = 2 := by simpa [Tm.rootN, h3, Tm.argN, hx] using hr
    obtain ⟨b, hb⟩ := Tm.parts1 (hs x (by rw [hx]; simp)) (by rw [hk]; rfl)
    have c1 := count2 hx
    have c2 := count1 hb
    have ib : b.idx 1099511627776 := Tm.idx_mono (by omega) (((Tm.idx_eq x _).1 (hi2 x (by rw [hx]; simp))).2 b (by rw [hb]; simp))
    have iy : y.idx 1099511627776 := Tm.idx_mono (by omega) (hi2 y (by rw [hx]; simp))
    refine t_g (j2 @h3 (j2 @hx @hb)) ?_
    refine t_c1 (j2 @h3 (j2 @hx @hb)) (in_ok b 0 0 y ib iy (by omega) (by omega) (by omega)) ?_
    refine t_r ?_
    simp [go_sem, hP, hgl, hn, Tm.reducedN, h3, Tm.argN, hx, hb] <;> (try omega)
    all_goals exact t_f
  by_cases h6 : t.kind = 6
  · obtain ⟨x, y, z, hx⟩ := Tm.parts3 ht (by rw [h6]; rfl)
    by_cases hz : z.kind = 4
    · refine t_g (j2 @h6 (j2 @hx @hz)) ?_
      refine t_r ?_
      simp [go_sem, hP, hgl, hn, Tm.reducedN, h6, Tm.argN, hx, hz] <;> (try omega)
      all_goals exact t_f
    · have hz5 : z.kind = 5 := by
        have : z.kind = 4 ∨ z.kind = 5 := by simpa [Tm.rootN, h6, Tm.argN, hx] using hr
        exact this.resolve_left hz
      obtain ⟨n, hn0⟩ := Tm.parts1 (hs z (by rw [hx]; simp)) (by rw [hz5]; rfl)
      refine t_g (j2 @h6 (j2 @hx (j2 @hz @hn0))) ?_
      refine t_c3 (j2 @h6 (j2 @hx @hn0)) (ref02_n_ok 3 [y, n]) (ref02_t_ok 6 t.type [x, y, n]) (ref02_n_ok 3 [Tm.mk 3 0 (Ty.mk 0 []) [y, n], Tm.mk 6 0 t.type [x, y, n]]) ?_
      refine t_r ?_
      simp [go_sem, hP, hgl, hn, Tm.reducedN, h6, Tm.argN, hx, hz, hn0, appT] <;> (try omega)
      all_goals exact t_f
  by_cases h9 : t.kind = 9
  · obtain ⟨x, y, z, hx⟩ := Tm.parts3 ht (by rw [h9]; rfl)
    by_cases hz : z.kind = 7
    · refine t_g (j2 @h9 (j2 @hx @hz)) ?_
      refine t_r ?_
      simp [go_sem, hP, hgl, hn, Tm.reducedN, h9, Tm.argN, hx, hz] <;> (try omega)
      all_goals exact t_f
    · have hz5 : z.kind = 8 := by
        have : z.kind = 7 ∨ z.kind = 8 := by simpa [Tm.rootN, h9, Tm.argN, hx] using hr
        exact this.resolve_left hz
      obtain ⟨n, r, hn0⟩ := Tm.parts2 (hs z (by rw [hx]; simp)) (by rw [hz5]; rfl)
      refine t_g (j2 @h9 (j2 @hx (j2 @hz @hn0))) ?_
      refine t_c4 (j2 @h9 (j2 @hx @hn0)) (ref02_n_ok 3 [y, n]) (ref02_n_ok 3 [Tm.mk 3 0 (Ty.mk 0 []) [y, n], r]) (ref02_t_ok 9 t.type [x, y, r]) (ref02_n_ok 3 [Tm.mk 3 0 (Ty.mk 0 []) [Tm.mk 3 0 (Ty.mk 0 []) [y, n], r], Tm.mk 9 0 t.type [x, y, r]]) ?_
      refine t_r ?_
      simp [go_sem, hP, hgl, hn, Tm.reducedN, h9, Tm.argN, hx, hz, hn0, appT] <;> (try omega)
      all_goals exact t_f
  by_cases h11 : t.kind = 11
  · obtain ⟨x, hx⟩ := Tm.parts1 ht (by rw [h11]; rfl)
    have hk : x.kind = 10 := by simpa [Tm.rootN, h11, Tm.argN, hx] using hr
    obtain ⟨p, q, hp⟩ := Tm.parts2 (hs x (by rw [hx]; simp)) (by rw [hk]; rfl)
    refine t_g (j2 @h11 (j2 @hx @hp)) ?_
    refine t_r ?_
    simp [go_sem, hP, hgl, hn, Tm.reducedN, h11, Tm.argN, hx, hp] <;> (try omega)
    all_goals exact t_f
  have h12 : t.kind = 12 := by
    by_cases h : t.kind = 12
    · exact h
    · simp [Tm.rootN, h3, h6, h9, h11, h] at hr
  obtain ⟨x, hx⟩ := Tm.parts1 ht (by rw [h12]; rfl)
  have hk : x.kind = 10 := by simpa [Tm.rootN, h12, Tm.argN, hx] using hr
  obtain ⟨p, q, hp⟩ := Tm.parts2 (hs x (by rw [hx]; simp)) (by rw [hk]; rfl)
  refine t_g (j2 @h12 (j2 @hx @hp)) ?_
  refine t_r ?_
  simp [go_sem, hP, hgl, hn, Tm.reducedN, h12, Tm.argN, hx, hp] <;> (try omega)
  all_goals exact t_f
end Go.Proofs.YtbmnlkfgkdallaaDoor.Lift
