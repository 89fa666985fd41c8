import Derived.Test.YtbmnlkfgkdallaaGreatDoorH7
namespace Go.Proofs.YtbmnlkfgkdallaaGreatDoor.Lift
set_option linter.unusedSimpArgs false
set_option linter.unusedVariables false
set_option linter.unnecessarySimpa false
open Go
variable {gl : Globs}

def Tm.typedE (t : Tm) (g : List Ty) : Ty × Int := if t.checkN = 0 then t.inferN g else (zeroTy, t.checkN)
def Tm.typeE (t : Tm) (g : List Ty) : Ty × Int := if ctxN g = 0 then t.typedE g else (zeroTy, ctxN g)

theorem Tm.checkN_iff (t : Tm) : t.checkN = 0 ↔ t.shape = true ∧ t.count ≤ 4096 := by
  unfold Tm.checkN
  split
  · split
    · rename_i h; simp; omega
    · rename_i h; simp; constructor <;> first | assumption | omega
  · rename_i h; simp [h]

theorem errTys_all {l : List Ty} (h : errTys l = 0) : ∀ x ∈ l, x.ok := by
  induction l with
  | nil => simp
  | cons a r ih =>
    simp only [errTys] at h
    split at h
    · rename_i ha
      intro x hx
      rcases List.mem_cons.1 hx with rfl | hx
      · exact (Ty.checkN_iff _).1 ha
      · exact ih h x hx
    · rename_i ha; exact absurd h ha

theorem ctxN_all {l : List Ty} (h : ctxN l = 0) : l.length ≤ 16 ∧ ∀ x ∈ l, x.ok := by
  unfold ctxN at h
  split at h
  · cases h
  · exact ⟨by omega, errTys_all h⟩

def Tm.leastN : Tm → Int → Bool
  | .mk _ i _ a, m => !decide (m < i) && leasts a m
where
  leasts : List Tm → Int → Bool
    | [], _ => true
    | a :: r, m => a.leastN m && leasts r m
theorem Tm.leastN_eq (t : Tm) (m : Int) : t.leastN m = (!decide (m < t.index) && leastN.leasts t.args m) := by cases t; rfl
theorem Tm.leasts_append (l r : List Tm) (m : Int) : leastN.leasts (l ++ r) m = (leastN.leasts l m && leastN.leasts r m) := by
  induction l with
  | nil => simp [leastN.leasts]
  | cons a r ih => simp [leastN.leasts, ih, Bool.and_assoc]

theorem ref05_same_ok (a b : Val) : Con1 Tryz.prog gl 21 [a.dv, b.dv] [] (dbool (a.same b)) [] := by
  induction a using Val.ind generalizing b with
  | h a ih =>
  refine t_in Tryz.func21 ?_
  intro X hP hgl hf hfn hn hR hids hfit
  have hfa := (Val.fit_eq a).1 ((Val.dv_fit a).1 (hfit a.dv (by simp)))
  have hfb := (Val.fit_eq b).1 ((Val.dv_fit b).1 (hfit b.dv (by simp)))
  have hla := hfa.2.2.2.1
  have hlb := hfb.2.2.2.1
  have hia := hfa.2.2.1.1
  have hib := hfb.2.2.1.1
  simp only [BIG] at hla hlb hia hib
  by_cases hk : a.kind = b.kind
  · by_cases hi : a.num = b.num
    · by_cases ht : a.list = b.list
      · by_cases hl : a.args.length = b.args.length
        · refine t_g (j2 @hk @hi) ?_
          refine t_c1 (j2 @hk (j2 @hi (j2 @ht @hl))) (ref05_ints_ok a.list b.list hia hib) ?_
          refine t_g (j2 @ht @hl) ?_
          refine t_a ?_
          refine t_sub [] (j2 @hk (j2 @hi (j2 @hl @ht))) (W_upto (a.args.length) (fun i => ∀ (j : Nat) (x y : Val), j < i → a.args[j]? = some x → b.args[j]? = some y → x.same y = true) (fun i => [(.slot 38, .one (.v (dint i))), (.slot 37, .one (.v (dint a.args.length))), (.slot 3, .one (.loc 3 0)), (.loc 3, .row ([.v (dint b.kind), .v (dint b.num), .v (.sl (ints b.list)), .v (.sl (b.args.map Val.cells))])), (.slot 2, .one (.loc 2 0)), (.loc 2, .row ([.v (dint a.kind), .v (dint a.num), .v (.sl (ints a.list)), .v (.sl (a.args.map Val.cells))]))]) (by intro j x y h; omega) ?_ ?_)
          · intro i hlt hI hnext
            obtain ⟨x, hx⟩ : ∃ x, a.args[i]? = some x := ⟨_, List.getElem?_eq_getElem hlt⟩
            obtain ⟨y, hy⟩ : ∃ y, b.args[i]? = some y := ⟨_, List.getElem?_eq_getElem (by omega)⟩
            refine t_rg0 ?_
            refine t_yes ?_
            refine t_g (j2 @hx @hy) ?_
            refine t_c1 (j2 @hx @hy) (ih x (List.mem_of_getElem? hx) y) ?_
            by_cases hs : x.same y = true
            · refine t_gt (wr []) trivial @hs (hnext ?_)
              intro j x' y' hj hx' hy'
              by_cases hji : j = i
              · subst hji; rw [hx] at hx'; rw [hy] at hy'; cases hx'; cases hy'; exact hs
              · exact hI j x' y' (by omega) hx' hy'
            · refine t_g @hs ?_
              refine t_r ?_
              simp [go_sem, hP, hgl, hn] <;> (try omega)
              refine Bool.eq_false_iff.2 ?_
              intro h
              rw [Val.same_eq] at h
              simp only [Bool.and_eq_true, Val.sames_iff] at h
              exact hs (h.2.2 i x y hx hy)
          · intro hI
            refine t_rg0 ?_
            refine t_no ?_
            refine t_rg0 ?_
            refine t_r ?_
            simp [go_sem, hP, hgl, hn] <;> (try omega)
            rw [Val.same_eq]
            simp only [Bool.and_eq_true, Val.sames_iff]
            exact ⟨⟨⟨by simp [hk], by simp [hi]⟩, by simp [ht]⟩, hl, fun i x y hx hy => hI i x y (List.getElem?_eq_some_iff.1 hx).1 hx hy⟩
        · refine t_g (j2 @hk @hi) ?_
          refine t_c1 (j2 @hk (j2 @hi (j2 @ht @hl))) (ref05_ints_ok a.list b.list hia hib) ?_
          refine t_g (j2 @ht @hl) ?_
          refine t_r ?_
          simp [go_sem, hP, hgl, hn] <;> (try omega)
          refine Bool.eq_false_iff.2 ?_
          intro h
          rw [Val.same_eq] at h
          simp only [Bool.and_eq_true, Val.sames_iff] at h
          exact hl h.2.1
      · refine t_g (j2 @hk @hi) ?_
        refine t_c1 (j2 @hk (j2 @hi @ht)) (ref05_ints_ok a.list b.list hia hib) ?_
        refine t_g @ht ?_
        refine t_r ?_
        simp [go_sem, hP, hgl, hn] <;> (try omega)
        simp [Val.same_eq, ht]
    · refine t_g (j2 @hk @hi) ?_
      refine t_r ?_
      simp [go_sem, hP, hgl, hn] <;> (try omega)
      simp [Val.same_eq, hi]
  · refine t_g @hk ?_
    refine t_r ?_
    simp [go_sem, hP, hgl, hn] <;> (try omega)
    simp [Val.same_eq, hk]
end Go.Proofs.YtbmnlkfgkdallaaGreatDoor.Lift
