import Derived.Test.YtbmnlkfgkdallaaDoorH8
namespace Go.Proofs.YtbmnlkfgkdallaaDoor.Lift
set_option linter.unusedSimpArgs false
set_option linter.unusedVariables false
set_option linter.unnecessarySimpa false
open Go
variable {gl : Globs}

def Tm.argN (t : Tm) (i : Nat) : Tm := t.args.getD i zeroTm

/-- whether a valid term's root is a redex -/
def Tm.rootN (t : Tm) : Bool :=
  if t.kind = 3 then decide ((t.argN 0).kind = 2)
  else if t.kind = 6 then decide ((t.argN 2).kind = 4) || decide ((t.argN 2).kind = 5)
  else if t.kind = 9 then decide ((t.argN 2).kind = 7) || decide ((t.argN 2).kind = 8)
  else if t.kind = 11 then decide ((t.argN 0).kind = 10)
  else if t.kind = 12 then decide ((t.argN 0).kind = 10)
  else false

theorem Tm.parts1 {t : Tm} (h : t.shape = true) (hk : arityI t.kind = 1) : ∃ x, t.args = [x] := by
  have := (Tm.shape_node h).1
  rw [hk] at this
  match ha : t.args, this with
  | [x], _ => exact ⟨x, rfl⟩
theorem Tm.parts2 {t : Tm} (h : t.shape = true) (hk : arityI t.kind = 2) : ∃ x y, t.args = [x, y] := by
  have := (Tm.shape_node h).1
  rw [hk] at this
  match ha : t.args, this with
  | [x, y], _ => exact ⟨x, y, rfl⟩
theorem Tm.parts3 {t : Tm} (h : t.shape = true) (hk : arityI t.kind = 3) : ∃ x y z, t.args = [x, y, z] := by
  have := (Tm.shape_node h).1
  rw [hk] at this
  match ha : t.args, this with
  | [x, y, z], _ => exact ⟨x, y, z, rfl⟩

theorem root_ok (t : Tm) (ht : t.shape = true) : Con1 Tryd.prog gl 119 [t.dv] [] (dbool t.rootN) [] := by
  refine t_in Tryd.func119 ?_
  intro X hP hgl hf hfn hn hR hids hfit
  by_cases h3 : t.kind = 3
  · obtain ⟨x, y, hx⟩ := Tm.parts2 ht (by rw [h3]; rfl)
    refine t_g (j2 @h3 @hx) ?_
    refine t_r ?_
    simp [go_sem, hP, hgl, hn, Tm.rootN, h3, Tm.argN, hx] <;> (try omega)
  by_cases h6 : t.kind = 6
  · obtain ⟨x, y, z, hx⟩ := Tm.parts3 ht (by rw [h6]; rfl)
    by_cases hz : z.kind = 4
    · refine t_g (j2 @h6 (j2 @hx @hz)) ?_
      refine t_r ?_
      simp [go_sem, hP, hgl, hn, Tm.rootN, h6, Tm.argN, hx, hz] <;> (try omega)
    · refine t_g (j2 @h6 (j2 @hx @hz)) ?_
      refine t_r ?_
      simp [go_sem, hP, hgl, hn, Tm.rootN, h6, Tm.argN, hx, hz] <;> (try omega)
  by_cases h9 : t.kind = 9
  · obtain ⟨x, y, z, hx⟩ := Tm.parts3 ht (by rw [h9]; rfl)
    by_cases hz : z.kind = 7
    · refine t_g (j2 @h9 (j2 @hx @hz)) ?_
      refine t_r ?_
      simp [go_sem, hP, hgl, hn, Tm.rootN, h9, Tm.argN, hx, hz] <;> (try omega)
    · refine t_g (j2 @h9 (j2 @hx @hz)) ?_
      refine t_r ?_
      simp [go_sem, hP, hgl, hn, Tm.rootN, h9, Tm.argN, hx, hz] <;> (try omega)
  by_cases h11 : t.kind = 11
  · obtain ⟨x, hx⟩ := Tm.parts1 ht (by rw [h11]; rfl)
    refine t_g (j2 @h11 @hx) ?_
    refine t_r ?_
    simp [go_sem, hP, hgl, hn, Tm.rootN, h11, Tm.argN, hx] <;> (try omega)
  by_cases h12 : t.kind = 12
  · obtain ⟨x, hx⟩ := Tm.parts1 ht (by rw [h12]; rfl)
    refine t_g (j2 @h12 @hx) ?_
    refine t_r ?_
    simp [go_sem, hP, hgl, hn, Tm.rootN, h12, Tm.argN, hx] <;> (try omega)
  refine t_g (j2 @h3 (j2 @h6 (j2 @h9 (j2 @h11 @h12)))) ?_
  refine t_r ?_
  simp [go_sem, hP, hgl, hn, Tm.rootN, h3, h6, h9, h11, h12] <;> (try omega)

/-- whether a term has no redex -/
def Tm.nf : Tm → Bool
  | .mk k i ty a => !(Tm.mk k i ty a).rootN && nfs a
where
  nfs : List Tm → Bool
    | [] => true
    | a :: r => a.nf && nfs r
theorem Tm.nf_eq (t : Tm) : t.nf = (!t.rootN && nf.nfs t.args) := by cases t; rfl
theorem Tm.nfs_iff (l : List Tm) : nf.nfs l = true ↔ ∀ a ∈ l, a.nf = true := by
  induction l with
  | nil => simp [nf.nfs]
  | cons a r ih => simp [nf.nfs, ih]

theorem next_nf_ok (t : Tm) (room : Int) (ht : t.shape = true) (hn0 : t.nf = true) : Con1 Tryd.prog gl 87 [t.dv, dint room] [] (.tup [t.dv, dbool false, dbool true]) [] := by
  induction t using Tm.ind with
  | h t ih =>
  have hs := (Tm.shape_node ht).2.2.2.2
  have hn1 := hn0
  rw [Tm.nf_eq, Bool.and_eq_true, Tm.nfs_iff] at hn1
  have hr : t.rootN = false := by simpa using hn1.1
  refine t_in Tryd.func87 ?_
  intro X hP hgl hf hfn hn hR hids hfit
  have hlen := Tm.fit_len (hfit t.dv (by simp))
  refine t_g0 ?_
  refine t_c1 trivial (root_ok t ht) ?_
  refine t_g @hr ?_
  refine t_a ?_
  refine t_sub [] trivial (W_list (t.args) (fun done rest => [(.slot 1, .one (.v (dint room))), (.slot 25, .one (.v (dint done.length))), (.slot 24, .one (.v (dint t.args.length))), (.slot 23, .one (.v (.sl (t.args.map Tm.cells)))), (.loc 4, .row ([.v (dint 0), .v (dint 0), .v (dint 0), .own 0 [], .own 0 []])), (.slot 4, .one (.loc 4 0)), (.loc 2, .row ([.v (dint t.kind), .v (dint t.index), .v (dint t.type.kind), .v (.sl (t.type.args.map Ty.cells)), .v (.sl (t.args.map Tm.cells))])), (.slot 2, .one (.loc 2 0))]) ?_ ?_)
  · intro done x rest hL hg0 hnext
    have hlt : done.length < t.args.length := by rw [hL]; simp
    have hxm := List.mem_of_getElem? hg0
    refine t_rg0 ?_
    refine t_yes ?_
    refine t_g @hg0 ?_
    refine t_c1 @hg0 (ih x hxm (hs x hxm) (hn1.2 x hxm)) ?_
    refine t_gt (wr []) trivial trivial hnext
  · refine t_rg0 ?_
    refine t_no ?_
    refine t_g0 ?_
    refine t_r ?_
    simp [go_sem, hP, hgl, hn] <;> (try omega)
    all_goals exact t_f

theorem normal_nf_ok (t : Tm) (n : Int) (ht : t.tys) (hk : t.checkN = 0) (h0 : t.nf = true) (hm : t.leastN 536870912 = true) (hn1 : 0 ≤ n) (hn2 : n ≤ 65536) : Con1 Tryd.prog gl 40 [t.dv, dint n] [] (.tup [t.dv, dint 0, dint 0]) [] := by
  have hck := (Tm.checkN_iff t).1 hk
  refine t_in Tryd.func40 ?_
  intro X hP hgl hf hfn hn hR hids hfit
  refine t_g0 ?_
  refine t_c1 trivial (ref02_check_ok t ht (by omega)) ?_
  have e1 : ¬ n < 0 := by omega
  have e2 : ¬ 65536 < n := by omega
  refine t_g @hk ?_
  refine t_c1 (j2 @e1 (j2 @e2 @hm)) (least_ok t 536870912) ?_
  refine t_g @hm ?_
  refine t_a ?_
  refine t_sub [] trivial (W_rounds (fun _u : Unit => True) (fun _u : Unit => [(.slot 1, .one (.v (dint n))), (.slot 8, .one (.v (dint 0))), (.loc 4, .row ([.v (dint 0), .v (dint 0), .v (dint 0), .own 0 [], .own 0 []])), (.slot 4, .one (.loc 4 0)), (.loc 2, .row ([.v (dint t.kind), .v (dint t.index), .v (dint t.type.kind), .v (.sl (t.type.args.map Ty.cells)), .v (.sl (t.args.map Tm.cells))])), (.slot 2, .one (.loc 2 0))]) (fun _u : Unit => 0) () (trivial) ?_)
  intro _ _ ih2
  refine t_g0 ?_
  refine t_c2 trivial (ref02_count_ok t (by omega)) (next_nf_ok t (4096 - t.count) hck.1 h0) ?_
  refine t_g0 ?_
  refine t_c1 trivial (ref02_copy_ok t) ?_
  refine t_r ?_
  simp [go_sem, hP, hgl, hn] <;> (try omega)
  all_goals exact t_f
end Go.Proofs.YtbmnlkfgkdallaaDoor.Lift
