import Derived.Test.YtbmnlkfgkdallaaDoorH6
import Derived.Test.YtbmnlkfgkdallaaDoorP2
namespace Go.Proofs.YtbmnlkfgkdallaaDoor.Lift
set_option linter.unusedSimpArgs false
set_option linter.unusedVariables false
set_option linter.unnecessarySimpa false
open Go
variable {gl : Globs}

theorem ref01_fun_ok (a b : Ty) : Con1 Tryd.prog gl 63 [a.dv, b.dv] [] (Ty.mk 4 [a, b]).dv [] := by
  refine t_in Tryd.func63 ?_
  intro X hP hgl hf hfn hn hR hids hfit
  refine t_g0 ?_
  refine t_c2 trivial (ref01_copy_ok a) (ref01_copy_ok b) ?_
  refine t_r ?_
  simp [go_sem, hP, hgl, hn] <;> (try omega)
  all_goals exact t_f

theorem ref02_ok_ok (t : Ty) (hc : t.count ≤ 1073741824) : Con1 Tryd.prog gl 131 [t.dv] [] (.tup [(okN t).1.dv, dint (okN t).2]) [] := by
  refine t_in Tryd.func131 ?_
  intro X hP hgl hf hfn hn hR hids hfit
  refine t_g0 ?_
  refine t_c1 trivial (ref01_check_ok t (by omega)) ?_
  by_cases h : t.checkN = 0
  · refine t_g @h ?_
    refine t_r ?_
    simp [go_sem, hP, hgl, hn, okN, h] <;> (try omega)
    all_goals exact t_f
  · refine t_g @h ?_
    refine t_r ?_
    simp [go_sem, hP, hgl, hn, okN, h, zeroTy] <;> (try omega)
    all_goals exact t_f

theorem count_two (k : Int) (a b : Ty) : (Ty.mk k [a, b]).count = 1 + (a.count + (b.count + 0)) := rfl

theorem take_tys (g : List Ty) : List.take g.length (List.map Ty.cells g) = List.map Ty.cells g := by rw [List.take_of_length_le]; simp

theorem nat_v : (Ty.mk 1 []).dv = .agg [dint 1, .sl []] := rfl
theorem list_v : (Ty.mk 2 []).dv = .agg [dint 2, .sl []] := rfl

set_option maxHeartbeats 4000000 in
theorem infer_ok (t : Tm) (g : List Ty) (hgt : g.length + t.count ≤ 2147483648) (ht : t.shape = true) (hg : ∀ x ∈ g, x.ok) : Con1 Tryd.prog gl 118 [.sl (g.map Ty.cells), t.dv] [] (.tup [(t.inferN g).1.dv, dint (t.inferN g).2]) [] := by
  induction t using Tm.ind generalizing g with
  | h t ih =>
  obtain ⟨ha, hi, hv, hty, hs⟩ := Tm.shape_node ht
  refine t_in Tryd.func118 ?_
  intro X hP hgl hf hfn hn hR hids hfit
  have hlg := sl_len (hfit (.sl (g.map Ty.cells)) (by simp))
  simp at hlg
  by_cases h1 : t.kind = 1
  · by_cases h2 : (g.length : Int) ≤ t.index
    · refine t_g (j2 @h1 @h2) ?_
      refine t_r ?_
      simp [go_sem, hP, hgl, hn, Tm.inferN_eq t, h1, h2, zeroTy] <;> (try omega)
      all_goals exact t_f
    · have hlt : g.length - 1 - t.index.toNat < g.length := by omega
      have hx := List.getElem?_eq_getElem hlt
      generalize hge : g[g.length - 1 - t.index.toNat] = x at hx
      have hx' : g[(g.length - 1 - t.index : Int).toNat]? = some x := by rw [← hx]; congr 1; omega
      refine t_g (j2 @h1 @h2) ?_
      refine t_c1 @hx' (ref01_copy_ok x) ?_
      refine t_r ?_
      simp [go_sem, hP, hgl, hn, Tm.inferN_eq t, h1, h2, hx] <;> (try omega)
      all_goals exact t_f
  by_cases hk2 : t.kind = 2
  · rw [hk2] at ha
    obtain ⟨b, hb⟩ : ∃ b, t.args = [b] := by
      match hh : t.args, ha with
      | [b], _ => exact ⟨b, rfl⟩
    have hbm : b ∈ t.args := by rw [hb]; simp
    rw [if_pos (.inl hk2)] at hty
    have hg' : ∀ x ∈ g ++ [t.type], x.ok := by
      intro x hx
      rcases List.mem_append.1 hx with hx | hx
      · exact hg x hx
      · rw [List.mem_singleton.1 hx]; exact hty
    have hi' := Tm.inferN_ok b (g ++ [t.type]) (hs b hbm) hg'
    have hcb1 : t.count = 1 + (b.count + 0) := by rw [Tm.count_eq, hb]; rfl
    have hcb2 := Tm.count_pos b
    have hgl1 : g.length ≤ 2147483647 := by omega
    refine t_g @hk2 ?_
    refine t_c1 (j2 @hk2 (j2 @hb (j2 @take_tys (j2 (Ty.cells_eq t.type) @Ty.length_cells)))) (ih b hbm (g ++ [t.type]) (by simp; omega) (hs b hbm) hg') ?_
    by_cases he : (b.inferN (g ++ [t.type])).2 = 0
    · have hcb := hty.2
      have hcc := (hi' he).2
      refine t_g @he ?_
      refine t_c2 trivial (ref01_fun_ok t.type (b.inferN (g ++ [t.type])).1) (ref02_ok_ok (Ty.mk 4 [t.type, (b.inferN (g ++ [t.type])).1]) (by rw [count_two]; omega)) ?_
      refine t_r ?_
      simp [go_sem, hP, hgl, hn, Tm.inferN_eq t, hk2, hb, Tm.inferN.infers, he, ruleN] <;> (try omega)
      all_goals exact t_f
    · refine t_g @he ?_
      refine t_r ?_
      simp [go_sem, hP, hgl, hn, Tm.inferN_eq t, hk2, hb, Tm.inferN.infers, he, zeroTy] <;> (try omega)
      all_goals exact t_f
  have hlen := Tm.fit_len (hfit t.dv (by simp))
  refine t_g (j2 @h1 @hk2) ?_
  refine t_a ?_
  refine W_sub [(1008, 0)] (by simp [go_sem]) (by simp [go_sem, Tm.inferN.infers] <;> omega) (by simp [go_sem]) (W_listI (t.args) (fun done => (Tm.inferN.infers done g).2 = 0) (fun done rest => [(.slot 0, .one (.v (.sl (g.map Ty.cells)))), (.slot 69, .one (.v (dint done.length))), (.slot 68, .one (.v (dint t.args.length))), (.slot 67, .one (.v (.sl (t.args.map Tm.cells)))), (.slot 8, .one (.own 1008 ((Tm.inferN.infers done g).1.map Ty.cells))), (.tok 1008, .tk 2 (Tm.inferN.infers done g).1.length), (.loc 4, .row ([.v (dint 0), .own 0 []])), (.slot 4, .one (.loc 4 0)), (.loc 3, .row ([.v (dint t.kind), .v (dint t.index), .v (dint t.type.kind), .v (.sl (t.type.args.map Ty.cells)), .v (.sl (t.args.map Tm.cells))])), (.slot 3, .one (.loc 3 0))]) (rfl) ?_ ?_)
  · intro done x rest hL hg0 hI hnext
    have hlt : done.length < t.args.length := by rw [hL]; simp
    have hxm := List.mem_of_getElem? hg0
    have hcx := Tm.count_mem hxm
    have hct := Tm.count_eq t
    have hix := Tm.inferN_ok x g (hs x hxm) hg
    refine t_rg0 ?_
    refine t_yes ?_
    refine t_g @hg0 ?_
    refine t_c1 @hg0 (ih x hxm g (by omega) (hs x hxm) hg) ?_
    by_cases he : (x.inferN g).2 = 0
    · have hsn := Tm.infers_snoc done x g hI he
      have hdl := (Tm.infers_all done g hI).1
      refine t_gt (wr [(1008, 86)]) (j2 @hsn (j2 @hdl (Ty.cells_eq (x.inferN g).1))) (j2 @he @hdl) (hnext (by rw [hsn]))
    · have hst := Tm.infers_stop done x rest g hI he
      rw [← hL] at hst
      refine t_g @he ?_
      refine t_r ?_
      simp [go_sem, hP, hgl, hn, Tm.inferN_eq t, h1, hk2, hst, he, zeroTy] <;> (try omega)
      all_goals exact t_f
  · intro hI
    have hN : t.inferN g = ruleN t.kind t.type (Tm.inferN.infers t.args g).1 := by rw [Tm.inferN_eq t]; simp [h1, hk2, hI]
    have hdl := (Tm.infers_all t.args g hI).1
    have hdo : ∀ a ∈ (Tm.inferN.infers t.args g).1, a.ok := by
      intro a ha
      obtain ⟨i, hi, rfl⟩ := List.mem_iff_getElem.1 ha
      obtain ⟨x1, x2⟩ := (Tm.infers_all t.args g hI).2 i t.args[i] (List.getElem?_eq_getElem (by omega))
      rw [List.getElem?_eq_getElem hi] at x2
      rw [Option.some.inj x2]
      exact Tm.inferN_ok _ g (hs _ (List.getElem_mem _)) hg x1
    obtain ⟨ds, hds⟩ : ∃ ds, ds = (Tm.inferN.infers t.args g).1 := ⟨_, rfl⟩
    rw [← hds] at hN hdl hdo ⊢
    rw [← hdl] at ha
    have h1l : t.kind = 5 ∨ t.kind = 11 ∨ t.kind = 12 → ∃ x, ds = [x] := by
      intro hk
      have : ds.length = 1 := by rcases hk with hk | hk | hk <;> simp [hk, arityI] at ha <;> omega
      exact List.length_eq_one_iff.1 this
    have h2l : t.kind = 3 ∨ t.kind = 8 ∨ t.kind = 10 → ∃ x y, ds = [x, y] := by
      intro hk
      have : ds.length = 2 := by rcases hk with hk | hk | hk <;> simp [hk, arityI] at ha <;> omega
      match ds, this with
      | [x, y], _ => exact ⟨x, y, rfl⟩
    have h3l : t.kind = 6 ∨ t.kind = 9 → ∃ x y z, ds = [x, y, z] := by
      intro hk
      have : ds.length = 3 := by rcases hk with hk | hk <;> simp [hk, arityI] at ha <;> omega
      match ds, this with
      | [x, y, z], _ => exact ⟨x, y, z, rfl⟩
    refine t_rg0 ?_
    refine t_no ?_
    refine t_c2 trivial ref01_nat_ok ref01_list_ok ?_
    by_cases h3 : t.kind = 3
    · obtain ⟨x, y, rfl⟩ := h2l (.inl h3)
      by_cases hx : x.kind = 4
      · obtain ⟨p, q, hp, op, oq, e0, e1⟩ := Ty.ok_args (hdo x (by simp)) (.inr hx)
        refine t_g @h3 ?_
        refine t_c1 (j2 @h3 (j2 @hx @hp)) (ref01_same_ok p y) ?_
        by_cases hs : p.same y = true
        · refine t_g (j2 @h3 (j2 @hx (j2 @hp @hs))) ?_
          refine t_r ?_
          simp [go_sem, hP, hgl, hn, hN, ruleN, h3, hx, e0, e1, hs] <;> (try omega)
          all_goals exact t_f
        · refine t_g (j2 @h3 (j2 @hx (j2 @hp @hs))) ?_
          refine t_r ?_
          simp [go_sem, hP, hgl, hn, hN, ruleN, h3, hx, e0, e1, hs, zeroTy] <;> (try omega)
          all_goals exact t_f
      · refine t_g (j2 @h3 @hx) ?_
        refine t_r ?_
        simp [go_sem, hP, hgl, hn, hN, ruleN, h3, hx, zeroTy] <;> (try omega)
        all_goals exact t_f
    by_cases h4 : t.kind = 4
    · refine t_g @h4 ?_
      refine t_r ?_
      simp [go_sem, hP, hgl, hn, hN, ruleN, h4] <;> (try omega)
      all_goals exact t_f
    by_cases h5 : t.kind = 5
    · obtain ⟨x, rfl⟩ := h1l (.inl h5)
      refine t_g @h5 ?_
      refine t_c1 (j2 @h5 (j2 @nat_v @list_v)) (ref01_same_ok x (Ty.mk 1 [])) ?_
      by_cases hs : x.same (Ty.mk 1 []) = true
      · refine t_g (j2 @h5 @hs) ?_
        refine t_r ?_
        simp [go_sem, hP, hgl, hn, hN, ruleN, h5, hs] <;> (try omega)
        all_goals exact t_f
      · refine t_g (j2 @h5 @hs) ?_
        refine t_r ?_
        simp [go_sem, hP, hgl, hn, hN, ruleN, h5, hs, zeroTy] <;> (try omega)
        all_goals exact t_f
    by_cases h6 : t.kind = 6
    · obtain ⟨x, y, z, rfl⟩ := h3l (.inl h6)
      rw [if_pos (by simp [h6])] at hty
      by_cases hs1 : x.same t.type = true
      · by_cases hs2 : y.same (Ty.mk 4 [Ty.mk 1 [], Ty.mk 4 [t.type, t.type]]) = true
        · refine t_g @h6 ?_
          refine t_c5 (j2 @h6 (j2 @hs1 (j2 @hs2 (j2 @nat_v @list_v)))) (ref01_same_ok x t.type) (ref01_fun_ok t.type t.type) (ref01_fun_ok (Ty.mk 1 []) (Ty.mk 4 [t.type, t.type])) (ref01_same_ok y (Ty.mk 4 [Ty.mk 1 [], Ty.mk 4 [t.type, t.type]])) (ref01_same_ok z (Ty.mk 1 [])) ?_
          by_cases hs3 : z.same (Ty.mk 1 []) = true
          · refine t_g (j2 @h6 (j2 @hs1 (j2 @hs2 @hs3))) ?_
            refine t_c1 @h6 (ref01_copy_ok t.type) ?_
            refine t_r ?_
            simp [go_sem, hP, hgl, hn, hN, ruleN, h6, hs1, hs2, hs3] <;> (try omega)
            all_goals exact t_f
          · refine t_g (j2 @h6 (j2 @hs1 (j2 @hs2 @hs3))) ?_
            refine t_r ?_
            simp [go_sem, hP, hgl, hn, hN, ruleN, h6, hs1, hs2, hs3, zeroTy] <;> (try omega)
            all_goals exact t_f
        · refine t_g @h6 ?_
          refine t_c4 (j2 @h6 (j2 @hs1 (j2 @hs2 (j2 @nat_v @list_v)))) (ref01_same_ok x t.type) (ref01_fun_ok t.type t.type) (ref01_fun_ok (Ty.mk 1 []) (Ty.mk 4 [t.type, t.type])) (ref01_same_ok y (Ty.mk 4 [Ty.mk 1 [], Ty.mk 4 [t.type, t.type]])) ?_
          refine t_g (j2 @h6 (j2 @hs1 @hs2)) ?_
          refine t_r ?_
          simp [go_sem, hP, hgl, hn, hN, ruleN, h6, hs1, hs2, zeroTy] <;> (try omega)
          all_goals exact t_f
      · refine t_g @h6 ?_
        refine t_c1 (j2 @h6 @hs1) (ref01_same_ok x t.type) ?_
        refine t_g (j2 @h6 @hs1) ?_
        refine t_r ?_
        simp [go_sem, hP, hgl, hn, hN, ruleN, h6, hs1, zeroTy] <;> (try omega)
        all_goals exact t_f
    by_cases h7 : t.kind = 7
    · refine t_g @h7 ?_
      refine t_r ?_
      simp [go_sem, hP, hgl, hn, hN, ruleN, h7] <;> (try omega)
      all_goals exact t_f
    by_cases h8 : t.kind = 8
    · obtain ⟨x, y, rfl⟩ := h2l (.inr (.inl h8))
      by_cases hs1 : x.same (Ty.mk 1 []) = true
      · refine t_g @h8 ?_
        refine t_c2 (j2 @h8 (j2 @hs1 (j2 @nat_v @list_v))) (ref01_same_ok x (Ty.mk 1 [])) (ref01_same_ok y (Ty.mk 2 [])) ?_
        by_cases hs2 : y.same (Ty.mk 2 []) = true
        · refine t_g (j2 @h8 (j2 @hs1 @hs2)) ?_
          refine t_r ?_
          simp [go_sem, hP, hgl, hn, hN, ruleN, h8, hs1, hs2] <;> (try omega)
          all_goals exact t_f
        · refine t_g (j2 @h8 (j2 @hs1 @hs2)) ?_
          refine t_r ?_
          simp [go_sem, hP, hgl, hn, hN, ruleN, h8, hs1, hs2, zeroTy] <;> (try omega)
          all_goals exact t_f
      · refine t_g @h8 ?_
        refine t_c1 (j2 @h8 (j2 @hs1 (j2 @nat_v @list_v))) (ref01_same_ok x (Ty.mk 1 [])) ?_
        refine t_g (j2 @h8 @hs1) ?_
        refine t_r ?_
        simp [go_sem, hP, hgl, hn, hN, ruleN, h8, hs1, zeroTy] <;> (try omega)
        all_goals exact t_f
    by_cases h9 : t.kind = 9
    · obtain ⟨x, y, z, rfl⟩ := h3l (.inr h9)
      rw [if_pos (by simp [h9])] at hty
      by_cases hs1 : x.same t.type = true
      · by_cases hs2 : y.same (Ty.mk 4 [Ty.mk 1 [], Ty.mk 4 [Ty.mk 2 [], Ty.mk 4 [t.type, t.type]]]) = true
        · refine t_g @h9 ?_
          refine t_c6 (j2 @h9 (j2 @hs1 (j2 @hs2 (j2 @nat_v @list_v)))) (ref01_same_ok x t.type) (ref01_fun_ok t.type t.type) (ref01_fun_ok (Ty.mk 2 []) (Ty.mk 4 [t.type, t.type])) (ref01_fun_ok (Ty.mk 1 []) (Ty.mk 4 [Ty.mk 2 [], Ty.mk 4 [t.type, t.type]])) (ref01_same_ok y (Ty.mk 4 [Ty.mk 1 [], Ty.mk 4 [Ty.mk 2 [], Ty.mk 4 [t.type, t.type]]])) (ref01_same_ok z (Ty.mk 2 [])) ?_
          by_cases hs3 : z.same (Ty.mk 2 []) = true
          · refine t_g (j2 @h9 (j2 @hs1 (j2 @hs2 @hs3))) ?_
            refine t_c1 @h9 (ref01_copy_ok t.type) ?_
            refine t_r ?_
            simp [go_sem, hP, hgl, hn, hN, ruleN, h9, hs1, hs2, hs3] <;> (try omega)
            all_goals exact t_f
          · refine t_g (j2 @h9 (j2 @hs1 (j2 @hs2 @hs3))) ?_
            refine t_r ?_
            simp [go_sem, hP, hgl, hn, hN, ruleN, h9, hs1, hs2, hs3, zeroTy] <;> (try omega)
            all_goals exact t_f
        · refine t_g @h9 ?_
          refine t_c5 (j2 @h9 (j2 @hs1 (j2 @hs2 (j2 @nat_v @list_v)))) (ref01_same_ok x t.type) (ref01_fun_ok t.type t.type) (ref01_fun_ok (Ty.mk 2 []) (Ty.mk 4 [t.type, t.type])) (ref01_fun_ok (Ty.mk 1 []) (Ty.mk 4 [Ty.mk 2 [], Ty.mk 4 [t.type, t.type]])) (ref01_same_ok y (Ty.mk 4 [Ty.mk 1 [], Ty.mk 4 [Ty.mk 2 [], Ty.mk 4 [t.type, t.type]]])) ?_
          refine t_g (j2 @h9 (j2 @hs1 @hs2)) ?_
          refine t_r ?_
          simp [go_sem, hP, hgl, hn, hN, ruleN, h9, hs1, hs2, zeroTy] <;> (try omega)
          all_goals exact t_f
      · refine t_g @h9 ?_
        refine t_c1 (j2 @h9 @hs1) (ref01_same_ok x t.type) ?_
        refine t_g (j2 @h9 @hs1) ?_
        refine t_r ?_
        simp [go_sem, hP, hgl, hn, hN, ruleN, h9, hs1, zeroTy] <;> (try omega)
        all_goals exact t_f
    by_cases h10 : t.kind = 10
    · obtain ⟨x, y, rfl⟩ := h2l (.inr (.inr h10))
      have hcx := (hdo x (by simp)).2
      have hcy := (hdo y (by simp)).2
      refine t_g @h10 ?_
      refine t_c2 @h10 (ref01_two_ok x y) (ref02_ok_ok (Ty.mk 3 [x, y]) (by rw [count_two]; omega)) ?_
      refine t_r ?_
      simp [go_sem, hP, hgl, hn, hN, ruleN, h10] <;> (try omega)
      all_goals exact t_f
    by_cases h11 : t.kind = 11
    · obtain ⟨x, rfl⟩ := h1l (.inr (.inl h11))
      by_cases hx : x.kind = 3
      · obtain ⟨p, q, hp, op, oq, e0, e1⟩ := Ty.ok_args (hdo x (by simp)) (.inl hx)
        refine t_g (j2 @h11 (j2 @hx @hp)) ?_
        refine t_r ?_
        simp [go_sem, hP, hgl, hn, hN, ruleN, h11, hx, e0] <;> (try omega)
        all_goals exact t_f
      · refine t_g (j2 @h11 @hx) ?_
        refine t_r ?_
        simp [go_sem, hP, hgl, hn, hN, ruleN, h11, hx, zeroTy] <;> (try omega)
        all_goals exact t_f
    by_cases h12 : t.kind = 12
    · obtain ⟨x, rfl⟩ := h1l (.inr (.inr h12))
      by_cases hx : x.kind = 3
      · obtain ⟨p, q, hp, op, oq, e0, e1⟩ := Ty.ok_args (hdo x (by simp)) (.inl hx)
        refine t_g (j2 @h12 (j2 @hx @hp)) ?_
        refine t_r ?_
        simp [go_sem, hP, hgl, hn, hN, ruleN, h12, hx, e1] <;> (try omega)
        all_goals exact t_f
      · refine t_g (j2 @h12 @hx) ?_
        refine t_r ?_
        simp [go_sem, hP, hgl, hn, hN, ruleN, h12, hx, zeroTy] <;> (try omega)
        all_goals exact t_f
    refine t_g (j2 @h1 (j2 @hk2 (j2 @h3 (j2 @h4 (j2 @h5 (j2 @h6 (j2 @h7 (j2 @h8 (j2 @h9 (j2 @h10 (j2 @h11 @h12))))))))))) ?_
    refine t_c1 @h1 ref01_unit_ok ?_
    refine t_r ?_
    simp [go_sem, hP, hgl, hn, hN, ruleN, h1, hk2, h3, h4, h5, h6, h7, h8, h9, h10, h11, h12] <;> (try omega)
    all_goals exact t_f
end Go.Proofs.YtbmnlkfgkdallaaDoor.Lift
