import Derived.Test.YtcldnfbcbkaanaaGreatDoorQ5
/-
  Package typing: terms whose types are too large; terms.TypeOf with its errors.
-/
namespace Go.Proofs.YtcldnfbcbkaanaaGreatDoor.Lift
set_option linter.unusedSimpArgs false
set_option linter.unusedVariables false
set_option linter.unnecessarySimpa false
open Go
variable {gl : Globs}

abbrev sz0 : DV := .agg [dint 0, .sl [], dint 0]
theorem ty_join_big (k : Int) (a b : Ty) (ha64 : a.count ≤ 64) (hb64 : b.count ≤ 64) (hc : ¬ 1 + a.count + b.count ≤ 64) : Con1 Tryz.prog gl 150 [dint k, .agg (szC a), .agg (szC b)] [] (.tup [sz0, dint 4]) [] := by
  refine t_in Tryz.func150 ?_
  intro X hP hgl hf hfn hn hR hids hfit
  have ha := szC_eq a
  have hb := szC_eq b
  have hc1 : ¬ (1 : Int) + a.count + b.count ≤ 64 := by omega
  have hc2 : (64 : Int) < 1 + a.count + b.count := by omega
  refine t_g (j2 @ha (j2 @hb (j2 @hc1 @hc2))) ?_
  refine t_r ?_
  simp [go_sem, hP, hgl, hn] <;> (try omega)
  all_goals exact t_f
theorem node_k10_big (t : Tm) (h : t.kind = 10) (x y : Ty) (hx64 : x.count ≤ 64) (hy64 : y.count ≤ 64) (hc : ¬ 1 + x.count + y.count ≤ 64) :
    Con1 Tryz.prog gl 151 [t.dv, .agg (sz3 [x, y])] [] (.tup [sz0, dint 4]) [] := by
  rw [sz3_2]
  have wp := ty_plain_ok (gl := gl) 10
  rw [if_neg (by decide), if_neg (by decide), if_neg (by decide), if_neg (by decide), if_neg (by decide)] at wp
  have hi : ints [] = [] := rfl
  rw [hi] at wp
  have wj := ty_join_big (gl := gl) 3 x y hx64 hy64 hc
  simp only [szC_eq] at wj ⊢
  refine t_in Tryz.func151 ?_
  intro X hP hgl hf hfn hn hR hids hfit
  refine t_g @h ?_
  refine t_c1 @h wp ?_
  refine t_g @h ?_
  refine t_c1 trivial wj ?_
  refine t_r ?_
  simp [go_sem, hP, hgl, hn] <;> (try omega)

theorem okN_big {k : Int} {s t : Ty} (hk : k = 3 ∨ k = 4) (hs : s.ok) (ht : t.ok) (h : (okN (Ty.mk k [s, t])).2 ≠ 0) : ¬ 1 + s.count + t.count ≤ 64 := by
  intro hc
  apply h
  rw [okN_of (two_ok' hk hs.1 ht.1 hc)]
theorem rule_big {k : Int} {y : Ty} {l : List Ty} (hk2 : ¬ k = 2) (h : (ruleN k y l).2 = 4) : k = 10 ∧ (okN (Ty.mk 3 [l.getD 0 zeroTy, l.getD 1 zeroTy])).2 ≠ 0 := by
  unfold ruleN at h
  rw [if_neg hk2] at h
  by_cases h10 : k = 10
  · subst h10
    rw [if_neg (by decide), if_neg (by decide), if_neg (by decide), if_neg (by decide), if_neg (by decide), if_neg (by decide), if_neg (by decide), if_pos rfl] at h
    exact ⟨rfl, by rw [h]; decide⟩
  · exfalso
    rw [if_neg h10] at h
    repeat' split at h
    all_goals first | (cases h; done) | contradiction
theorem infers_first {g : List Ty} : ∀ {l : List Tm}, (Tm.inferN.infers l g).2 = 4 → ∃ (i : Nat) (x : Tm), l[i]? = some x ∧ (x.inferN g).2 = 4 ∧ ∀ (j : Nat) (y : Tm), j < i → l[j]? = some y → (y.inferN g).2 = 0
  | [], h => by cases h
  | a :: r, h => by
    simp only [Tm.inferN.infers] at h
    by_cases e : (a.inferN g).2 = 0
    · rw [if_pos e] at h
      by_cases e2 : (Tm.inferN.infers r g).2 = 0
      · rw [if_pos e2] at h; cases h
      · rw [if_neg e2] at h
        obtain ⟨i, x, h1, h2, h3⟩ := infers_first (l := r) h
        refine ⟨i + 1, x, by simpa using h1, h2, fun j y hj hy => ?_⟩
        cases j with
        | zero => simp at hy; rw [← hy]; exact e
        | succ j => exact h3 j y (by omega) (by simpa using hy)
    · rw [if_neg e] at h
      exact ⟨0, a, rfl, h, fun j y hj _ => absurd hj (Nat.not_lt_zero _)⟩

set_option maxHeartbeats 1000000 in
theorem typeof_t_big (t : Tm) (g : List Ty) (hgt : g.length + t.count ≤ 2147483648) (ht : t.shape = true) (hg : ∀ x ∈ g, x.ok) (h : (t.inferN g).2 = 4) :
    Con1 Tryz.prog gl 85 [.sl (g.map szC), t.dv] [] (.tup [sz0, dint 4]) [] := by
  induction t using Tm.ind generalizing g with
  | h t ih =>
  obtain ⟨ha, hi, hv, hty, hs⟩ := Tm.shape_node ht
  refine t_in Tryz.func85 ?_
  intro X hP hgl hf hfn hn hR hids hfit
  have hlg := sl_len (hfit (.sl (g.map szC)) (by simp))
  simp at hlg
  rw [Tm.inferN_eq t] at h
  by_cases h1 : t.kind = 1
  · rw [if_pos h1] at h
    split at h <;> cases h
  rw [if_neg h1] at h
  by_cases hk2 : t.kind = 2
  · rw [if_pos hk2] at h
    rw [hk2] at ha
    obtain ⟨b, hb⟩ : ∃ b, t.args = [b] := by
      match hh : t.args, ha with
      | [b], _ => exact ⟨b, rfl⟩
    have hbm : b ∈ t.args := by rw [hb]; simp
    rw [if_pos (.inl hk2)] at hty
    have hg' : ∀ x ∈ g ++ [t.type], x.ok := by
      intro x hx
      rcases List.mem_append.1 hx with hx | hx
      · exact hg x hx
      · rw [List.mem_singleton.1 hx]; exact hty
    have hcb1 : t.count = 1 + (b.count + 0) := by rw [Tm.count_eq, hb]; rfl
    have hcb2 := Tm.count_pos b
    have hgl1 : g.length ≤ 2147483647 := by omega
    have wo := ty_of_ok (gl := gl) t.type hty
    have fty := Ty.fold t.type
    have fb := Tm.fold b
    have hszm : List.map szC (g ++ [t.type]) = List.map szC g ++ [szC t.type] := by simp
    have hlm : (List.map szC g).length = g.length := by simp
    have hwid : ∀ e : List DV, e ∈ List.map szC g → e.length = 3 := by intro e he; simp only [List.mem_map] at he; obtain ⟨x, -, rfl⟩ := he; rfl
    rw [hb] at h
    simp only [Tm.inferN.infers] at h
    by_cases hb0 : (b.inferN (g ++ [t.type])).2 = 0
    · rw [if_pos hb0] at h
      simp only [if_true] at h
      have hbo := Tm.inferN_ok b (g ++ [t.type]) (hs b hbm) hg' hb0
      have w1 := typeof_t_ok (gl := gl) b (g ++ [t.type]) (by simp; omega) (hs b hbm) hg' hb0
      generalize (b.inferN (g ++ [t.type])).1 = rb at *
      have hrule : ruleN t.kind t.type [rb] = okN (Ty.mk 4 [t.type, rb]) := by rw [hk2]; rfl
      rw [hrule] at h
      have hbig := okN_big (.inr rfl) hty hbo (by rw [h]; decide)
      have wj := ty_join_big (gl := gl) 4 t.type rb hty.2 hbo.2 hbig
      rw [hszm] at w1
      simp only [szC_eq t.type, szC_eq rb] at w1 wo wj
      generalize List.map szC g = G at *
      have htake : List.take g.length G = G := by rw [List.take_of_length_le]; omega
      refine t_g @hk2 ?_
      refine t_c1 (j2 @hk2 @fty) wo ?_
      refine t_c1 (j2 @hk2 (j2 @hb (j2 @htake (j2 @hlm (j2 @hwid @hgl1))))) w1 ?_
      refine t_g0 ?_
      refine t_c1 trivial wj ?_
      refine t_r ?_
      simp [go_sem, hP, hgl, hn] <;> (try omega)
    · rw [if_neg hb0] at h
      simp only at h
      rw [if_neg hb0] at h
      have w1 := ih b hbm (g ++ [t.type]) (by simp; omega) (hs b hbm) hg' h
      rw [hszm] at w1
      simp only [szC_eq t.type] at w1 wo
      generalize List.map szC g = G at *
      have htake : List.take g.length G = G := by rw [List.take_of_length_le]; omega
      refine t_g @hk2 ?_
      refine t_c1 (j2 @hk2 @fty) wo ?_
      refine t_c1 (j2 @hk2 (j2 @hb (j2 @htake (j2 @hlm (j2 @hwid @hgl1))))) w1 ?_
      refine t_g0 ?_
      refine t_r ?_
      simp [go_sem, hP, hgl, hn] <;> (try omega)
      all_goals exact t_f
  rw [if_neg hk2] at h
  have hlen := Tm.fit_len (hfit t.dv (by simp))
  have h3 : t.args.length ≤ 3 := by
    have : arityI t.kind ≤ 3 := by unfold arityI; repeat' split
                                   all_goals omega
    omega
  have ftt := Tm.fold t
  have stepOK : ∀ (i : Nat) (x : Tm), t.args[i]? = some x → (x.inferN g).2 = 0 → Con1 Tryz.prog gl 85 [.sl (g.map szC), x.dv] [] (.tup [.agg (szC (x.inferN g).1), dint 0]) [] := by
    intro i x hx h0
    have hm := List.mem_of_getElem? hx
    have hcx := Tm.count_mem hm
    have hct := Tm.count_eq t
    exact typeof_t_ok x g (by omega) (hs x hm) hg h0
  by_cases hI : (Tm.inferN.infers t.args g).2 = 0
  · rw [if_pos hI] at h
    obtain ⟨h10, hbg⟩ := rule_big hk2 h
    obtain ⟨hdl, hall⟩ := Tm.infers_all t.args g hI
    rw [h10] at ha
    match hargs : t.args, ha with
    | [x, y], _ =>
      obtain ⟨x1, x2⟩ := hall 0 x (by rw [hargs]; rfl)
      obtain ⟨y1, y2⟩ := hall 1 y (by rw [hargs]; rfl)
      have w := stepOK 0 x (by rw [hargs]; rfl) x1
      have v := stepOK 1 y (by rw [hargs]; rfl) y1
      have xo := Tm.inferN_ok x g (hs x (by rw [hargs]; simp)) hg x1
      have yo := Tm.inferN_ok y g (hs y (by rw [hargs]; simp)) hg y1
      have e0 : (Tm.inferN.infers t.args g).1.getD 0 zeroTy = (x.inferN g).1 := by rw [List.getD_eq_getElem?_getD, x2]; rfl
      have e1 : (Tm.inferN.infers t.args g).1.getD 1 zeroTy = (y.inferN g).1 := by rw [List.getD_eq_getElem?_getD, y2]; rfl
      rw [e0, e1] at hbg
      have hbig := okN_big (.inl rfl) xo yo hbg
      generalize (x.inferN g).1 = d at *
      generalize (y.inferN g).1 = e at *
      have wn := node_k10_big (gl := gl) t h10 d e xo.2 yo.2 hbig
      rw [sz3_2] at wn
      simp only [szC_eq] at w v
      clear ih stepOK
      generalize List.map szC g = G at *
      rw [hargs] at ftt
      simp only [List.map_cons, List.map_nil] at ftt
      rw [Tm.cells_eq x, Tm.cells_eq y] at ftt
      refine t_g (j2 @h1 (j2 @hk2 @hargs)) ?_
      refine W_loop ?_
      refine t_g @hargs ?_
      refine t_c1 trivial w ?_
      refine t_g0 ?_
      refine W_sub [] (s' := [(.slot 0, .one (.v (.sl G))), (.slot 67, .one (.v (dint 1))), (.slot 66, .one (.v (dint 2))), (.slot 65, .one (.v (.sl [x.cells, y.cells]))), (.slot 3, .one (.loc 3 0)), (.loc 3, .row ([.v (dint t.kind), .v (dint t.index), .v (dint t.type.kind), .v (.sl (t.type.args.map Ty.cells)), .v (.sl [x.cells, y.cells])])), (.slot 4, .one (.loc 4 0)), (.loc 4, .row ([.v (dint 0), .own 0 [], .v (dint 0)])), (.slot 9, .one (.loc 9 0)), (.loc 9, .row ([.v (dint d.kind), .v (.sl (d.args.map Ty.cells)), .v (dint (d.count : Int)), .v (dint 0), .own 0 [], .v (dint 0), .v (dint 0), .own 0 [], .v (dint 0)]))]) (by simp [go_sem]) (by simp [go_sem, hargs]) (by simp [go_sem]) ?_
      refine W_inLoop ?_
      refine t_g @hargs ?_
      refine t_c1 trivial v ?_
      refine t_g0 ?_
      refine W_sub [] (s' := [(.slot 0, .one (.v (.sl G))), (.slot 67, .one (.v (dint 2))), (.slot 66, .one (.v (dint 2))), (.slot 65, .one (.v (.sl [x.cells, y.cells]))), (.slot 3, .one (.loc 3 0)), (.loc 3, .row ([.v (dint t.kind), .v (dint t.index), .v (dint t.type.kind), .v (.sl (t.type.args.map Ty.cells)), .v (.sl [x.cells, y.cells])])), (.slot 4, .one (.loc 4 0)), (.loc 4, .row ([.v (dint 0), .own 0 [], .v (dint 0)])), (.slot 9, .one (.loc 9 0)), (.loc 9, .row ([.v (dint d.kind), .v (.sl (d.args.map Ty.cells)), .v (dint (d.count : Int)), .v (dint e.kind), .v (.sl (e.args.map Ty.cells)), .v (dint (e.count : Int)), .v (dint 0), .own 0 [], .v (dint 0)]))]) (by simp [go_sem]) (by simp [go_sem, hargs]) (by simp [go_sem]) ?_
      refine W_inLoop ?_
      refine t_g0 ?_
      refine t_c1 @ftt wn ?_
      refine t_r ?_
      simp [go_sem, hP, hgl, hn] <;> (try omega)
  rw [if_neg hI] at h
  obtain ⟨i, z, z1, z2, z3⟩ := infers_first h
  have zm := List.mem_of_getElem? z1
  have wz := ih z zm g (by have hcx := Tm.count_mem zm; have hct := Tm.count_eq t; omega) (hs z zm) hg z2
  clear ih
  have hiz : i < t.args.length := (List.getElem?_eq_some_iff.1 z1).1
  match hargs : t.args, h3 with
  | [], _ => rw [hargs] at hiz; simp at hiz
  | [x], _ =>
    rw [hargs] at z1 z3 hiz ftt
    simp only [List.map_cons, List.map_nil] at ftt
    rw [Tm.cells_eq x] at ftt
    match i, hiz, z1, z3 with
    | 0, _, z1, z3 =>
      simp at z1
      subst z1
      clear stepOK
      generalize List.map szC g = G at *
      refine t_g (j2 @h1 (j2 @hk2 @hargs)) ?_
      refine W_loop ?_
      refine t_g @hargs ?_
      refine t_c1 trivial wz ?_
      refine t_g0 ?_
      refine t_r ?_
      simp [go_sem, hP, hgl, hn] <;> (try omega)
      all_goals exact t_f
    | i + 1, hiz, _, _ => exact absurd hiz (by simp)
  | [x, y], _ =>
    rw [hargs] at z1 z3 hiz ftt
    simp only [List.map_cons, List.map_nil] at ftt
    rw [Tm.cells_eq x, Tm.cells_eq y] at ftt
    match i, hiz, z1, z3 with
    | 0, _, z1, z3 =>
      simp at z1
      subst z1
      clear stepOK
      generalize List.map szC g = G at *
      refine t_g (j2 @h1 (j2 @hk2 @hargs)) ?_
      refine W_loop ?_
      refine t_g @hargs ?_
      refine t_c1 trivial wz ?_
      refine t_g0 ?_
      refine t_r ?_
      simp [go_sem, hP, hgl, hn] <;> (try omega)
      all_goals exact t_f
    | 1, _, z1, z3 =>
      simp at z1
      subst z1
      have w := stepOK 0 x (by rw [hargs]; rfl) (z3 0 x (by omega) rfl)
      generalize (x.inferN g).1 = d at *
      simp only [szC_eq] at w
      clear stepOK
      generalize List.map szC g = G at *
      refine t_g (j2 @h1 (j2 @hk2 @hargs)) ?_
      refine W_loop ?_
      refine t_g @hargs ?_
      refine t_c1 trivial w ?_
      refine t_g0 ?_
      refine W_sub [] (s' := [(.slot 0, .one (.v (.sl G))), (.slot 67, .one (.v (dint 1))), (.slot 66, .one (.v (dint 2))), (.slot 65, .one (.v (.sl [x.cells, y.cells]))), (.slot 3, .one (.loc 3 0)), (.loc 3, .row ([.v (dint t.kind), .v (dint t.index), .v (dint t.type.kind), .v (.sl (t.type.args.map Ty.cells)), .v (.sl [x.cells, y.cells])])), (.slot 4, .one (.loc 4 0)), (.loc 4, .row ([.v (dint 0), .own 0 [], .v (dint 0)])), (.slot 9, .one (.loc 9 0)), (.loc 9, .row ([.v (dint d.kind), .v (.sl (d.args.map Ty.cells)), .v (dint (d.count : Int)), .v (dint 0), .own 0 [], .v (dint 0), .v (dint 0), .own 0 [], .v (dint 0)]))]) (by simp [go_sem]) (by simp [go_sem, hargs]) (by simp [go_sem]) ?_
      refine W_inLoop ?_
      refine t_g @hargs ?_
      refine t_c1 trivial wz ?_
      refine t_g0 ?_
      refine t_r ?_
      simp [go_sem, hP, hgl, hn] <;> (try omega)
      all_goals exact t_f
    | i + 2, hiz, _, _ => exact absurd hiz (by simp)
  | [x, y, z'], _ =>
    rw [hargs] at z1 z3 hiz ftt
    simp only [List.map_cons, List.map_nil] at ftt
    rw [Tm.cells_eq x, Tm.cells_eq y, Tm.cells_eq z'] at ftt
    match i, hiz, z1, z3 with
    | 0, _, z1, z3 =>
      simp at z1
      subst z1
      clear stepOK
      generalize List.map szC g = G at *
      refine t_g (j2 @h1 (j2 @hk2 @hargs)) ?_
      refine W_loop ?_
      refine t_g @hargs ?_
      refine t_c1 trivial wz ?_
      refine t_g0 ?_
      refine t_r ?_
      simp [go_sem, hP, hgl, hn] <;> (try omega)
      all_goals exact t_f
    | 1, _, z1, z3 =>
      simp at z1
      subst z1
      have w := stepOK 0 x (by rw [hargs]; rfl) (z3 0 x (by omega) rfl)
      generalize (x.inferN g).1 = d at *
      simp only [szC_eq] at w
      clear stepOK
      generalize List.map szC g = G at *
      refine t_g (j2 @h1 (j2 @hk2 @hargs)) ?_
      refine W_loop ?_
      refine t_g @hargs ?_
      refine t_c1 trivial w ?_
      refine t_g0 ?_
      refine W_sub [] (s' := [(.slot 0, .one (.v (.sl G))), (.slot 67, .one (.v (dint 1))), (.slot 66, .one (.v (dint 3))), (.slot 65, .one (.v (.sl [x.cells, y.cells, z'.cells]))), (.slot 3, .one (.loc 3 0)), (.loc 3, .row ([.v (dint t.kind), .v (dint t.index), .v (dint t.type.kind), .v (.sl (t.type.args.map Ty.cells)), .v (.sl [x.cells, y.cells, z'.cells])])), (.slot 4, .one (.loc 4 0)), (.loc 4, .row ([.v (dint 0), .own 0 [], .v (dint 0)])), (.slot 9, .one (.loc 9 0)), (.loc 9, .row ([.v (dint d.kind), .v (.sl (d.args.map Ty.cells)), .v (dint (d.count : Int)), .v (dint 0), .own 0 [], .v (dint 0), .v (dint 0), .own 0 [], .v (dint 0)]))]) (by simp [go_sem]) (by simp [go_sem, hargs]) (by simp [go_sem]) ?_
      refine W_inLoop ?_
      refine t_g @hargs ?_
      refine t_c1 trivial wz ?_
      refine t_g0 ?_
      refine t_r ?_
      simp [go_sem, hP, hgl, hn] <;> (try omega)
      all_goals exact t_f
    | 2, _, z1, z3 =>
      simp at z1
      subst z1
      have w := stepOK 0 x (by rw [hargs]; rfl) (z3 0 x (by omega) rfl)
      have v := stepOK 1 y (by rw [hargs]; rfl) (z3 1 y (by omega) rfl)
      generalize (x.inferN g).1 = d at *
      generalize (y.inferN g).1 = e at *
      simp only [szC_eq] at w v
      clear stepOK
      generalize List.map szC g = G at *
      refine t_g (j2 @h1 (j2 @hk2 @hargs)) ?_
      refine W_loop ?_
      refine t_g @hargs ?_
      refine t_c1 trivial w ?_
      refine t_g0 ?_
      refine W_sub [] (s' := [(.slot 0, .one (.v (.sl G))), (.slot 67, .one (.v (dint 1))), (.slot 66, .one (.v (dint 3))), (.slot 65, .one (.v (.sl [x.cells, y.cells, z'.cells]))), (.slot 3, .one (.loc 3 0)), (.loc 3, .row ([.v (dint t.kind), .v (dint t.index), .v (dint t.type.kind), .v (.sl (t.type.args.map Ty.cells)), .v (.sl [x.cells, y.cells, z'.cells])])), (.slot 4, .one (.loc 4 0)), (.loc 4, .row ([.v (dint 0), .own 0 [], .v (dint 0)])), (.slot 9, .one (.loc 9 0)), (.loc 9, .row ([.v (dint d.kind), .v (.sl (d.args.map Ty.cells)), .v (dint (d.count : Int)), .v (dint 0), .own 0 [], .v (dint 0), .v (dint 0), .own 0 [], .v (dint 0)]))]) (by simp [go_sem]) (by simp [go_sem, hargs]) (by simp [go_sem]) ?_
      refine W_inLoop ?_
      refine t_g @hargs ?_
      refine t_c1 trivial v ?_
      refine t_g0 ?_
      refine W_sub [] (s' := [(.slot 0, .one (.v (.sl G))), (.slot 67, .one (.v (dint 2))), (.slot 66, .one (.v (dint 3))), (.slot 65, .one (.v (.sl [x.cells, y.cells, z'.cells]))), (.slot 3, .one (.loc 3 0)), (.loc 3, .row ([.v (dint t.kind), .v (dint t.index), .v (dint t.type.kind), .v (.sl (t.type.args.map Ty.cells)), .v (.sl [x.cells, y.cells, z'.cells])])), (.slot 4, .one (.loc 4 0)), (.loc 4, .row ([.v (dint 0), .own 0 [], .v (dint 0)])), (.slot 9, .one (.loc 9 0)), (.loc 9, .row ([.v (dint d.kind), .v (.sl (d.args.map Ty.cells)), .v (dint (d.count : Int)), .v (dint e.kind), .v (.sl (e.args.map Ty.cells)), .v (dint (e.count : Int)), .v (dint 0), .own 0 [], .v (dint 0)]))]) (by simp [go_sem]) (by simp [go_sem, hargs]) (by simp [go_sem]) ?_
      refine W_inLoop ?_
      refine t_g @hargs ?_
      refine t_c1 trivial wz ?_
      refine t_g0 ?_
      refine t_r ?_
      simp [go_sem, hP, hgl, hn] <;> (try omega)
      all_goals exact t_f
    | i + 3, hiz, _, _ => exact absurd hiz (by simp)

/-- terms.TypeOf of closed terms that mean something -/
theorem terms_typeof_dn (har : globOf gl 0 = some arEls) {t : Tm} {a : T} {F : Env [] → a.V} (h : Dn [] t a F) (hc : t.count ≤ 536870912) :
    Con1 Tryz.prog gl 29 [.sl [], t.dv] [] (if (t.typeE []).2 = 0 then .tup [a.ty.dv, dint 0] else .tup [(Ty.mk 0 []).dv, dint 4]) [] := by
  have hs := dn_shape h
  have hct : ctxN [] = 0 := rfl
  by_cases hk : t.checkN = 0
  · have hty : t.typeE [] = t.inferN [] := by
      unfold Tm.typeE Tm.typedE
      rw [if_pos hct, if_pos hk]
    rw [hty]
    have hcc := ((Tm.checkN_iff t).1 hk).2
    rcases infer_of_dn h with h1 | h1
    · have h1 : t.inferN [] = (a.ty, 0) := h1
      rw [h1]
      exact terms_typeof_ok har t a.ty hk h1
    · have h1 : (t.inferN []).2 = 4 := h1
      rw [if_neg (by rw [h1]; decide)]
      have w2 := termscheck_ok (gl := gl) har t (shape_tys t hs) (by omega)
      rw [hk] at w2
      have w3 := typeof_t_big (gl := gl) t [] (by simp; omega) hs (by simp) h1
      have ftt := Tm.fold t
      have fz : DV.agg [dint 0, .sl []] = (Ty.mk 0 []).dv := rfl
      simp only [List.map_nil] at w3
      refine t_in Tryz.func29 ?_
      intro X hP hgl hf hfn hn hR hids hfit
      refine t_g0 ?_
      refine t_c1 trivial types_context_nil ?_
      refine t_g0 ?_
      refine t_c1 @ftt w2 ?_
      refine t_g0 ?_
      refine t_c2 @ftt typing_from_nil w3 ?_
      refine t_g0 ?_
      refine t_r ?_
      simp [go_sem, hP, hgl, hn] <;> (try omega)
      all_goals exact t_f
  · have hk4 : t.checkN = 4 := by
      unfold Tm.checkN at hk ⊢
      rw [if_pos hs] at hk ⊢
      split at hk
      · rename_i q; rw [if_pos q]
      · exact absurd rfl hk
    have hty : (t.typeE []).2 = 4 := by
      unfold Tm.typeE Tm.typedE
      rw [if_pos hct, if_neg hk]
      exact hk4
    rw [if_neg (by rw [hty]; decide)]
    have w2 := termscheck_ok (gl := gl) har t (shape_tys t hs) (by omega)
    rw [hk4] at w2
    have ftt := Tm.fold t
    have fz : DV.agg [dint 0, .sl []] = (Ty.mk 0 []).dv := rfl
    refine t_in Tryz.func29 ?_
    intro X hP hgl hf hfn hn hR hids hfit
    refine t_g0 ?_
    refine t_c1 trivial types_context_nil ?_
    refine t_g0 ?_
    refine t_c1 @ftt w2 ?_
    refine t_g0 ?_
    refine t_r ?_
    simp [go_sem, hP, hgl, hn] <;> (try omega)
    all_goals exact t_f
end Go.Proofs.YtcldnfbcbkaanaaGreatDoor.Lift

/-
  Package machine: Call on terms that mean something, with its errors.
-/
namespace Go.Proofs.YtcldnfbcbkaanaaGreatDoor.Lift
set_option linter.unusedSimpArgs false
set_option linter.unusedVariables false
set_option linter.unnecessarySimpa false
open Go
variable {gl : Globs}

/-- what a call of the machine returns -/
def callR (t : Tm) (v : Val) (c : Nat) (work : Int) : Val × Int × Int := if (t.typeE []).2 = 0 then (if (c : Int) ≤ work then (v, (c : Int), 0) else (zeroV, 0, 5)) else (zeroV, 0, 4)
theorem callR_err (t : Tm) (v : Val) (c : Nat) (work : Int) : (callR t v c work).2.2 = 4 ∨ (callR t v c work).2.2 = 5 ∨ ((callR t v c work).2.2 = 0 ∧ (callR t v c work).1 = v) := by
  unfold callR
  split
  · split
    · exact .inr (.inr ⟨rfl, rfl⟩)
    · exact .inr (.inl rfl)
  · exact .inl rfl

theorem typeE_parts {t : Tm} {a : T} {F : Env [] → a.V} (h : Dn [] t a F) (h0 : (t.typeE []).2 = 0) : t.checkN = 0 ∧ t.inferN [] = (a.ty, 0) := by
  have hct : ctxN [] = 0 := rfl
  by_cases hk : t.checkN = 0
  · refine ⟨hk, ?_⟩
    have hty : t.typeE [] = t.inferN [] := by
      unfold Tm.typeE Tm.typedE
      rw [if_pos hct, if_pos hk]
    rcases infer_of_dn h with h1 | h1
    · exact h1
    · have h1 : (t.inferN []).2 = 4 := h1
      rw [hty, h1] at h0
      cases h0
  · unfold Tm.typeE Tm.typedE at h0
    rw [if_pos hct, if_neg hk] at h0
    exact absurd h0 hk

theorem machine_call_dn (har : globOf gl 0 = some arEls) {t : Tm} {l : List T} {r : T} {F : Env [] → (FnT l r).V} (h : Dn [] t (FnT l r) F) (hc : t.count ≤ 536870912) (Z : Env l) (y : r.V) (hl : Plains l) (hll : l.length ≤ 1000000) (hr : r.plain) (hro : r.ok) {c d : Nat} (hcs : callS d t (mvsOf l Z) = some (ofM r y, c)) (wk : Nat) (hwk : wk ≤ 65536) (M : Nat) (hM : M ≤ 1073000000) (hX : MV.nles M (mvsOf l Z)) :
    Con1 Tryz.prog gl 24 [t.dv, .sl ((valsOf l Z).map Val.cells), dint (wk : Int)] [] (.tup [(callR t (valOf r y) c wk).1.dv, dint (callR t (valOf r y) c wk).2.1, dint (callR t (valOf r y) c wk).2.2]) [] := by
  unfold callR
  by_cases h0 : (t.typeE []).2 = 0
  · rw [if_pos h0]
    obtain ⟨h1, h2⟩ := typeE_parts h h0
    have w := machine_call_ok (gl := gl) har t l r Z _ c d hcs h1 h2 hl hll hr hro wk hwk M hM hX
    unfold outC at w
    split at w
    · rename_i q; rw [if_pos q]; exact w
    · rename_i q; rw [if_neg q]; exact w
  · rw [if_neg h0]
    have hte := terms_typeof_dn (gl := gl) har h hc
    rw [if_neg h0] at hte
    have hft := Tm.fold t
    have fz : (Ty.mk 0 []).dv = .agg [dint 0, .sl []] := rfl
    rw [fz] at hte
    refine t_in Tryz.func24 ?_
    intro X hP hgl hf hfn hn hR hids hfit
    refine t_g0 ?_
    refine t_c1 @hft hte ?_
    refine t_g0 ?_
    refine t_r ?_
    simp [go_sem, hP, hgl, hn, zeroV] <;> (try omega)
    all_goals exact t_f
end Go.Proofs.YtcldnfbcbkaanaaGreatDoor.Lift

namespace Go.Proofs.YtcldnfbcbkaanaaGreatDoor.Lift
set_option linter.unusedSimpArgs false
set_option linter.unusedVariables false
set_option linter.unnecessarySimpa false
open Go
variable {gl : Globs}

theorem maxE_count (y : Ty) (hy : y.ok) (a b : Tm) (e : Int) : (maxE y a b e).1.count ≤ 4096 := by
  rw [maxE_eq y hy]
  have hz : zeroTm.count ≤ 4096 := by decide
  have hu : (nT 13 []).count ≤ 4096 := by decide
  split
  · split
    · exact node_count _ _ _ _
    · split
      · exact node_count _ _ _ _
      · split
        · exact node_count _ _ _ _
        · exact hu
  · exact hz
theorem idx_up {t : Tm} {f b m : Int} (hb : 0 ≤ b) (h : t.idx m) : (t.upN f b).idx (m + b) := by
  induction t using Tm.ind generalizing f with
  | h t ih =>
  rw [Tm.idx_eq] at h
  rw [Tm.upN_eq, Tm.idx_eq, Tm.index_mk, Tm.args_mk]
  refine ⟨?_, ?_⟩
  · split <;> omega
  · intro x hx
    obtain ⟨y, hy, rfl⟩ := List.mem_map.1 hx
    exact ih y hy (h.2 y hy)
theorem shape_up {t : Tm} {f b : Int} (hb : 0 ≤ b) (h : t.shape = true) : (t.upN f b).shape = true := by
  induction t using Tm.ind generalizing f with
  | h t ih =>
  have h0 := h
  rw [Tm.shape_eq, Bool.and_eq_true, Tm.shapes_iff] at h
  rw [Tm.upN_eq, Tm.shape_eq, Bool.and_eq_true, Tm.shapes_iff, Tm.kind_mk, Tm.index_mk, Tm.type_mk, Tm.args_mk, List.length_map]
  refine ⟨?_, ?_⟩
  · have h1 := h.1
    simp only [tmKind, Bool.and_eq_true, Bool.or_eq_true] at h1 ⊢
    obtain ⟨⟨⟨a1, a2⟩, a3⟩, a4⟩ := h1
    have a2 := of_decide_eq_true a2
    refine ⟨⟨⟨a1, ?_⟩, ?_⟩, a4⟩
    · apply decide_eq_true; split <;> omega
    · rcases a3 with a3 | a3
      · exact .inl a3
      · have a3 := of_decide_eq_true a3
        by_cases hk : t.kind = 1
        · exact .inl (decide_eq_true hk)
        · exact .inr (decide_eq_true (by rw [if_neg (fun h => hk h.1)]; exact a3))
  · intro x hx
    obtain ⟨y, hy, rfl⟩ := List.mem_map.1 hx
    exact ih y hy (h.2 y hy)
theorem idx_node {k : Int} {s : Ty} {l : List Tm} {m : Int} (hm : 0 ≤ m) (h : ∀ x ∈ l, x.idx m) : (Tm.mk k 0 s l).idx m := by
  rw [Tm.idx_eq]; exact ⟨⟨Int.le_refl _, hm⟩, h⟩
theorem idx_v {i m : Int} (h0 : 0 ≤ i) (h : i ≤ m) : (vT i).idx m := by
  unfold vT; rw [Tm.idx_eq]; exact ⟨⟨h0, h⟩, fun x hx => by cases hx⟩

/-- a term is as good as it needs be where there is no error -/
def Fine (e : Int) (M : Int) (t : Tm) : Prop := t.count ≤ 268435456 ∧ (e = 0 → t.shape = true ∧ t.idx M)
theorem Fine.mono {e M M' : Int} {t : Tm} (h : Fine e M t) (hM : M ≤ M') : Fine e M' t := ⟨h.1, fun he => ⟨(h.2 he).1, Tm.idx_mono hM (h.2 he).2⟩⟩
theorem fine_node {e k M : Int} {s : Ty} {l : List Tm} (hM : 0 ≤ M) (hs : e = 0 → (Tm.mk k 0 s l).shape = true) (hl : e = 0 → ∀ x ∈ l, x.idx M) : Fine (nodeE e k s l).2 M (nodeE e k s l).1 := by
  refine ⟨by have := node_count e k s l; omega, fun h => ?_⟩
  obtain ⟨h1, h2, -⟩ := node_ok h
  rw [h2]
  exact ⟨hs h1, idx_node hM (hl h1)⟩

theorem Fine.later {e e' M : Int} {t : Tm} (h : Fine e M t) (he : e' = 0 → e = 0) : Fine e' M t := ⟨h.1, fun h' => h.2 (he h')⟩
theorem Fine.beside {e e' M M' : Int} {t u : Tm} (_ : Fine e' M' u) (h : Fine e M t) (he : e' = 0 → e = 0) : Fine e' M t := h.later he
theorem fine_call {M : Int} (hM : 0 ≤ M) : ∀ (l : List Tm) {e : Int} {f : Tm}, Fine e M f → (e = 0 → ∀ x ∈ l, x.shape = true ∧ x.idx M) → Fine (callE e f l).2 M (callE e f l).1
  | [], e, f, hf, _ => hf
  | a :: r, e, f, hf, hl => by
    rw [callE]
    refine fine_call hM r (fine_node hM (fun he => shape_n rfl (by decide) ?_) (fun he => ?_)) fun he x hx => hl (node_ok he).1 x (by simp [hx])
    · intro z hz; simp at hz; rcases hz with rfl | rfl; exact (hf.2 he).1; exact (hl he _ (by simp)).1
    · intro z hz; simp at hz; rcases hz with rfl | rfl; exact (hf.2 he).2; exact (hl he _ (by simp)).2
theorem fine_great {M : Int} (hM : 10 ≤ M) : Fine 0 M greatT := by
  refine ⟨by decide, fun _ => ⟨by decide, Tm.idx_mono hM ?_⟩⟩
  have : ∀ t : Tm, t = greatT → t.idx 10 := by
    rintro t rfl
    simp [greatT, lamT, appsT, appT, plusT, subT, predT, twoT, recT, lamsT, nT, vT, Tm.idx, Tm.idx.idxs]
  exact this _ rfl
theorem fine_v {M : Int} {e i : Int} (h0 : 0 ≤ i) (hM : i ≤ M) : Fine e M (vT i) := by
  refine ⟨by show 1 + 0 ≤ 268435456; omega, fun _ => ⟨?_, idx_v h0 hM⟩⟩
  obtain ⟨n, rfl⟩ : ∃ n : Nat, i = n := ⟨i.toNat, by omega⟩
  exact shape_v
theorem fine_up {e M f b : Int} {t : Tm} (hb : 0 ≤ b) (h : Fine e M t) : Fine e (M + b) (t.upN f b) :=
  ⟨by rw [up_count]; exact h.1, fun he => ⟨shape_up hb (h.2 he).1, idx_up hb (h.2 he).2⟩⟩

theorem fine_n1 {e k M : Int} {x : Tm} (hM : 0 ≤ M) (hk : k = 5 ∨ k = 11 ∨ k = 12) (hx : Fine e M x) : Fine (nodeE e k zY [x]).2 M (nodeE e k zY [x]).1 :=
  fine_node hM (fun he => shape_n (by rcases hk with rfl | rfl | rfl <;> rfl) (by rcases hk with rfl | rfl | rfl <;> decide) (by intro z hz; simp at hz; rw [hz]; exact (hx.2 he).1)) fun he z hz => by simp at hz; rw [hz]; exact (hx.2 he).2
theorem fine_lam {e M : Int} {s : T} {x : Tm} (hs : s.ok) (hM : 0 ≤ M) (hx : Fine e M x) : Fine (nodeE e 2 s.ty [x]).2 M (nodeE e 2 s.ty [x]).1 :=
  fine_node hM (fun he => shape_t rfl (.inl rfl) (T.ok_ty hs) (by intro z hz; simp at hz; rw [hz]; exact (hx.2 he).1)) fun he z hz => by simp at hz; rw [hz]; exact (hx.2 he).2

theorem fine_max : ∀ (a : T) {x y : Tm} {e M : Int}, a.ok → 10 ≤ M → Fine e M x → Fine e M y → Fine (maxE a.ty x y e).2 (M + a.size) (maxE a.ty x y e).1
  | a, x, y, e, M, ho, hM, hx, hy => by
    by_cases h0 : e = 0
    · subst h0
      cases a with
      | nat =>
        rw [maxE_nat]
        exact (fine_call (by omega) _ (fine_great hM) fun _ z hz => by simp at hz; rcases hz with rfl | rfl; exact hx.2 rfl; exact hy.2 rfl).mono (by simp only [T.size]; omega)
      | list => rw [maxE_list]; exact ⟨by show 1 + 0 ≤ 268435456; omega, fun _ => ⟨rfl, idx_node (by simp only [T.size]; omega) (fun z hz => by cases hz)⟩⟩
      | unit => rw [maxE_unit]; exact ⟨by show 1 + 0 ≤ 268435456; omega, fun _ => ⟨rfl, idx_node (by simp only [T.size]; omega) (fun z hz => by cases hz)⟩⟩
      | pair s t =>
        rw [maxE_pair ho]
        simp only [T.ok, T.size] at ho
        have p := fine_n1 (k := 11) (by omega) (.inr (.inl rfl)) hx
        have q := fine_n1 (k := 11) (e := (nodeE 0 11 zY [x]).2) (by omega) (.inr (.inl rfl)) (hy.later fun h => rfl)
        have l := fine_max s (by unfold T.ok; omega) hM (p.later fun h => (node_ok h).1) q
        have p' := fine_n1 (k := 12) (e := (maxE s.ty (nodeE 0 11 zY [x]).1 (nodeE (nodeE 0 11 zY [x]).2 11 zY [y]).1 (nodeE (nodeE 0 11 zY [x]).2 11 zY [y]).2).2) (by omega) (.inr (.inr rfl)) (hx.later fun h => rfl)
        have q' := fine_n1 (k := 12) (e := (nodeE (maxE s.ty (nodeE 0 11 zY [x]).1 (nodeE (nodeE 0 11 zY [x]).2 11 zY [y]).1 (nodeE (nodeE 0 11 zY [x]).2 11 zY [y]).2).2 12 zY [x]).2) (by omega) (.inr (.inr rfl)) (hy.later fun h => rfl)
        have r := fine_max t (by unfold T.ok; omega) hM (p'.later fun h => (node_ok h).1) q'
        have l' := Fine.beside r l fun h => (node_ok (node_ok (maxE_ok t (by unfold T.ok; omega) h).1).1).1
        refine fine_node (by simp only [T.size]; omega) (fun he => shape_n rfl (by decide) ?_) (fun he => ?_)
        · intro z hz; simp at hz; rcases hz with rfl | rfl; exact (l'.2 he).1; exact (r.2 he).1
        · intro z hz; simp at hz; rcases hz with rfl | rfl; exact Tm.idx_mono (by simp only [T.size]; omega) (l'.2 he).2; exact Tm.idx_mono (by simp only [T.size]; omega) (r.2 he).2
      | fn s t =>
        rw [maxE_fn ho]
        simp only [T.ok, T.size] at ho
        have p := fine_call (M := M + 1) (by omega) [vT 0] (fine_up (f := 0) (b := 1) (by decide) hx) fun he z hz => by simp at hz; rw [hz]; exact ⟨shape_v (i := 0), idx_v (by decide) (by omega)⟩
        have q := fine_call (M := M + 1) (by omega) [vT 0] (fine_up (f := 0) (b := 1) (by decide) (hy.later (e' := (callE 0 (x.upN 0 1) [vT 0]).2) fun h => rfl)) fun he z hz => by simp at hz; rw [hz]; exact ⟨shape_v (i := 0), idx_v (by decide) (by omega)⟩
        have r := fine_max t (M := M + 1) (by unfold T.ok; omega) (by omega) (p.later fun h => (call_ok h).1) q
        exact (fine_lam (by unfold T.ok; omega) (by omega) r).mono (by simp only [T.size]; omega)
    · rw [maxE_no ho h0]
      exact ⟨by show 1 + 0 ≤ 268435456; omega, fun h => absurd h h0⟩

theorem max_nat (b : Nat) : ∀ (x y : Tm) (e M : Int), T.nat.ok → 10 ≤ M → M + T.nat.size ≤ 274877906944 → Fine e M x → Fine e M y →
    Con1 Tryz.prog gl 181 [ptr b, T.nat.ty.dv, x.dv, y.dv] [(b, mk1 e)] (maxE T.nat.ty x y e).1.dv [(b, mk1 (maxE T.nat.ty x y e).2)] := by
  intro x y e M ho hM hM2 hx hy
  refine t_in Tryz.func181 ?_
  intro X hP hgl hf hfn hn hR hids hfit
  by_cases h : e = 0
  · subst h
    rw [maxE_nat] at hR
    have wc := call_walk (gl := gl) b 0 greatT [x, y] (by decide) (by intro z hz; simp at hz; rcases hz with rfl | rfl; exact hx.1; exact hy.1)
    have hty : T.nat.ty = Ty.mk 1 [] := rfl
    refine t_g @hty ?_
    refine t_c2 @hty great_walk wc ?_
    repeat (first | refine W_seq ?_ | refine W_skip ?_ | refine W_block ?_ | refine W_inBlock ?_ | refine W_label ?_ | refine W_exit rfl ?_)
    first | refine W_retR hP hf hfn _ ([(b, mk1 (callE 0 greatT [x, y]).2)]) (by first | (simp [go_sem, hP, hgl, hn]; done) | (simp [go_sem, hP, hgl, hn]; rfl)) (by simp [go_sem, hP, hgl, hn]) (by simp) ?_ hR.2 | refine W_endR hP hf hfn _ ([(b, mk1 (callE 0 greatT [x, y]).2)]) (by first | (simp [go_sem, hP, hgl, hn]; done) | (simp [go_sem, hP, hgl, hn]; rfl)) (by simp [go_sem, hP, hgl, hn]) (by simp) ?_ hR.2
    rw [hR.1]
    refine ⟨?_, by simp⟩
    try simp
    try all_goals (simp [Ty.dv, Ty.cells_eq, Ty.kind_mk, Ty.args_mk, Tm.dv, Tm.cells_eq, Tm.kind_mk, Tm.index_mk, Tm.type_mk, Tm.args_mk, Val.dv, Val.cells_eq, Val.kind_mk, Val.num_mk, Val.list_mk, Val.args_mk, ints])
  · rw [maxE_no ho h] at hR
    refine t_g @h ?_
    repeat (first | refine W_seq ?_ | refine W_skip ?_ | refine W_block ?_ | refine W_inBlock ?_ | refine W_label ?_ | refine W_exit rfl ?_)
    first | refine W_retR hP hf hfn _ ([(b, mk1 e)]) (by first | (simp [go_sem, hP, hgl, hn, zeroTm]; done) | (simp [go_sem, hP, hgl, hn, zeroTm]; rfl)) (by simp [go_sem, hP, hgl, hn, zeroTm]) (by simp) ?_ hR.2 | refine W_endR hP hf hfn _ ([(b, mk1 e)]) (by first | (simp [go_sem, hP, hgl, hn, zeroTm]; done) | (simp [go_sem, hP, hgl, hn, zeroTm]; rfl)) (by simp [go_sem, hP, hgl, hn, zeroTm]) (by simp) ?_ hR.2
    rw [hR.1]
    refine ⟨?_, by simp [zeroTm]⟩
    try simp [zeroTm]
    try all_goals (simp [Ty.dv, Ty.cells_eq, Ty.kind_mk, Ty.args_mk, Tm.dv, Tm.cells_eq, Tm.kind_mk, Tm.index_mk, Tm.type_mk, Tm.args_mk, Val.dv, Val.cells_eq, Val.kind_mk, Val.num_mk, Val.list_mk, Val.args_mk, ints])
theorem max_list (b : Nat) : ∀ (x y : Tm) (e M : Int), T.list.ok → 10 ≤ M → M + T.list.size ≤ 274877906944 → Fine e M x → Fine e M y →
    Con1 Tryz.prog gl 181 [ptr b, T.list.ty.dv, x.dv, y.dv] [(b, mk1 e)] (maxE T.list.ty x y e).1.dv [(b, mk1 (maxE T.list.ty x y e).2)] := by
  intro x y e M ho hM hM2 hx hy
  refine t_in Tryz.func181 ?_
  intro X hP hgl hf hfn hn hR hids hfit
  by_cases h : e = 0
  · subst h
    rw [maxE_list] at hR
    have hty : T.list.ty = Ty.mk 2 [] := rfl
    refine t_g @hty ?_
    refine t_c1 @hty sc_unit_ok ?_
    repeat (first | refine W_seq ?_ | refine W_skip ?_ | refine W_block ?_ | refine W_inBlock ?_ | refine W_label ?_ | refine W_exit rfl ?_)
    first | refine W_retR hP hf hfn _ ([(b, mk1 0)]) (by first | (simp [go_sem, hP, hgl, hn]; done) | (simp [go_sem, hP, hgl, hn]; rfl)) (by simp [go_sem, hP, hgl, hn]) (by simp) ?_ hR.2 | refine W_endR hP hf hfn _ ([(b, mk1 0)]) (by first | (simp [go_sem, hP, hgl, hn]; done) | (simp [go_sem, hP, hgl, hn]; rfl)) (by simp [go_sem, hP, hgl, hn]) (by simp) ?_ hR.2
    rw [hR.1]
    refine ⟨?_, by simp⟩
    try simp
    try all_goals (simp [Ty.dv, Ty.cells_eq, Ty.kind_mk, Ty.args_mk, Tm.dv, Tm.cells_eq, Tm.kind_mk, Tm.index_mk, Tm.type_mk, Tm.args_mk, Val.dv, Val.cells_eq, Val.kind_mk, Val.num_mk, Val.list_mk, Val.args_mk, ints])
  · rw [maxE_no ho h] at hR
    refine t_g @h ?_
    repeat (first | refine W_seq ?_ | refine W_skip ?_ | refine W_block ?_ | refine W_inBlock ?_ | refine W_label ?_ | refine W_exit rfl ?_)
    first | refine W_retR hP hf hfn _ ([(b, mk1 e)]) (by first | (simp [go_sem, hP, hgl, hn, zeroTm]; done) | (simp [go_sem, hP, hgl, hn, zeroTm]; rfl)) (by simp [go_sem, hP, hgl, hn, zeroTm]) (by simp) ?_ hR.2 | refine W_endR hP hf hfn _ ([(b, mk1 e)]) (by first | (simp [go_sem, hP, hgl, hn, zeroTm]; done) | (simp [go_sem, hP, hgl, hn, zeroTm]; rfl)) (by simp [go_sem, hP, hgl, hn, zeroTm]) (by simp) ?_ hR.2
    rw [hR.1]
    refine ⟨?_, by simp [zeroTm]⟩
    try simp [zeroTm]
    try all_goals (simp [Ty.dv, Ty.cells_eq, Ty.kind_mk, Ty.args_mk, Tm.dv, Tm.cells_eq, Tm.kind_mk, Tm.index_mk, Tm.type_mk, Tm.args_mk, Val.dv, Val.cells_eq, Val.kind_mk, Val.num_mk, Val.list_mk, Val.args_mk, ints])
theorem max_unit (b : Nat) : ∀ (x y : Tm) (e M : Int), T.unit.ok → 10 ≤ M → M + T.unit.size ≤ 274877906944 → Fine e M x → Fine e M y →
    Con1 Tryz.prog gl 181 [ptr b, T.unit.ty.dv, x.dv, y.dv] [(b, mk1 e)] (maxE T.unit.ty x y e).1.dv [(b, mk1 (maxE T.unit.ty x y e).2)] := by
  intro x y e M ho hM hM2 hx hy
  refine t_in Tryz.func181 ?_
  intro X hP hgl hf hfn hn hR hids hfit
  by_cases h : e = 0
  · subst h
    rw [maxE_unit] at hR
    have hty : T.unit.ty = Ty.mk 5 [] := rfl
    refine t_g @hty ?_
    refine t_c1 @hty sc_unit_ok ?_
    repeat (first | refine W_seq ?_ | refine W_skip ?_ | refine W_block ?_ | refine W_inBlock ?_ | refine W_label ?_ | refine W_exit rfl ?_)
    first | refine W_retR hP hf hfn _ ([(b, mk1 0)]) (by first | (simp [go_sem, hP, hgl, hn]; done) | (simp [go_sem, hP, hgl, hn]; rfl)) (by simp [go_sem, hP, hgl, hn]) (by simp) ?_ hR.2 | refine W_endR hP hf hfn _ ([(b, mk1 0)]) (by first | (simp [go_sem, hP, hgl, hn]; done) | (simp [go_sem, hP, hgl, hn]; rfl)) (by simp [go_sem, hP, hgl, hn]) (by simp) ?_ hR.2
    rw [hR.1]
    refine ⟨?_, by simp⟩
    try simp
    try all_goals (simp [Ty.dv, Ty.cells_eq, Ty.kind_mk, Ty.args_mk, Tm.dv, Tm.cells_eq, Tm.kind_mk, Tm.index_mk, Tm.type_mk, Tm.args_mk, Val.dv, Val.cells_eq, Val.kind_mk, Val.num_mk, Val.list_mk, Val.args_mk, ints])
  · rw [maxE_no ho h] at hR
    refine t_g @h ?_
    repeat (first | refine W_seq ?_ | refine W_skip ?_ | refine W_block ?_ | refine W_inBlock ?_ | refine W_label ?_ | refine W_exit rfl ?_)
    first | refine W_retR hP hf hfn _ ([(b, mk1 e)]) (by first | (simp [go_sem, hP, hgl, hn, zeroTm]; done) | (simp [go_sem, hP, hgl, hn, zeroTm]; rfl)) (by simp [go_sem, hP, hgl, hn, zeroTm]) (by simp) ?_ hR.2 | refine W_endR hP hf hfn _ ([(b, mk1 e)]) (by first | (simp [go_sem, hP, hgl, hn, zeroTm]; done) | (simp [go_sem, hP, hgl, hn, zeroTm]; rfl)) (by simp [go_sem, hP, hgl, hn, zeroTm]) (by simp) ?_ hR.2
    rw [hR.1]
    refine ⟨?_, by simp [zeroTm]⟩
    try simp [zeroTm]
    try all_goals (simp [Ty.dv, Ty.cells_eq, Ty.kind_mk, Ty.args_mk, Tm.dv, Tm.cells_eq, Tm.kind_mk, Tm.index_mk, Tm.type_mk, Tm.args_mk, Val.dv, Val.cells_eq, Val.kind_mk, Val.num_mk, Val.list_mk, Val.args_mk, ints])
theorem max_pair (b : Nat) (s t : T) (ihs : ∀ (x y : Tm) (e M : Int), (s).ok → 10 ≤ M → M + (s).size ≤ 274877906944 → Fine e M x → Fine e M y →
    Con1 Tryz.prog gl 181 [ptr b, (s).ty.dv, x.dv, y.dv] [(b, mk1 e)] (maxE (s).ty x y e).1.dv [(b, mk1 (maxE (s).ty x y e).2)]) (iht : ∀ (x y : Tm) (e M : Int), (t).ok → 10 ≤ M → M + (t).size ≤ 274877906944 → Fine e M x → Fine e M y →
    Con1 Tryz.prog gl 181 [ptr b, (t).ty.dv, x.dv, y.dv] [(b, mk1 e)] (maxE (t).ty x y e).1.dv [(b, mk1 (maxE (t).ty x y e).2)]) : ∀ (x y : Tm) (e M : Int), (T.pair s t).ok → 10 ≤ M → M + (T.pair s t).size ≤ 274877906944 → Fine e M x → Fine e M y →
    Con1 Tryz.prog gl 181 [ptr b, (T.pair s t).ty.dv, x.dv, y.dv] [(b, mk1 e)] (maxE (T.pair s t).ty x y e).1.dv [(b, mk1 (maxE (T.pair s t).ty x y e).2)] := by
  intro x y e M ho hM hM2 hx hy
  refine t_in Tryz.func181 ?_
  intro X hP hgl hf hfn hn hR hids hfit
  by_cases h : e = 0
  · subst h
    rw [maxE_pair ho] at hR
    simp only [T.ok, T.size] at ho hM2
    have cx := hx.1
    have cy := hy.1
    have w1 := plain_walk (gl := gl) b 0 11 [x] (by show 1 + (x.count + 0) ≤ 1073741824; omega)
    have p := fine_n1 (k := 11) (by omega) (.inr (.inl rfl)) hx
    have o1 : (nodeE 0 11 zY [x]).2 = 0 → (0 : Int) = 0 := fun _ => rfl
    generalize he1 : nodeE 0 11 zY [x] = r1 at *
    obtain ⟨x1, e1⟩ := r1
    simp only at hR w1 p
    have w2 := plain_walk (gl := gl) b e1 11 [y] (by show 1 + (y.count + 0) ≤ 1073741824; omega)
    have q := fine_n1 (k := 11) (e := e1) (by omega) (.inr (.inl rfl)) (hy.later fun h => rfl)
    have o2 : (nodeE e1 11 zY [y]).2 = 0 → e1 = 0 := fun h => (node_ok h).1
    generalize he2 : nodeE e1 11 zY [y] = r2 at *
    obtain ⟨y1, e2⟩ := r2
    simp only at hR w2 q o2
    have w3 := ihs x1 y1 e2 M (by unfold T.ok; omega) hM (by omega) (p.later o2) q
    generalize he3 : maxE s.ty x1 y1 e2 = r3 at *
    obtain ⟨l, e3⟩ := r3
    simp only at hR w3
    have cl : l.count ≤ 4096 := by have := maxE_count s.ty (T.ok_ty (by unfold T.ok; omega)) x1 y1 e2; rw [he3] at this; exact this
    have w4 := plain_walk (gl := gl) b e3 12 [x] (by show 1 + (x.count + 0) ≤ 1073741824; omega)
    have p' := fine_n1 (k := 12) (e := e3) (by omega) (.inr (.inr rfl)) (hx.later fun h => rfl)
    have o4 : (nodeE e3 12 zY [x]).2 = 0 → e3 = 0 := fun h => (node_ok h).1
    generalize he4 : nodeE e3 12 zY [x] = r4 at *
    obtain ⟨x2, e4⟩ := r4
    simp only at hR w4 p' o4
    have w5 := plain_walk (gl := gl) b e4 12 [y] (by show 1 + (y.count + 0) ≤ 1073741824; omega)
    have q' := fine_n1 (k := 12) (e := e4) (by omega) (.inr (.inr rfl)) (hy.later fun h => rfl)
    have o5 : (nodeE e4 12 zY [y]).2 = 0 → e4 = 0 := fun h => (node_ok h).1
    generalize he5 : nodeE e4 12 zY [y] = r5 at *
    obtain ⟨y2, e5⟩ := r5
    simp only at hR w5 q' o5
    have w6 := iht x2 y2 e5 M (by unfold T.ok; omega) hM (by omega) (p'.later o5) q'
    generalize he6 : maxE t.ty x2 y2 e5 = r6 at *
    obtain ⟨r, e6⟩ := r6
    simp only at hR w6
    have cr : r.count ≤ 4096 := by have := maxE_count t.ty (T.ok_ty (by unfold T.ok; omega)) x2 y2 e5; rw [he6] at this; exact this
    have w7 := plain_walk (gl := gl) b e6 10 [l, r] (by show 1 + (l.count + (r.count + 0)) ≤ 1073741824; omega)
    have hty : (T.pair s t).ty = Ty.mk 3 [s.ty, t.ty] := rfl
    refine t_g @hty ?_
    refine t_c3 @hty w1 w2 w3 ?_
    refine t_c3 @hty w4 w5 w6 ?_
    refine t_c1 @hty w7 ?_
    repeat (first | refine W_seq ?_ | refine W_skip ?_ | refine W_block ?_ | refine W_inBlock ?_ | refine W_label ?_ | refine W_exit rfl ?_)
    first | refine W_retR hP hf hfn _ ([(b, mk1 (nodeE e6 10 zY [l, r]).2)]) (by first | (simp [go_sem, hP, hgl, hn]; done) | (simp [go_sem, hP, hgl, hn]; rfl)) (by simp [go_sem, hP, hgl, hn]) (by simp) ?_ hR.2 | refine W_endR hP hf hfn _ ([(b, mk1 (nodeE e6 10 zY [l, r]).2)]) (by first | (simp [go_sem, hP, hgl, hn]; done) | (simp [go_sem, hP, hgl, hn]; rfl)) (by simp [go_sem, hP, hgl, hn]) (by simp) ?_ hR.2
    rw [hR.1]
    refine ⟨?_, by simp⟩
    try simp
    try all_goals (simp [Ty.dv, Ty.cells_eq, Ty.kind_mk, Ty.args_mk, Tm.dv, Tm.cells_eq, Tm.kind_mk, Tm.index_mk, Tm.type_mk, Tm.args_mk, Val.dv, Val.cells_eq, Val.kind_mk, Val.num_mk, Val.list_mk, Val.args_mk, ints])
  · rw [maxE_no ho h] at hR
    refine t_g @h ?_
    repeat (first | refine W_seq ?_ | refine W_skip ?_ | refine W_block ?_ | refine W_inBlock ?_ | refine W_label ?_ | refine W_exit rfl ?_)
    first | refine W_retR hP hf hfn _ ([(b, mk1 e)]) (by first | (simp [go_sem, hP, hgl, hn, zeroTm]; done) | (simp [go_sem, hP, hgl, hn, zeroTm]; rfl)) (by simp [go_sem, hP, hgl, hn, zeroTm]) (by simp) ?_ hR.2 | refine W_endR hP hf hfn _ ([(b, mk1 e)]) (by first | (simp [go_sem, hP, hgl, hn, zeroTm]; done) | (simp [go_sem, hP, hgl, hn, zeroTm]; rfl)) (by simp [go_sem, hP, hgl, hn, zeroTm]) (by simp) ?_ hR.2
    rw [hR.1]
    refine ⟨?_, by simp [zeroTm]⟩
    try simp [zeroTm]
    try all_goals (simp [Ty.dv, Ty.cells_eq, Ty.kind_mk, Ty.args_mk, Tm.dv, Tm.cells_eq, Tm.kind_mk, Tm.index_mk, Tm.type_mk, Tm.args_mk, Val.dv, Val.cells_eq, Val.kind_mk, Val.num_mk, Val.list_mk, Val.args_mk, ints])
theorem max_fn (b : Nat) (s t : T) (ihs : ∀ (x y : Tm) (e M : Int), (s).ok → 10 ≤ M → M + (s).size ≤ 274877906944 → Fine e M x → Fine e M y →
    Con1 Tryz.prog gl 181 [ptr b, (s).ty.dv, x.dv, y.dv] [(b, mk1 e)] (maxE (s).ty x y e).1.dv [(b, mk1 (maxE (s).ty x y e).2)]) (iht : ∀ (x y : Tm) (e M : Int), (t).ok → 10 ≤ M → M + (t).size ≤ 274877906944 → Fine e M x → Fine e M y →
    Con1 Tryz.prog gl 181 [ptr b, (t).ty.dv, x.dv, y.dv] [(b, mk1 e)] (maxE (t).ty x y e).1.dv [(b, mk1 (maxE (t).ty x y e).2)]) : ∀ (x y : Tm) (e M : Int), (T.fn s t).ok → 10 ≤ M → M + (T.fn s t).size ≤ 274877906944 → Fine e M x → Fine e M y →
    Con1 Tryz.prog gl 181 [ptr b, (T.fn s t).ty.dv, x.dv, y.dv] [(b, mk1 e)] (maxE (T.fn s t).ty x y e).1.dv [(b, mk1 (maxE (T.fn s t).ty x y e).2)] := by
  intro x y e M ho hM hM2 hx hy
  refine t_in Tryz.func181 ?_
  intro X hP hgl hf hfn hn hR hids hfit
  by_cases h : e = 0
  · subst h
    rw [maxE_fn ho] at hR
    simp only [T.ok, T.size] at ho hM2
    have cx := hx.1
    have cy := hy.1
    have l1 := sc_lift_ok (gl := gl) x 0 1 (hx.2 rfl).1 (Tm.idx_mono (by omega) (hx.2 rfl).2) (by decide) (by decide) (by decide) (by omega)
    have l2 := sc_lift_ok (gl := gl) y 0 1 (hy.2 rfl).1 (Tm.idx_mono (by omega) (hy.2 rfl).2) (by decide) (by decide) (by decide) (by omega)
    have u1 := up_count x 0 1
    have u2 := up_count y 0 1
    have v1 : (vT 0).count ≤ 268435456 := by decide
    have w1 := call_walk (gl := gl) b 0 (x.upN 0 1) [vT 0] (by omega) (by intro z hz; simp at hz; rw [hz]; exact v1)
    have p := fine_call (M := M + 1) (by omega) [vT 0] (fine_up (f := 0) (b := 1) (by decide) hx) fun he z hz => by simp at hz; rw [hz]; exact ⟨shape_v (i := 0), idx_v (by decide) (by omega)⟩
    generalize he1 : callE 0 (x.upN 0 1) [vT 0] = r1 at *
    obtain ⟨x1, e1⟩ := r1
    simp only at hR w1 p
    have w2 := call_walk (gl := gl) b e1 (y.upN 0 1) [vT 0] (by omega) (by intro z hz; simp at hz; rw [hz]; exact v1)
    have q := fine_call (M := M + 1) (by omega) [vT 0] (fine_up (f := 0) (b := 1) (by decide) (hy.later (e' := e1) fun h => rfl)) fun he z hz => by simp at hz; rw [hz]; exact ⟨shape_v (i := 0), idx_v (by decide) (by omega)⟩
    have o2 : (callE e1 (y.upN 0 1) [vT 0]).2 = 0 → e1 = 0 := fun h => (call_ok h).1
    generalize he2 : callE e1 (y.upN 0 1) [vT 0] = r2 at *
    obtain ⟨y1, e2⟩ := r2
    simp only at hR w2 q o2
    have w3 := iht x1 y1 e2 (M + 1) (by unfold T.ok; omega) (by omega) (by omega) (p.later o2) q
    generalize he3 : maxE t.ty x1 y1 e2 = r3 at *
    obtain ⟨r, e3⟩ := r3
    simp only at hR w3
    have cr : r.count ≤ 4096 := by have := maxE_count t.ty (T.ok_ty (by unfold T.ok; omega)) x1 y1 e2; rw [he3] at this; exact this
    have w4 := node_walk (gl := gl) b e3 2 s.ty [r] (by show 1 + (r.count + 0) ≤ 1073741824; omega)
    have hty : (T.fn s t).ty = Ty.mk 4 [s.ty, t.ty] := rfl
    refine t_g @hty ?_
    refine t_c1 @hty (sc_var_ok 0) ?_
    refine t_c5 @hty l1 w1 l2 w2 w3 ?_
    refine t_c1 @hty w4 ?_
    repeat (first | refine W_seq ?_ | refine W_skip ?_ | refine W_block ?_ | refine W_inBlock ?_ | refine W_label ?_ | refine W_exit rfl ?_)
    first | refine W_retR hP hf hfn _ ([(b, mk1 (nodeE e3 2 s.ty [r]).2)]) (by first | (simp [go_sem, hP, hgl, hn]; done) | (simp [go_sem, hP, hgl, hn]; rfl)) (by simp [go_sem, hP, hgl, hn]) (by simp) ?_ hR.2 | refine W_endR hP hf hfn _ ([(b, mk1 (nodeE e3 2 s.ty [r]).2)]) (by first | (simp [go_sem, hP, hgl, hn]; done) | (simp [go_sem, hP, hgl, hn]; rfl)) (by simp [go_sem, hP, hgl, hn]) (by simp) ?_ hR.2
    rw [hR.1]
    refine ⟨?_, by simp⟩
    try simp
    try all_goals (simp [Ty.dv, Ty.cells_eq, Ty.kind_mk, Ty.args_mk, Tm.dv, Tm.cells_eq, Tm.kind_mk, Tm.index_mk, Tm.type_mk, Tm.args_mk, Val.dv, Val.cells_eq, Val.kind_mk, Val.num_mk, Val.list_mk, Val.args_mk, ints])
  · rw [maxE_no ho h] at hR
    refine t_g @h ?_
    repeat (first | refine W_seq ?_ | refine W_skip ?_ | refine W_block ?_ | refine W_inBlock ?_ | refine W_label ?_ | refine W_exit rfl ?_)
    first | refine W_retR hP hf hfn _ ([(b, mk1 e)]) (by first | (simp [go_sem, hP, hgl, hn, zeroTm]; done) | (simp [go_sem, hP, hgl, hn, zeroTm]; rfl)) (by simp [go_sem, hP, hgl, hn, zeroTm]) (by simp) ?_ hR.2 | refine W_endR hP hf hfn _ ([(b, mk1 e)]) (by first | (simp [go_sem, hP, hgl, hn, zeroTm]; done) | (simp [go_sem, hP, hgl, hn, zeroTm]; rfl)) (by simp [go_sem, hP, hgl, hn, zeroTm]) (by simp) ?_ hR.2
    rw [hR.1]
    refine ⟨?_, by simp [zeroTm]⟩
    try simp [zeroTm]
    try all_goals (simp [Ty.dv, Ty.cells_eq, Ty.kind_mk, Ty.args_mk, Tm.dv, Tm.cells_eq, Tm.kind_mk, Tm.index_mk, Tm.type_mk, Tm.args_mk, Val.dv, Val.cells_eq, Val.kind_mk, Val.num_mk, Val.list_mk, Val.args_mk, ints])
theorem max_walk (b : Nat) (a : T) : ∀ (x y : Tm) (e M : Int), (a).ok → 10 ≤ M → M + (a).size ≤ 274877906944 → Fine e M x → Fine e M y →
    Con1 Tryz.prog gl 181 [ptr b, (a).ty.dv, x.dv, y.dv] [(b, mk1 e)] (maxE (a).ty x y e).1.dv [(b, mk1 (maxE (a).ty x y e).2)] := by
  induction a with
  | nat => exact max_nat b
  | list => exact max_list b
  | unit => exact max_unit b
  | pair s t ihs iht => exact max_pair b s t ihs iht
  | fn s t ihs iht => exact max_fn b s t ihs iht
end Go.Proofs.YtcldnfbcbkaanaaGreatDoor.Lift

namespace Go.Proofs.YtcldnfbcbkaanaaGreatDoor.Lift
set_option linter.unusedSimpArgs false
set_option linter.unusedVariables false
set_option linter.unnecessarySimpa false
open Go
variable {gl : Globs}

theorem bares_map (l : List Ty) : bareN.bares l = l.map bareN := by
  induction l with
  | nil => rfl
  | cons a r ih => simp [bareN.bares, ih]
theorem bareN_eq (t : Ty) : bareN t = if t.kind = 2 then Ty.mk 1 [] else Ty.mk t.kind (t.args.map bareN) := by
  cases t; rw [bareN, bares_map]; rfl

theorem bare_walk (t : Ty) : Con1 Tryz.prog gl 185 [t.dv] [] (bareN t).dv [] := by
  induction t using Ty.ind with
  | h t ih =>
  refine t_in Tryz.func185 ?_
  intro X hP hgl hf hfn hn hR hids hfit
  have hlen := Ty.fit_len (hfit t.dv (by simp))
  rw [bareN_eq] at hR
  by_cases h : t.kind = 2
  · refine t_g @h ?_
    refine t_c1 trivial sc_nat_ok ?_
    refine t_r ?_
    simp [go_sem, hP, hgl, hn, h, natY] <;> (try omega)
    all_goals exact t_f
  · refine t_g @h ?_
    refine t_a ?_
    refine t_sub [(1003, 0)] trivial (W_list (t.args) (fun done rest => [(.slot 16, .one (.v (dint done.length))), (.slot 15, .one (.v (dint t.args.length))), (.slot 14, .one (.v (.sl (t.args.map Ty.cells)))), (.loc 3, .row ([.v (dint t.kind), .own 1003 (done.map fun x => (bareN x).cells)])), (.slot 3, .one (.loc 3 0)), (.tok 1003, .tk 2 done.length), (.loc 2, .row ([.v (dint 0), .own 0 []])), (.slot 2, .one (.loc 2 0))]) ?_ ?_)
    · intro done x rest hL hg0 hnext
      have hlt : done.length < t.args.length := by rw [hL]; simp
      have hxm := List.mem_of_getElem? hg0
      refine t_rg0 ?_
      refine t_yes ?_
      refine t_g @hg0 ?_
      refine t_c1 @hg0 (ih x hxm) ?_
      refine t_gt (wr [(1003, 25)]) (Ty.cells_eq (bareN x)) trivial hnext
    · refine t_rg0 ?_
      refine t_no ?_
      refine t_g0 ?_
      refine t_r ?_
      simp [go_sem, hP, hgl, hn, h] <;> (try omega)
      simp [Ty.dv, Ty.cells_eq, Ty.kind_mk, Ty.args_mk]

theorem step_walk (b : Nat) (s : T) (next : Tm) (e M : Int) (ho : s.ok) (hM : 10 ≤ M) (hM2 : M + s.size ≤ 274877906944) (hx : Fine e M next) :
    Con1 Tryz.prog gl 187 [ptr b, s.ty.dv, next.dv] [(b, mk1 e)] (stepE s.ty next e).1.dv [(b, mk1 (stepE s.ty next e).2)] := by
  refine t_in Tryz.func187 ?_
  intro X hP hgl hf hfn hn hR hids hfit
  unfold stepE at hR
  have w1 := max_walk (gl := gl) b s (vT 0) next e M ho hM hM2 (fine_v (by decide) (by omega)) hx
  have c1 := maxE_count s.ty (T.ok_ty ho) (vT 0) next e
  generalize maxE s.ty (vT 0) next e = r1 at *
  obtain ⟨y, e1⟩ := r1
  simp only at hR w1 c1
  have w2 := node_walk (gl := gl) b e1 2 s.ty [y] (by show 1 + (y.count + 0) ≤ 1073741824; omega)
  have c2 := node_count e1 2 s.ty [y]
  generalize nodeE e1 2 s.ty [y] = r2 at *
  obtain ⟨z, e2⟩ := r2
  simp only at hR w2 c2
  have w3 := node_walk (gl := gl) b e2 2 natY [z] (by show 1 + (z.count + 0) ≤ 1073741824; omega)
  refine t_g0 ?_
  refine t_c2 trivial (sc_var_ok 0) w1 ?_
  refine t_c3 trivial sc_nat_ok w2 w3 ?_
  repeat (first | refine W_seq ?_ | refine W_skip ?_ | refine W_block ?_ | refine W_inBlock ?_ | refine W_label ?_ | refine W_exit rfl ?_)
  first | refine W_retR hP hf hfn _ ([(b, mk1 (nodeE e2 2 natY [z]).2)]) (by first | (simp [go_sem, hP, hgl, hn]; done) | (simp [go_sem, hP, hgl, hn]; rfl)) (by simp [go_sem, hP, hgl, hn]) (by simp) ?_ hR.2 | refine W_endR hP hf hfn _ ([(b, mk1 (nodeE e2 2 natY [z]).2)]) (by first | (simp [go_sem, hP, hgl, hn]; done) | (simp [go_sem, hP, hgl, hn]; rfl)) (by simp [go_sem, hP, hgl, hn]) (by simp) ?_ hR.2
  rw [hR.1]
  refine ⟨?_, by simp⟩
  try simp
  try all_goals (simp [Ty.dv, Ty.cells_eq, Ty.kind_mk, Ty.args_mk, Tm.dv, Tm.cells_eq, Tm.kind_mk, Tm.index_mk, Tm.type_mk, Tm.args_mk, Val.dv, Val.cells_eq, Val.kind_mk, Val.num_mk, Val.list_mk, Val.args_mk, ints])

theorem majs_all (l : List Tm) (h : (majE.majsE l).2 = 0) : (majE.majsE l).1.length = l.length ∧ ∀ (i : Nat) (x : Tm), l[i]? = some x → (majE x).2 = 0 ∧ (majE.majsE l).1[i]? = some (majE x).1 := by
  induction l with
  | nil => simp [majE.majsE]
  | cons a r ih =>
    simp only [majE.majsE] at h ⊢
    by_cases ha : (majE a).2 = 0
    · by_cases hr : (majE.majsE r).2 = 0
      · simp only [ha, hr, if_true]
        obtain ⟨h1, h2⟩ := ih hr
        refine ⟨by simp [h1], ?_⟩
        intro i x hx
        cases i with
        | zero => simp at hx; subst hx; exact ⟨ha, by simp⟩
        | succ i => simp at hx; simpa using h2 i x hx
      · simp [ha, hr] at h
    · simp [ha] at h
theorem majs_snoc (l : List Tm) (x : Tm) (h : (majE.majsE l).2 = 0) (hx : (majE x).2 = 0) : majE.majsE (l ++ [x]) = ((majE.majsE l).1 ++ [(majE x).1], 0) := by
  induction l with
  | nil => simp [majE.majsE, hx]
  | cons a r ih =>
    simp only [majE.majsE] at h
    by_cases ha : (majE a).2 = 0
    · by_cases hr : (majE.majsE r).2 = 0
      · simp [majE.majsE, ha, hr, ih hr]
      · simp [ha, hr] at h
    · simp [ha] at h
theorem majs_stop (l : List Tm) (x : Tm) (m : List Tm) (h : (majE.majsE l).2 = 0) (hx : ¬ (majE x).2 = 0) : majE.majsE (l ++ x :: m) = ([], (majE x).2) := by
  induction l with
  | nil => simp [majE.majsE, hx]
  | cons a r ih =>
    simp only [majE.majsE] at h
    by_cases ha : (majE a).2 = 0
    · by_cases hr : (majE.majsE r).2 = 0
      · simp [majE.majsE, ha, ih hr, hx]
      · simp [ha, hr] at h
    · simp [ha] at h

theorem fine_step {s : T} {next : Tm} {e M : Int} (ho : s.ok) (hM : 10 ≤ M) (hx : Fine e M next) : Fine (stepE s.ty next e).2 (M + s.size) (stepE s.ty next e).1 := by
  unfold stepE
  have h1 := fine_max s ho hM (fine_v (e := e) (i := 0) (by decide) (by omega)) hx
  exact fine_lam (s := .nat) nat_ok0 (by omega) (fine_lam ho (by omega) h1)

theorem arg_ty {t : Tm} (hs : t.shape = true) (hk : t.kind = 2 ∨ t.kind = 6 ∨ t.kind = 9) : ∃ a : T, a.ty = t.type ∧ a.ok ∧ bareN t.type = a.maj.ty ∧ a.maj.ok ∧ a.maj.size ≤ 64 := by
  have h := (Tm.shape_node hs).2.2.2.1
  rw [if_pos hk] at h
  obtain ⟨a, ha⟩ := T.of_shape t.type h.1
  have hok : a.ok := T.ty_ok (by rw [ha]; exact h)
  exact ⟨a, ha, hok, by rw [← ha, maj_ty], maj_ok hok, maj_ok hok⟩

theorem fine_maj (t : Tm) : ∀ {M : Int}, t.shape = true → t.idx M → 10 ≤ M → Fine (majE t).2 (M + 100 * t.count) (majE t).1 := by
  induction t using Tm.ind with
  | h t ih =>
  intro M hs hi hM
  obtain ⟨hlen, hi0, hv, hty, hsa⟩ := Tm.shape_node hs
  have hix := (Tm.idx_eq t _).1 hi
  have hct := Tm.count_eq t
  rw [majE_eq]
  by_cases h0 : (majE.majsE t.args).2 = 0
  rotate_left
  · rw [if_neg h0]; exact ⟨by show 1 + 0 ≤ 268435456; omega, fun h => absurd h h0⟩
  rw [if_pos h0]
  obtain ⟨hl, hx⟩ := majs_all t.args h0
  have get : ∀ (i : Nat) (x : Tm), t.args[i]? = some x → ∃ y, (majE.majsE t.args).1[i]? = some y ∧ Fine 0 (M + 100 * (t.count - 1)) y := by
    intro i x hix2
    obtain ⟨x1, x2⟩ := hx i x hix2
    have hm := List.mem_of_getElem? hix2
    have hc := Tm.count_mem hm
    have := ih x hm (hsa x hm) (hix.2 x hm) hM
    exact ⟨_, x2, (this.later fun _ => x1).mono (by omega)⟩
  generalize (majE.majsE t.args).1 = l at get hl ⊢
  have hc1 : 1 ≤ t.count := Tm.count_pos t
  generalize hM1 : M + 100 * ((t.count : Int) - 1) = M1 at get
  have hMt : M + 100 * t.count = M1 + 100 := by omega
  rw [hMt]
  have hM2 : 10 ≤ M1 := by omega
  have all : ∀ z ∈ l, Fine 0 M1 z := by
    intro z hz
    obtain ⟨i, hi⟩ := List.getElem?_of_mem hz
    have hil := (List.getElem?_eq_some_iff.1 hi).1
    obtain ⟨y, hy, fy⟩ := get i t.args[i] (List.getElem?_eq_getElem (by omega))
    rw [hi] at hy; cases hy
    exact fy
  clear get
  unfold majNodeE
  by_cases h7 : t.kind = 7
  · rw [if_pos h7]; exact ⟨by show 1 + 0 ≤ 268435456; omega, fun _ => ⟨rfl, idx_node (by omega) (fun z hz => by cases hz)⟩⟩
  rw [if_neg h7]
  by_cases h8 : t.kind = 8
  · rw [if_pos h8]
    have h2 : l.length = 2 := by rw [h8] at hlen; simp [arityI] at hlen; omega
    match l, h2, all with
    | [y, z], _, all =>
      have fz := fine_n1 (k := 5) (by omega) (.inl rfl) (all z (by simp))
      exact (fine_max .nat nat_ok0 hM2 ((all y (by simp)).later fun h => rfl) fz).mono (by simp only [T.size]; omega)
  rw [if_neg h8]
  by_cases h2 : t.kind = 2
  · rw [if_pos h2]
    obtain ⟨a, -, -, hb, ho, -⟩ := arg_ty hs (.inl h2)
    have h1 : l.length = 1 := by rw [h2] at hlen; simp [arityI] at hlen; omega
    match l, h1, all with
    | [y], _, all =>
      rw [hb]
      exact (fine_lam ho (by omega) (all y (by simp))).mono (by omega)
  rw [if_neg h2]
  by_cases h6 : t.kind = 6
  · rw [if_pos h6]
    obtain ⟨a, -, -, hb, ho, hsz⟩ := arg_ty hs (.inr (.inl h6))
    have h1 : l.length = 3 := by rw [h6] at hlen; simp [arityI] at hlen; omega
    match l, h1, all with
    | [x, f, n], _, all =>
      rw [hb]
      have c := fine_call (M := M1 + 2) (by omega) [vT 1, vT 0] (fine_up (f := 0) (b := 2) (by decide) (all f (by simp))) fun _ z hz => by simp at hz; rcases hz with rfl | rfl; exact ⟨shape_v (i := 1), idx_v (by decide) (by omega)⟩; exact ⟨shape_v (i := 0), idx_v (by decide) (by omega)⟩
      have st := fine_step ho (by omega) c
      refine (fine_node (M := M1 + 2 + a.maj.size) (by omega) (fun he => shape_t rfl (.inr (.inl rfl)) (T.ok_ty ho) ?_) (fun he => ?_)).mono (by omega)
      · intro z hz; simp at hz; rcases hz with rfl | rfl | rfl; exact ((all _ (by simp)).2 rfl).1; exact (st.2 he).1; exact ((all _ (by simp)).2 rfl).1
      · intro z hz; simp at hz; rcases hz with rfl | rfl | rfl; exact Tm.idx_mono (by omega) ((all _ (by simp)).2 rfl).2; exact (st.2 he).2; exact Tm.idx_mono (by omega) ((all _ (by simp)).2 rfl).2
  rw [if_neg h6]
  by_cases h9 : t.kind = 9
  · rw [if_pos h9]
    obtain ⟨a, -, -, hb, ho, hsz⟩ := arg_ty hs (.inr (.inr h9))
    have h1 : l.length = 3 := by rw [h9] at hlen; simp [arityI] at hlen; omega
    match l, h1, all with
    | [x, f, n], _, all =>
      rw [hb]
      have c := fine_call (M := M1 + 3) (by omega) [vT 2, vT 2, vT 0] (fine_up (f := 0) (b := 3) (by decide) (all f (by simp))) fun _ z hz => by simp at hz; rcases hz with rfl | rfl; exact ⟨shape_v (i := 2), idx_v (by decide) (by omega)⟩; exact ⟨shape_v (i := 0), idx_v (by decide) (by omega)⟩
      have st := fine_step ho (by omega) c
      have x1 := fine_up (f := 0) (b := 1) (by decide) (all x (by simp))
      have r := fine_node (e := (stepE a.maj.ty (callE 0 (f.upN 0 3) [vT 2, vT 2, vT 0]).1 (callE 0 (f.upN 0 3) [vT 2, vT 2, vT 0]).2).2) (k := 6) (s := a.maj.ty) (l := [x.upN 0 1, (stepE a.maj.ty (callE 0 (f.upN 0 3) [vT 2, vT 2, vT 0]).1 (callE 0 (f.upN 0 3) [vT 2, vT 2, vT 0]).2).1, vT 0]) (M := M1 + 3 + a.maj.size) (by omega) (fun he => shape_t rfl (.inr (.inl rfl)) (T.ok_ty ho) (by
          intro z hz; simp at hz; rcases hz with rfl | rfl | rfl; exact (x1.2 rfl).1; exact (st.2 he).1; exact shape_v (i := 0))) (fun he => by
          intro z hz; simp at hz; rcases hz with rfl | rfl | rfl; exact Tm.idx_mono (by omega) (x1.2 rfl).2; exact (st.2 he).2; exact idx_v (by decide) (by omega))
      have la := fine_lam (s := .nat) nat_ok0 (by omega) r
      exact (fine_call (by omega) [n] la fun he z hz => by simp at hz; rw [hz]; exact ⟨((all n (by simp)).2 rfl).1, Tm.idx_mono (by omega) ((all n (by simp)).2 rfl).2⟩).mono (by omega)
  rw [if_neg h9]
  by_cases h1 : t.kind = 1
  · rw [if_pos h1]
    have ha : t.args = [] := by rw [h1] at hlen; simp [arityI] at hlen; exact hlen
    have hc : t.count = 1 := by rw [Tm.count_eq, ha]; rfl
    rw [Tm.eta]
    exact ⟨by rw [hc]; decide, fun _ => ⟨hs, Tm.idx_mono (by omega) hi⟩⟩
  rw [if_neg h1]
  refine (fine_node (M := M1) (by omega) (fun he => shape_n (by rw [hl]; exact hlen) (by omega) fun z hz => ((all z hz).2 rfl).1) fun he z hz => ((all z hz).2 rfl).2).mono (by omega)
end Go.Proofs.YtcldnfbcbkaanaaGreatDoor.Lift

namespace Go.Proofs.YtcldnfbcbkaanaaGreatDoor.Lift
set_option linter.unusedSimpArgs false
set_option linter.unusedVariables false
set_option linter.unnecessarySimpa false
open Go
variable {gl : Globs}

theorem arityI_le (k : Int) : arityI k ≤ 3 := by
  unfold arityI
  repeat' split
  all_goals decide

set_option maxHeartbeats 4000000 in
theorem of_walk (b : Nat) (t : Tm) : ∀ {M : Int}, t.shape = true → t.idx M → 10 ≤ M → M + 100 * t.count ≤ 137438953472 →
    Con1 Tryz.prog gl 136 [ptr b, t.dv] [(b, mk1 0)] (majE t).1.dv [(b, mk1 (majE t).2)] := by
  induction t using Tm.ind with
  | h t ih =>
  intro M hs hi hM hMc
  obtain ⟨hlen, hi0, hv, hty, hsa⟩ := Tm.shape_node hs
  have hix := (Tm.idx_eq t _).1 hi
  have hct := Tm.count_eq t
  have hc1 : 1 ≤ t.count := Tm.count_pos t
  refine t_in Tryz.func136 ?_
  intro X hP hgl hf hfn hn hR hids hfit
  have hlen2 := Tm.fit_len (hfit t.dv (by simp))
  rw [majE_eq] at hR
  refine t_g0 ?_
  refine t_a ?_
  refine W_sub [(1005, 0)] (by simp [go_sem]) (by simp [go_sem, majE.majsE] <;> omega) (by simp [go_sem]) (W_listI (t.args) (fun done => (majE.majsE done).2 = 0) (fun done rest => [(.slot 18, .one (.v (dint done.length))), (.slot 17, .one (.v (dint t.args.length))), (.slot 16, .one (.v (.sl (t.args.map Tm.cells)))), (.slot 0, .one (.v (ptr b))), (.slot 3, .one (.loc 3 0)), (.loc 3, .row ([.v (dint t.kind), .v (dint t.index), .v (dint t.type.kind), .v (.sl (t.type.args.map Ty.cells)), .v (.sl (t.args.map Tm.cells))])), (.slot 4, .one (.loc 4 0)), (.loc 4, .row ([.v (dint 0), .v (dint 0), .v (dint 0), .own 0 [], .own 0 []])), (.slot 5, .one (.own 1005 ((majE.majsE done).1.map Tm.cells))), (.tok 1005, .tk 5 (majE.majsE done).1.length), (.heap  b, .row ([.v (dint 0)]))]) (rfl) ?_ ?_)
  · intro done x rest hL hg0 hI hnext
    have hlt : done.length < t.args.length := by rw [hL]; simp
    have hxm := List.mem_of_getElem? hg0
    have hcx := Tm.count_mem hxm
    have w := ih x hxm (hsa x hxm) (hix.2 x hxm) hM (by omega)
    have hdl := (majs_all done hI).1
    have hfx := Tm.fold x
    refine t_rg0 ?_
    refine t_yes ?_
    refine t_g @hg0 ?_
    refine t_c1 (j2 @hg0 @hfx) w ?_
    by_cases he : (majE x).2 = 0
    · have hsn := majs_snoc done x hI he
      refine t_gt (wr [(1005, 34)]) (j2 @hsn (j2 @hdl (Tm.cells_eq (majE x).1))) (j2 @he @hdl) (hnext (by rw [hsn]))
    · have hst := majs_stop done x rest hI he
      rw [← hL] at hst
      rw [hst, if_neg he] at hR
      refine t_g @he ?_
      repeat (first | refine W_seq ?_ | refine W_skip ?_ | refine W_block ?_ | refine W_inBlock ?_ | refine W_label ?_ | refine W_exit rfl ?_)
      first | refine W_retR hP hf hfn _ ([(b, mk1 (majE x).2)]) (by first | (simp [go_sem, hP, hgl, hn, zeroTm]; done) | (simp [go_sem, hP, hgl, hn, zeroTm]; rfl)) (by simp [go_sem, hP, hgl, hn, zeroTm]) (by simp) ?_ hR.2 | refine W_endR hP hf hfn _ ([(b, mk1 (majE x).2)]) (by first | (simp [go_sem, hP, hgl, hn, zeroTm]; done) | (simp [go_sem, hP, hgl, hn, zeroTm]; rfl)) (by simp [go_sem, hP, hgl, hn, zeroTm]) (by simp) ?_ hR.2
      rw [hR.1]
      refine ⟨?_, by simp [zeroTm]⟩
      try simp [zeroTm]
      try all_goals (simp [Ty.dv, Ty.cells_eq, Ty.kind_mk, Ty.args_mk, Tm.dv, Tm.cells_eq, Tm.kind_mk, Tm.index_mk, Tm.type_mk, Tm.args_mk, Val.dv, Val.cells_eq, Val.kind_mk, Val.num_mk, Val.list_mk, Val.args_mk, ints])
  · intro h0
    obtain ⟨hl, hx⟩ := majs_all t.args h0
    rw [if_pos h0] at hR
    have all : ∀ z ∈ (majE.majsE t.args).1, Fine 0 (M + 100 * ((t.count : Int) - 1)) z := by
      intro z hz
      obtain ⟨i, hi⟩ := List.getElem?_of_mem hz
      have hil := (List.getElem?_eq_some_iff.1 hi).1
      have hxi : t.args[i]? = some t.args[i] := List.getElem?_eq_getElem (by omega)
      obtain ⟨x1, x2⟩ := hx i _ hxi
      have hm := List.getElem_mem (l := t.args) (n := i) (by omega)
      have hc := Tm.count_mem hm
      have := fine_maj _ (hsa _ hm) (hix.2 _ hm) hM
      rw [hi] at x2; cases x2
      exact (this.later fun _ => x1).mono (by omega)
    clear hx
    obtain ⟨l, hle⟩ : ∃ l, l = (majE.majsE t.args).1 := ⟨_, rfl⟩
    rw [← hle] at hR hl all ⊢
    generalize hM1 : M + 100 * ((t.count : Int) - 1) = M1 at all
    have hM2 : 10 ≤ M1 := by omega
    have hM3 : M1 + 200 ≤ 274877906944 := by omega
    have hlb : l.length ≤ 3 := by
      have := arityI_le t.kind
      omega
    refine t_rg0 ?_
    refine t_no ?_
    unfold majNodeE at hR
    by_cases h7 : t.kind = 7
    · rw [if_pos h7] at hR
      refine t_g @h7 ?_
      repeat (first | refine W_seq ?_ | refine W_skip ?_ | refine W_block ?_ | refine W_inBlock ?_ | refine W_label ?_ | refine W_exit rfl ?_)
      first | refine W_retR hP hf hfn _ ([(b, mk1 0)]) (by first | (simp [go_sem, hP, hgl, hn, nT]; done) | (simp [go_sem, hP, hgl, hn, nT]; rfl)) (by simp [go_sem, hP, hgl, hn, nT]) (by simp) ?_ hR.2 | refine W_endR hP hf hfn _ ([(b, mk1 0)]) (by first | (simp [go_sem, hP, hgl, hn, nT]; done) | (simp [go_sem, hP, hgl, hn, nT]; rfl)) (by simp [go_sem, hP, hgl, hn, nT]) (by simp) ?_ hR.2
      rw [hR.1]
      refine ⟨?_, by simp [nT]⟩
      try simp [nT]
      try all_goals (simp [Ty.dv, Ty.cells_eq, Ty.kind_mk, Ty.args_mk, Tm.dv, Tm.cells_eq, Tm.kind_mk, Tm.index_mk, Tm.type_mk, Tm.args_mk, Val.dv, Val.cells_eq, Val.kind_mk, Val.num_mk, Val.list_mk, Val.args_mk, ints])
    rw [if_neg h7] at hR
    by_cases h8 : t.kind = 8
    · rw [if_pos h8] at hR
      have h2 : l.length = 2 := by rw [h8] at hlen; simp [arityI] at hlen; omega
      match l, h2, all, hR with
      | [y, z], _, all, hR =>
        have fy := all y (by simp)
        have fz := all z (by simp)
        have cz := fz.1
        have w1 := plain_walk (gl := gl) b 0 5 [z] (by show 1 + (z.count + 0) ≤ 1073741824; omega)
        have f1 := fine_n1 (k := 5) (by omega) (.inl rfl) fz
        have hR : X.R = (fun r ψ => r = (maxE natY y (nodeE 0 5 zY [z]).1 (nodeE 0 5 zY [z]).2).1.dv ∧ ψ = [(b, mk1 (maxE natY y (nodeE 0 5 zY [z]).1 (nodeE 0 5 zY [z]).2).2)]) ∧ X.md = .fn := hR
        generalize nodeE 0 5 zY [z] = r1 at *
        obtain ⟨z1, e1⟩ := r1
        simp only at hR w1 f1
        have w2 := max_walk (gl := gl) b .nat y z1 e1 M1 nat_ok0 hM2 (by simp only [T.size]; omega) (fy.later fun h => rfl) f1
        have hnt : (T.ty .nat) = natY := rfl
        rw [hnt] at w2
        refine t_g @h8 ?_
        refine t_c3 @h8 sc_nat_ok w1 w2 ?_
        repeat (first | refine W_seq ?_ | refine W_skip ?_ | refine W_block ?_ | refine W_inBlock ?_ | refine W_label ?_ | refine W_exit rfl ?_)
        first | refine W_retR hP hf hfn _ ([(b, mk1 (maxE natY y z1 e1).2)]) (by first | (simp [go_sem, hP, hgl, hn]; done) | (simp [go_sem, hP, hgl, hn]; rfl)) (by simp [go_sem, hP, hgl, hn]) (by simp) ?_ hR.2 | refine W_endR hP hf hfn _ ([(b, mk1 (maxE natY y z1 e1).2)]) (by first | (simp [go_sem, hP, hgl, hn]; done) | (simp [go_sem, hP, hgl, hn]; rfl)) (by simp [go_sem, hP, hgl, hn]) (by simp) ?_ hR.2
        rw [hR.1]
        refine ⟨?_, by simp⟩
        try simp
        try all_goals (simp [Ty.dv, Ty.cells_eq, Ty.kind_mk, Ty.args_mk, Tm.dv, Tm.cells_eq, Tm.kind_mk, Tm.index_mk, Tm.type_mk, Tm.args_mk, Val.dv, Val.cells_eq, Val.kind_mk, Val.num_mk, Val.list_mk, Val.args_mk, ints])
    rw [if_neg h8] at hR
    by_cases h2 : t.kind = 2
    · rw [if_pos h2] at hR
      have h1 : l.length = 1 := by rw [h2] at hlen; simp [arityI] at hlen; omega
      match l, h1, all, hR with
      | [y], _, all, hR =>
        have cy := (all y (by simp)).1
        refine t_g @h2 ?_
        refine t_c2 @h2 (bare_walk t.type) (node_walk b 0 2 (bareN t.type) [y] (by show 1 + (y.count + 0) ≤ 1073741824; omega)) ?_
        repeat (first | refine W_seq ?_ | refine W_skip ?_ | refine W_block ?_ | refine W_inBlock ?_ | refine W_label ?_ | refine W_exit rfl ?_)
        first | refine W_retR hP hf hfn _ ([(b, mk1 (nodeE 0 2 (bareN t.type) [y]).2)]) (by first | (simp [go_sem, hP, hgl, hn]; done) | (simp [go_sem, hP, hgl, hn]; rfl)) (by simp [go_sem, hP, hgl, hn]) (by simp) ?_ hR.2 | refine W_endR hP hf hfn _ ([(b, mk1 (nodeE 0 2 (bareN t.type) [y]).2)]) (by first | (simp [go_sem, hP, hgl, hn]; done) | (simp [go_sem, hP, hgl, hn]; rfl)) (by simp [go_sem, hP, hgl, hn]) (by simp) ?_ hR.2
        rw [hR.1]
        refine ⟨?_, by simp⟩
        try simp
        try all_goals (simp [Ty.dv, Ty.cells_eq, Ty.kind_mk, Ty.args_mk, Tm.dv, Tm.cells_eq, Tm.kind_mk, Tm.index_mk, Tm.type_mk, Tm.args_mk, Val.dv, Val.cells_eq, Val.kind_mk, Val.num_mk, Val.list_mk, Val.args_mk, ints])
    rw [if_neg h2] at hR
    by_cases h6 : t.kind = 6
    · rw [if_pos h6] at hR
      obtain ⟨a, -, -, hb, ho, hsz⟩ := arg_ty hs (.inr (.inl h6))
      have h1 : l.length = 3 := by rw [h6] at hlen; simp [arityI] at hlen; omega
      match l, h1, all, hR with
      | [x, f, n], _, all, hR =>
        have fx := all x (by simp)
        have ff := all f (by simp)
        have fn' := all n (by simp)
        have cx := fx.1
        have cf := ff.1
        have cn := fn'.1
        have l1 := sc_lift_ok (gl := gl) f 0 2 (ff.2 rfl).1 (Tm.idx_mono (by omega) (ff.2 rfl).2) (by decide) (by decide) (by decide) (by omega)
        have u1 := up_count f 0 2
        have v1 : (vT 1).count ≤ 268435456 := by decide
        have v0 : (vT 0).count ≤ 268435456 := by decide
        have w1 := call_walk (gl := gl) b 0 (f.upN 0 2) [vT 1, vT 0] (by omega) (by intro z hz; simp at hz; rcases hz with rfl | rfl; exact v1; exact v0)
        have c := fine_call (M := M1 + 2) (by omega) [vT 1, vT 0] (fine_up (f := 0) (b := 2) (by decide) ff) fun _ z hz => by simp at hz; rcases hz with rfl | rfl; exact ⟨shape_v (i := 1), idx_v (by decide) (by omega)⟩; exact ⟨shape_v (i := 0), idx_v (by decide) (by omega)⟩
        have hR : X.R = (fun r ψ => r = (nodeE (stepE (bareN t.type) (callE 0 (f.upN 0 2) [vT 1, vT 0]).1 (callE 0 (f.upN 0 2) [vT 1, vT 0]).2).2 6 (bareN t.type) [x, (stepE (bareN t.type) (callE 0 (f.upN 0 2) [vT 1, vT 0]).1 (callE 0 (f.upN 0 2) [vT 1, vT 0]).2).1, n]).1.dv ∧ ψ = [(b, mk1 (nodeE (stepE (bareN t.type) (callE 0 (f.upN 0 2) [vT 1, vT 0]).1 (callE 0 (f.upN 0 2) [vT 1, vT 0]).2).2 6 (bareN t.type) [x, (stepE (bareN t.type) (callE 0 (f.upN 0 2) [vT 1, vT 0]).1 (callE 0 (f.upN 0 2) [vT 1, vT 0]).2).1, n]).2)]) ∧ X.md = .fn := hR
        generalize callE 0 (f.upN 0 2) [vT 1, vT 0] = r1 at *
        obtain ⟨g1, e1⟩ := r1
        simp only at hR w1 c
        have wb := bare_walk (gl := gl) t.type
        rw [hb] at wb hR
        have w2 := step_walk (gl := gl) b a.maj g1 e1 (M1 + 2) ho (by omega) (by omega) c
        have c2 : (stepE a.maj.ty g1 e1).1.count ≤ 4096 := node_count _ _ _ _
        generalize stepE a.maj.ty g1 e1 = r2 at *
        obtain ⟨g2, e2⟩ := r2
        simp only at hR w2 c2
        have w3 := node_walk (gl := gl) b e2 6 a.maj.ty [x, g2, n] (by show 1 + (x.count + (g2.count + (n.count + 0))) ≤ 1073741824; omega)
        refine t_g @h6 ?_
        refine t_c1 @h6 wb ?_
        refine t_c1 @h6 l1 ?_
        refine t_c5 @h6 (sc_var_ok 1) (sc_var_ok 0) w1 w2 w3 ?_
        repeat (first | refine W_seq ?_ | refine W_skip ?_ | refine W_block ?_ | refine W_inBlock ?_ | refine W_label ?_ | refine W_exit rfl ?_)
        first | refine W_retR hP hf hfn _ ([(b, mk1 (nodeE e2 6 a.maj.ty [x, g2, n]).2)]) (by first | (simp [go_sem, hP, hgl, hn]; done) | (simp [go_sem, hP, hgl, hn]; rfl)) (by simp [go_sem, hP, hgl, hn]) (by simp) ?_ hR.2 | refine W_endR hP hf hfn _ ([(b, mk1 (nodeE e2 6 a.maj.ty [x, g2, n]).2)]) (by first | (simp [go_sem, hP, hgl, hn]; done) | (simp [go_sem, hP, hgl, hn]; rfl)) (by simp [go_sem, hP, hgl, hn]) (by simp) ?_ hR.2
        rw [hR.1]
        refine ⟨?_, by simp⟩
        try simp
        try all_goals (simp [Ty.dv, Ty.cells_eq, Ty.kind_mk, Ty.args_mk, Tm.dv, Tm.cells_eq, Tm.kind_mk, Tm.index_mk, Tm.type_mk, Tm.args_mk, Val.dv, Val.cells_eq, Val.kind_mk, Val.num_mk, Val.list_mk, Val.args_mk, ints])
    rw [if_neg h6] at hR
    by_cases h9 : t.kind = 9
    · rw [if_pos h9] at hR
      obtain ⟨a, -, -, hb, ho, hsz⟩ := arg_ty hs (.inr (.inr h9))
      have h1 : l.length = 3 := by rw [h9] at hlen; simp [arityI] at hlen; omega
      match l, h1, all, hR with
      | [x, f, n], _, all, hR =>
        have fx := all x (by simp)
        have ff := all f (by simp)
        have fn' := all n (by simp)
        have cx := fx.1
        have cf := ff.1
        have cn := fn'.1
        have l1 := sc_lift_ok (gl := gl) f 0 3 (ff.2 rfl).1 (Tm.idx_mono (by omega) (ff.2 rfl).2) (by decide) (by decide) (by decide) (by omega)
        have l2 := sc_lift_ok (gl := gl) x 0 1 (fx.2 rfl).1 (Tm.idx_mono (by omega) (fx.2 rfl).2) (by decide) (by decide) (by decide) (by omega)
        have u1 := up_count f 0 3
        have u2 := up_count x 0 1
        have v2 : (vT 2).count ≤ 268435456 := by decide
        have v0 : (vT 0).count ≤ 268435456 := by decide
        have v00 : (vT 0).count = 1 := by decide
        have w1 := call_walk (gl := gl) b 0 (f.upN 0 3) [vT 2, vT 2, vT 0] (by omega) (by intro z hz; simp at hz; rcases hz with rfl | rfl; exact v2; exact v0)
        have c := fine_call (M := M1 + 3) (by omega) [vT 2, vT 2, vT 0] (fine_up (f := 0) (b := 3) (by decide) ff) fun _ z hz => by simp at hz; rcases hz with rfl | rfl; exact ⟨shape_v (i := 2), idx_v (by decide) (by omega)⟩; exact ⟨shape_v (i := 0), idx_v (by decide) (by omega)⟩
        have hR : ∃ c1 : Tm × Int, c1 = callE 0 (f.upN 0 3) [vT 2, vT 2, vT 0] ∧ ∃ st, st = stepE (bareN t.type) c1.1 c1.2 ∧ ∃ r, r = nodeE st.2 6 (bareN t.type) [x.upN 0 1, st.1, vT 0] ∧ ∃ la, la = nodeE r.2 2 natY [r.1] ∧ X.R = (fun q ψ => q = (callE la.2 la.1 [n]).1.dv ∧ ψ = [(b, mk1 (callE la.2 la.1 [n]).2)]) ∧ X.md = .fn := ⟨_, rfl, _, rfl, _, rfl, _, rfl, hR⟩
        obtain ⟨r1, q1, r2, q2, r3, q3, r4, q4, hR⟩ := hR
        rw [← q1] at w1 c
        obtain ⟨g1, e1⟩ := r1
        simp only at q2 w1 c
        have wb := bare_walk (gl := gl) t.type
        rw [hb] at wb q2 q3
        have w2 := step_walk (gl := gl) b a.maj g1 e1 (M1 + 3) ho (by omega) (by omega) c
        have c2 : (stepE a.maj.ty g1 e1).1.count ≤ 4096 := node_count _ _ _ _
        rw [← q2] at w2 c2
        obtain ⟨g2, e2⟩ := r2
        simp only at q3 w2 c2
        have w3 := node_walk (gl := gl) b e2 6 a.maj.ty [x.upN 0 1, g2, vT 0] (by show 1 + ((x.upN 0 1).count + (g2.count + ((vT 0).count + 0))) ≤ 1073741824; omega)
        have c3 := node_count e2 6 a.maj.ty [x.upN 0 1, g2, vT 0]
        rw [← q3] at w3 c3
        obtain ⟨g3, e3⟩ := r3
        simp only at q4 w3 c3
        have w4 := node_walk (gl := gl) b e3 2 natY [g3] (by show 1 + (g3.count + 0) ≤ 1073741824; omega)
        have c4 := node_count e3 2 natY [g3]
        rw [← q4] at w4 c4
        obtain ⟨g4, e4⟩ := r4
        simp only at hR w4 c4
        have w5 := call_walk (gl := gl) b e4 g4 [n] (by omega) (by intro z hz; simp at hz; rw [hz]; exact cn)
        refine t_g @h9 ?_
        refine t_c1 @h9 wb ?_
        refine t_c2 @h9 l1 (sc_var_ok 2) ?_
        refine t_c6 @h9 l2 (sc_var_ok 0) w1 w2 (sc_var_ok 0) w3 ?_
        refine t_c3 @h9 sc_nat_ok w4 w5 ?_
        repeat (first | refine W_seq ?_ | refine W_skip ?_ | refine W_block ?_ | refine W_inBlock ?_ | refine W_label ?_ | refine W_exit rfl ?_)
        first | refine W_retR hP hf hfn _ ([(b, mk1 (callE e4 g4 [n]).2)]) (by first | (simp [go_sem, hP, hgl, hn]; done) | (simp [go_sem, hP, hgl, hn]; rfl)) (by simp [go_sem, hP, hgl, hn]) (by simp) ?_ hR.2 | refine W_endR hP hf hfn _ ([(b, mk1 (callE e4 g4 [n]).2)]) (by first | (simp [go_sem, hP, hgl, hn]; done) | (simp [go_sem, hP, hgl, hn]; rfl)) (by simp [go_sem, hP, hgl, hn]) (by simp) ?_ hR.2
        rw [hR.1]
        refine ⟨?_, by simp⟩
        try simp
        try all_goals (simp [Ty.dv, Ty.cells_eq, Ty.kind_mk, Ty.args_mk, Tm.dv, Tm.cells_eq, Tm.kind_mk, Tm.index_mk, Tm.type_mk, Tm.args_mk, Val.dv, Val.cells_eq, Val.kind_mk, Val.num_mk, Val.list_mk, Val.args_mk, ints])
    rw [if_neg h9] at hR
    by_cases h1 : t.kind = 1
    · rw [if_pos h1] at hR
      have he : Tm.mk t.kind t.index t.type t.args = t := Tm.eta t
      rw [he] at hR
      have hfd := Tm.fold t
      rw [h1] at hfd
      refine t_g @h1 ?_
      repeat (first | refine W_seq ?_ | refine W_skip ?_ | refine W_block ?_ | refine W_inBlock ?_ | refine W_label ?_ | refine W_exit rfl ?_)
      first | refine W_retR hP hf hfn _ ([(b, mk1 0)]) (by first | (simp [go_sem, hP, hgl, hn, h1, hfd]; done) | (simp [go_sem, hP, hgl, hn, h1, hfd]; rfl)) (by simp [go_sem, hP, hgl, hn, h1, hfd]) (by simp) ?_ hR.2 | refine W_endR hP hf hfn _ ([(b, mk1 0)]) (by first | (simp [go_sem, hP, hgl, hn, h1, hfd]; done) | (simp [go_sem, hP, hgl, hn, h1, hfd]; rfl)) (by simp [go_sem, hP, hgl, hn, h1, hfd]) (by simp) ?_ hR.2
      rw [hR.1]
      refine ⟨?_, by simp [h1, hfd]⟩
      try simp [h1, hfd]
      try all_goals (simp [Ty.dv, Ty.cells_eq, Ty.kind_mk, Ty.args_mk, Tm.dv, Tm.cells_eq, Tm.kind_mk, Tm.index_mk, Tm.type_mk, Tm.args_mk, Val.dv, Val.cells_eq, Val.kind_mk, Val.num_mk, Val.list_mk, Val.args_mk, ints])
    rw [if_neg h1] at hR
    have hcl : (Tm.mk t.kind 0 zY l).count ≤ 1073741824 := by
      rw [Tm.count_eq, Tm.args_mk]
      match l, hlb, all with
      | [], _, _ => decide
      | [x], _, all => have := (all x (by simp)).1; show 1 + (x.count + 0) ≤ _; omega
      | [x, y], _, all => have := (all x (by simp)).1; have := (all y (by simp)).1; show 1 + (x.count + (y.count + 0)) ≤ _; omega
      | [x, y, z], _, all => have := (all x (by simp)).1; have := (all y (by simp)).1; have := (all z (by simp)).1; show 1 + (x.count + (y.count + (z.count + 0))) ≤ _; omega
    refine t_g (j2 @h1 (j2 @h2 (j2 @h6 (j2 @h7 (j2 @h8 @h9))))) ?_
    refine t_c1 trivial (plain_walk b 0 t.kind l hcl) ?_
    repeat (first | refine W_seq ?_ | refine W_skip ?_ | refine W_block ?_ | refine W_inBlock ?_ | refine W_label ?_ | refine W_exit rfl ?_)
    first | refine W_retR hP hf hfn _ ([(b, mk1 (nodeE 0 t.kind zY l).2)]) (by first | (simp [go_sem, hP, hgl, hn]; done) | (simp [go_sem, hP, hgl, hn]; rfl)) (by simp [go_sem, hP, hgl, hn]) (by simp) ?_ hR.2 | refine W_endR hP hf hfn _ ([(b, mk1 (nodeE 0 t.kind zY l).2)]) (by first | (simp [go_sem, hP, hgl, hn]; done) | (simp [go_sem, hP, hgl, hn]; rfl)) (by simp [go_sem, hP, hgl, hn]) (by simp) ?_ hR.2
    rw [hR.1]
    refine ⟨?_, by simp⟩
    try simp
    try all_goals (simp [Ty.dv, Ty.cells_eq, Ty.kind_mk, Ty.args_mk, Tm.dv, Tm.cells_eq, Tm.kind_mk, Tm.index_mk, Tm.type_mk, Tm.args_mk, Val.dv, Val.cells_eq, Val.kind_mk, Val.num_mk, Val.list_mk, Val.args_mk, ints])
end Go.Proofs.YtcldnfbcbkaanaaGreatDoor.Lift

namespace Go.Proofs.YtcldnfbcbkaanaaGreatDoor.Lift
set_option linter.unusedSimpArgs false
set_option linter.unusedVariables false
set_option linter.unnecessarySimpa false
open Go
variable {gl : Globs}

theorem anyLoc_mapv (d : Nat) (l : List DV) : anyLoc d (l.map SV.v) = false := by
  induction l with
  | nil => rfl
  | cons x r ih => simp [anyLoc, hasLoc, ih]
theorem anyTok_mapv (d : Nat) (l : List DV) : anyTok d (l.map SV.v) = false := by
  induction l with
  | nil => rfl
  | cons x r ih => simp [anyTok, hasTok, ih]
theorem exRow_mapv (k b : Nat) (l : List DV) : exRow k b (l.map SV.v) = l.map SV.v := by
  induction l with
  | nil => rfl
  | cons x r ih => simp only [List.map_cons, exRow, ih]; rfl
attribute [go_sem] anyLoc_mapv anyTok_mapv exRow_mapv

theorem mterm1_ok (b bt : Nat) (hb : b ≠ bt) (t : Tm) (hs : t.shape = true) (hc : t.count ≤ 4096) (hl : t.leastN 268435456 = true) :
    Con1 Tryz.prog gl 135 [ptr b, ptr bt] [(b, mk1 0), (bt, t.cells)] (majE t).1.dv [(b, mk1 (majE t).2), (bt, t.cells)] := by
  have w := of_walk (gl := gl) b t (M := 268435456) hs (Tm.idx_of t _ hs hl) (by decide) (by omega)
  have hf' := Tm.fold t
  refine t_in Tryz.func135 ?_
  intro X hP hgl hf hfn hn hR hids hfit
  have hb' : bt ≠ b := fun h => hb h.symm
  refine t_g (j2 @hb (j2 @hb' (Tm.cells_eq t))) ?_
  refine t_c1 (j2 @hb (j2 @hb' @hf')) w ?_
  repeat (first | refine W_seq ?_ | refine W_skip ?_ | refine W_block ?_ | refine W_inBlock ?_ | refine W_label ?_ | refine W_exit rfl ?_)
  first | refine W_retR hP hf hfn _ ([(b, mk1 (majE t).2), (bt, t.cells)]) (by first | (simp [go_sem, hP, hgl, hn, hb, hb', Tm.cells_eq t]; done) | (simp [go_sem, hP, hgl, hn, hb, hb', Tm.cells_eq t]; rfl)) (by simp [go_sem, hP, hgl, hn, hb, hb', Tm.cells_eq t]) (by simp [hb, hb', Tm.cells_eq t]) ?_ hR.2 | refine W_endR hP hf hfn _ ([(b, mk1 (majE t).2), (bt, t.cells)]) (by first | (simp [go_sem, hP, hgl, hn, hb, hb', Tm.cells_eq t]; done) | (simp [go_sem, hP, hgl, hn, hb, hb', Tm.cells_eq t]; rfl)) (by simp [go_sem, hP, hgl, hn, hb, hb', Tm.cells_eq t]) (by simp [hb, hb', Tm.cells_eq t]) ?_ hR.2
  rw [hR.1]
  refine ⟨?_, by simp [hb, hb', Tm.cells_eq t]⟩
  try simp [hb, hb', Tm.cells_eq t]
  try all_goals (simp [Ty.dv, Ty.cells_eq, Ty.kind_mk, Ty.args_mk, Tm.dv, Tm.cells_eq, Tm.kind_mk, Tm.index_mk, Tm.type_mk, Tm.args_mk, Val.dv, Val.cells_eq, Val.kind_mk, Val.num_mk, Val.list_mk, Val.args_mk, ints])

def runT (r : Tm × Int) : Tm × Int := if r.2 = 0 then r else (zeroTm, r.2)

theorem mrun_ok (bt : Nat) (f : FuncId) (cs : List DV) (r : Tm × Int) (hc : ∀ b, b ≠ bt → Con1 Tryz.prog gl f [ptr b, ptr bt] [(b, mk1 0), (bt, cs)] r.1.dv [(b, mk1 r.2), (bt, cs)]) :
    Con1 Tryz.prog gl 134 [.prim (.func (.func f) #[] #[.pointer (some ⟨bt, 0, none⟩)])] [(bt, cs)] (.tup [(runT r).1.dv, dint (runT r).2]) [(bt, cs)] := by
  refine t_in Tryz.func134 ?_
  intro X hP hgl hf hfn hn hR hids hfit
  refine t_rg0 ?_
  refine t_rg0 ?_
  refine W_expose 7 (by simp [go_sem]; rfl) ?_
  intro b hb
  simp [go_sem] at hb ⊢
  have hbt : b ≠ bt := fun h => hb h.symm
  refine t_a ?_
  first | refine W_reg [] fun K hK => ?_ | refine W_regd (by rw [hP]; exact mixed) [] fun K hK => ?_
  refine t_s0 ?_
  repeat (refine ⟨by omega, ?_⟩)
  refine vcK_callV hP hgl (f := f) (fi := #[]) (ca := #[.pointer (some ⟨bt, 0, none⟩)]) (by simp [go_sem]) (by simp [primOK]) (ds := [ptr b]) (hc b hbt) (by simp [go_sem]) rfl (by simp [go_sem, hb, hbt]) (by simp [hbt]) (by rw [hn]; exact Nat.le_of_ble_eq_true rfl) ?_
  simp [go_sem, hP, hgl, hn, hb, hbt]
  refine t_e ?_
  clear hK K
  by_cases h : r.2 = 0
  · refine t_g (j2 @h (j2 @hb @hbt)) ?_
    repeat (first | refine W_seq ?_ | refine W_skip ?_ | refine W_block ?_ | refine W_inBlock ?_ | refine W_label ?_ | refine W_exit rfl ?_)
    first | refine W_retR hP hf hfn _ ([(bt, cs)]) (by first | (simp [go_sem, hP, hgl, hn, h, runT, hb, hbt]; done) | (simp [go_sem, hP, hgl, hn, h, runT, hb, hbt]; rfl)) (by simp [go_sem, hP, hgl, hn, h, runT, hb, hbt]) (by simp [h, runT, hb, hbt]) ?_ hR.2 | refine W_endR hP hf hfn _ ([(bt, cs)]) (by first | (simp [go_sem, hP, hgl, hn, h, runT, hb, hbt]; done) | (simp [go_sem, hP, hgl, hn, h, runT, hb, hbt]; rfl)) (by simp [go_sem, hP, hgl, hn, h, runT, hb, hbt]) (by simp [h, runT, hb, hbt]) ?_ hR.2
    rw [hR.1]
    refine ⟨?_, by simp [h, runT, hb, hbt]⟩
    try simp [h, runT, hb, hbt]
    try all_goals (simp [Ty.dv, Ty.cells_eq, Ty.kind_mk, Ty.args_mk, Tm.dv, Tm.cells_eq, Tm.kind_mk, Tm.index_mk, Tm.type_mk, Tm.args_mk, Val.dv, Val.cells_eq, Val.kind_mk, Val.num_mk, Val.list_mk, Val.args_mk, ints])
  · refine t_g (j2 @h (j2 @hb @hbt)) ?_
    repeat (first | refine W_seq ?_ | refine W_skip ?_ | refine W_block ?_ | refine W_inBlock ?_ | refine W_label ?_ | refine W_exit rfl ?_)
    first | refine W_retR hP hf hfn _ ([(bt, cs)]) (by first | (simp [go_sem, hP, hgl, hn, h, runT, hb, hbt, zeroTm]; done) | (simp [go_sem, hP, hgl, hn, h, runT, hb, hbt, zeroTm]; rfl)) (by simp [go_sem, hP, hgl, hn, h, runT, hb, hbt, zeroTm]) (by simp [h, runT, hb, hbt, zeroTm]) ?_ hR.2 | refine W_endR hP hf hfn _ ([(bt, cs)]) (by first | (simp [go_sem, hP, hgl, hn, h, runT, hb, hbt, zeroTm]; done) | (simp [go_sem, hP, hgl, hn, h, runT, hb, hbt, zeroTm]; rfl)) (by simp [go_sem, hP, hgl, hn, h, runT, hb, hbt, zeroTm]) (by simp [h, runT, hb, hbt, zeroTm]) ?_ hR.2
    rw [hR.1]
    refine ⟨?_, by simp [h, runT, hb, hbt, zeroTm]⟩
    try simp [h, runT, hb, hbt, zeroTm]
    try all_goals (simp [Ty.dv, Ty.cells_eq, Ty.kind_mk, Ty.args_mk, Tm.dv, Tm.cells_eq, Tm.kind_mk, Tm.index_mk, Tm.type_mk, Tm.args_mk, Val.dv, Val.cells_eq, Val.kind_mk, Val.num_mk, Val.list_mk, Val.args_mk, ints])

/-- the majorant of a term, with its error -/
def Tm.mTermE (t : Tm) : Tm × Int := if t.checkN = 0 then if t.leastN 268435456 = true then runT (majE t) else (zeroTm, 1) else (zeroTm, t.checkN)

theorem mterm_ok (har : globOf gl 0 = some arEls) (t : Tm) (ht : t.tys) (hc : t.count ≤ 1073741824) :
    Con1 Tryz.prog gl 59 [t.dv] [] (.tup [t.mTermE.1.dv, dint t.mTermE.2]) [] := by
  refine t_in Tryz.func59 ?_
  intro X hP hgl hf hfn hn hR hids hfit
  have hfo := Tm.fold t
  refine t_g0 ?_
  refine t_c1 @hfo (termscheck_ok har t ht (by omega)) ?_
  by_cases h : t.checkN = 0
  · have hsh := (Tm.checkN_iff t).1 h
    refine t_g @h ?_
    refine t_c1 @hfo (sc_far_ok t) ?_
    by_cases h2 : t.leastN 268435456 = true
    · refine t_g @h2 ?_
      refine W_expose 1 (by simp [go_sem]; rfl) ?_
      intro bt hb
      simp [go_sem] at hb ⊢
      have w := mrun_ok (gl := gl) bt 135 t.cells (majE t) fun b hb => mterm1_ok b bt hb t hsh.1 hsh.2 h2
      refine t_c1 (Tm.cells_eq t) w ?_
      refine t_r ?_
      simp [go_sem, hP, hgl, hn, Tm.mTermE, h, h2] <;> (try omega)
      all_goals exact t_f
    · have h2' : t.leastN 268435456 = false := by simpa using h2
      refine t_g @h2' ?_
      refine t_r ?_
      simp [go_sem, hP, hgl, hn, Tm.mTermE, h, h2', zeroTm] <;> (try omega)
      all_goals exact t_f
  · refine t_g @h ?_
    refine t_r ?_
    simp [go_sem, hP, hgl, hn, Tm.mTermE, h, zeroTm] <;> (try omega)
    all_goals exact t_f

end Go.Proofs.YtcldnfbcbkaanaaGreatDoor.Lift

namespace Go.Proofs.YtcldnfbcbkaanaaGreatDoor.Lift
set_option linter.unusedSimpArgs false
set_option linter.unusedVariables false
set_option linter.unnecessarySimpa false
open Go
variable {gl : Globs}

def mostOf (n : Int) : List Int → Int
  | [] => n
  | x :: r => mostOf (max n x) r
theorem mostOf_append (n : Int) (l r : List Int) : mostOf n (l ++ r) = mostOf (mostOf n l) r := by
  induction l generalizing n with
  | nil => rfl
  | cons x l ih => exact ih _

/-- the least majorant of a value -/
def Val.boundN : Val → Val
  | .mk k n l a => if k = 2 then .mk 1 (mostOf l.length l) [] [] else if k = 3 then .mk 3 0 [] (bounds a) else .mk k n l a
where
  bounds : List Val → List Val
    | [] => []
    | x :: r => x.boundN :: bounds r
theorem Val.boundN_eq (v : Val) : v.boundN = if v.kind = 2 then .mk 1 (mostOf v.list.length v.list) [] [] else if v.kind = 3 then .mk 3 0 [] (boundN.bounds v.args) else v := by cases v; rw [boundN]; rfl

theorem bound_ok (v : Val) (ht : v.two) : Con1 Tryz.prog gl 79 [v.dv] [] v.boundN.dv [] := by
  induction v using Val.ind with
  | h v ih =>
  obtain ⟨ht1, ht2⟩ := (Val.two_eq v).1 ht
  refine t_in Tryz.func79 ?_
  intro X hP hgl hf hfn hn hR hids hfit
  have hl2 := Val.fit_list (hfit v.dv (by simp))
  have hli := ((Val.fit_eq v).1 ((Val.dv_fit v).1 (hfit v.dv (by simp)))).2.2.1.2
  rw [Val.boundN_eq] at hR
  by_cases h2 : v.kind = 2
  · rw [if_pos h2] at hR
    refine t_g @h2 ?_
    refine t_a ?_
    refine W_sub [] (by simp [go_sem]) (by simp [go_sem, mostOf] <;> omega) (by simp [go_sem]) (W_listI (v.list) (fun done => True) (fun done rest => [(.slot 16, .one (.v (dint done.length))), (.slot 15, .one (.v (dint v.list.length))), (.slot 14, .one (.v (.sl (ints v.list)))), (.slot 3, .one (.v (dint (mostOf v.list.length done)))), (.slot 2, .one (.loc 2 0)), (.loc 2, .row ([.v (dint 0), .v (dint 0), .own 0 [], .own 0 []]))]) (trivial) ?_ ?_)
    · intro done x rest hL hg0 hI hnext
      have hlt : done.length < v.list.length := by rw [hL]; simp
      have hgi := ints_get hg0
      have hm : mostOf v.list.length (done ++ [x]) = max (mostOf v.list.length done) x := mostOf_append _ _ _
      have hxm := List.mem_of_getElem? hg0
      have hi1 := (intOK_i64 x).1 (hli x hxm)
      refine t_rg0 ?_
      refine t_yes ?_
      refine t_g @hgi ?_
      refine t_gt (wr []) @hm @hi1 (hnext trivial)
    · intro _
      refine t_rg0 ?_
      refine t_no ?_
      refine t_g0 ?_
      refine t_r ?_
      simp [go_sem, hP, hgl, hn] <;> (try omega)
      all_goals exact t_f
  rw [if_neg h2] at hR
  by_cases h3 : v.kind = 3
  · rw [if_pos h3] at hR
    have h2l := ht1 h3
    match hargs : v.args, h2l with
    | [x, y], _ =>
    have hx : x ∈ v.args := by rw [hargs]; simp
    have hy : y ∈ v.args := by rw [hargs]; simp
    rw [hargs] at hR
    refine t_g (j2 @h2 @h3) ?_
    refine t_c2 @hargs (ih x hx (ht2 x hx)) (ih y hy (ht2 y hy)) ?_
    refine t_r ?_
    simp [go_sem, hP, hgl, hn, Val.boundN.bounds] <;> (try omega)
    all_goals exact t_f
  · rw [if_neg h3] at hR
    have hfo := Val.fold v
    refine t_g (j2 @h2 @h3) ?_
    refine t_r ?_
    simp [go_sem, hP, hgl, hn, hfo] <;> (try omega)
    all_goals exact t_f

abbrev zV : Val := .mk 0 0 [] []
def Val.mValueE (v : Val) : Val × Int := if v.checkN = 0 then (v.boundN, 0) else (zV, v.checkN)

theorem Val.two_of (v : Val) (h : v.checkN = 0) : v.two := by
  unfold Val.checkN at h
  by_cases hn : v.nodesN.2 = true
  · exact (Val.ok_all v hn).2
  · rw [if_neg hn] at h; exact absurd h (by decide)

theorem mvalue_ok (v : Val) (hc : v.count ≤ 1073741824) : Con1 Tryz.prog gl 25 [v.dv] [] (.tup [v.mValueE.1.dv, dint v.mValueE.2]) [] := by
  have hck : (if v.nodesN.2 = true then if v.nodesN.1 > 64 then 4 else 0 else 2) = v.checkN := rfl
  have hcon := check_ok (gl := gl) v (by omega)
  rw [hck] at hcon
  refine t_in Tryz.func25 ?_
  intro X hP hgl hf hfn hn hR hids hfit
  have hfo := Val.fold v
  refine t_g0 ?_
  refine t_c1 @hfo hcon ?_
  by_cases h : v.checkN = 0
  · refine t_g @h ?_
    refine t_c1 @hfo (bound_ok v (Val.two_of v h)) ?_
    refine t_r ?_
    simp [go_sem, hP, hgl, hn, Val.mValueE, h] <;> (try omega)
    all_goals exact t_f
  · refine t_g @h ?_
    refine t_r ?_
    simp [go_sem, hP, hgl, hn, Val.mValueE, h, zV] <;> (try omega)
    all_goals exact t_f

/-- whether a value bounds another one -/
def Val.overN : Val → Val → Bool
  | .mk k n l a, v =>
    if k = 1 ∧ (v.kind = 1 ∨ v.kind = 2) then decide (v.boundN.num ≤ n)
    else if k = 3 ∧ v.kind = 3 then overs a v.args else decide (k = 4 ∧ v.kind = 4)
where
  overs : List Val → List Val → Bool
    | x :: r, y :: q => x.overN y && overs r q
    | _, _ => true
theorem Val.overN_eq (a v : Val) : a.overN v = if a.kind = 1 ∧ (v.kind = 1 ∨ v.kind = 2) then decide (v.boundN.num ≤ a.num)
    else if a.kind = 3 ∧ v.kind = 3 then overN.overs a.args v.args else decide (a.kind = 4 ∧ v.kind = 4) := by cases a; rw [overN]; rfl

theorem over_ok (a : Val) : ∀ (v : Val), a.two → v.two → Con1 Tryz.prog gl 80 [a.dv, v.dv] [] (dbool (a.overN v)) [] := by
  induction a using Val.ind with
  | h a ih =>
  intro v ha hv
  obtain ⟨ha1, ha2⟩ := (Val.two_eq a).1 ha
  obtain ⟨hv1, hv2⟩ := (Val.two_eq v).1 hv
  refine t_in Tryz.func80 ?_
  intro X hP hgl hf hfn hn hR hids hfit
  rw [Val.overN_eq] at hR
  have hfv := Val.fold v
  have hfa := Val.fold a
  by_cases h1 : a.kind = 1
  · by_cases h2 : v.kind = 1 ∨ v.kind = 2
    · rw [if_pos ⟨h1, h2⟩] at hR
      rcases h2 with h2 | h2
      · rw [h2] at hfv
        refine t_g (j2 @h1 @h2) ?_
        refine t_c1 @hfv (bound_ok v hv) ?_
        refine t_r ?_
        simp [go_sem, hP, hgl, hn] <;> (try omega)
      · rw [h2] at hfv
        refine t_g (j2 @h1 @h2) ?_
        refine t_c1 @hfv (bound_ok v hv) ?_
        refine t_r ?_
        simp [go_sem, hP, hgl, hn] <;> (try omega)
    · rw [if_neg (fun h => h2 h.2), if_neg (fun h => by rw [h1] at h; exact absurd h.1 (by decide))] at hR
      have h3 : ¬ v.kind = 1 := fun h => h2 (.inl h)
      have h4 : ¬ v.kind = 2 := fun h => h2 (.inr h)
      refine t_g (j2 @h1 (j2 @h3 @h4)) ?_
      refine t_r ?_
      simp [go_sem, hP, hgl, hn, h1] <;> (try omega)
  rw [if_neg (fun h => h1 h.1)] at hR
  by_cases h3 : a.kind = 3
  · by_cases h4 : v.kind = 3
    · rw [if_pos ⟨h3, h4⟩] at hR
      have hal := ha1 h3
      have hvl := hv1 h4
      match hargs : a.args, hal, hargs2 : v.args, hvl with
      | [x, y], _, [x', y'], _ =>
      have hx : x ∈ a.args := by rw [hargs]; simp
      have hy : y ∈ a.args := by rw [hargs]; simp
      have hx' : x' ∈ v.args := by rw [hargs2]; simp
      have hy' : y' ∈ v.args := by rw [hargs2]; simp
      rw [hargs, hargs2] at hR
      simp only [Val.overN.overs, Bool.and_true] at hR
      by_cases hq : x.overN x' = true
      · refine t_g (j2 @h1 (j2 @h3 @h4)) ?_
        refine t_c2 (j2 @hargs (j2 @hargs2 @hq)) (ih x hx x' (ha2 x hx) (hv2 x' hx')) (ih y hy y' (ha2 y hy) (hv2 y' hy')) ?_
        refine t_r ?_
        simp [go_sem, hP, hgl, hn, hq] <;> (try omega)
      · have hq' : x.overN x' = false := by simpa using hq
        refine t_g (j2 @h1 (j2 @h3 @h4)) ?_
        refine t_c1 (j2 @hargs (j2 @hargs2 @hq')) (ih x hx x' (ha2 x hx) (hv2 x' hx')) ?_
        refine t_r ?_
        simp [go_sem, hP, hgl, hn, hq'] <;> (try omega)
    · rw [if_neg (fun h => h4 h.2)] at hR
      refine t_g (j2 @h1 (j2 @h3 @h4)) ?_
      refine t_r ?_
      simp [go_sem, hP, hgl, hn, h3] <;> (try omega)
  · rw [if_neg (fun h => h3 h.1)] at hR
    by_cases h5 : a.kind = 4
    · refine t_g (j2 @h1 (j2 @h3 @h5)) ?_
      refine t_r ?_
      simp [go_sem, hP, hgl, hn, h5] <;> (try omega)
    · refine t_g (j2 @h1 (j2 @h3 @h5)) ?_
      refine t_r ?_
      simp [go_sem, hP, hgl, hn, h5] <;> (try omega)

def Val.majorizesN (a v : Val) : Bool := decide (a.checkN = 0) && decide (v.checkN = 0) && a.overN v

theorem majorizes_ok (a v : Val) (hc : a.count ≤ 1073741824) (hc2 : v.count ≤ 1073741824) : Con1 Tryz.prog gl 26 [a.dv, v.dv] [] (dbool (a.majorizesN v)) [] := by
  have hk : ∀ v : Val, (if v.nodesN.2 = true then if v.nodesN.1 > 64 then 4 else 0 else 2) = v.checkN := fun _ => rfl
  have ca := check_ok (gl := gl) a (by omega)
  have cv := check_ok (gl := gl) v (by omega)
  rw [hk] at ca cv
  refine t_in Tryz.func26 ?_
  intro X hP hgl hf hfn hn hR hids hfit
  have hfv := Val.fold v
  have hfa := Val.fold a
  by_cases h1 : a.checkN = 0
  · by_cases h2 : v.checkN = 0
    · refine t_g0 ?_
      refine t_c3 (j2 @hfa (j2 @hfv (j2 @h1 @h2))) ca cv (over_ok a v (Val.two_of a h1) (Val.two_of v h2)) ?_
      refine t_r ?_
      simp [go_sem, hP, hgl, hn, Val.majorizesN, h1, h2] <;> (try omega)
    · refine t_g0 ?_
      refine t_c2 (j2 @hfa (j2 @hfv (j2 @h1 @h2))) ca cv ?_
      refine t_r ?_
      simp [go_sem, hP, hgl, hn, Val.majorizesN, h1, h2] <;> (try omega)
  · refine t_g0 ?_
    refine t_c1 (j2 @hfa (j2 @hfv @h1)) ca ?_
    refine t_r ?_
    simp [go_sem, hP, hgl, hn, Val.majorizesN, h1] <;> (try omega)
end Go.Proofs.YtcldnfbcbkaanaaGreatDoor.Lift

namespace Go.Proofs.YtcldnfbcbkaanaaGreatDoor.Lift
set_option linter.unusedSimpArgs false
set_option linter.unusedVariables false
set_option linter.unnecessarySimpa false
open Go

/-! what is drawn means something -/
def TyQ (t : Ty) (g : List Ty) (x : Tm) : Prop := ∀ (G : List T) (a : T), g = G.map T.ty → t = a.ty → ∃ F : Env G.reverse → a.V, Dn G.reverse x a F

theorem ty_fn_of {s t : Ty} {a : T} (h : Ty.mk 4 [s, t] = a.ty) : ∃ S b, a = .fn S b ∧ s = S.ty ∧ t = b.ty := by
  cases a with
  | fn S b => simp [T.ty] at h; exact ⟨S, b, rfl, h.1, h.2⟩
  | pair S b => simp [T.ty] at h
  | nat => simp [T.ty] at h
  | list => simp [T.ty] at h
  | unit => simp [T.ty] at h
theorem ty_pair_of {s t : Ty} {a : T} (h : Ty.mk 3 [s, t] = a.ty) : ∃ S b, a = .pair S b ∧ s = S.ty ∧ t = b.ty := by
  cases a with
  | pair S b => simp [T.ty] at h; exact ⟨S, b, rfl, h.1, h.2⟩
  | fn S b => simp [T.ty] at h
  | nat => simp [T.ty] at h
  | list => simp [T.ty] at h
  | unit => simp [T.ty] at h
theorem ty_nat_of {a : T} (h : Ty.mk 1 [] = a.ty) : a = .nat := by cases a <;> simp [T.ty] at h ⊢
theorem ty_list_of {a : T} (h : Ty.mk 2 [] = a.ty) : a = .list := by cases a <;> simp [T.ty] at h ⊢
theorem ty_unit_of {a : T} (h : Ty.mk 5 [] = a.ty) : a = .unit := by cases a <;> simp [T.ty] at h ⊢
theorem small_T {s : Ty} (h : s.small) : ∃ S : T, s = S.ty ∧ S.ok ∧ S.size ≤ 15 := by
  obtain ⟨S, rfl⟩ := T.of_shape s h.1
  have := h.2
  rw [T.ty_count] at this
  exact ⟨S, rfl, by unfold T.ok; omega, this⟩
theorem dn_num (Γ : List T) : ∀ n : Nat, ∃ F : Env Γ → T.nat.V, Dn Γ (numTm n) .nat F
  | 0 => ⟨_, .zero⟩
  | n + 1 => by
    obtain ⟨F, h⟩ := dn_num Γ n
    exact ⟨_, .succ h⟩

theorem draw_typed : DrawOK TyQ where
  var g i hi G a hg ht := by
    subst hg
    have hl : i < G.length := by simpa using hi
    obtain ⟨b, hb⟩ : ∃ b, G[G.length - 1 - i]? = some b := ⟨_, List.getElem?_eq_getElem (by omega)⟩
    have hv : varTy (G.map T.ty) i = b.ty := by
      unfold varTy
      rw [List.getD_eq_getElem?_getD, List.length_map, List.getElem?_map, hb]
      rfl
    have hab : a = b := T.ty_inj (by rw [← ht, hv])
    subst hab
    have hr : G.reverse[i]? = some a := by rw [List.getElem?_reverse hl, hb]
    obtain ⟨p, hp⟩ := At.of hr
    exact ⟨p, .var hp⟩
  num g n _ G a hg ht := by
    obtain rfl := ty_nat_of ht
    exact dn_num _ n
  app g s t f x hs ht hf hx G a hg hta := by
    obtain ⟨S, rfl, -⟩ := small_T hs
    obtain ⟨F, h1⟩ := hf G (.fn S a) hg (by rw [hta]; rfl)
    obtain ⟨X, h2⟩ := hx G S hg rfl
    exact ⟨_, .app h1 h2⟩
  lam g s t x hs ht hx G a hg hta := by
    obtain ⟨S, b, rfl, rfl, rfl⟩ := ty_fn_of hta
    obtain ⟨S', e, ho, -⟩ := small_T hs
    obtain rfl := T.ty_inj e
    have := hx (G ++ [S]) b (by rw [hg, List.map_append]; rfl) rfl
    rw [List.reverse_append] at this
    obtain ⟨F, h1⟩ := this
    exact ⟨_, .lam ho h1⟩
  lam2 g s t r x hs ht hr hx G a hg hta := by
    obtain ⟨S, b1, rfl, rfl, hb1⟩ := ty_fn_of hta
    obtain ⟨S2, b, rfl, rfl, rfl⟩ := ty_fn_of hb1
    obtain ⟨_, e, ho, -⟩ := small_T hs
    obtain rfl := T.ty_inj e
    obtain ⟨_, e, ho2, -⟩ := small_T ht
    obtain rfl := T.ty_inj e
    have := hx (G ++ [S, S2]) b (by rw [hg, List.map_append]; rfl) rfl
    rw [List.reverse_append] at this
    obtain ⟨F, h1⟩ := this
    exact ⟨_, .lam ho (.lam ho2 h1)⟩
  lam3 g s t u r x hs ht hu hr hx G a hg hta := by
    obtain ⟨S, b1, rfl, rfl, hb1⟩ := ty_fn_of hta
    obtain ⟨S2, b2, rfl, rfl, hb2⟩ := ty_fn_of hb1
    obtain ⟨S3, b, rfl, rfl, rfl⟩ := ty_fn_of hb2
    obtain ⟨_, e, ho, -⟩ := small_T hs
    obtain rfl := T.ty_inj e
    obtain ⟨_, e, ho2, -⟩ := small_T ht
    obtain rfl := T.ty_inj e
    obtain ⟨_, e, ho3, -⟩ := small_T hu
    obtain rfl := T.ty_inj e
    have := hx (G ++ [S, S2, S3]) b (by rw [hg, List.map_append]; rfl) rfl
    rw [List.reverse_append] at this
    obtain ⟨F, h1⟩ := this
    exact ⟨_, .lam ho (.lam ho2 (.lam ho3 h1))⟩
  pair g s t x y hs ht hx hy G a hg hta := by
    obtain ⟨S, b, rfl, rfl, rfl⟩ := ty_pair_of hta
    obtain ⟨F, h1⟩ := hx G S hg rfl
    obtain ⟨X, h2⟩ := hy G b hg rfl
    exact ⟨_, .pair h1 h2⟩
  fst g s t x hs ht hx G a hg hta := by
    obtain ⟨S, rfl, -⟩ := small_T ht
    obtain ⟨F, h1⟩ := hx G (.pair a S) hg (by rw [hta]; rfl)
    exact ⟨_, .fst h1⟩
  snd g s t x hs ht hx G a hg hta := by
    obtain ⟨S, rfl, -⟩ := small_T hs
    obtain ⟨F, h1⟩ := hx G (.pair S a) hg (by rw [hta]; rfl)
    exact ⟨_, .snd h1⟩
  rc g t x f n ht hx hf hn G a hg hta := by
    subst hta
    obtain ⟨_, e, ho, -⟩ := small_T ht
    obtain rfl := T.ty_inj e
    obtain ⟨B, h1⟩ := hx G a hg rfl
    obtain ⟨F, h2⟩ := hf G (.fn .nat (.fn a a)) hg rfl
    obtain ⟨N, h3⟩ := hn G .nat hg rfl
    exact ⟨_, .rc ho h1 h2 h3⟩
  fold g t x f n ht hx hf hn G a hg hta := by
    subst hta
    obtain ⟨_, e, ho, -⟩ := small_T ht
    obtain rfl := T.ty_inj e
    obtain ⟨B, h1⟩ := hx G a hg rfl
    obtain ⟨F, h2⟩ := hf G (.fn .nat (.fn .list (.fn a a))) hg rfl
    obtain ⟨N, h3⟩ := hn G .list hg rfl
    exact ⟨_, .fold ho h1 h2 h3⟩
  succ g x hx G a hg hta := by
    obtain rfl := ty_nat_of hta
    obtain ⟨F, h1⟩ := hx G .nat hg rfl
    exact ⟨_, .succ h1⟩
  plus g x y hx hy G a hg hta := by
    obtain rfl := ty_nat_of hta
    obtain ⟨F, h1⟩ := hx G .nat hg rfl
    obtain ⟨X, h2⟩ := hy G .nat hg rfl
    exact ⟨_, .app (.app (dn_plus _) h1) h2⟩
  sub g x y hx hy G a hg hta := by
    obtain rfl := ty_nat_of hta
    obtain ⟨F, h1⟩ := hx G .nat hg rfl
    obtain ⟨X, h2⟩ := hy G .nat hg rfl
    exact ⟨_, .app (.app (dn_sub _) h1) h2⟩
  nil g G a hg hta := by
    obtain rfl := ty_list_of hta
    exact ⟨_, .nil⟩
  cons g x y hx hy G a hg hta := by
    obtain rfl := ty_list_of hta
    obtain ⟨F, h1⟩ := hx G .nat hg rfl
    obtain ⟨X, h2⟩ := hy G .list hg rfl
    exact ⟨_, .cons h1 h2⟩
  unit g G a hg hta := by
    obtain rfl := ty_unit_of hta
    exact ⟨_, .unit⟩

theorem termD_dn (l : List Int) (n : Nat) {t : Ty} {g : List Ty} {p : Nat} (ht : t.small) (hg : ∀ x ∈ g, x.small) (hp : p ≤ l.length) {G : List T} {a : T} (eg : g = G.map T.ty) (et : t = a.ty) :
    ∃ F : Env G.reverse → a.V, Dn G.reverse (termD l n t g p).1 a F := (termD_facts draw_typed n t g p ht hg hp).2 G a eg et

/-- the majorant of a term that means something -/
theorem mterm_dn {Γ : List T} {t : Tm} {a : T} {F : Env Γ → a.V} (h : Dn Γ t a F) (hl : Γ.length ≤ 1000) : (t.mTermE = (majT t, 0) ∧ (majT t).count ≤ 268435456 ∧ t.count ≤ 4096) ∨ t.mTermE.2 = 4 := by
  unfold Tm.mTermE
  by_cases h0 : t.checkN = 0
  · have hk := (Tm.checkN_iff t).1 h0
    rw [if_pos h0, if_pos (dn_least h 268435456 (by omega))]
    obtain ⟨h1, h2⟩ := majE_dn h
    rcases h2 with h2 | h2
    · left
      have hf := (fine_maj t hk.1 (Tm.idx_of t 268435456 hk.1 (dn_least h 268435456 (by omega))) (by decide)).1
      rw [h1 h2] at hf
      refine ⟨?_, hf, hk.2⟩
      unfold runT
      rw [if_pos h2]
      exact Prod.ext (h1 h2) h2
    · right
      unfold runT
      rw [if_neg (by rw [h2]; decide)]
      exact h2
  · rw [if_neg h0]
    right
    have hs := dn_shape h
    unfold Tm.checkN at h0 ⊢
    rw [if_pos hs] at h0 ⊢
    split at h0
    · rename_i hq; rw [if_pos hq]
    · exact absurd rfl h0

end Go.Proofs.YtcldnfbcbkaanaaGreatDoor.Lift

namespace Go.Proofs.YtcldnfbcbkaanaaGreatDoor.Lift
set_option linter.unusedSimpArgs false
set_option linter.unusedVariables false
set_option linter.unnecessarySimpa false
open Go

/-! functions of plain types with values for them, as they are drawn -/
def plainsD (l : List Int) : Nat → Nat → (List Ty × List Val) × Nat
  | 0, p => (([], []), p)
  | k + 1, p =>
    let t := plainD l p
    let v := mkVal l t.1 t.2
    let r := plainsD l k v.2
    ((t.1 :: r.1.1, v.1 :: r.1.2), r.2)
def funD (l : List Int) (p : Nat) : (Tm × List Val) × Nat :=
  let k := nextD l p 2
  let ps := plainsD l (k.1.toNat + 1) k.2
  let r := plainD l ps.2
  let b := termD l 3 r.1 ps.1.1 r.2
  ((lamsT b.1 ps.1.1, ps.1.2), b.2)

theorem numsD_T {l : List Int} : ∀ (n p : Nat), ∃ xs : List Nat, (numsD l p n).1 = xs.map Int.ofNat ∧ xs.length = n ∧ ∀ x ∈ xs, x ≤ 3
  | 0, p => ⟨[], rfl, rfl, fun x h => by cases h⟩
  | n + 1, p => by
    obtain ⟨xs, h1, h2, h3⟩ := numsD_T (l := l) n (nextD l p 4).2
    have hb := nextD_bd (l := l) (p := p) (n := 4) (by decide)
    refine ⟨(nextD l p 4).1.toNat :: xs, ?_, by simp [h2], fun x hx => ?_⟩
    · simp only [numsD, List.map_cons, h1]
      congr 1
      show _ = ((nextD l p 4).1.toNat : Int)
      omega
    · rcases List.mem_cons.1 hx with rfl | hx
      · omega
      · exact h3 x hx

theorem mkVal_T (l : List Int) : ∀ (a : T) (p : Nat), a.plain → ∃ x : a.V, (mkVal l a.ty p).1 = valOf a x ∧ (ofM a x).le 5
  | .nat, p, _ => by
    have hb := nextD_bd (l := l) (p := p) (n := 5) (by decide)
    refine ⟨((nextD l p 5).1.toNat : Nat), ?_, ?_⟩
    · rw [mkVal_eq, if_pos (show T.nat.ty.kind = 1 from rfl)]
      show Val.mk 1 _ [] [] = Val.mk 1 ((nextD l p 5).1.toNat : Int) [] []
      rw [show ((nextD l p 5).1.toNat : Int) = (nextD l p 5).1 by omega]
    · show (((nextD l p 5).1.toNat : Nat) : Int) ≤ 5
      omega
  | .list, p, _ => by
    have hb := nextD_bd (l := l) (p := p) (n := 4) (by decide)
    obtain ⟨xs, h1, h2, h3⟩ := numsD_T (l := l) (nextD l p 4).1.toNat (nextD l p 4).2
    refine ⟨xs, ?_, ?_⟩
    · rw [mkVal_eq, if_neg (show ¬ T.list.ty.kind = 1 by decide), if_pos (show T.list.ty.kind = 2 from rfl), h1]
      rfl
    · show (xs.length : Int) ≤ 5 ∧ ∀ x ∈ xs, (x : Int) ≤ 5
      exact ⟨by omega, fun x hx => by have := h3 x hx; omega⟩
  | .unit, p, _ => ⟨(), by rw [mkVal_eq]; rfl, trivial⟩
  | .pair a b, p, h => by
    obtain ⟨x, h1, h2⟩ := mkVal_T l a p h.1
    obtain ⟨y, h3, h4⟩ := mkVal_T l b (mkVal l a.ty p).2 h.2
    refine ⟨(x, y), ?_, ⟨h2, h4⟩⟩
    rw [mkVal_eq, if_neg (show ¬ (T.pair a b).ty.kind = 1 by simp [T.ty, Ty.kind]), if_neg (show ¬ (T.pair a b).ty.kind = 2 by simp [T.ty, Ty.kind]), if_pos (show (T.pair a b).ty.kind = 3 from rfl)]
    show Val.mk 3 0 [] [_, _] = Val.mk 3 0 [] [valOf a x, valOf b y]
    rw [← h1, ← h3]
  | .fn _ _, _, h => h.elim

theorem plainD_T (l : List Int) (p : Nat) : ∃ a : T, (plainD l p).1 = a.ty ∧ a.plain ∧ a.size ≤ 3 := by
  rcases plainD_cases l p with h | h | h | h | h
  · exact ⟨.nat, h, trivial, by decide⟩
  · exact ⟨.list, h, trivial, by decide⟩
  · exact ⟨.unit, h, trivial, by decide⟩
  · exact ⟨.pair .nat .list, h, ⟨trivial, trivial⟩, by decide⟩
  · exact ⟨.pair .nat .nat, h, ⟨trivial, trivial⟩, by decide⟩
theorem small_ty {a : T} (h : a.size ≤ 15) : a.ty.small := ⟨T.ty_shape a, by rw [T.ty_count]; exact h⟩
theorem plainD_le {l : List Int} {p : Nat} (h : p ≤ l.length) : (plainD l p).2 ≤ l.length := nextD_le (n := 6) h

theorem plainsD_facts (l : List Int) : ∀ (k p : Nat), p ≤ l.length → ∃ (ls : List T) (X : Env ls), (plainsD l k p).1.1 = ls.map T.ty ∧ (plainsD l k p).1.2 = valsOf ls X ∧ Plains ls ∧ MV.les 5 (mvsOf ls X) ∧ ls.length = k ∧ (plainsD l k p).2 ≤ l.length ∧ ∀ x ∈ (plainsD l k p).1.1, x.small
  | 0, p, hp => ⟨[], (), rfl, rfl, trivial, trivial, rfl, hp, fun x h => by cases h⟩
  | k + 1, p, hp => by
    obtain ⟨a, ha, hap, has⟩ := plainD_T l p
    obtain ⟨x, hx, hxl⟩ := mkVal_T l a (plainD l p).2 hap
    rw [← ha] at hx
    obtain ⟨ls, X, h1, h2, h3, h4, h5, h6, h7⟩ := plainsD_facts l k (mkVal l (plainD l p).1 (plainD l p).2).2 (mkVal_le _ (plainD_le hp))
    refine ⟨a :: ls, (x, X), ?_, ?_, ⟨hap, by unfold T.ok; omega, h3⟩, ⟨hxl, h4⟩, by simp [h5], h6, ?_⟩
    · simp only [plainsD, List.map_cons]; rw [h1, ha]
    · simp only [plainsD, valsOf, h2, hx]
    · intro y hy
      simp only [plainsD] at hy
      rcases List.mem_cons.1 hy with rfl | hy
      · rw [ha]; exact small_ty (by omega)
      · exact h7 y hy

theorem dn_lams : ∀ (ls : List T) {Γ : List T} {b : Tm} {r : T} {F : Env (ls.reverse ++ Γ) → r.V}, Plains ls → Dn (ls.reverse ++ Γ) b r F → ∃ F' : Env Γ → (FnT ls r).V, Dn Γ (lamsT b (ls.map T.ty)) (FnT ls r) F'
  | [], Γ, b, r, F, _, h => ⟨F, h⟩
  | a :: ls, Γ, b, r, F, hp, h => by
    have key : ∀ Θ : List T, Θ = ls.reverse ++ (a :: Γ) → ∀ F : Env Θ → r.V, Dn Θ b r F → ∃ F' : Env (a :: Γ) → (FnT ls r).V, Dn (a :: Γ) (lamsT b (ls.map T.ty)) (FnT ls r) F' := by
      intro Θ e F h
      subst e
      exact dn_lams ls hp.2.2 h
    obtain ⟨F', h'⟩ := key _ (by simp) F h
    exact ⟨_, .lam hp.2.1 h'⟩

theorem lamsT_count (b : Tm) : ∀ l : List Ty, (lamsT b l).count = b.count + l.length
  | [] => rfl
  | s :: l => by
    show 1 + ((lamsT b l).count + 0) = _
    rw [lamsT_count b l, List.length_cons]
    omega

theorem funD_facts (l : List Int) {p : Nat} (hp : p ≤ l.length) : ∃ (ls : List T) (X : Env ls) (r : T) (F : Env [] → (FnT ls r).V), (funD l p).1.2 = valsOf ls X ∧ Plains ls ∧ MV.les 5 (mvsOf ls X) ∧ ls.length ≤ 2 ∧ r.plain ∧ r.ok ∧ Dn [] (funD l p).1.1 (FnT ls r) F ∧ (funD l p).1.1.count ≤ 1500 ∧ (funD l p).2 ≤ l.length := by
  have hb := nextD_bd (l := l) (p := p) (n := 2) (by decide)
  have hq := nextD_le (n := 2) hp
  unfold funD
  simp only
  generalize nextD l p 2 = kk at *
  obtain ⟨k, q⟩ := kk
  simp only at hb hq ⊢
  obtain ⟨ls, X, h1, h2, h3, h4, h5, h6, h7⟩ := plainsD_facts l (k.toNat + 1) q hq
  generalize plainsD l (k.toNat + 1) q = ps at *
  obtain ⟨⟨ts, vs⟩, q2⟩ := ps
  simp only at h1 h2 h6 h7 ⊢
  obtain ⟨r, hr, hrp, hrs⟩ := plainD_T l q2
  have hq3 := plainD_le h6
  generalize plainD l q2 = pr at *
  obtain ⟨tr, q3⟩ := pr
  simp only at hr hq3 ⊢
  have hsm : tr.small := by rw [hr]; exact small_ty (by omega)
  have hc := termD_count l 3 tr ts q3 hsm h7 hq3
  rw [show drawB 3 = 1475 from rfl] at hc
  obtain ⟨F, hd⟩ := termD_dn l 3 hsm h7 hq3 h1 hr
  have hle := (termD_facts draw_typed 3 tr ts q3 hsm h7 hq3).1
  have hd' : ∃ F, Dn (ls.reverse ++ []) (termD l 3 tr ts q3).1 r F := by rw [List.append_nil]; exact ⟨F, hd⟩
  obtain ⟨F, hd'⟩ := hd'
  obtain ⟨F', hd''⟩ := dn_lams ls h3 hd'
  rw [← h1] at hd''
  refine ⟨ls, X, r, F', h2, h3, h4, by omega, hrp, by unfold T.ok; omega, hd'', ?_, hle⟩
  rw [lamsT_count]
  have : ts.length = ls.length := by rw [h1, List.length_map]
  omega
end Go.Proofs.YtcldnfbcbkaanaaGreatDoor.Lift

namespace Go.Proofs.YtcldnfbcbkaanaaGreatDoor.Lift
set_option linter.unusedSimpArgs false
set_option linter.unusedVariables false
set_option linter.unnecessarySimpa false
open Go

/-! the plain law of MajorantBounds: least majorants of plain values, and calls with them -/
theorem mostOf_ge : ∀ (l : List Int) (n : Int), n ≤ mostOf n l ∧ ∀ x ∈ l, x ≤ mostOf n l
  | [], n => ⟨Int.le_refl n, fun x h => by cases h⟩
  | y :: l, n => by
    obtain ⟨h1, h2⟩ := mostOf_ge l (max n y)
    refine ⟨?_, fun x hx => ?_⟩
    · show n ≤ mostOf (max n y) l
      omega
    · show x ≤ mostOf (max n y) l
      rcases List.mem_cons.1 hx with rfl | hx
      · omega
      · exact h2 x hx
theorem mostOf_le {B : Int} : ∀ (l : List Int) (n : Int), n ≤ B → (∀ x ∈ l, x ≤ B) → mostOf n l ≤ B
  | [], n, h, _ => h
  | y :: l, n, h, k => mostOf_le l (max n y) (by have := k y (by simp); omega) fun x hx => k x (by simp [hx])

def bnd : (a : T) → a.V → a.maj.V
  | .nat, n => n
  | .list, l => (mostOf (List.length l : Nat) (List.map Int.ofNat l)).toNat
  | .unit, _ => ()
  | .pair a b, p => (bnd a p.1, bnd b p.2)
  | .fn a b, _ => (T.fn a b).maj.dflt
theorem bnd_list (l : List Nat) : ((mostOf (l.length : Nat) (l.map Int.ofNat)).toNat : Int) = mostOf (l.length : Nat) (l.map Int.ofNat) := by
  have := (mostOf_ge (l.map Int.ofNat) (l.length : Nat)).1
  omega
theorem bnd_val_list (l : List Nat) : (Val.mk 2 0 (l.map Int.ofNat) []).boundN = Val.mk 1 (((mostOf (l.length : Nat) (l.map Int.ofNat)).toNat : Nat) : Int) [] [] := by
  rw [Val.boundN_eq, if_pos (show (Val.mk 2 0 (l.map Int.ofNat) []).kind = 2 from rfl)]
  show Val.mk 1 (mostOf ((List.map Int.ofNat l).length : Nat) (List.map Int.ofNat l)) [] [] = _
  rw [bnd_list, List.length_map]
theorem bnd_le_list {N : Int} (l : List Nat) (h : (l.length : Int) ≤ N ∧ ∀ x ∈ l, (x : Int) ≤ N) : (((mostOf (l.length : Nat) (l.map Int.ofNat)).toNat : Nat) : Int) ≤ N := by
  rw [bnd_list]
  exact mostOf_le _ _ h.1 fun x hx => by
    obtain ⟨y, hy, rfl⟩ := List.mem_map.1 hx
    exact h.2 y hy
theorem bnd_val : ∀ (a : T) (x : a.V), a.plain → (valOf a x).boundN = valOf a.maj (bnd a x)
  | .nat, n, _ => by rw [Val.boundN_eq]; rfl
  | .list, l, _ => bnd_val_list l
  | .unit, _, _ => by rw [Val.boundN_eq]; rfl
  | .pair a b, p, h => by
    rw [Val.boundN_eq, if_neg (show ¬ (valOf (.pair a b) p).kind = 2 by simp [valOf, Val.kind]), if_pos (show (valOf (.pair a b) p).kind = 3 from rfl)]
    show Val.mk 3 0 [] [(valOf a p.1).boundN, (valOf b p.2).boundN] = Val.mk 3 0 [] [valOf a.maj (bnd a p.1), valOf b.maj (bnd b p.2)]
    rw [bnd_val a p.1 h.1, bnd_val b p.2 h.2]
  | .fn _ _, _, h => h.elim
theorem bnd_mj : ∀ (a : T) (x : a.V), a.plain → Mj a (bnd a x) x
  | .nat, n, _ => Nat.le_refl n
  | .list, l, _ => by
    obtain ⟨h1, h2⟩ := mostOf_ge (List.map Int.ofNat l) (List.length l : Nat)
    have h3 := bnd_list l
    refine ⟨?_, fun x hx => ?_⟩
    · show List.length l ≤ (mostOf (List.length l : Nat) (List.map Int.ofNat l)).toNat
      omega
    · have := h2 (Int.ofNat x) (List.mem_map_of_mem (f := Int.ofNat) hx)
      show x ≤ (mostOf (List.length l : Nat) (List.map Int.ofNat l)).toNat
      have h4 : (x : Int) ≤ mostOf (List.length l : Nat) (List.map Int.ofNat l) := this
      omega
  | .unit, _, _ => trivial
  | .pair a b, p, h => ⟨bnd_mj a p.1 h.1, bnd_mj b p.2 h.2⟩
  | .fn _ _, _, h => h.elim
theorem bnd_le {N : Int} (hN : 0 ≤ N) : ∀ (a : T) (x : a.V), a.plain → (ofM a x).le N → (ofM a.maj (bnd a x)).le N
  | .nat, n, _, h => h
  | .list, l, _, h => bnd_le_list l h
  | .unit, _, _, _ => trivial
  | .pair a b, p, hp, h => ⟨bnd_le hN a p.1 hp.1 h.1, bnd_le hN b p.2 hp.2 h.2⟩
  | .fn _ _, _, hp, _ => hp.elim
theorem maj_plain : ∀ {a : T}, a.plain → a.maj.plain
  | .nat, _ => trivial
  | .list, _ => trivial
  | .unit, _ => trivial
  | .pair _ _, h => ⟨maj_plain h.1, maj_plain h.2⟩

theorem over_mj : ∀ (r : T) (Y : r.maj.V) (y : r.V), r.plain → Mj r Y y → (valOf r.maj Y).overN (valOf r y) = true
  | .nat, Y, y, _, h => by
    rw [Val.overN_eq, if_pos ⟨rfl, .inl rfl⟩]
    exact decide_eq_true (show (valOf .nat y).boundN.num ≤ Int.ofNat Y by rw [Val.boundN_eq]; exact Int.ofNat_le.2 h)
  | .list, Y, l, _, h => by
    rw [Val.overN_eq, if_pos ⟨rfl, .inr rfl⟩]
    refine decide_eq_true ?_
    rw [bnd_val .list l trivial]
    exact bnd_le_list l ⟨Int.ofNat_le.2 h.1, fun y hy => Int.ofNat_le.2 (h.2 y hy)⟩
  | .unit, _, _, _, _ => by rw [Val.overN_eq]; rfl
  | .pair a b, Y, y, hp, h => by
    have h1 := over_mj a Y.1 y.1 hp.1 h.1
    have h2 := over_mj b Y.2 y.2 hp.2 h.2
    rw [Val.overN_eq, if_neg (by rintro ⟨h, -⟩; exact absurd h (show ¬ (valOf (T.pair a b).maj Y).kind = 1 by show ¬ (3 : Int) = 1; decide)), if_pos ⟨rfl, rfl⟩]
    show ((valOf a.maj Y.1).overN (valOf a y.1) && ((valOf b.maj Y.2).overN (valOf b y.2) && true)) = true
    rw [h1, h2]; rfl
  | .fn _ _, _, _, h, _ => h.elim
theorem majorizes_mj {r : T} {Y : r.maj.V} {y : r.V} (hp : r.plain) (ho : r.ok) (h : Mj r Y y) : (valOf r.maj Y).majorizesN (valOf r y) = true := by
  unfold Val.majorizesN
  rw [valOf_check Y (maj_plain hp) (maj_ok ho), valOf_check y hp ho, over_mj r Y y hp h]
  rfl
theorem mvalue_val {a : T} (x : a.V) (hp : a.plain) (ho : a.ok) : (valOf a x).mValueE = ((valOf a x).boundN, 0) := by
  unfold Val.mValueE
  rw [if_pos (valOf_check x hp ho)]

def bndE : (ls : List T) → Env ls → Env (ls.map T.maj)
  | [], _ => ()
  | a :: ls, e => (bnd a e.1, bndE ls e.2)
theorem bndE_mj : ∀ (ls : List T) (X : Env ls), Plains ls → MjE ls (bndE ls X) X
  | [], _, _ => trivial
  | a :: ls, X, h => ⟨bnd_mj a X.1 h.1, bndE_mj ls X.2 h.2.2⟩
theorem bndE_vals : ∀ (ls : List T) (X : Env ls), Plains ls → (valsOf ls X).map Val.boundN = valsOf (ls.map T.maj) (bndE ls X)
  | [], _, _ => rfl
  | a :: ls, X, h => by
    show (valOf a X.1).boundN :: (valsOf ls X.2).map Val.boundN = valOf a.maj (bnd a X.1) :: valsOf (ls.map T.maj) (bndE ls X.2)
    rw [bnd_val a X.1 h.1, bndE_vals ls X.2 h.2.2]
theorem bndE_le {N : Int} (hN : 0 ≤ N) : ∀ (ls : List T) (X : Env ls), Plains ls → MV.les N (mvsOf ls X) → MV.les N (mvsOf (ls.map T.maj) (bndE ls X))
  | [], _, _, _ => trivial
  | a :: ls, X, h, k => ⟨bnd_le hN a X.1 h.1 k.1, bndE_le hN ls X.2 h.2.2 k.2⟩
theorem plains_maj : ∀ {ls : List T}, Plains ls → Plains (ls.map T.maj)
  | [], _ => trivial
  | _ :: _, h => ⟨maj_plain h.1, maj_ok h.2.1, plains_maj h.2.2⟩

theorem valsOf_all : ∀ (ls : List T) (X : Env ls), Plains ls → ∀ v ∈ valsOf ls X, v.mValueE = (v.boundN, 0) ∧ v.count ≤ 64
  | [], _, _, v, hv => by cases hv
  | a :: ls, X, h, v, hv => by
    rcases List.mem_cons.1 hv with rfl | hv
    · have h1 := (valOf_nodes a X.1 h.1).2
      have h2 : a.size ≤ 64 := h.2.1
      exact ⟨mvalue_val X.1 h.1 h.2.1, by omega⟩
    · exact valsOf_all ls X.2 h.2.2 v hv

/-- a majorant called with values, in its own form -/
def applM : (ls : List T) → {r : T} → (FnT ls r).maj.V → Env (ls.map T.maj) → r.maj.V
  | [], _, f, _ => f
  | _ :: ls, _, f, e => applM ls (f e.1) e.2
theorem applM_mj : ∀ (ls : List T) {r : T} {P : (FnT ls r).maj.V} {f : (FnT ls r).V} {X : Env (ls.map T.maj)} {x : Env ls}, Mj (FnT ls r) P f → MjE ls X x → Mj r (applM ls P X) (appl ls f x)
  | [], _, _, _, _, _, h, _ => h
  | a :: ls, _, _, _, _, _, h, k => applM_mj ls (h.1 _ _ k.1) k.2
theorem cast_fn {A B : T} (e : A = B) {a : T} (P : (T.fn a A).V) (x : a.V) : (cast (congrArg T.V (congrArg (T.fn a) e)) P : (T.fn a B).V) x = cast (congrArg T.V e) (P x) := by
  subst e; rfl
theorem fnT_maj : ∀ (ls : List T) (r : T), (FnT ls r).maj = FnT (ls.map T.maj) r.maj
  | [], _ => rfl
  | a :: ls, r => congrArg (T.fn a.maj) (fnT_maj ls r)
theorem appl_cast : ∀ (ls : List T) {r : T} (P : (FnT ls r).maj.V) (X : Env (ls.map T.maj)), appl (ls.map T.maj) (cast (congrArg T.V (fnT_maj ls r)) P) X = applM ls P X
  | [], _, _, _ => rfl
  | a :: ls, r, P, X => by
    show appl (ls.map T.maj) ((cast (congrArg T.V (congrArg (T.fn a.maj) (fnT_maj ls r))) P : (T.fn a.maj (FnT (ls.map T.maj) r.maj)).V) X.1) X.2 = applM ls (P X.1) X.2
    exact (congrArg (fun q => appl (ls.map T.maj) q X.2) (cast_fn (fnT_maj ls r) P X.1)).trans (appl_cast ls (P X.1) X.2)
theorem dn_cast {Γ : List T} {t : Tm} {A B : T} (e : A = B) {F : Env Γ → A.V} (h : Dn Γ t A F) : Dn Γ t B (fun u => cast (congrArg T.V e) (F u)) := by
  subst e; exact h

/-- the majorant of a closed function, as a function of majorants -/
theorem dn_majf {t : Tm} {ls : List T} {r : T} {F : Env [] → (FnT ls r).V} (h : Dn [] t (FnT ls r) F) : ∃ (P : (FnT ls r).maj.V) (G : Env [] → (FnT (ls.map T.maj) r.maj).V), Dn [] (majT t) (FnT (ls.map T.maj) r.maj) G ∧
    (∀ X, appl (ls.map T.maj) (G ()) X = applM ls P X) ∧ Mj (FnT ls r) P (F ()) ∧ Ge (FnT ls r).maj P P := by
  obtain ⟨P, h1, h2, h3⟩ := dn_maj h
  refine ⟨P (), fun u => cast (congrArg T.V (fnT_maj ls r)) (P u), dn_cast (fnT_maj ls r) h1, fun X => appl_cast ls (P ()) X, h2 () () trivial, h3 () () trivial⟩
end Go.Proofs.YtcldnfbcbkaanaaGreatDoor.Lift

/-
  Package bound: Of.
-/
namespace Go.Proofs.YtcldnfbcbkaanaaGreatDoor.Lift
set_option linter.unusedSimpArgs false
set_option linter.unusedVariables false
set_option linter.unnecessarySimpa false
open Go
variable {gl : Globs}

/-- what bound.Of returns -/
def ofR (t : Tm) (v : Val) (c : Nat) (work : Int) : Val × Int × Int := if (t.typeE []).2 = 0 then (if t.mTermE.2 = 0 then callR (majT t) v c work else (zeroV, 0, 4)) else (zeroV, 0, 4)
theorem ofR_err (t : Tm) (v : Val) (c : Nat) (work : Int) : (ofR t v c work).2.2 = 4 ∨ (ofR t v c work).2.2 = 5 ∨ ((ofR t v c work).2.2 = 0 ∧ (ofR t v c work).1 = v) := by
  unfold ofR
  split
  · split
    · exact callR_err _ _ _ _
    · exact .inl rfl
  · exact .inl rfl

theorem bound_of_ok (har : globOf gl 0 = some arEls) {t : Tm} {ls : List T} {r : T} {F : Env [] → (FnT ls r).V} (h : Dn [] t (FnT ls r) F) (hc : t.count ≤ 536870912) {G : Env [] → (FnT (ls.map T.maj) r.maj).V} (hm : Dn [] (majT t) (FnT (ls.map T.maj) r.maj) G) (Z : Env (ls.map T.maj)) (y : r.maj.V) (hl : Plains (ls.map T.maj)) (hll : ls.length ≤ 1000) (hr : r.maj.plain) (hro : r.maj.ok) {c d : Nat} (hcs : callS d (majT t) (mvsOf (ls.map T.maj) Z) = some (ofM r.maj y, c)) (wk : Nat) (hwk : wk ≤ 65536) (M : Nat) (hM : M ≤ 1073000000) (hX : MV.nles M (mvsOf (ls.map T.maj) Z)) :
    Con1 Tryz.prog gl 20 [t.dv, .sl ((valsOf (ls.map T.maj) Z).map Val.cells), dint (wk : Int)] [] (.tup [(ofR t (valOf r.maj y) c wk).1.dv, dint (ofR t (valOf r.maj y) c wk).2.1, dint (ofR t (valOf r.maj y) c wk).2.2]) [] := by
  have hte := terms_typeof_dn (gl := gl) har h hc
  have hft := Tm.fold t
  unfold ofR
  by_cases h0 : (t.typeE []).2 = 0
  rotate_left
  · rw [if_neg h0] at hte ⊢
    have fz : (Ty.mk 0 []).dv = .agg [dint 0, .sl []] := rfl
    rw [fz] at hte
    refine t_in Tryz.func20 ?_
    intro X hP hgl hf hfn hn hR hids hfit
    refine t_g0 ?_
    refine t_c1 @hft hte ?_
    refine t_g0 ?_
    refine t_r ?_
    simp [go_sem, hP, hgl, hn, zeroV] <;> (try omega)
    all_goals exact t_f
  rw [if_pos h0] at hte ⊢
  have w2 := mterm_ok (gl := gl) har t (shape_tys t (dn_shape h)) (by omega)
  have hfr := Ty.fold (FnT ls r).ty
  rcases mterm_dn h (by simp) with ⟨h1, h2, -⟩ | h4
  rotate_left
  · rw [if_neg (by rw [h4]; decide)]
    rw [h4] at w2
    generalize t.mTermE.1 = q at *
    have hfq := Tm.fold q
    refine t_in Tryz.func20 ?_
    intro X hP hgl hf hfn hn hR hids hfit
    refine t_g0 ?_
    refine t_c1 @hft hte ?_
    refine t_g0 ?_
    refine t_c1 @hft w2 ?_
    refine t_g0 ?_
    refine t_r ?_
    simp [go_sem, hP, hgl, hn, zeroV] <;> (try omega)
    all_goals exact t_f
  rw [h1] at w2 ⊢
  rw [if_pos rfl]
  have w3 := machine_call_dn (gl := gl) har hm (by omega) Z y hl (by simp; omega) hr hro hcs wk hwk M hM hX
  have hfm := Tm.fold (majT t)
  generalize callR (majT t) (valOf r.maj y) c wk = cr at *
  have hfc := Val.fold cr.1
  generalize majT t = m at *
  refine t_in Tryz.func20 ?_
  intro X hP hgl hf hfn hn hR hids hfit
  refine t_g0 ?_
  refine t_c1 @hft hte ?_
  refine t_g0 ?_
  refine t_c1 @hft w2 ?_
  refine t_g0 ?_
  refine t_c1 @hfm w3 ?_
  refine t_r ?_
  simp [go_sem, hP, hgl, hn] <;> (try omega)
  all_goals exact t_f
end Go.Proofs.YtcldnfbcbkaanaaGreatDoor.Lift

/-
  Package bound: Within.
-/
namespace Go.Proofs.YtcldnfbcbkaanaaGreatDoor.Lift
set_option linter.unusedSimpArgs false
set_option linter.unusedVariables false
set_option linter.unnecessarySimpa false
open Go
variable {gl : Globs}

/-- what bound.Within returns, of what the calls return -/
def withinR (A O : Val × Int × Int) : Bool × Int := if A.2.2 = 0 then (decide (O.2.2 = 0), O.2.2) else (false, A.2.2)

mutual
theorem le_nleB {n : Nat} : ∀ v : MV, v.le (n : Int) → v.nle n
  | .num k, h => by simp only [MV.le, MV.nle] at h ⊢; omega
  | .list l, h => by
    simp only [MV.le, MV.nle] at h ⊢
    exact ⟨by omega, fun x hx => by have := h.2 x hx; omega⟩
  | .both a b, h => by simp only [MV.le, MV.nle] at h ⊢; exact ⟨le_nleB a h.1, le_nleB b h.2⟩
  | .unit, _ => by simp only [MV.nle]
  | .clo _ e, h => by simp only [MV.le, MV.nle] at h ⊢; exact les_nlesB e h.2
theorem les_nlesB {n : Nat} : ∀ l : List MV, MV.les (n : Int) l → MV.nles n l
  | [], _ => by simp only [MV.nles]
  | v :: l, h => by simp only [MV.les, MV.nles] at h ⊢; exact ⟨le_nleB v h.1, les_nlesB l h.2⟩
end

set_option maxHeartbeats 1000000 in
set_option maxRecDepth 100000 in
theorem bound_within_ok (har : globOf gl 0 = some arEls) {t : Tm} {ls : List T} {r : T} {F : Env [] → (FnT ls r).V} (h : Dn [] t (FnT ls r) F) (hc : t.count ≤ 536870912) {G : Env [] → (FnT (ls.map T.maj) r.maj).V} (hm : Dn [] (majT t) (FnT (ls.map T.maj) r.maj) G)
    (Z : Env ls) (y : r.V) (y' : r.maj.V) (hmm : (valOf r.maj y').majorizesN (valOf r y) = true) (hl : Plains ls) (hll : ls.length ≤ 1000) (hr : r.plain) (hro : r.ok) {c d c' d' : Nat} (hcs : callS d t (mvsOf ls Z) = some (ofM r y, c)) (hcs' : callS d' (majT t) (mvsOf (ls.map T.maj) (bndE ls Z)) = some (ofM r.maj y', c')) (wk : Nat) (hwk : wk ≤ 65536) (hX : MV.les (1000000 : Nat) (mvsOf ls Z)) :
    Con1 Tryz.prog gl 10 [t.dv, .sl ((valsOf ls Z).map Val.cells), dint (wk : Int)] [] (.tup [dbool (withinR (callR t (valOf r y) c wk) (ofR t (valOf r.maj y') c' wk)).1, dint (withinR (callR t (valOf r y) c wk) (ofR t (valOf r.maj y') c' wk)).2]) [] := by
  have hft := Tm.fold t
  have w1 := machine_call_dn (gl := gl) har h hc Z y hl (by omega) hr hro hcs wk hwk 1000000 (by decide) (les_nlesB _ hX)
  have hc1 := callR_err t (valOf r y) c wk
  have hb := bndE_vals ls Z hl
  have w3 := bound_of_ok (gl := gl) har h hc hm (bndE ls Z) y' (plains_maj hl) hll (maj_plain hr) (maj_ok hro) hcs' wk hwk 1000000 (by decide) (les_nlesB _ (bndE_le (by decide) ls Z hl hX))
  have hc3 := ofR_err t (valOf r.maj y') c' wk
  have hnV := (valOf_nodes r y hr).2
  have hnW := (valOf_nodes r.maj y' (maj_plain hr)).2
  have hro' : r.size ≤ 64 := hro
  have hrm : r.maj.size = r.size := maj_size r
  have w4 := majorizes_ok (gl := gl) (valOf r.maj y') (valOf r y) (by omega) (by omega)
  rw [hmm] at w4
  generalize callR t (valOf r y) c wk = co1 at *
  generalize ofR t (valOf r.maj y') c' wk = co2 at *
  have hva := valsOf_all ls Z hl
  have hvl := valsOf_len ls Z
  obtain ⟨vs, hvs⟩ : ∃ vs, vs = valsOf ls Z := ⟨_, rfl⟩
  rw [← hvs] at hva hb w1 hvl ⊢
  rw [← hb] at w3
  have hf1 := Val.fold co1.1
  have hc1v := Val.cells_eq co1.1
  unfold withinR
  refine t_in Tryz.func10 ?_
  intro X hP hgl hf hfn hn hR hids hfit
  by_cases he : co1.2.2 = 0
  rotate_left
  · rw [if_neg he] at hR
    refine t_g0 ?_
    refine t_c1 @hft w1 ?_
    refine t_g @he ?_
    refine t_r ?_
    simp [go_sem, hP, hgl, hn] <;> (try omega)
  rw [if_pos he] at hR
  have hv1 : co1.1 = valOf r y := by
    rcases hc1 with h | h | h
    · rw [he] at h; cases h
    · rw [he] at h; cases h
    · exact h.2
  rw [← hv1] at w4
  generalize co1.1 = vr at *
  have hf2 := Val.fold co2.1
  have hc2v := Val.cells_eq co2.1
  refine t_g0 ?_
  refine t_c1 @hft w1 ?_
  refine t_g (j2 @he @hc1v) ?_
  refine t_a ?_
  refine t_sub [(1011, 0)] trivial (W_listI (vs) (fun done => True) (fun done rest => [(.slot 2, .one (.v (dint (wk : Int)))), (.slot 3, .one (.loc 3 0)), (.loc 3, .row ([.v (dint t.kind), .v (dint t.index), .v (dint t.type.kind), .v (.sl (t.type.args.map Ty.cells)), .v (.sl (t.args.map Tm.cells))])), (.slot 8, .one (.loc 8 0)), (.loc 8, .row ([.v (dint vr.kind), .v (dint vr.num), .v (.sl (ints vr.list)), .v (.sl (vr.args.map Val.cells))])), (.slot 11, .one (.own 1011 ((done.map Val.boundN).map Val.cells))), (.tok 1011, .tk 4 done.length), (.slot 29, .one (.v (.sl (vs.map Val.cells)))), (.slot 30, .one (.v (dint vs.length))), (.slot 31, .one (.v (dint done.length)))]) (trivial) ?_ ?_)
  · intro done v rest hL hg0 _ hnext
    have hlt : done.length < vs.length := by rw [hL]; simp
    obtain ⟨q1, q2⟩ := hva v (List.mem_of_getElem? hg0)
    have wv := mvalue_ok (gl := gl) v (by omega)
    rw [q1] at wv
    have hfv := Val.fold v
    have hcv := Val.cells_eq v
    have hcb := Val.cells_eq v.boundN
    refine t_rg0 ?_
    refine t_yes ?_
    refine t_g (j2 @hg0 @hcv) ?_
    refine t_c1 @hfv wv ?_
    refine t_g0 ?_
    refine t_gt (wr [(1011, 46)]) @hcb @hcb (hnext trivial)
  · intro _
    rcases hc3 with h | h | ⟨h, hv⟩
    · rw [h] at hR w3
      refine t_rg0 ?_
      refine t_no ?_
      refine t_g0 ?_
      refine t_c1 @hft w3 ?_
      refine t_g0 ?_
      refine t_r ?_
      simp [go_sem, hP, hgl, hn] <;> (try omega)
    · rw [h] at hR w3
      refine t_rg0 ?_
      refine t_no ?_
      refine t_g0 ?_
      refine t_c1 @hft w3 ?_
      refine t_g0 ?_
      refine t_r ?_
      simp [go_sem, hP, hgl, hn] <;> (try omega)
    · rw [h] at hR w3
      rw [← hv] at w4
      generalize co2.1 = vw at *
      refine t_rg0 ?_
      refine t_no ?_
      refine t_g0 ?_
      refine t_c1 @hft w3 ?_
      refine t_g0 ?_
      refine t_c1 (j2 @hf1 @hf2) w4 ?_
      refine t_r ?_
      simp [go_sem, hP, hgl, hn] <;> (try omega)
end Go.Proofs.YtcldnfbcbkaanaaGreatDoor.Lift

/-
  Package bound: Table.
-/
namespace Go.Proofs.YtcldnfbcbkaanaaGreatDoor.Lift
set_option linter.unusedSimpArgs false
set_option linter.unusedVariables false
set_option linter.unnecessarySimpa false
open Go
variable {gl : Globs}

/-- the first error of some calls -/
def fe (O : Nat → Val × Int × Int) : Nat → Int
  | 0 => 0
  | n + 1 => if fe O n = 0 then (O n).2.2 else fe O n
theorem fe_stop {O : Nat → Val × Int × Int} {i : Nat} (h : fe O i ≠ 0) : ∀ n, i ≤ n → fe O n = fe O i
  | 0, hn => by have : i = 0 := by omega
                rw [this]
  | n + 1, hn => by
    by_cases e : i = n + 1
    · rw [e]
    · have := fe_stop h n (by omega)
      simp only [fe]
      rw [this, if_neg h]
theorem fe_first {O : Nat → Val × Int × Int} {i n : Nat} (h0 : fe O i = 0) (h : (O i).2.2 ≠ 0) (hin : i < n) : fe O n = (O i).2.2 := by
  have e : fe O (i + 1) = (O i).2.2 := by simp only [fe]; rw [if_pos h0]
  rw [fe_stop (i := i + 1) (by rw [e]; exact h) n hin, e]
def tabL (O : Nat → Val × Int × Int) (n : Nat) : List Int := (List.range n).map fun i => (O i).1.num
theorem tabL_succ (O : Nat → Val × Int × Int) (n : Nat) : tabL O (n + 1) = tabL O n ++ [(O n).1.num] := by simp [tabL, List.range_succ]
def tabE (O : Nat → Val × Int × Int) (n : Nat) : List Int := if fe O n = 0 then tabL O n else []
theorem ints_snocI (l : List Int) (x : Int) : ints (l ++ [x]) = ints l ++ [[dint x]] := by simp [ints]

set_option maxHeartbeats 1000000 in
theorem bound_table_ok (har : globOf gl 0 = some arEls) {t : Tm} {F : Env [] → (T.fn .nat .nat).V} (h : Dn [] t (.fn .nat .nat) F) (hc : t.count ≤ 536870912) (O : Nat → Val × Int × Int) (n wk : Nat) (hn16 : n ≤ 16)
    (hO : ∀ i, i ≤ n → Con1 Tryz.prog gl 20 [t.dv, .sl [[dint 1, dint (i : Int), .sl [], .sl []]], dint (wk : Int)] [] (.tup [(O i).1.dv, dint (O i).2.1, dint (O i).2.2]) []) (h4 : (t.typeE []).2 ≠ 0 → (O 0).2.2 = 4) :
    Con1 Tryz.prog gl 14 [t.dv, dint (n : Int), dint (wk : Int)] [] (.tup [.sl (ints (tabE O (n + 1))), dint (fe O (n + 1))]) [] := by
  have hte := terms_typeof_dn (gl := gl) har h hc
  have hft := Tm.fold t
  unfold tabE
  by_cases h0 : (t.typeE []).2 = 0
  rotate_left
  · rw [if_neg h0] at hte
    have e4 : fe O (n + 1) = 4 := by
      have := h4 h0
      rw [fe_first (i := 0) rfl (by rw [this]; decide) (by omega), this]
    rw [e4, if_neg (by decide)]
    have fz : (Ty.mk 0 []).dv = .agg [dint 0, .sl []] := rfl
    have hi : ints [] = [] := rfl
    rw [fz] at hte
    rw [hi]
    refine t_in Tryz.func14 ?_
    intro X hP hgl hf hfn hn hR hids hfit
    refine t_g0 ?_
    refine t_c1 @hft hte ?_
    refine t_g0 ?_
    refine t_r ?_
    simp [go_sem, hP, hgl, hn] <;> (try omega)
  rw [if_pos h0] at hte
  have fz : (T.fn .nat .nat).ty.dv = .agg [dint 4, .sl [[dint 1, .sl []], [dint 1, .sl []]]] := rfl
  rw [fz] at hte
  refine t_in Tryz.func14 ?_
  intro X hP hgl hf hfn hn hR hids hfit
  have e1 : ¬ (n : Int) < 0 := by omega
  have e2 : ¬ 16 < (n : Int) := by omega
  have e3 : ¬ 16 < n := by omega
  refine t_g0 ?_
  refine t_c1 @hft hte ?_
  refine t_g (j2 @e1 (j2 @e2 @e3)) ?_
  refine t_a ?_
  refine W_sub [(1010, 0)] (by simp [go_sem]) (by simp [go_sem, tabL, ints_nil] <;> omega) (by simp [go_sem]) (W_upto (n + 1) (fun i => fe O i = 0) (fun i => [(.slot 2, .one (.v (dint (wk : Int)))), (.slot 3, .one (.loc 3 0)), (.loc 3, .row ([.v (dint t.kind), .v (dint t.index), .v (dint t.type.kind), .v (.sl (t.type.args.map Ty.cells)), .v (.sl (t.args.map Tm.cells))])), (.slot 10, .one (.own 1010 (ints (tabL O i)))), (.tok 1010, .tk 1 i), (.slot 49, .one (.v (dint ((n : Int) + 1)))), (.slot 50, .one (.v (dint i)))]) (rfl) ?_ ?_)
  · intro i hi hI hnext
    have w := hO i (by omega)
    have hlt : (i : Int) < (n : Int) + 1 := by omega
    have hln : (ints (tabL O i)).length = i := by simp [ints, tabL]
    have hwid : ∀ e : List DV, e ∈ ints (tabL O i) → e.length = 1 := by intro e he; simp only [ints, List.mem_map] at he; obtain ⟨x, -, rfl⟩ := he; rfl
    have hil : i ≤ 2147483647 := by omega
    have hfv := Val.fold (O i).1
    have hcv := Val.cells_eq (O i).1
    by_cases he : (O i).2.2 = 0
    · have hI2 : fe O (i + 1) = 0 := by simp only [fe]; rw [if_pos hI]; exact he
      have hnx := hnext hI2
      rw [tabL_succ, ints_snocI] at hnx
      generalize ints (tabL O i) = L at *
      refine t_rg @hlt ?_
      refine t_yes ?_
      refine t_g0 ?_
      refine t_c1 @hft w ?_
      refine t_g (j2 @he (j2 @hwid (j2 @hln @hil))) ?_
      refine t_gt (wr [(1010, 70)]) trivial @hln hnx
    · have hff := fe_first hI he hi
      rw [hff, if_neg he] at hR
      have hi0 : ints [] = [] := rfl
      rw [hi0] at hR
      generalize ints (tabL O i) = L at *
      refine t_rg @hlt ?_
      refine t_yes ?_
      refine t_g0 ?_
      refine t_c1 @hft w ?_
      refine t_g @he ?_
      refine t_r ?_
      simp [go_sem, hP, hgl, hn] <;> (try omega)
  · intro hI
    rw [if_pos hI, hI] at hR
    have hnl : ¬ ((n : Int) + 1 < (n : Int) + 1) := by omega
    refine t_rg0 ?_
    refine t_no ?_
    refine t_g0 ?_
    refine t_r ?_
    simp [go_sem, hP, hgl, hn] <;> (try omega)
end Go.Proofs.YtcldnfbcbkaanaaGreatDoor.Lift

namespace Go.Proofs.YtcldnfbcbkaanaaGreatDoor.Lift
set_option linter.unusedSimpArgs false
set_option linter.unusedVariables false
set_option linter.unnecessarySimpa false
open Go
variable {gl : Globs}

theorem lam24_ok (s : Ty) (b : Tm) : Con1 Tryz.prog gl 23 [s.dv, b.dv] [] (Tm.mk 2 0 s [b]).dv [] := by
  refine t_in Tryz.func23 ?_
  intro X hP hgl hf hfn hn hR hids hfit
  refine t_g0 ?_
  refine t_r ?_
  simp [go_sem, hP, hgl, hn] <;> (try omega)
  all_goals exact t_f

set_option maxRecDepth 100000 in
theorem function_ok (b : Nat) (l : List Int) (p : Nat) (hl : l.length ≤ 500) (hp : p ≤ l.length) :
    Con1 Tryz.prog gl 8 [ptr b] [(b, deck l p)] (.tup [(funD l p).1.1.dv, .sl ((funD l p).1.2.map Val.cells)]) [(b, deck l (funD l p).2)] := by
  have hb2 := nextD_bd (l := l) (p := p) (n := 2) (by decide)
  have hq0 := nextD_le (n := 2) hp
  refine t_in Tryz.func8 ?_
  intro X hP hgl hf hfn hn hR hids hfit
  unfold funD at hR
  simp only at hR
  refine t_g0 ?_
  refine t_c1 trivial (next_ok b l p 2 (by decide) (by omega)) ?_
  generalize nextD l p 2 = kk at *
  obtain ⟨k, q0⟩ := kk
  simp only at hb2 hq0 hR
  obtain ⟨k0, hk0⟩ : ∃ k0 : Nat, k = k0 := ⟨k.toNat, by omega⟩
  subst hk0
  rw [Int.toNat_natCast] at hR
  have hk1 : (1 : Int) + (k0 : Int) = ((k0 + 1 : Nat) : Int) := by omega
  obtain ⟨ls, X, f1, f2, f3, f4, f5, f6, f7⟩ := plainsD_facts l (k0 + 1) q0 hq0
  generalize hps : plainsD l (k0 + 1) q0 = ps at *
  obtain ⟨⟨ts, vs⟩, q2⟩ := ps
  simp only at f1 f2 f6 f7 hR
  refine t_g0 ?_
  refine t_a ?_
  refine t_sub [(1004, 0), (1005, 0)] @hk1 (W_rounds (fun x : (List Ty × List Val) × Nat × Nat => x.2.1 ≤ l.length ∧ (x.1.1 ++ (plainsD l x.2.2 x.2.1).1.1 = ts ∧ x.1.2 ++ (plainsD l x.2.2 x.2.1).1.2 = vs ∧ (plainsD l x.2.2 x.2.1).2 = q2) ∧ x.1.1.length + x.2.2 ≤ 3 ∧ x.1.2.length + x.2.2 ≤ 3) (fun x : (List Ty × List Val) × Nat × Nat => [(.slot 0, .one (.v (ptr b))), (.slot 2, .one (.loc 2 0)), (.loc 2, .row ([.v (dint 0), .v (dint 0), .v (dint 0), .own 0 [], .own 0 []])), (.slot 3, .one (.own 0 [])), (.slot 4, .one (.own 1004 (x.1.1.map Ty.cells))), (.tok 1004, .tk 2 x.1.1.length), (.slot 5, .one (.own 1005 (x.1.2.map Val.cells))), (.tok 1005, .tk 4 x.1.2.length), (.slot 6, .one (.v (dint x.2.2))), (.heap  b, .row ([.v (.sl (ints l)), .v (dint x.2.1)]))]) (fun x : (List Ty × List Val) × Nat × Nat => x.2.2) ((([] : List Ty), ([] : List Val)), q0, k0 + 1) (⟨hq0, ⟨by rw [hps]; rfl, by rw [hps]; rfl, by rw [hps]⟩, by simp; omega, by simp; omega⟩) ?_)
  rintro ⟨⟨at1, av1⟩, q, r⟩ ⟨i1, ⟨i2, i3, i4⟩, i5, i6⟩ ih
  simp only at i1 i2 i3 i4 i5 i6
  cases r with
  | succ r =>
    obtain ⟨a, ha, hap, has⟩ := plainD_T l q
    have hq1 := plainD_le i1
    have hq3 := mkVal_le (l := l) (plainD l q).1 hq1
    have wv := mkval_ok (gl := gl) (plainD l q).1 b l (plainD l q).2 hl hq1 (plainD_plain l q)
    have hft := Ty.fold (plainD l q).1
    have hct := Ty.cells_eq (plainD l q).1
    have hcv := Val.cells_eq (mkVal l (plainD l q).1 (plainD l q).2).1
    refine t_rg0 ?_
    refine t_yes ?_
    refine t_g0 ?_
    refine t_c1 @hct (plain_ok b l q hl i1) ?_
    refine t_g0 ?_
    refine t_c1 @hft wv ?_
    refine t_gt (wr [(1004, 22), (1005, 28)]) (j2 @hct @hcv) trivial (ih ((at1 ++ [(plainD l q).1], av1 ++ [(mkVal l (plainD l q).1 (plainD l q).2).1]), (mkVal l (plainD l q).1 (plainD l q).2).2, r) ⟨hq3, ⟨by rw [← i2]; simp [plainsD], by rw [← i3]; simp [plainsD], by rw [← i4]; rfl⟩, by simp; omega, by simp; omega⟩ (by simp))
  | zero =>
    simp only [plainsD, List.append_nil] at i2 i3 i4
    subst i2 i3 i4
    have hq3 := plainD_le i1
    obtain ⟨rT, hrT, hrp, hrs⟩ := plainD_T l q
    have hsm : (plainD l q).1.small := by rw [hrT]; exact small_ty (by omega)
    have htl : at1.length = k0 + 1 := by rw [f1, List.length_map, f5]
    have wm := mk_term_ok (gl := gl) b l hl 3 (by decide) (plainD l q).1 at1 (plainD l q).2 hsm f7 (by omega) hq3
    have hft := Ty.fold (plainD l q).1
    refine t_rg0 ?_
    refine t_no ?_
    refine t_g0 ?_
    refine t_c2 @hft (plain_ok b l q hl i1) wm ?_
    generalize plainD l q = pr at *
    obtain ⟨tr, q4⟩ := pr
    simp only at hR
    generalize termD l 3 tr at1 q4 = td at *
    obtain ⟨body, q5⟩ := td
    simp only at hR
    have h0 : lamsT body [] = body := rfl
    have hdl : at1.drop at1.length = [] := List.drop_length
    have hcb := Tm.cells_eq body
    refine t_g @hcb ?_
    refine t_a ?_
    refine t_sub [] (j2 @h0 (j2 @hdl @hcb)) (W_rounds (fun j : Nat => j ≤ at1.length) (fun j : Nat => [(.slot 2, .one (.loc 2 0)), (.loc 2, .row ([.v (dint 0), .v (dint 0), .v (dint 0), .own 0 [], .own 0 []])), (.slot 3, .one (.own 0 [])), (.slot 4, .one (.v (.sl (at1.map Ty.cells)))), (.slot 5, .one (.v (.sl (av1.map Val.cells)))), (.slot 8, .one (.loc 8 0)), (.loc 8, .row ([.v (dint (lamsT body (at1.drop j)).kind), .v (dint (lamsT body (at1.drop j)).index), .v (dint (lamsT body (at1.drop j)).type.kind), .v (.sl ((lamsT body (at1.drop j)).type.args.map Ty.cells)), .v (.sl ((lamsT body (at1.drop j)).args.map Tm.cells))])), (.slot 9, .one (.v (dint ((j : Int) - 1)))), (.heap  b, .row ([.v (.sl (ints l)), .v (dint q5)]))]) (fun j : Nat => j) at1.length (Nat.le_refl _) ?_)
    intro j hj ih2
    cases j with
    | zero =>
      have hd0 : at1.drop 0 = at1 := rfl
      have hfl := Tm.fold (lamsT body at1)
      refine t_rg0 ?_
      refine t_no ?_
      refine t_g0 ?_
      repeat (first | refine W_seq ?_ | refine W_skip ?_ | refine W_block ?_ | refine W_inBlock ?_ | refine W_label ?_ | refine W_exit rfl ?_)
      first | refine W_retR hP hf hfn _ ([(b, deck l q5)]) (by first | (simp [go_sem, hP, hgl, hn, hd0, hfl]; done) | (simp [go_sem, hP, hgl, hn, hd0, hfl]; rfl)) (by simp [go_sem, hP, hgl, hn, hd0, hfl]) (by simp) ?_ hR.2 | refine W_endR hP hf hfn _ ([(b, deck l q5)]) (by first | (simp [go_sem, hP, hgl, hn, hd0, hfl]; done) | (simp [go_sem, hP, hgl, hn, hd0, hfl]; rfl)) (by simp [go_sem, hP, hgl, hn, hd0, hfl]) (by simp) ?_ hR.2
      rw [hR.1]
      refine ⟨?_, by simp [hd0, hfl]⟩
      try simp [hd0, hfl]
      try all_goals (simp [Ty.dv, Ty.cells_eq, Ty.kind_mk, Ty.args_mk, Tm.dv, Tm.cells_eq, Tm.kind_mk, Tm.index_mk, Tm.type_mk, Tm.args_mk, Val.dv, Val.cells_eq, Val.kind_mk, Val.num_mk, Val.list_mk, Val.args_mk, ints])
    | succ j =>
      obtain ⟨s, hs⟩ : ∃ s, at1[j]? = some s := ⟨_, List.getElem?_eq_getElem (by omega)⟩
      have hd := lamsT_drop body at1 j s hs
      have hfs := Ty.fold s
      have hcs := Ty.cells_eq s
      have hfb := Tm.fold (lamsT body (at1.drop (j + 1)))
      have wl := lam24_ok (gl := gl) s (lamsT body (at1.drop (j + 1)))
      rw [← hd] at wl
      have hcl := Tm.cells_eq (lamsT body (at1.drop j))
      have hgs : (List.map Ty.cells at1)[j]? = some s.cells := by rw [List.getElem?_map, hs]; rfl
      have hj1 : ((j + 1 : Nat) : Int) - 1 = (j : Int) := by omega
      refine t_rg0 ?_
      refine t_yes ?_
      refine t_g @hgs ?_
      refine t_c1 (j2 @hgs (j2 @hfs (j2 @hcs @hfb))) wl ?_
      refine t_gt (wr []) @hcl trivial (ih2 j (by omega) (by omega))
end Go.Proofs.YtcldnfbcbkaanaaGreatDoor.Lift

/-
  Law 34: the sanity check, and BoundWithin.
-/
namespace Go.Proofs.YtcldnfbcbkaanaaGreatDoor.Lift
set_option linter.unusedSimpArgs false
set_option linter.unusedVariables false
set_option linter.unnecessarySimpa false
open Go
variable {gl : Globs}

def limB34 (e : Int) : Bool := decide (e = 4) || (decide (e = 5) || decide (e = 3))
theorem limits34_ok (e : Int) : Con1 Tryz.prog gl 11 [dint e] [] (dbool (limB34 e)) [] := by
  unfold limB34
  refine t_in Tryz.func11 ?_
  intro X hP hgl hf hfn hn hR hids hfit
  by_cases h4 : e = 4
  · refine t_g @h4 ?_
    refine t_r ?_
    simp [go_sem, hP, hgl, hn, h4] <;> (try omega)
  by_cases h5 : e = 5
  · refine t_g (j2 @h4 @h5) ?_
    refine t_r ?_
    simp [go_sem, hP, hgl, hn, h4, h5] <;> (try omega)
  by_cases h3 : e = 3
  · refine t_g (j2 @h4 (j2 @h5 @h3)) ?_
    refine t_r ?_
    simp [go_sem, hP, hgl, hn, h4, h5, h3] <;> (try omega)
  · refine t_g (j2 @h4 (j2 @h5 @h3)) ?_
    refine t_r ?_
    simp [go_sem, hP, hgl, hn, h4, h5, h3] <;> (try omega)

theorem pred_dn : Dn [] predT (FnT [.nat] .nat) (fun _ (n : Nat) => Nat.pred n) := dn_pred []
def oP (i : Nat) : Val × Int × Int := ofR predT (valOf .nat (if i = 2 then (1 : Nat) else (0 : Nat))) (if i = 0 then 5 else if i = 1 then 37 else 72) 1000
theorem of_pred (har : globOf gl 0 = some arEls) {i k c : Nat} (h : callS 80 (majT predT) [.num i] = some (.num k, c)) (hi : i ≤ 10) :
    Con1 Tryz.prog gl 20 [predT.dv, .sl [[dint 1, dint (i : Int), .sl [], .sl []]], dint 1000] [] (.tup [(ofR predT (valOf .nat (k : Nat)) c 1000).1.dv, dint (ofR predT (valOf .nat (k : Nat)) c 1000).2.1, dint (ofR predT (valOf .nat (k : Nat)) c 1000).2.2]) [] := by
  obtain ⟨P, G, g1, -, -, -⟩ := dn_majf pred_dn
  exact bound_of_ok har pred_dn (by decide) g1 ((i : Nat), ()) (show T.nat.maj.V from k) ⟨trivial, by unfold T.ok; decide, trivial⟩ (by simp) trivial (by unfold T.ok; decide) h 1000 (by decide) 10 (by decide) ⟨hi, trivial⟩
theorem pred_run0 : callS 80 (majT predT) [.num 0] = some (.num 0, 5) := by kernel_rfl
theorem pred_run1 : callS 80 (majT predT) [.num 1] = some (.num 0, 37) := by kernel_rfl
theorem pred_run2 : callS 80 (majT predT) [.num 2] = some (.num 1, 72) := by kernel_rfl
theorem pred_run4 : callS 80 (majT predT) [.num 4] = some (.num 3, 180) := by kernel_rfl
theorem pred_run : callS 80 predT [.num 4] = some (.num 3, 13) := by kernel_rfl
theorem oP_err : fe oP 3 = 0 := by kernel_rfl
theorem oP_tab : tabE oP 3 = [0, 0, 1] := by kernel_rfl
theorem oP_one : ofR predT (valOf .nat (3 : Nat)) 180 1000 = (Val.mk 1 3 [] [], 180, 0) := by kernel_rfl
theorem oP_with : withinR (callR predT (valOf .nat (3 : Nat)) 13 1000) (ofR predT (valOf .nat (3 : Nat)) 180 1000) = (true, 0) := by kernel_rfl
theorem pred_ty : (predT.typeE []).2 = 0 := by kernel_rfl

set_option maxRecDepth 100000 in
theorem awake34_ok (har : globOf gl 0 = some arEls) : Con1 Tryz.prog gl 6 [] [] (dbool true) [] := by
  have w1 := bound_table_ok (gl := gl) har pred_dn (by decide) oP 2 1000 (by decide) (fun i hi => by
    match i, hi with
    | 0, _ => exact of_pred har pred_run0 (by decide)
    | 1, _ => exact of_pred har pred_run1 (by decide)
    | 2, _ => exact of_pred har pred_run2 (by decide)
    | i + 3, hi => omega) (fun h => absurd pred_ty h)
  rw [oP_err, oP_tab] at w1
  have w1 : Con1 Tryz.prog gl 14 [predT.dv, dint 2, dint 1000] [] (.tup [.sl [[dint 0], [dint 0], [dint 1]], dint 0]) [] := w1
  have w2 := of_pred (gl := gl) har pred_run4 (by decide)
  rw [oP_one] at w2
  have w2 : Con1 Tryz.prog gl 20 [predT.dv, .sl [[dint 1, dint 4, .sl [], .sl []]], dint 1000] [] (.tup [.agg [dint 1, dint 3, .sl [], .sl []], dint 180, dint 0]) [] := w2
  obtain ⟨P, G, g1, -, -, -⟩ := dn_majf pred_dn
  have w3 := bound_within_ok (gl := gl) har pred_dn (by decide) g1 ((4 : Nat), ()) (show T.nat.V from (3 : Nat)) (show T.nat.maj.V from (3 : Nat)) (by kernel_rfl) ⟨trivial, by unfold T.ok; decide, trivial⟩ (by simp) trivial (by unfold T.ok; decide) pred_run pred_run4 1000 (by decide) ⟨by show ((4 : Nat) : Int) ≤ 1000000; decide, trivial⟩
  have e3 : withinR (callR predT (valOf .nat (show T.nat.V from (3 : Nat))) 13 (1000 : Nat)) (ofR predT (valOf T.nat.maj (show T.nat.maj.V from (3 : Nat))) 180 (1000 : Nat)) = (true, 0) := oP_with
  rw [e3] at w3
  have w3 : Con1 Tryz.prog gl 10 [predT.dv, .sl [[dint 1, dint 4, .sl [], .sl []]], dint 1000] [] (.tup [dbool true, dint 0]) [] := w3
  have wp := ref05_pred_ok (gl := gl)
  have hfp := Tm.fold predT
  generalize predT = t at *
  refine t_in Tryz.func6 ?_
  intro X hP hgl hf hfn hn hR hids hfit
  refine t_g0 ?_
  refine t_c2 trivial wp w1 ?_
  refine t_g0 ?_
  refine t_c2 trivial wp w2 ?_
  refine t_g0 ?_
  refine t_c2 trivial wp w3 ?_
  refine t_g0 ?_
  refine t_r ?_
  simp [go_sem, hP, hgl, hn] <;> (try omega)

theorem within_facts {A O : Val × Int × Int} (hA : A.2.2 = 4 ∨ A.2.2 = 5 ∨ A.2.2 = 0) (hO : O.2.2 = 4 ∨ O.2.2 = 5 ∨ O.2.2 = 0) : (withinR A O).2 = 4 ∨ (withinR A O).2 = 5 ∨ ((withinR A O).2 = 0 ∧ (withinR A O).1 = true) := by
  unfold withinR
  rcases hA with h | h | h <;> rcases hO with k | k | k <;> simp [h, k]

set_option maxHeartbeats 1000000 in
set_option maxRecDepth 100000 in
theorem boundWithin_ok (har : globOf gl 0 = some arEls) (l : List Int) : Con1 Tryz.prog gl 3 [.sl (ints l)] [] (dbool true) [] := by
  have wa := awake34_ok har
  refine t_in Tryz.func3 ?_
  intro X hP hgl hf hfn hn hR hids hfit
  by_cases hl : l.length ≤ 500
  rotate_left
  · refine t_g0 ?_
    refine t_c2 @hl wa (few_ok l) ?_
    refine t_g0 ?_
    refine t_c1 trivial wa ?_
    refine t_r ?_
    simp [go_sem, hP, hgl, hn] <;> (try omega)
  refine t_g0 ?_
  refine t_c2 @hl wa (few_ok l) ?_
  refine t_g0 ?_
  obtain ⟨ls, Z, r, F, f1, f2, f3, f4, f5, f6, f7, f8, f9⟩ := funD_facts l (p := 0) (by omega)
  have wf := fun b => function_ok (gl := gl) b l 0 hl (by omega)
  generalize funD l 0 = fd at *
  obtain ⟨⟨t, vs⟩, p1⟩ := fd
  simp only at f1 f7 f8 f9 wf
  subst f1
  have hft := Tm.fold t
  have hct := Tm.cells_eq t
  obtain ⟨P, Gm, g1, g2, g3, g4⟩ := dn_majf f7
  obtain ⟨c, d, hcs⟩ := calls_total f7 Z f2 f5
  obtain ⟨c', d', hcs'⟩ := calls_total g1 (bndE ls Z) (plains_maj f2) (maj_plain f5)
  have hmj := applM_mj ls g3 (bndE_mj ls Z f2)
  rw [← g2] at hmj
  have hmm := majorizes_mj f5 f6 hmj
  have ww := bound_within_ok (gl := gl) har f7 (by omega) g1 Z _ _ hmm f2 (by omega) f5 f6 (hcs d (Nat.le_refl _)) (hcs' d' (Nat.le_refl _)) 50000 (by decide) (MV.les_mono (by decide) f3)
  have hw := within_facts (A := callR t (valOf r (appl ls (F ()) Z)) c (50000 : Nat)) (O := ofR t (valOf r.maj (appl (ls.map T.maj) (Gm ()) (bndE ls Z))) c' (50000 : Nat)) (by
    rcases callR_err t (valOf r (appl ls (F ()) Z)) c (50000 : Nat) with h | h | h
    · exact .inl h
    · exact .inr (.inl h)
    · exact .inr (.inr h.1)) (by
    rcases ofR_err t (valOf r.maj (appl (ls.map T.maj) (Gm ()) (bndE ls Z))) c' (50000 : Nat) with h | h | h
    · exact .inl h
    · exact .inr (.inl h)
    · exact .inr (.inr h.1))
  generalize withinR (callR t (valOf r (appl ls (F ()) Z)) c (50000 : Nat)) (ofR t (valOf r.maj (appl (ls.map T.maj) (Gm ()) (bndE ls Z))) c' (50000 : Nat)) = wr at *
  obtain ⟨wb, we⟩ := wr
  simp only at hw ww
  refine t_a ?_
  first | refine W_reg [] fun K hK => ?_ | refine W_regd (by rw [hP]; exact mixed) [] fun K hK => ?_
  refine t_s0 ?_
  repeat (refine ⟨by omega, ?_⟩)
  refine vcK_callR hP hgl (new_ok l) (by simp [go_sem]) rfl (by simp [go_sem]) (by simp) (by rw [hn]; exact Nat.le_of_ble_eq_true rfl) ?_
  rintro rr φ ⟨b, rfl, rfl⟩ -
  simp [go_sem, hP, hgl, hn]
  refine t_c trivial (wf b) ?_
  refine t_e ?_
  clear hK K
  refine t_g @hct ?_
  refine t_c1 @hft ww ?_
  rcases hw with rfl | rfl | ⟨rfl, rfl⟩
  · have wl := limits34_ok (gl := gl) 4
    rw [show limB34 4 = true from rfl] at wl
    refine t_g0 ?_
    refine t_c1 trivial wl ?_
    refine t_r ?_
    simp [go_sem, hP, hgl, hn] <;> (try omega)
  · have wl := limits34_ok (gl := gl) 5
    rw [show limB34 5 = true from rfl] at wl
    refine t_g0 ?_
    refine t_c1 trivial wl ?_
    refine t_r ?_
    simp [go_sem, hP, hgl, hn] <;> (try omega)
  · have wl := limits34_ok (gl := gl) 0
    rw [show limB34 0 = false from rfl] at wl
    refine t_g0 ?_
    refine t_c1 trivial wl ?_
    refine t_r ?_
    simp [go_sem, hP, hgl, hn] <;> (try omega)
end Go.Proofs.YtcldnfbcbkaanaaGreatDoor.Lift

