import Derived.Test.YtcldnfbcbkaanaaGreatDoorY4
namespace Go.Proofs.YtcldnfbcbkaanaaGreatDoor.Lift
set_option linter.unusedSimpArgs false
set_option linter.unusedVariables false
set_option linter.unnecessarySimpa false
open Go
variable {gl : Globs}

def funP (g : List Ty) (t : Ty) (i : Nat) : Bool := decide ((varTy g i).kind = 4) && ((varTy g i).arg 1).same t
theorem upto_snoc {Q : Nat → Prop} {i : Nat} (h : ∀ j, j < i → Q j) (hi : Q i) : ∀ j, j < i + 1 → Q j := by
  intro j hj
  by_cases e : j = i
  · rw [e]; exact hi
  · exact h j (by omega)
theorem funN_found {g : List Ty} {t : Ty} {i : Nat} (hi : i < g.length) (h : ∀ j, j < i → funP g t j = false) (hp : funP g t i = true) : funN g t = some i := by
  unfold funN
  rw [List.find?_range_eq_some]
  exact ⟨hp, List.mem_range.2 hi, fun j hj => by show (!funP g t j) = true; rw [h j hj]; rfl⟩
theorem funN_none {g : List Ty} {t : Ty} (h : ∀ j, j < g.length → funP g t j = false) : funN g t = none := by
  unfold funN
  rw [List.find?_eq_none]
  intro j hj
  show ¬ funP g t j = true
  rw [h j (List.mem_range.1 hj)]
  decide

theorem W_cutXP {X : Ctx} {k kk : List Item} {s : St} (E : Prop) (S : St) (h1 : (E → W X kk S) → W X k s) (h2 : E → W X kk S) : W X k s := h1 h2

set_option maxHeartbeats 4000000 in
theorem mk_term_ok (b : Nat) (l : List Int) (hl : l.length ≤ 500) (n : Nat) (hn9 : n ≤ 9) : ∀ (t : Ty) (g : List Ty) (p : Nat), t.small → (∀ x ∈ g, x.small) → g.length + 3 * n + 15 ≤ 1000000 → p ≤ l.length →
    Con1 Tryz.prog gl 22 [ptr b, .sl (g.map Ty.cells), t.dv, dint n] [(b, deck l p)] (termD l n t g p).1.dv [(b, deck l (termD l n t g p).2)] := by
  induction n with
  | zero =>
    intro t g p ht hg hgl1 hp
    exact mk_term_leaf b l hl t 0 g p (by omega) (by have := ht.2; omega) ht hg (by have := ht.2; omega) hp
  | succ n ihn0 =>
  intro t g p ht hg hgl1 hp
  have ihn := ihn0 (by omega)
  have hD := termD_facts (l := l) closed_shape n
  have hg1 : ∀ a : List Ty, (∀ x ∈ a, x.small) → ∀ x ∈ g ++ a, x.small := by
    intro a ha x hx
    rcases List.mem_append.1 hx with hx | hx
    · exact hg x hx
    · exact ha x hx
  have hz2 : (0 : Int) < ((n + 1 : Nat) : Int) := by omega
  have hsub : ((n + 1 : Nat) : Int) - 1 = (n : Int) := by omega
  refine t_in Tryz.func22 ?_
  intro X hP hgl hf hfn hn hR hids hfit
  rw [termD] at hR
  have hvl : (varsN g t).length ≤ g.length := varsP_le g t g.length
  have hq3 := nextD_le (n := 3) hp
  have hb3 := nextD_bd (l := l) (p := p) (n := 3) (by decide)
  rcases hpk : pickD l t g p with ⟨_ | x, q⟩
  · rw [hpk] at hR
    simp only at hR
    have hq : q ≤ l.length := by have := pickD_le (t := t) (g := g) hp; rw [hpk] at this; exact this
    apply W_cutX [(.slot 0, .one (.v (ptr b))), (.slot 1, .one (.v (.sl (g.map Ty.cells)))), (.slot 3, .one (.v (dint ((n + 1 : Nat) : Int)))), (.slot 6, .one (.loc 6 0)), (.loc 6, .row ([.v (dint t.kind), .v (.sl (t.args.map Ty.cells))])), (.slot 8, .one (.loc 8 0)), (.loc 8, .row ([.v (dint 0), .v (dint 0), .v (dint 0), .own 0 [], .own 0 []])), (.heap  b, .row ([.v (.sl (ints l)), .v (dint q)]))]
    · intro hrest
      refine t_g0 ?_
      refine t_c1 trivial (mk_vars_ok g t (by omega)) ?_
      rcases pickD_none hpk with ⟨h0, rfl⟩ | ⟨h0, h1, rfl⟩
      · refine t_g (j2 @natI_len @h0) ?_
        refine t_b ?_
        refine t_sub [] trivial hrest
      · have hpos : 0 < (varsN g t).length := by omega
        refine t_g0 ?_
        refine t_c1 (j2 @natI_len (j2 @hpos @h1)) (next_ok b l p 3 (by decide) (by omega)) ?_
        refine t_g @h1 ?_
        refine t_b ?_
        refine t_sub [] trivial hrest
    · have hq8 := nextD_le (n := 8) hq
      have hb8 := nextD_bd (l := l) (p := q) (n := 8) (by decide)
      refine t_g @hz2 ?_
      refine t_c1 trivial (next_ok b l q 8 (by decide) (by omega)) ?_
      generalize hd : nextD l q 8 = d at *
      obtain ⟨k, r⟩ := d
      simp only at hR hb8 hq8
      have hr : r ≤ l.length := hq8
      by_cases h0 : k = 0
      · rw [stepD, if_pos h0] at hR
        have cs := mk_type_ok (gl := gl) 0 b l r hl hr (by decide)
        obtain ⟨fs, ss⟩ := typeD_small l (n := 0) hr (by decide)
        generalize hes : typeD l 0 r = rs at cs fs ss hR
        obtain ⟨s, qs⟩ := rs
        simp only at cs fs ss hR
        have cx := ihn (t) (g ++ [s]) qs ht (hg1 [s] (by simpa using ss)) (by simp; omega) fs
        have fx := (hD (t) (g ++ [s]) qs ht (hg1 [s] (by simpa using ss)) fs).1
        generalize hex : termD l n (t) (g ++ [s]) qs = rx at cx fx hR
        obtain ⟨x, qx⟩ := rx
        simp only at cx fx hR
        have cy := ihn (s) (g) qx ss hg (by omega) fx
        have fy := (hD (s) (g) qx ss hg fx).1
        generalize hey : termD l n (s) (g) qx = ry at cy fy hR
        obtain ⟨y, qy⟩ := ry
        simp only at cy fy hR
        refine t_g @h0 ?_
        refine t_c1 trivial cs ?_
        refine t_c5 @hsub (mk_longer_ok g [s] (by simp; omega)) cx (ref02_t_ok 2 s [x]) cy (ref02_n_ok 3 [Tm.mk 2 0 s [x], y]) ?_
        repeat (first | refine W_seq ?_ | refine W_skip ?_ | refine W_block ?_ | refine W_inBlock ?_ | refine W_label ?_ | refine W_exit rfl ?_)
        first | refine W_retR hP hf hfn _ ([(b, deck l qy)]) (by first | (simp [go_sem, hP, hgl, hn, nT]; done) | (simp [go_sem, hP, hgl, hn, nT]; rfl)) (by simp [go_sem, hP, hgl, hn, nT]) (by simp) ?_ hR.2 | refine W_endR hP hf hfn _ ([(b, deck l qy)]) (by first | (simp [go_sem, hP, hgl, hn, nT]; done) | (simp [go_sem, hP, hgl, hn, nT]; rfl)) (by simp [go_sem, hP, hgl, hn, nT]) (by simp) ?_ hR.2
        rw [hR.1]
        refine ⟨?_, by simp [nT]⟩
        try simp [nT]
        try all_goals (simp [Ty.dv, Ty.cells_eq, Ty.kind_mk, Ty.args_mk, Tm.dv, Tm.cells_eq, Tm.kind_mk, Tm.index_mk, Tm.type_mk, Tm.args_mk, Val.dv, Val.cells_eq, Val.kind_mk, Val.num_mk, Val.list_mk, Val.args_mk, ints])
      by_cases h1 : k = 1
      · rw [stepD, if_neg h0, if_pos h1] at hR
        have cs := mk_type_ok (gl := gl) 0 b l r hl hr (by decide)
        obtain ⟨fs, ss⟩ := typeD_small l (n := 0) hr (by decide)
        generalize hes : typeD l 0 r = rs at cs fs ss hR
        obtain ⟨s, qs⟩ := rs
        simp only at cs fs ss hR
        have cx := ihn (t) (g) qs ht hg (by omega) fs
        have fx := (hD (t) (g) qs ht hg fs).1
        generalize hex : termD l n (t) (g) qs = rx at cx fx hR
        obtain ⟨x, qx⟩ := rx
        simp only at cx fx hR
        have cy := ihn (s) (g) qx ss hg (by omega) fx
        have fy := (hD (s) (g) qx ss hg fx).1
        generalize hey : termD l n (s) (g) qx = ry at cy fy hR
        obtain ⟨y, qy⟩ := ry
        simp only at cy fy hR
        refine t_g @h1 ?_
        refine t_c1 trivial cs ?_
        refine t_c4 @hsub cx cy (ref02_n_ok 10 [x, y]) (ref02_n_ok 11 [Tm.mk 10 0 (Ty.mk 0 []) [x, y]]) ?_
        repeat (first | refine W_seq ?_ | refine W_skip ?_ | refine W_block ?_ | refine W_inBlock ?_ | refine W_label ?_ | refine W_exit rfl ?_)
        first | refine W_retR hP hf hfn _ ([(b, deck l qy)]) (by first | (simp [go_sem, hP, hgl, hn, nT]; done) | (simp [go_sem, hP, hgl, hn, nT]; rfl)) (by simp [go_sem, hP, hgl, hn, nT]) (by simp) ?_ hR.2 | refine W_endR hP hf hfn _ ([(b, deck l qy)]) (by first | (simp [go_sem, hP, hgl, hn, nT]; done) | (simp [go_sem, hP, hgl, hn, nT]; rfl)) (by simp [go_sem, hP, hgl, hn, nT]) (by simp) ?_ hR.2
        rw [hR.1]
        refine ⟨?_, by simp [nT]⟩
        try simp [nT]
        try all_goals (simp [Ty.dv, Ty.cells_eq, Ty.kind_mk, Ty.args_mk, Tm.dv, Tm.cells_eq, Tm.kind_mk, Tm.index_mk, Tm.type_mk, Tm.args_mk, Val.dv, Val.cells_eq, Val.kind_mk, Val.num_mk, Val.list_mk, Val.args_mk, ints])
      by_cases h2 : k = 2
      · rw [stepD, if_neg h0, if_neg h1, if_pos h2] at hR
        have cx := ihn (t) (g ++ [Ty.mk 1 [], t]) r ht (hg1 [Ty.mk 1 [], t] (by intro x hx; simp at hx; rcases hx with rfl | rfl; exact small_nat; exact ht)) (by simp; omega) hr
        have fx := (hD (t) (g ++ [Ty.mk 1 [], t]) r ht (hg1 [Ty.mk 1 [], t] (by intro x hx; simp at hx; rcases hx with rfl | rfl; exact small_nat; exact ht)) hr).1
        generalize hex : termD l n (t) (g ++ [Ty.mk 1 [], t]) r = rx at cx fx hR
        obtain ⟨x, qx⟩ := rx
        simp only at cx fx hR
        have cy := ihn (t) (g) qx ht hg (by omega) fx
        have fy := (hD (t) (g) qx ht hg fx).1
        generalize hey : termD l n (t) (g) qx = ry at cy fy hR
        obtain ⟨y, qy⟩ := ry
        simp only at cy fy hR
        have hqy := nextD_le (n := 3) fy
        have hby := nextD_bd (l := l) (p := qy) (n := 3) (by decide)
        obtain ⟨m, hm⟩ : ∃ m : Nat, (nextD l qy 3).1 = m := ⟨_, (Int.toNat_of_nonneg hby.1).symm⟩
        rw [hm] at hby
        refine t_g @h2 ?_
        refine t_c6 (j2 @hsub @nat_v) ref01_nat_ok ref01_nat_ok (mk_longer_ok g [Ty.mk 1 [], t] (by simp; omega)) cx (ref02_t_ok 2 t [x]) (ref02_t_ok 2 (Ty.mk 1 []) [Tm.mk 2 0 t [x]]) ?_
        refine t_c4 (j2 @hsub @hm) cy (next_ok b l qy 3 (by decide) (by omega)) (mk_num_ok m (by omega)) (ref02_t_ok 6 t [y, Tm.mk 2 0 (Ty.mk 1 []) [Tm.mk 2 0 t [x]], numTm m]) ?_
        repeat (first | refine W_seq ?_ | refine W_skip ?_ | refine W_block ?_ | refine W_inBlock ?_ | refine W_label ?_ | refine W_exit rfl ?_)
        first | refine W_retR hP hf hfn _ ([(b, deck l (nextD l qy 3).2)]) (by first | (simp [go_sem, hP, hgl, hn, numD, hm]; done) | (simp [go_sem, hP, hgl, hn, numD, hm]; rfl)) (by simp [go_sem, hP, hgl, hn, numD, hm]) (by simp) ?_ hR.2 | refine W_endR hP hf hfn _ ([(b, deck l (nextD l qy 3).2)]) (by first | (simp [go_sem, hP, hgl, hn, numD, hm]; done) | (simp [go_sem, hP, hgl, hn, numD, hm]; rfl)) (by simp [go_sem, hP, hgl, hn, numD, hm]) (by simp) ?_ hR.2
        rw [hR.1]
        refine ⟨?_, by simp [numD, hm]⟩
        try simp [numD, hm]
        try all_goals (simp [Ty.dv, Ty.cells_eq, Ty.kind_mk, Ty.args_mk, Tm.dv, Tm.cells_eq, Tm.kind_mk, Tm.index_mk, Tm.type_mk, Tm.args_mk, Val.dv, Val.cells_eq, Val.kind_mk, Val.num_mk, Val.list_mk, Val.args_mk, ints])
      by_cases h3 : k = 3
      · rw [stepD, if_neg h0, if_neg h1, if_neg h2, if_pos h3] at hR
        have cx := ihn (t) (g ++ [Ty.mk 1 [], Ty.mk 2 [], t]) r ht (hg1 [Ty.mk 1 [], Ty.mk 2 [], t] (by intro x hx; simp at hx; rcases hx with rfl | rfl | rfl; exact small_nat; exact small_list; exact ht)) (by simp; omega) hr
        have fx := (hD (t) (g ++ [Ty.mk 1 [], Ty.mk 2 [], t]) r ht (hg1 [Ty.mk 1 [], Ty.mk 2 [], t] (by intro x hx; simp at hx; rcases hx with rfl | rfl | rfl; exact small_nat; exact small_list; exact ht)) hr).1
        generalize hex : termD l n (t) (g ++ [Ty.mk 1 [], Ty.mk 2 [], t]) r = rx at cx fx hR
        obtain ⟨x, qx⟩ := rx
        simp only at cx fx hR
        have cy := ihn (t) (g) qx ht hg (by omega) fx
        have fy := (hD (t) (g) qx ht hg fx).1
        generalize hey : termD l n (t) (g) qx = ry at cy fy hR
        obtain ⟨y, qy⟩ := ry
        simp only at cy fy hR
        have cz := ihn (Ty.mk 2 []) (g) qy small_list hg (by omega) fy
        have fz := (hD (Ty.mk 2 []) (g) qy small_list hg fy).1
        generalize hez : termD l n (Ty.mk 2 []) (g) qy = rz at cz fz hR
        obtain ⟨z, qz⟩ := rz
        simp only at cz fz hR
        refine t_g @h3 ?_
        refine t_c9 (j2 @hsub (j2 @nat_v @list_v)) ref01_nat_ok ref01_list_ok ref01_nat_ok ref01_list_ok (mk_longer_ok g [Ty.mk 1 [], Ty.mk 2 [], t] (by simp; omega)) cx (ref02_t_ok 2 t [x]) (ref02_t_ok 2 (Ty.mk 2 []) [Tm.mk 2 0 t [x]]) (ref02_t_ok 2 (Ty.mk 1 []) [Tm.mk 2 0 (Ty.mk 2 []) [Tm.mk 2 0 t [x]]]) ?_
        refine t_c4 (j2 @hsub @list_v) cy ref01_list_ok cz (ref02_t_ok 9 t [y, Tm.mk 2 0 (Ty.mk 1 []) [Tm.mk 2 0 (Ty.mk 2 []) [Tm.mk 2 0 t [x]]], z]) ?_
        repeat (first | refine W_seq ?_ | refine W_skip ?_ | refine W_block ?_ | refine W_inBlock ?_ | refine W_label ?_ | refine W_exit rfl ?_)
        first | refine W_retR hP hf hfn _ ([(b, deck l qz)]) (by first | (simp [go_sem, hP, hgl, hn]; done) | (simp [go_sem, hP, hgl, hn]; rfl)) (by simp [go_sem, hP, hgl, hn]) (by simp) ?_ hR.2 | refine W_endR hP hf hfn _ ([(b, deck l qz)]) (by first | (simp [go_sem, hP, hgl, hn]; done) | (simp [go_sem, hP, hgl, hn]; rfl)) (by simp [go_sem, hP, hgl, hn]) (by simp) ?_ hR.2
        rw [hR.1]
        refine ⟨?_, by simp⟩
        try simp
        try all_goals (simp [Ty.dv, Ty.cells_eq, Ty.kind_mk, Ty.args_mk, Tm.dv, Tm.cells_eq, Tm.kind_mk, Tm.index_mk, Tm.type_mk, Tm.args_mk, Val.dv, Val.cells_eq, Val.kind_mk, Val.num_mk, Val.list_mk, Val.args_mk, ints])
      by_cases h4 : k = 4
      · rw [stepD, if_neg h0, if_neg h1, if_neg h2, if_neg h3, if_pos h4] at hR
        have cs := mk_type_ok (gl := gl) 0 b l r hl hr (by decide)
        obtain ⟨fs, ss⟩ := typeD_small l (n := 0) hr (by decide)
        generalize hes : typeD l 0 r = rs at cs fs ss hR
        obtain ⟨s, qs⟩ := rs
        simp only at cs fs ss hR
        have cx := ihn (s) (g) qs ss hg (by omega) fs
        have fx := (hD (s) (g) qs ss hg fs).1
        generalize hex : termD l n (s) (g) qs = rx at cx fx hR
        obtain ⟨x, qx⟩ := rx
        simp only at cx fx hR
        have cy := ihn (t) (g) qx ht hg (by omega) fx
        have fy := (hD (t) (g) qx ht hg fx).1
        generalize hey : termD l n (t) (g) qx = ry at cy fy hR
        obtain ⟨y, qy⟩ := ry
        simp only at cy fy hR
        refine t_g @h4 ?_
        refine t_c1 trivial cs ?_
        refine t_c4 @hsub cx cy (ref02_n_ok 10 [x, y]) (ref02_n_ok 12 [Tm.mk 10 0 (Ty.mk 0 []) [x, y]]) ?_
        repeat (first | refine W_seq ?_ | refine W_skip ?_ | refine W_block ?_ | refine W_inBlock ?_ | refine W_label ?_ | refine W_exit rfl ?_)
        first | refine W_retR hP hf hfn _ ([(b, deck l qy)]) (by first | (simp [go_sem, hP, hgl, hn, nT]; done) | (simp [go_sem, hP, hgl, hn, nT]; rfl)) (by simp [go_sem, hP, hgl, hn, nT]) (by simp) ?_ hR.2 | refine W_endR hP hf hfn _ ([(b, deck l qy)]) (by first | (simp [go_sem, hP, hgl, hn, nT]; done) | (simp [go_sem, hP, hgl, hn, nT]; rfl)) (by simp [go_sem, hP, hgl, hn, nT]) (by simp) ?_ hR.2
        rw [hR.1]
        refine ⟨?_, by simp [nT]⟩
        try simp [nT]
        try all_goals (simp [Ty.dv, Ty.cells_eq, Ty.kind_mk, Ty.args_mk, Tm.dv, Tm.cells_eq, Tm.kind_mk, Tm.index_mk, Tm.type_mk, Tm.args_mk, Val.dv, Val.cells_eq, Val.kind_mk, Val.num_mk, Val.list_mk, Val.args_mk, ints])
      apply W_cutXP (stepD l (termD l n) t g k r = endD l (termD l n) t g r) [(.slot 215, .one (.v (dbool (decide (t.kind = 1))))), (.slot 214, .one (.v (dint t.kind))), (.slot 0, .one (.v (ptr b))), (.slot 1, .one (.v (.sl (g.map Ty.cells)))), (.slot 3, .one (.v (dint ((n + 1 : Nat) : Int)))), (.slot 6, .one (.loc 6 0)), (.loc 6, .row ([.v (dint t.kind), .v (.sl (t.args.map Ty.cells))])), (.slot 8, .one (.loc 8 0)), (.loc 8, .row ([.v (dint 0), .v (dint 0), .v (dint 0), .own 0 [], .own 0 []])), (.heap  b, .row ([.v (.sl (ints l)), .v (dint r)]))]
      · intro hrest
        by_cases h5 : k = 5
        · refine t_g @h5 ?_
          refine t_a ?_
          refine t_sub [] trivial (W_upto (g.length) (fun i => ∀ j, j < i → funP g t j = false) (fun i => [(.slot 177, .one (.v (dint i))), (.slot 176, .one (.v (dint g.length))), (.slot 0, .one (.v (ptr b))), (.slot 1, .one (.v (.sl (g.map Ty.cells)))), (.slot 3, .one (.v (dint ((n + 1 : Nat) : Int)))), (.slot 6, .one (.loc 6 0)), (.loc 6, .row ([.v (dint t.kind), .v (.sl (t.args.map Ty.cells))])), (.slot 8, .one (.loc 8 0)), (.loc 8, .row ([.v (dint 0), .v (dint 0), .v (dint 0), .own 0 [], .own 0 []])), (.heap  b, .row ([.v (.sl (ints l)), .v (dint r)]))]) (by intro j hj; omega) ?_ ?_)
          · intro i hi hI hnext
            have hvt := (varTy_mem hi).2
            have hix : (g.length : Int) - 1 - i = ((g.length - 1 - i : Nat) : Int) := by omega
            refine t_rg0 ?_
            refine t_yes ?_
            refine t_g (j2 @hix @hvt) ?_
            by_cases hk4 : (varTy g i).kind = 4
            · have hfs := hg _ (varTy_mem hi).1
              obtain ⟨c0, c1, -⟩ := hfs.arg (.inr hk4)
              obtain ⟨a0, a1, ha, -, -, e0, e1⟩ := Ty.ok_args hfs.ok (.inr hk4)
              rw [e0] at c0
              refine t_c1 (j2 @hix (j2 @hvt (j2 @hk4 @ha))) (ref01_same_ok a1 t) ?_
              by_cases hs : a1.same t = true
              · have hfi : funN g t = some i := funN_found hi hI (by simp [funP, hk4, e1, hs])
                rw [stepD, if_neg h0, if_neg h1, if_neg h2, if_neg h3, if_neg h4, if_pos h5, hfi] at hR
                simp only at hR
                rw [e0] at hR
                have cx := ihn (a0) (g) r c0 hg (by omega) hr
                have fx := (hD (a0) (g) r c0 hg hr).1
                generalize hex : termD l n (a0) (g) r = rx at cx fx hR
                obtain ⟨x, qx⟩ := rx
                simp only at cx fx hR
                refine t_g @hs ?_
                refine t_a ?_
                first | refine W_reg [] fun K hK => ?_ | refine W_regd (by rw [hP]; exact mixed) [] fun K hK => ?_
                simp [go_sem, hP, hgl, hn, hsub, ha, vT]
                repeat (refine ⟨by omega, ?_⟩)
                first | refine vcK_call hP hgl (ref02_var_ok i) (by simp [go_sem, hP, hgl, hn, hsub, ha, vT]) rfl (by simp [go_sem]) (by simp) (by rw [hn]; exact Nat.le_of_ble_eq_true rfl) ?_ | refine vcdC_call (fun _ _ => vcd_sound) hP hgl (ref02_var_ok i) (by simp [go_sem, hP, hgl, hn, hsub, ha, vT]) rfl (by simp [go_sem]) (by simp) (by rw [hn]; exact Nat.le_of_ble_eq_true rfl) ?_ | refine vcK_callG hP hgl (ref02_var_ok i) (by simp [go_sem, hP, hgl, hn, hsub, ha, vT]) rfl (by simp [go_sem]) (by simp) (by rw [hn]; exact Nat.le_of_ble_eq_true rfl) (by simp [go_sem]; rfl) (by rw [hn]; exact Nat.le_of_ble_eq_true rfl) (by simp [go_sem]) ?_ | refine vcdC_callG (fun _ _ => vcd_sound) hP hgl (ref02_var_ok i) (by simp [go_sem, hP, hgl, hn, hsub, ha, vT]) rfl (by simp [go_sem]) (by simp) (by rw [hn]; exact Nat.le_of_ble_eq_true rfl) (by simp [go_sem]; rfl) (by rw [hn]; exact Nat.le_of_ble_eq_true rfl) (by simp [go_sem]) ?_
                simp [go_sem, hP, hgl, hn, hsub, ha, vT]
                repeat (refine ⟨by omega, ?_⟩)
                first | refine vcK_call hP hgl (cx) (by simp [go_sem, hP, hgl, hn, hsub, ha, vT]) rfl (by simp [go_sem]) (by simp) (by rw [hn]; exact Nat.le_of_ble_eq_true rfl) ?_ | refine vcdC_call (fun _ _ => vcd_sound) hP hgl (cx) (by simp [go_sem, hP, hgl, hn, hsub, ha, vT]) rfl (by simp [go_sem]) (by simp) (by rw [hn]; exact Nat.le_of_ble_eq_true rfl) ?_ | refine vcK_callG hP hgl (cx) (by simp [go_sem, hP, hgl, hn, hsub, ha, vT]) rfl (by simp [go_sem]) (by simp) (by rw [hn]; exact Nat.le_of_ble_eq_true rfl) (by simp [go_sem]; rfl) (by rw [hn]; exact Nat.le_of_ble_eq_true rfl) (by simp [go_sem]) ?_ | refine vcdC_callG (fun _ _ => vcd_sound) hP hgl (cx) (by simp [go_sem, hP, hgl, hn, hsub, ha, vT]) rfl (by simp [go_sem]) (by simp) (by rw [hn]; exact Nat.le_of_ble_eq_true rfl) (by simp [go_sem]; rfl) (by rw [hn]; exact Nat.le_of_ble_eq_true rfl) (by simp [go_sem]) ?_
                simp [go_sem, hP, hgl, hn, hsub, ha, vT]
                repeat (refine ⟨by omega, ?_⟩)
                first | refine vcK_call hP hgl (ref02_n_ok 3 [vT i, x]) (by simp [go_sem, hP, hgl, hn, hsub, ha, vT]) rfl (by simp [go_sem]) (by simp) (by rw [hn]; exact Nat.le_of_ble_eq_true rfl) ?_ | refine vcdC_call (fun _ _ => vcd_sound) hP hgl (ref02_n_ok 3 [vT i, x]) (by simp [go_sem, hP, hgl, hn, hsub, ha, vT]) rfl (by simp [go_sem]) (by simp) (by rw [hn]; exact Nat.le_of_ble_eq_true rfl) ?_ | refine vcK_callG hP hgl (ref02_n_ok 3 [vT i, x]) (by simp [go_sem, hP, hgl, hn, hsub, ha, vT]) rfl (by simp [go_sem]) (by simp) (by rw [hn]; exact Nat.le_of_ble_eq_true rfl) (by simp [go_sem]; rfl) (by rw [hn]; exact Nat.le_of_ble_eq_true rfl) (by simp [go_sem]) ?_ | refine vcdC_callG (fun _ _ => vcd_sound) hP hgl (ref02_n_ok 3 [vT i, x]) (by simp [go_sem, hP, hgl, hn, hsub, ha, vT]) rfl (by simp [go_sem]) (by simp) (by rw [hn]; exact Nat.le_of_ble_eq_true rfl) (by simp [go_sem]; rfl) (by rw [hn]; exact Nat.le_of_ble_eq_true rfl) (by simp [go_sem]) ?_
                simp [go_sem, hP, hgl, hn, hsub, ha, vT]
                refine t_e ?_
                clear hK K
                repeat (first | refine W_seq ?_ | refine W_skip ?_ | refine W_block ?_ | refine W_inBlock ?_ | refine W_label ?_ | refine W_exit rfl ?_)
                first | refine W_retR hP hf hfn _ ([(b, deck l qx)]) (by first | (simp [go_sem, hP, hgl, hn, nT, vT]; done) | (simp [go_sem, hP, hgl, hn, nT, vT]; rfl)) (by simp [go_sem, hP, hgl, hn, nT, vT]) (by simp) ?_ hR.2 | refine W_endR hP hf hfn _ ([(b, deck l qx)]) (by first | (simp [go_sem, hP, hgl, hn, nT, vT]; done) | (simp [go_sem, hP, hgl, hn, nT, vT]; rfl)) (by simp [go_sem, hP, hgl, hn, nT, vT]) (by simp) ?_ hR.2
                rw [hR.1]
                refine ⟨?_, by simp [nT, vT]⟩
                try simp [nT, vT]
                try all_goals (simp [Ty.dv, Ty.cells_eq, Ty.kind_mk, Ty.args_mk, Tm.dv, Tm.cells_eq, Tm.kind_mk, Tm.index_mk, Tm.type_mk, Tm.args_mk, Val.dv, Val.cells_eq, Val.kind_mk, Val.num_mk, Val.list_mk, Val.args_mk, ints])
              · refine t_gt (wr []) trivial @hs (hnext (upto_snoc hI (by simp [funP, hk4, e1, hs])))
            · refine t_gt (wr []) trivial @hk4 (hnext (upto_snoc hI (by simp [funP, hk4])))
          · intro hI
            refine t_rg0 ?_
            refine t_no ?_
            refine t_g0 ?_
            refine t_b ?_
            refine t_sub [] trivial (hrest (by rw [stepD, if_neg h0, if_neg h1, if_neg h2, if_neg h3, if_neg h4, if_pos h5, funN_none hI]))
        · have hE : stepD l (termD l n) t g k r = endD l (termD l n) t g r := by rw [stepD, if_neg h0, if_neg h1, if_neg h2, if_neg h3, if_neg h4, if_neg h5]
          by_cases h6 : k = 6
          · refine t_g @h6 ?_
            refine t_b ?_
            refine t_sub [] trivial (hrest hE)
          · have h7 : k = 7 := by omega
            refine t_g @h7 ?_
            refine t_b ?_
            refine t_sub [] trivial (hrest hE)
      · intro hE
        rw [hE, endD] at hR
        have h5q := nextD_le (n := 5) hr
        have h2q := nextD_le (n := 2) hr
        have hfd := Ty.fold t
        rcases small_kinds ht with ⟨h, e⟩ | ⟨h, e⟩ | ⟨h, e⟩ | ⟨h, e⟩ | ⟨h, e⟩
        · rw [if_pos h] at hR
          rw [h] at hfd
          have hb5 := nextD_bd (l := l) (p := r) (n := 5) (by decide)
          refine t_g (j2 @h @hz2) ?_
          refine t_c1 trivial (next_ok b l r 5 (by decide) (by omega)) ?_
          generalize hd5 : nextD l r 5 = d at *
          obtain ⟨c, q5⟩ := d
          simp only at hR hb5 h5q
          by_cases c0 : c = 0
          · rw [if_pos c0] at hR
            have cx := ihn (t) (g) q5 ht hg (by omega) h5q
            have fx := (hD (t) (g) q5 ht hg h5q).1
            generalize hex : termD l n (t) (g) q5 = rx at cx fx hR
            obtain ⟨x, qx⟩ := rx
            simp only at cx fx hR
            refine t_g @c0 ?_
            refine t_c2 (j2 @hsub @hfd) cx (ref02_n_ok 5 [x]) ?_
            repeat (first | refine W_seq ?_ | refine W_skip ?_ | refine W_block ?_ | refine W_inBlock ?_ | refine W_label ?_ | refine W_exit rfl ?_)
            first | refine W_retR hP hf hfn _ ([(b, deck l qx)]) (by first | (simp [go_sem, hP, hgl, hn, nT]; done) | (simp [go_sem, hP, hgl, hn, nT]; rfl)) (by simp [go_sem, hP, hgl, hn, nT]) (by simp) ?_ hR.2 | refine W_endR hP hf hfn _ ([(b, deck l qx)]) (by first | (simp [go_sem, hP, hgl, hn, nT]; done) | (simp [go_sem, hP, hgl, hn, nT]; rfl)) (by simp [go_sem, hP, hgl, hn, nT]) (by simp) ?_ hR.2
            rw [hR.1]
            refine ⟨?_, by simp [nT]⟩
            try simp [nT]
            try all_goals (simp [Ty.dv, Ty.cells_eq, Ty.kind_mk, Ty.args_mk, Tm.dv, Tm.cells_eq, Tm.kind_mk, Tm.index_mk, Tm.type_mk, Tm.args_mk, Val.dv, Val.cells_eq, Val.kind_mk, Val.num_mk, Val.list_mk, Val.args_mk, ints])
          rw [if_neg c0] at hR
          by_cases c1 : c = 1
          · rw [if_pos c1] at hR
            have cx := ihn (t) (g) q5 ht hg (by omega) h5q
            have fx := (hD (t) (g) q5 ht hg h5q).1
            generalize hex : termD l n (t) (g) q5 = rx at cx fx hR
            obtain ⟨x, qx⟩ := rx
            simp only at cx fx hR
            have cy := ihn (t) (g) qx ht hg (by omega) fx
            have fy := (hD (t) (g) qx ht hg fx).1
            generalize hey : termD l n (t) (g) qx = ry at cy fy hR
            obtain ⟨y, qy⟩ := ry
            simp only at cy fy hR
            refine t_g @c1 ?_
            refine t_c4 (j2 @hsub @hfd) ref05_plus_ok cx cy (mk_app_ok plusT [x, y]) ?_
            repeat (first | refine W_seq ?_ | refine W_skip ?_ | refine W_block ?_ | refine W_inBlock ?_ | refine W_label ?_ | refine W_exit rfl ?_)
            first | refine W_retR hP hf hfn _ ([(b, deck l qy)]) (by first | (simp [go_sem, hP, hgl, hn]; done) | (simp [go_sem, hP, hgl, hn]; rfl)) (by simp [go_sem, hP, hgl, hn]) (by simp) ?_ hR.2 | refine W_endR hP hf hfn _ ([(b, deck l qy)]) (by first | (simp [go_sem, hP, hgl, hn]; done) | (simp [go_sem, hP, hgl, hn]; rfl)) (by simp [go_sem, hP, hgl, hn]) (by simp) ?_ hR.2
            rw [hR.1]
            refine ⟨?_, by simp⟩
            try simp
            try all_goals (simp [Ty.dv, Ty.cells_eq, Ty.kind_mk, Ty.args_mk, Tm.dv, Tm.cells_eq, Tm.kind_mk, Tm.index_mk, Tm.type_mk, Tm.args_mk, Val.dv, Val.cells_eq, Val.kind_mk, Val.num_mk, Val.list_mk, Val.args_mk, ints])
          rw [if_neg c1] at hR
          by_cases c2 : c = 2
          · rw [if_pos c2] at hR
            have cx := ihn (t) (g) q5 ht hg (by omega) h5q
            have fx := (hD (t) (g) q5 ht hg h5q).1
            generalize hex : termD l n (t) (g) q5 = rx at cx fx hR
            obtain ⟨x, qx⟩ := rx
            simp only at cx fx hR
            have cy := ihn (t) (g) qx ht hg (by omega) fx
            have fy := (hD (t) (g) qx ht hg fx).1
            generalize hey : termD l n (t) (g) qx = ry at cy fy hR
            obtain ⟨y, qy⟩ := ry
            simp only at cy fy hR
            refine t_g @c2 ?_
            refine t_c4 (j2 @hsub @hfd) ref05_sub_ok cx cy (mk_app_ok subT [x, y]) ?_
            repeat (first | refine W_seq ?_ | refine W_skip ?_ | refine W_block ?_ | refine W_inBlock ?_ | refine W_label ?_ | refine W_exit rfl ?_)
            first | refine W_retR hP hf hfn _ ([(b, deck l qy)]) (by first | (simp [go_sem, hP, hgl, hn]; done) | (simp [go_sem, hP, hgl, hn]; rfl)) (by simp [go_sem, hP, hgl, hn]) (by simp) ?_ hR.2 | refine W_endR hP hf hfn _ ([(b, deck l qy)]) (by first | (simp [go_sem, hP, hgl, hn]; done) | (simp [go_sem, hP, hgl, hn]; rfl)) (by simp [go_sem, hP, hgl, hn]) (by simp) ?_ hR.2
            rw [hR.1]
            refine ⟨?_, by simp⟩
            try simp
            try all_goals (simp [Ty.dv, Ty.cells_eq, Ty.kind_mk, Ty.args_mk, Tm.dv, Tm.cells_eq, Tm.kind_mk, Tm.index_mk, Tm.type_mk, Tm.args_mk, Val.dv, Val.cells_eq, Val.kind_mk, Val.num_mk, Val.list_mk, Val.args_mk, ints])
          rw [if_neg c2] at hR
          have hb3 := nextD_bd (l := l) (p := q5) (n := 3) (by decide)
          obtain ⟨m, hm⟩ : ∃ m : Nat, (nextD l q5 3).1 = m := ⟨_, (Int.toNat_of_nonneg hb3.1).symm⟩
          rw [hm] at hb3
          by_cases c3 : c = 3
          · refine t_g @c3 ?_
            refine t_c2 @hm (next_ok b l q5 3 (by decide) (by omega)) (mk_num_ok m (by omega)) ?_
            repeat (first | refine W_seq ?_ | refine W_skip ?_ | refine W_block ?_ | refine W_inBlock ?_ | refine W_label ?_ | refine W_exit rfl ?_)
            first | refine W_retR hP hf hfn _ ([(b, deck l (nextD l q5 3).2)]) (by first | (simp [go_sem, hP, hgl, hn, numD, hm]; done) | (simp [go_sem, hP, hgl, hn, numD, hm]; rfl)) (by simp [go_sem, hP, hgl, hn, numD, hm]) (by simp) ?_ hR.2 | refine W_endR hP hf hfn _ ([(b, deck l (nextD l q5 3).2)]) (by first | (simp [go_sem, hP, hgl, hn, numD, hm]; done) | (simp [go_sem, hP, hgl, hn, numD, hm]; rfl)) (by simp [go_sem, hP, hgl, hn, numD, hm]) (by simp) ?_ hR.2
            rw [hR.1]
            refine ⟨?_, by simp [numD, hm]⟩
            try simp [numD, hm]
            try all_goals (simp [Ty.dv, Ty.cells_eq, Ty.kind_mk, Ty.args_mk, Tm.dv, Tm.cells_eq, Tm.kind_mk, Tm.index_mk, Tm.type_mk, Tm.args_mk, Val.dv, Val.cells_eq, Val.kind_mk, Val.num_mk, Val.list_mk, Val.args_mk, ints])
          · have c4 : c = 4 := by omega
            refine t_g @c4 ?_
            refine t_c2 @hm (next_ok b l q5 3 (by decide) (by omega)) (mk_num_ok m (by omega)) ?_
            repeat (first | refine W_seq ?_ | refine W_skip ?_ | refine W_block ?_ | refine W_inBlock ?_ | refine W_label ?_ | refine W_exit rfl ?_)
            first | refine W_retR hP hf hfn _ ([(b, deck l (nextD l q5 3).2)]) (by first | (simp [go_sem, hP, hgl, hn, numD, hm]; done) | (simp [go_sem, hP, hgl, hn, numD, hm]; rfl)) (by simp [go_sem, hP, hgl, hn, numD, hm]) (by simp) ?_ hR.2 | refine W_endR hP hf hfn _ ([(b, deck l (nextD l q5 3).2)]) (by first | (simp [go_sem, hP, hgl, hn, numD, hm]; done) | (simp [go_sem, hP, hgl, hn, numD, hm]; rfl)) (by simp [go_sem, hP, hgl, hn, numD, hm]) (by simp) ?_ hR.2
            rw [hR.1]
            refine ⟨?_, by simp [numD, hm]⟩
            try simp [numD, hm]
            try all_goals (simp [Ty.dv, Ty.cells_eq, Ty.kind_mk, Ty.args_mk, Tm.dv, Tm.cells_eq, Tm.kind_mk, Tm.index_mk, Tm.type_mk, Tm.args_mk, Val.dv, Val.cells_eq, Val.kind_mk, Val.num_mk, Val.list_mk, Val.args_mk, ints])
        · rw [if_neg (by omega), if_pos h] at hR
          rw [h] at hfd
          have hb2 := nextD_bd (l := l) (p := r) (n := 2) (by decide)
          refine t_g @h ?_
          generalize hd2 : nextD l r 2 = d at *
          obtain ⟨c, q2⟩ := d
          have cn := next_ok (gl := gl) b l r 2 (by decide) (by omega)
          rw [hd2] at cn
          simp only at hR hb2 h2q cn
          by_cases c0 : c = 0
          · rw [if_pos c0] at hR
            have cx := ihn (Ty.mk 1 []) (g) q2 small_nat hg (by omega) h2q
            have fx := (hD (Ty.mk 1 []) (g) q2 small_nat hg h2q).1
            generalize hex : termD l n (Ty.mk 1 []) (g) q2 = rx at cx fx hR
            obtain ⟨x, qx⟩ := rx
            simp only at cx fx hR
            have cy := ihn (t) (g) qx ht hg (by omega) fx
            have fy := (hD (t) (g) qx ht hg fx).1
            generalize hey : termD l n (t) (g) qx = ry at cy fy hR
            obtain ⟨y, qy⟩ := ry
            simp only at cy fy hR
            refine t_c1 (j2 @hz2 @c0) cn ?_
            refine t_g @c0 ?_
            refine t_c4 (j2 @hsub (j2 @nat_v @hfd)) ref01_nat_ok cx cy (ref02_n_ok 8 [x, y]) ?_
            repeat (first | refine W_seq ?_ | refine W_skip ?_ | refine W_block ?_ | refine W_inBlock ?_ | refine W_label ?_ | refine W_exit rfl ?_)
            first | refine W_retR hP hf hfn _ ([(b, deck l qy)]) (by first | (simp [go_sem, hP, hgl, hn, nT]; done) | (simp [go_sem, hP, hgl, hn, nT]; rfl)) (by simp [go_sem, hP, hgl, hn, nT]) (by simp) ?_ hR.2 | refine W_endR hP hf hfn _ ([(b, deck l qy)]) (by first | (simp [go_sem, hP, hgl, hn, nT]; done) | (simp [go_sem, hP, hgl, hn, nT]; rfl)) (by simp [go_sem, hP, hgl, hn, nT]) (by simp) ?_ hR.2
            rw [hR.1]
            refine ⟨?_, by simp [nT]⟩
            try simp [nT]
            try all_goals (simp [Ty.dv, Ty.cells_eq, Ty.kind_mk, Ty.args_mk, Tm.dv, Tm.cells_eq, Tm.kind_mk, Tm.index_mk, Tm.type_mk, Tm.args_mk, Val.dv, Val.cells_eq, Val.kind_mk, Val.num_mk, Val.list_mk, Val.args_mk, ints])
          · rw [if_neg c0] at hR
            refine t_c1 (j2 @hz2 @c0) cn ?_
            refine t_g @c0 ?_
            refine t_c1 trivial (ref02_n_ok 7 []) ?_
            repeat (first | refine W_seq ?_ | refine W_skip ?_ | refine W_block ?_ | refine W_inBlock ?_ | refine W_label ?_ | refine W_exit rfl ?_)
            first | refine W_retR hP hf hfn _ ([(b, deck l q2)]) (by first | (simp [go_sem, hP, hgl, hn, nT]; done) | (simp [go_sem, hP, hgl, hn, nT]; rfl)) (by simp [go_sem, hP, hgl, hn, nT]) (by simp) ?_ hR.2 | refine W_endR hP hf hfn _ ([(b, deck l q2)]) (by first | (simp [go_sem, hP, hgl, hn, nT]; done) | (simp [go_sem, hP, hgl, hn, nT]; rfl)) (by simp [go_sem, hP, hgl, hn, nT]) (by simp) ?_ hR.2
            rw [hR.1]
            refine ⟨?_, by simp [nT]⟩
            try simp [nT]
            try all_goals (simp [Ty.dv, Ty.cells_eq, Ty.kind_mk, Ty.args_mk, Tm.dv, Tm.cells_eq, Tm.kind_mk, Tm.index_mk, Tm.type_mk, Tm.args_mk, Val.dv, Val.cells_eq, Val.kind_mk, Val.num_mk, Val.list_mk, Val.args_mk, ints])
        · rw [if_neg (by omega), if_neg (by omega), if_neg (by omega), if_neg (by omega)] at hR
          refine t_g @h ?_
          refine t_c1 trivial (ref02_n_ok 13 []) ?_
          repeat (first | refine W_seq ?_ | refine W_skip ?_ | refine W_block ?_ | refine W_inBlock ?_ | refine W_label ?_ | refine W_exit rfl ?_)
          first | refine W_retR hP hf hfn _ ([(b, deck l r)]) (by first | (simp [go_sem, hP, hgl, hn, nT]; done) | (simp [go_sem, hP, hgl, hn, nT]; rfl)) (by simp [go_sem, hP, hgl, hn, nT]) (by simp) ?_ hR.2 | refine W_endR hP hf hfn _ ([(b, deck l r)]) (by first | (simp [go_sem, hP, hgl, hn, nT]; done) | (simp [go_sem, hP, hgl, hn, nT]; rfl)) (by simp [go_sem, hP, hgl, hn, nT]) (by simp) ?_ hR.2
          rw [hR.1]
          refine ⟨?_, by simp [nT]⟩
          try simp [nT]
          try all_goals (simp [Ty.dv, Ty.cells_eq, Ty.kind_mk, Ty.args_mk, Tm.dv, Tm.cells_eq, Tm.kind_mk, Tm.index_mk, Tm.type_mk, Tm.args_mk, Val.dv, Val.cells_eq, Val.kind_mk, Val.num_mk, Val.list_mk, Val.args_mk, ints])
        · rw [if_neg (by omega), if_neg (by omega), if_pos h] at hR
          obtain ⟨s0, s1, hc⟩ := ht.arg (.inl h)
          have ha : t.args = [t.arg 0, t.arg 1] := by rw [e]; rfl
          have cx := ihn (t.arg 0) (g) r s0 hg (by omega) hr
          have fx := (hD (t.arg 0) (g) r s0 hg hr).1
          generalize hex : termD l n (t.arg 0) (g) r = rx at cx fx hR
          obtain ⟨x, qx⟩ := rx
          simp only at cx fx hR
          have cy := ihn (t.arg 1) (g) qx s1 hg (by omega) fx
          have fy := (hD (t.arg 1) (g) qx s1 hg fx).1
          generalize hey : termD l n (t.arg 1) (g) qx = ry at cy fy hR
          obtain ⟨y, qy⟩ := ry
          simp only at cy fy hR
          refine t_g @h ?_
          refine t_c3 (j2 @hsub @ha) cx cy (ref02_n_ok 10 [x, y]) ?_
          repeat (first | refine W_seq ?_ | refine W_skip ?_ | refine W_block ?_ | refine W_inBlock ?_ | refine W_label ?_ | refine W_exit rfl ?_)
          first | refine W_retR hP hf hfn _ ([(b, deck l qy)]) (by first | (simp [go_sem, hP, hgl, hn, nT]; done) | (simp [go_sem, hP, hgl, hn, nT]; rfl)) (by simp [go_sem, hP, hgl, hn, nT]) (by simp) ?_ hR.2 | refine W_endR hP hf hfn _ ([(b, deck l qy)]) (by first | (simp [go_sem, hP, hgl, hn, nT]; done) | (simp [go_sem, hP, hgl, hn, nT]; rfl)) (by simp [go_sem, hP, hgl, hn, nT]) (by simp) ?_ hR.2
          rw [hR.1]
          refine ⟨?_, by simp [nT]⟩
          try simp [nT]
          try all_goals (simp [Ty.dv, Ty.cells_eq, Ty.kind_mk, Ty.args_mk, Tm.dv, Tm.cells_eq, Tm.kind_mk, Tm.index_mk, Tm.type_mk, Tm.args_mk, Val.dv, Val.cells_eq, Val.kind_mk, Val.num_mk, Val.list_mk, Val.args_mk, ints])
        · rw [if_neg (by omega), if_neg (by omega), if_neg (by omega), if_pos h] at hR
          obtain ⟨s0, s1, hc⟩ := ht.arg (.inr h)
          have ha : t.args = [t.arg 0, t.arg 1] := by rw [e]; rfl
          have cx := ihn (t.arg 1) (g ++ [t.arg 0]) r s1 (hg1 [t.arg 0] (by simpa using s0)) (by simp; omega) hr
          have fx := (hD (t.arg 1) (g ++ [t.arg 0]) r s1 (hg1 [t.arg 0] (by simpa using s0)) hr).1
          generalize hex : termD l n (t.arg 1) (g ++ [t.arg 0]) r = rx at cx fx hR
          obtain ⟨x, qx⟩ := rx
          simp only at cx fx hR
          refine t_g @h ?_
          refine t_c3 (j2 @hsub @ha) (mk_longer_ok g [t.arg 0] (by simp; omega)) cx (ref02_t_ok 2 (t.arg 0) [x]) ?_
          repeat (first | refine W_seq ?_ | refine W_skip ?_ | refine W_block ?_ | refine W_inBlock ?_ | refine W_label ?_ | refine W_exit rfl ?_)
          first | refine W_retR hP hf hfn _ ([(b, deck l qx)]) (by first | (simp [go_sem, hP, hgl, hn]; done) | (simp [go_sem, hP, hgl, hn]; rfl)) (by simp [go_sem, hP, hgl, hn]) (by simp) ?_ hR.2 | refine W_endR hP hf hfn _ ([(b, deck l qx)]) (by first | (simp [go_sem, hP, hgl, hn]; done) | (simp [go_sem, hP, hgl, hn]; rfl)) (by simp [go_sem, hP, hgl, hn]) (by simp) ?_ hR.2
          rw [hR.1]
          refine ⟨?_, by simp⟩
          try simp
          try all_goals (simp [Ty.dv, Ty.cells_eq, Ty.kind_mk, Ty.args_mk, Tm.dv, Tm.cells_eq, Tm.kind_mk, Tm.index_mk, Tm.type_mk, Tm.args_mk, Val.dv, Val.cells_eq, Val.kind_mk, Val.num_mk, Val.list_mk, Val.args_mk, ints])
  · rw [hpk] at hR
    simp only at hR
    obtain ⟨h0, h1, k, i, hk, hi, rfl, rfl⟩ := pickD_some' hpk
    have hpos : 0 < (varsN g t).length := by omega
    have hpos3 : 0 < (nextD l p 3).1 := by omega
    have hgi := ints_get (l := natI (varsN g t)) (i := k) (n := i) (by simp [natI, hi])
    have hkl := (List.getElem?_eq_some_iff.1 hi).1
    refine t_g0 ?_
    refine t_c1 trivial (mk_vars_ok g t (by omega)) ?_
    refine t_g0 ?_
    refine t_c1 (j2 @natI_len (j2 @hpos @hpos3)) (next_ok b l p 3 (by decide) (by omega)) ?_
    refine t_g @hpos3 ?_
    refine t_c2 (j2 @natI_len (j2 @hk @hgi)) (next_ok b l (nextD l p 3).2 (varsN g t).length (by omega) (by omega)) (ref02_var_ok i) ?_
    repeat (first | refine W_seq ?_ | refine W_skip ?_ | refine W_block ?_ | refine W_inBlock ?_ | refine W_label ?_ | refine W_exit rfl ?_)
    first | refine W_retR hP hf hfn _ ([(b, deck l (nextD l (nextD l p 3).2 (varsN g t).length).2)]) (by first | (simp [go_sem, hP, hgl, hn, vT]; done) | (simp [go_sem, hP, hgl, hn, vT]; rfl)) (by simp [go_sem, hP, hgl, hn, vT]) (by simp) ?_ hR.2 | refine W_endR hP hf hfn _ ([(b, deck l (nextD l (nextD l p 3).2 (varsN g t).length).2)]) (by first | (simp [go_sem, hP, hgl, hn, vT]; done) | (simp [go_sem, hP, hgl, hn, vT]; rfl)) (by simp [go_sem, hP, hgl, hn, vT]) (by simp) ?_ hR.2
    rw [hR.1]
    refine ⟨?_, by simp [vT]⟩
    try simp [vT]
    try all_goals (simp [Ty.dv, Ty.cells_eq, Ty.kind_mk, Ty.args_mk, Tm.dv, Tm.cells_eq, Tm.kind_mk, Tm.index_mk, Tm.type_mk, Tm.args_mk, Val.dv, Val.cells_eq, Val.kind_mk, Val.num_mk, Val.list_mk, Val.args_mk, ints])
end Go.Proofs.YtcldnfbcbkaanaaGreatDoor.Lift

namespace Go.Proofs.YtcldnfbcbkaanaaGreatDoor.Lift
set_option linter.unusedSimpArgs false
set_option linter.unusedVariables false
set_option linter.unnecessarySimpa false
open Go
variable {gl : Globs}

/-! sizes of what is drawn, and of the terms of values -/
theorem shape_tys (t : Tm) (h : t.shape = true) : t.tys := by
  induction t using Tm.ind with
  | h t ih =>
  obtain ⟨-, -, -, h4, h5⟩ := Tm.shape_node h
  rw [Tm.tys_eq]
  refine ⟨?_, fun a ha => ih a ha (h5 a ha)⟩
  split at h4
  · have := h4.2; omega
  · unfold Ty.zero at h4
    simp at h4
    rw [Ty.count_eq, h4.2]
    decide

theorem pickD_count {l : List Int} {t : Ty} {g : List Ty} {p q : Nat} {x : Tm} (h : pickD l t g p = (some x, q)) : x.count = 1 := by
  obtain ⟨i, rfl, -⟩ := pickD_some h
  rfl
theorem numD_count (l : List Int) (p : Nat) : (numD l p).1.count ≤ 3 := by
  have := nextD_bd (l := l) (p := p) (n := 3) (by decide)
  show (numTm _).count ≤ 3
  rw [numTm_count]
  omega
theorem leafD_count (l : List Int) (t : Ty) : t.small → ∀ (g : List Ty) (p : Nat), (leafD l t g p).1.count ≤ 3 * t.count := by
  generalize hn : t.count = n
  induction n using Nat.strongRecOn generalizing t with
  | _ n ih =>
  intro ht g p
  have h1 : 1 ≤ t.count := by rw [Ty.count_eq]; omega
  rw [leafD_eq l t g p ht.ok]
  split
  · rename_i x q hx
    have := pickD_count hx
    simp only; omega
  · rename_i q hx
    have hN := numD_count l q
    rcases small_kinds ht with ⟨h, e⟩ | ⟨h, e⟩ | ⟨h, e⟩ | ⟨h, e⟩ | ⟨h, e⟩
    · rw [if_pos h]; omega
    · rw [if_neg (by omega), if_pos h]; show 1 + 0 ≤ _; omega
    · rw [if_neg (by omega), if_neg (by omega), if_neg (by omega), if_neg (by omega)]; show 1 + 0 ≤ _; omega
    · rw [if_neg (by omega), if_neg (by omega), if_pos h]
      obtain ⟨s0, s1, hc⟩ := ht.arg (.inl h)
      have a := ih _ (by omega) (t.arg 0) rfl s0 g q
      have b := ih _ (by omega) (t.arg 1) rfl s1 g (leafD l (t.arg 0) g q).2
      show 1 + (_ + (_ + 0)) ≤ _
      omega
    · rw [if_neg (by omega), if_neg (by omega), if_neg (by omega), if_pos h]
      obtain ⟨s0, s1, hc⟩ := ht.arg (.inr h)
      have b := ih _ (by omega) (t.arg 1) rfl s1 (g ++ [t.arg 0]) q
      show 1 + (_ + 0) ≤ _
      omega

def Small (l : List Int) (F : Ty → List Ty → Nat → Tm × Nat) (B : Nat) : Prop := ∀ t g p, t.small → (∀ x ∈ g, x.small) → p ≤ l.length → (F t g p).1.count ≤ B
theorem plusT_count : plusT.count = 9 := by decide
theorem subT_count : subT.count ≤ 16 := by decide
theorem app2_count (f x y : Tm) : (appsT f [x, y]).count = 2 + f.count + x.count + y.count := by
  show 1 + ((1 + (f.count + (x.count + 0))) + (y.count + 0)) = _
  omega
theorem endD_count {l : List Int} {F : Ty → List Ty → Nat → Tm × Nat} {B : Nat} (hD : Draws l F (fun _ _ x => x.shape = true)) (hF : Small l F B) : Small l (endD l F) (2 * B + 20) := by
  intro t g q ht hg hq
  have h5 := nextD_le (n := 5) hq
  have h2 := nextD_le (n := 2) hq
  have c1 := hF t g (nextD l q 5).2 ht hg h5
  have d1 := (hD t g (nextD l q 5).2 ht hg h5).1
  have c2 := hF t g _ ht hg d1
  have e1 := hF (Ty.mk 1 []) g (nextD l q 2).2 small_nat hg h2
  have f1 := (hD (Ty.mk 1 []) g (nextD l q 2).2 small_nat hg h2).1
  have e2 := hF t g _ ht hg f1
  have hN := numD_count l (nextD l q 5).2
  have hp := plusT_count
  have hs := subT_count
  unfold endD
  split
  · split
    · show 1 + (_ + 0) ≤ _; omega
    split
    · simp only [app2_count]; omega
    split
    · simp only [app2_count]; omega
    · omega
  split
  · split
    · show 1 + (_ + (_ + 0)) ≤ _; omega
    · show 1 + 0 ≤ _; omega
  split
  · rename_i h
    obtain ⟨s0, s1, -⟩ := ht.arg (.inl h)
    have a1 := hF (t.arg 0) g q s0 hg hq
    have a2 := hF (t.arg 1) g _ s1 hg (hD (t.arg 0) g q s0 hg hq).1
    show 1 + (_ + (_ + 0)) ≤ _; omega
  split
  · rename_i h
    obtain ⟨s0, s1, -⟩ := ht.arg (.inr h)
    have a2 := hF (t.arg 1) (g ++ [t.arg 0]) q s1 (by intro x hx; rcases List.mem_append.1 hx with hx | hx; exact hg x hx; rw [List.mem_singleton.1 hx]; exact s0) hq
    show 1 + (_ + 0) ≤ _; omega
  · show 1 + 0 ≤ _; omega
theorem stepD_count {l : List Int} {F : Ty → List Ty → Nat → Tm × Nat} {B : Nat} (hD : Draws l F (fun _ _ x => x.shape = true)) (hF : Small l F B) (k : Int) : Small l (fun t g p => stepD l F t g k p) (3 * B + 20) := by
  intro t g p ht hg hp
  have hg1 : ∀ a : List Ty, (∀ x ∈ a, x.small) → ∀ x ∈ g ++ a, x.small := by
    intro a ha x hx
    rcases List.mem_append.1 hx with hx | hx
    · exact hg x hx
    · exact ha x hx
  have hE := endD_count hD hF t g p ht hg hp
  obtain ⟨s1, s2⟩ := typeD_small l (n := 0) hp (by decide)
  show (stepD l F t g k p).1.count ≤ _
  unfold stepD
  split
  · have gs := hg1 [(typeD l 0 p).1] (by simpa using s2)
    have a := hF t _ _ ht gs s1
    have b := hF _ g _ s2 hg (hD t _ _ ht gs s1).1
    show 1 + ((1 + (_ + 0)) + (_ + 0)) ≤ _; omega
  split
  · have a := hF t g _ ht hg s1
    have b := hF _ g _ s2 hg (hD t g _ ht hg s1).1
    show 1 + ((1 + (_ + (_ + 0))) + 0) ≤ _; omega
  split
  · have gs := hg1 [Ty.mk 1 [], t] (by intro x hx; simp at hx; rcases hx with rfl | rfl; exact small_nat; exact ht)
    have d := (hD t _ _ ht gs hp).1
    have a := hF t _ _ ht gs hp
    have b := hF t g _ ht hg d
    have c := numD_count l (F t g (F t (g ++ [Ty.mk 1 [], t]) p).2).2
    show 1 + (_ + ((1 + ((1 + (_ + 0)) + 0)) + (_ + 0))) ≤ _; omega
  split
  · have gs := hg1 [Ty.mk 1 [], Ty.mk 2 [], t] (by intro x hx; simp at hx; rcases hx with rfl | rfl | rfl; exact small_nat; exact small_list; exact ht)
    have d := (hD t _ _ ht gs hp).1
    have a := hF t _ _ ht gs hp
    have b := hF t g _ ht hg d
    have c := hF (Ty.mk 2 []) g _ small_list hg (hD t g _ ht hg d).1
    show 1 + (_ + ((1 + ((1 + ((1 + (_ + 0)) + 0)) + 0)) + (_ + 0))) ≤ _; omega
  split
  · have a := hF _ g _ s2 hg s1
    have b := hF t g _ ht hg (hD _ g _ s2 hg s1).1
    show 1 + ((1 + (_ + (_ + 0))) + 0) ≤ _; omega
  split
  · split
    · rename_i i hi
      obtain ⟨f1, f2, f3⟩ := funN_some hi
      obtain ⟨c0, c1, -⟩ := (hg _ (varTy_mem f1).1).arg (.inr f2)
      have a := hF _ g _ c0 hg hp
      show 1 + ((1 + 0) + (_ + 0)) ≤ _; omega
    · omega
  · omega
def drawB : Nat → Nat
  | 0 => 45
  | n + 1 => 3 * drawB n + 20
theorem termD_count (l : List Int) : ∀ n, Small l (termD l n) (drawB n)
  | 0 => by intro t g p ht hg hp; have := leafD_count l t ht g p; have := ht.2; show _ ≤ 45; simp only [termD]; omega
  | n + 1 => by
    intro t g p ht hg hp
    have hq := pickD_le (t := t) (g := g) hp
    have ih := stepD_count (termD_facts closed_shape n) (termD_count l n)
    unfold termD
    split
    · rename_i x q hx
      have := pickD_count hx
      simp only [drawB]; omega
    · rename_i q hx
      rw [hx] at hq
      exact ih _ t g _ ht hg (nextD_le hq)

end Go.Proofs.YtcldnfbcbkaanaaGreatDoor.Lift

/-
  Package typing: the types of terms that have types; terms.TypeOf.
-/
namespace Go.Proofs.YtcldnfbcbkaanaaGreatDoor.Lift
set_option linter.unusedSimpArgs false
set_option linter.unusedVariables false
set_option linter.unnecessarySimpa false
open Go
variable {gl : Globs}

/-- a rule that gives a type gives it in the program's form too -/
theorem tnode_ok {t : Tm} (ht : t.shape = true) (hk1 : ¬ t.kind = 1) (hk2 : ¬ t.kind = 2) {ds : List Ty} (hl : ds.length = t.args.length) (hd : ∀ d ∈ ds, d.ok) {r : Ty} (hr : ruleN t.kind t.type ds = (r, 0)) :
    Con1 Tryz.prog gl 151 [t.dv, .agg (sz3 ds)] [] (.tup [.agg (szC r), dint 0]) [] := by
  obtain ⟨ha, hi, hv, hty, hs⟩ := Tm.shape_node ht
  rw [← hl] at ha
  unfold ruleN at hr
  rw [if_neg hk2] at hr
  by_cases h3 : t.kind = 3
  · rw [if_pos h3] at hr
    rw [h3] at ha
    match ds, ha with
    | [x, y], _ =>
      split at hr
      · rename_i hx
        obtain ⟨hx1, hx2⟩ := hx
        have hx1 : x.kind = 4 := hx1
        obtain ⟨p, q, hp, op, oq, e0, e1⟩ := Ty.ok_args (hd x (by simp)) (.inr hx1)
        have hx2 : (x.arg 0).same y = true := hx2
        rw [e0] at hx2
        have e2 : ([x, y].getD 0 zeroTy).arg 1 = q := e1
        rw [e2] at hr
        cases hr
        exact node_k3 t h3 x y p _ hx1 hp op oq hx2
      · cases hr
  rw [if_neg h3] at hr
  by_cases h4 : t.kind = 4
  · rw [if_pos h4] at hr
    rw [h4] at ha
    match ds, ha with
    | [], _ => cases hr; exact node_k4 t h4
  rw [if_neg h4] at hr
  by_cases h5 : t.kind = 5
  · rw [if_pos h5] at hr
    rw [h5] at ha
    match ds, ha with
    | [x], _ =>
      split at hr
      · rename_i hx
        have hx : x.same (Ty.mk 1 []) = true := hx
        obtain rfl := (Ty.same_iff _ _).1 hx
        cases hr
        exact node_k5 t h5
      · cases hr
  rw [if_neg h5] at hr
  by_cases h6 : t.kind = 6
  · rw [if_pos h6] at hr
    rw [h6] at ha
    rw [if_pos (.inr (.inl h6))] at hty
    match ds, ha with
    | [x, y, z], _ =>
      split at hr
      · rename_i hx
        obtain ⟨hx, hy, hz⟩ := hx
        have hz : z.same (Ty.mk 1 []) = true := hz
        obtain rfl := (Ty.same_iff _ _).1 hz
        cases hr
        refine node_k69 t (.inl h6) hty x y _ hx ?_ ?_
        · rw [if_neg (by omega)]; exact hy
        · rw [if_neg (by omega)]; rfl
      · cases hr
  rw [if_neg h6] at hr
  by_cases h7 : t.kind = 7
  · rw [if_pos h7] at hr
    rw [h7] at ha
    match ds, ha with
    | [], _ => cases hr; exact node_k7 t h7
  rw [if_neg h7] at hr
  by_cases h8 : t.kind = 8
  · rw [if_pos h8] at hr
    rw [h8] at ha
    match ds, ha with
    | [x, y], _ =>
      split at hr
      · rename_i hx
        obtain ⟨hx, hy⟩ := hx
        have hx : x.same (Ty.mk 1 []) = true := hx
        have hy : y.same (Ty.mk 2 []) = true := hy
        obtain rfl := (Ty.same_iff _ _).1 hx
        obtain rfl := (Ty.same_iff _ _).1 hy
        cases hr
        exact node_k8 t h8
      · cases hr
  rw [if_neg h8] at hr
  by_cases h9 : t.kind = 9
  · rw [if_pos h9] at hr
    rw [h9] at ha
    rw [if_pos (.inr (.inr h9))] at hty
    match ds, ha with
    | [x, y, z], _ =>
      split at hr
      · rename_i hx
        obtain ⟨hx, hy, hz⟩ := hx
        have hz : z.same (Ty.mk 2 []) = true := hz
        obtain rfl := (Ty.same_iff _ _).1 hz
        cases hr
        refine node_k69 t (.inr h9) hty x y _ hx ?_ ?_
        · rw [if_pos h9]; exact hy
        · rw [if_pos h9]; rfl
      · cases hr
  rw [if_neg h9] at hr
  by_cases h10 : t.kind = 10
  · rw [if_pos h10] at hr
    rw [h10] at ha
    match ds, ha with
    | [x, y], _ =>
      have hr : okN (Ty.mk 3 [x, y]) = (r, 0) := hr
      obtain ⟨o1, o2⟩ := okN_ok (Ty.mk 3 [x, y]) (by rw [hr])
      rw [o2] at hr
      rw [o2] at o1
      cases hr
      have := o1.2
      rw [count_two] at this
      exact node_k10 t h10 x y (by omega)
  rw [if_neg h10] at hr
  by_cases h11 : t.kind = 11
  · rw [if_pos h11] at hr
    rw [h11] at ha
    match ds, ha with
    | [x], _ =>
      split at hr
      · rename_i hx
        have hx : x.kind = 3 := hx
        obtain ⟨p, q, hp, op, oq, e0, e1⟩ := Ty.ok_args (hd x (by simp)) (.inl hx)
        have e2 : ([x].getD 0 zeroTy).arg 0 = p := e0
        rw [e2] at hr
        cases hr
        exact node_k11 t h11 x _ q hx hp op
      · cases hr
  rw [if_neg h11] at hr
  by_cases h12 : t.kind = 12
  · rw [if_pos h12] at hr
    rw [h12] at ha
    match ds, ha with
    | [x], _ =>
      split at hr
      · rename_i hx
        have hx : x.kind = 3 := hx
        obtain ⟨p, q, hp, op, oq, e0, e1⟩ := Ty.ok_args (hd x (by simp)) (.inl hx)
        have e2 : ([x].getD 0 zeroTy).arg 1 = q := e1
        rw [e2] at hr
        cases hr
        exact node_k12 t h12 x p _ hx hp oq
      · cases hr
  rw [if_neg h12] at hr
  have hkn : known t.kind = true := by rw [arityI_known]; simp; omega
  have h13 : t.kind = 13 := by
    simp [known] at hkn
    omega
  rw [h13] at ha
  match ds, ha with
  | [], _ => cases hr; exact node_k13 t h13

set_option maxHeartbeats 1000000 in
theorem typeof_t_ok (t : Tm) (g : List Ty) (hgt : g.length + t.count ≤ 2147483648) (ht : t.shape = true) (hg : ∀ x ∈ g, x.ok) (h : (t.inferN g).2 = 0) :
    Con1 Tryz.prog gl 85 [.sl (g.map szC), t.dv] [] (.tup [.agg (szC (t.inferN g).1), dint 0]) [] := by
  induction t using Tm.ind generalizing g with
  | h t ih =>
  obtain ⟨ha, hi, hv, hty, hs⟩ := Tm.shape_node ht
  refine t_in Tryz.func85 ?_
  intro X hP hgl hf hfn hn hR hids hfit
  have hlg := sl_len (hfit (.sl (g.map szC)) (by simp))
  simp at hlg
  rw [Tm.inferN_eq t] at h hR
  by_cases h1 : t.kind = 1
  · rw [if_pos h1] at h hR
    by_cases h2 : (g.length : Int) ≤ t.index
    · rw [if_pos h2] at h; cases h
    rw [if_neg h2] at hR
    have hlt : g.length - 1 - t.index.toNat < g.length := by omega
    have hx := List.getElem?_eq_getElem hlt
    rw [List.getD_eq_getElem?_getD] at hR
    generalize hge : g[g.length - 1 - t.index.toNat] = x at hx
    have hx' : g[(g.length - 1 - t.index : Int).toNat]? = some x := by rw [← hx]; congr 1; omega
    rw [hx, Option.getD_some] at hR
    refine t_g (j2 @h1 (j2 @h2 (j2 @hx' (szC_eq x)))) ?_
    refine t_r ?_
    simp [go_sem, hP, hgl, hn, szC_eq x] <;> (try omega)
  rw [if_neg h1] at h hR
  by_cases hk2 : t.kind = 2
  · rw [if_pos hk2] at h hR
    rw [hk2] at ha
    obtain ⟨b, hb⟩ : ∃ b, t.args = [b] := by
      match hh : t.args, ha with
      | [b], _ => exact ⟨b, rfl⟩
    have hbm : b ∈ t.args := by rw [hb]; simp
    rw [if_pos (.inl hk2)] at hty
    have hg' : ∀ x ∈ g ++ [t.type], x.ok := by
      intro x hx
      rcases List.mem_append.1 hx with hx | hx
      · exact hg x hx
      · rw [List.mem_singleton.1 hx]; exact hty
    have hcb1 : t.count = 1 + (b.count + 0) := by rw [Tm.count_eq, hb]; rfl
    have hcb2 := Tm.count_pos b
    have hgl1 : g.length ≤ 2147483647 := by omega
    rw [hb] at h hR
    simp only [Tm.inferN.infers] at h hR
    have hb0 : (b.inferN (g ++ [t.type])).2 = 0 := by
      by_cases e : (b.inferN (g ++ [t.type])).2 = 0
      · exact e
      · rw [if_neg e] at h
        simp only at h
        rw [if_neg e] at h
        exact absurd h e
    rw [if_pos hb0] at h hR
    simp only [if_true] at h hR
    have hbo := Tm.inferN_ok b (g ++ [t.type]) (hs b hbm) hg' hb0
    have w1 := ih b hbm (g ++ [t.type]) (by simp; omega) (hs b hbm) hg' hb0
    generalize (b.inferN (g ++ [t.type])).1 = rb at *
    have hrule : ruleN t.kind t.type [rb] = okN (Ty.mk 4 [t.type, rb]) := by rw [hk2]; rfl
    rw [hrule] at h hR
    obtain ⟨o1, o2⟩ := okN_ok (Ty.mk 4 [t.type, rb]) h
    rw [o2] at o1 hR
    have hcc := o1.2
    rw [count_two] at hcc
    have wo := ty_of_ok (gl := gl) t.type hty
    have wj := ty_join_ok (gl := gl) 4 t.type rb (by omega)
    have fty := Ty.fold t.type
    have fb := Tm.fold b
    have hszm : List.map szC (g ++ [t.type]) = List.map szC g ++ [szC t.type] := by simp
    have hlm : (List.map szC g).length = g.length := by simp
    generalize Ty.mk 4 [t.type, rb] = r4 at *
    rw [hszm] at w1
    simp only [szC_eq t.type, szC_eq rb, szC_eq r4] at w1 wo wj hR
    have hwid : ∀ e : List DV, e ∈ List.map szC g → e.length = 3 := by intro e he; simp only [List.mem_map] at he; obtain ⟨x, -, rfl⟩ := he; rfl
    generalize List.map szC g = G at *
    have htake : List.take g.length G = G := by rw [List.take_of_length_le]; omega
    refine t_g @hk2 ?_
    refine t_c1 (j2 @hk2 @fty) wo ?_
    refine t_c1 (j2 @hk2 (j2 @hb (j2 @htake (j2 @hlm (j2 @hwid @hgl1))))) w1 ?_
    refine t_g0 ?_
    refine t_c1 trivial wj ?_
    refine t_r ?_
    simp [go_sem, hP, hgl, hn] <;> (try omega)
  rw [if_neg hk2] at h hR
  have hlen := Tm.fit_len (hfit t.dv (by simp))
  have hI : (Tm.inferN.infers t.args g).2 = 0 := by
    by_cases e : (Tm.inferN.infers t.args g).2 = 0
    · exact e
    · rw [if_neg e] at h; exact absurd h e
  rw [if_pos hI] at h hR
  obtain ⟨hdl, hall⟩ := Tm.infers_all t.args g hI
  have hdo : ∀ a ∈ (Tm.inferN.infers t.args g).1, a.ok := by
    intro a ha
    obtain ⟨i, hi, rfl⟩ := List.mem_iff_getElem.1 ha
    obtain ⟨x1, x2⟩ := hall i t.args[i] (List.getElem?_eq_getElem (by omega))
    rw [List.getElem?_eq_getElem hi] at x2
    rw [Option.some.inj x2]
    exact Tm.inferN_ok _ g (hs _ (List.getElem_mem _)) hg x1
  have wn := tnode_ok (gl := gl) (t := t) ht h1 hk2 hdl hdo (r := (ruleN t.kind t.type (Tm.inferN.infers t.args g).1).1) (by rw [← h])
  generalize (ruleN t.kind t.type (Tm.inferN.infers t.args g).1).1 = r at *
  generalize (Tm.inferN.infers t.args g).1 = ds at *
  have h3 : t.args.length ≤ 3 := by
    have : arityI t.kind ≤ 3 := by unfold arityI; repeat' split
                                   all_goals omega
    omega
  have ftt := Tm.fold t
  simp only [szC_eq r] at wn hR
  have step : ∀ (i : Nat) (x : Tm), t.args[i]? = some x → ∃ d, ds[i]? = some d ∧ Con1 Tryz.prog gl 85 [.sl (g.map szC), x.dv] [] (.tup [.agg (szC d), dint 0]) [] := by
    intro i x hx
    obtain ⟨x1, x2⟩ := hall i x hx
    have hm := List.mem_of_getElem? hx
    have hcx := Tm.count_mem hm
    have hct := Tm.count_eq t
    exact ⟨_, x2, ih x hm g (by omega) (hs x hm) hg x1⟩
  clear ih
  have hgm : List.map szC g = List.map szC g := rfl
  generalize List.map szC g = G at *
  have done0 : ∀ (p : List Ty), t.args.length = p.length → ds = p → sz3 ds = sz3 p := by intro p _ e; rw [e]
  match hargs : t.args, h3 with
  | [], _ =>
    rw [hargs] at hdl
    obtain rfl : ds = [] := List.length_eq_zero_iff.1 hdl
    rw [sz3_0] at wn
    rw [hargs] at ftt
    simp only [List.map_nil] at ftt
    refine t_g (j2 @h1 (j2 @hk2 @hargs)) ?_
    refine W_loop ?_
    refine t_g @hargs ?_
    refine t_c1 (j2 @hargs @ftt) wn ?_
    refine t_r ?_
    simp [go_sem, hP, hgl, hn] <;> (try omega)
  | [x], _ =>
    obtain ⟨d, hd, w⟩ := step 0 x (by rw [hargs]; rfl)
    rw [hargs] at hdl
    obtain rfl : ds = [d] := by
      match ds, hdl, hd with
      | [_], _, hd => simp at hd; rw [hd]
    rw [sz3_1] at wn
    simp only [szC_eq] at w
    rw [hargs] at ftt
    simp only [List.map_cons, List.map_nil] at ftt
    rw [Tm.cells_eq x] at ftt
    refine t_g (j2 @h1 (j2 @hk2 @hargs)) ?_
    refine W_loop ?_
    refine t_g @hargs ?_
    refine t_c1 trivial w ?_
    refine t_g0 ?_
    refine W_sub [] (s' := [(.slot 0, .one (.v (.sl G))), (.slot 67, .one (.v (dint 1))), (.slot 66, .one (.v (dint 1))), (.slot 65, .one (.v (.sl [x.cells]))), (.slot 3, .one (.loc 3 0)), (.loc 3, .row ([.v (dint t.kind), .v (dint t.index), .v (dint t.type.kind), .v (.sl (t.type.args.map Ty.cells)), .v (.sl [x.cells])])), (.slot 4, .one (.loc 4 0)), (.loc 4, .row ([.v (dint 0), .own 0 [], .v (dint 0)])), (.slot 9, .one (.loc 9 0)), (.loc 9, .row ([.v (dint d.kind), .v (.sl (d.args.map Ty.cells)), .v (dint (d.count : Int)), .v (dint 0), .own 0 [], .v (dint 0), .v (dint 0), .own 0 [], .v (dint 0)]))]) (by simp [go_sem]) (by simp [go_sem, hargs]) (by simp [go_sem]) ?_
    refine W_inLoop ?_
    refine t_g0 ?_
    refine t_c1 @ftt wn ?_
    refine t_r ?_
    simp [go_sem, hP, hgl, hn] <;> (try omega)
  | [x, y], _ =>
    obtain ⟨d, hd, w⟩ := step 0 x (by rw [hargs]; rfl)
    obtain ⟨e, he, v⟩ := step 1 y (by rw [hargs]; rfl)
    rw [hargs] at hdl
    obtain rfl : ds = [d, e] := by
      match ds, hdl, hd, he with
      | [_, _], _, hd, he => simp at hd he; rw [hd, he]
    rw [sz3_2] at wn
    simp only [szC_eq] at w v
    rw [hargs] at ftt
    simp only [List.map_cons, List.map_nil] at ftt
    rw [Tm.cells_eq x, Tm.cells_eq y] at ftt
    refine t_g (j2 @h1 (j2 @hk2 @hargs)) ?_
    refine W_loop ?_
    refine t_g @hargs ?_
    refine t_c1 trivial w ?_
    refine t_g0 ?_
    refine W_sub [] (s' := [(.slot 0, .one (.v (.sl G))), (.slot 67, .one (.v (dint 1))), (.slot 66, .one (.v (dint 2))), (.slot 65, .one (.v (.sl [x.cells, y.cells]))), (.slot 3, .one (.loc 3 0)), (.loc 3, .row ([.v (dint t.kind), .v (dint t.index), .v (dint t.type.kind), .v (.sl (t.type.args.map Ty.cells)), .v (.sl [x.cells, y.cells])])), (.slot 4, .one (.loc 4 0)), (.loc 4, .row ([.v (dint 0), .own 0 [], .v (dint 0)])), (.slot 9, .one (.loc 9 0)), (.loc 9, .row ([.v (dint d.kind), .v (.sl (d.args.map Ty.cells)), .v (dint (d.count : Int)), .v (dint 0), .own 0 [], .v (dint 0), .v (dint 0), .own 0 [], .v (dint 0)]))]) (by simp [go_sem]) (by simp [go_sem, hargs]) (by simp [go_sem]) ?_
    refine W_inLoop ?_
    refine t_g @hargs ?_
    refine t_c1 trivial v ?_
    refine t_g0 ?_
    refine W_sub [] (s' := [(.slot 0, .one (.v (.sl G))), (.slot 67, .one (.v (dint 2))), (.slot 66, .one (.v (dint 2))), (.slot 65, .one (.v (.sl [x.cells, y.cells]))), (.slot 3, .one (.loc 3 0)), (.loc 3, .row ([.v (dint t.kind), .v (dint t.index), .v (dint t.type.kind), .v (.sl (t.type.args.map Ty.cells)), .v (.sl [x.cells, y.cells])])), (.slot 4, .one (.loc 4 0)), (.loc 4, .row ([.v (dint 0), .own 0 [], .v (dint 0)])), (.slot 9, .one (.loc 9 0)), (.loc 9, .row ([.v (dint d.kind), .v (.sl (d.args.map Ty.cells)), .v (dint (d.count : Int)), .v (dint e.kind), .v (.sl (e.args.map Ty.cells)), .v (dint (e.count : Int)), .v (dint 0), .own 0 [], .v (dint 0)]))]) (by simp [go_sem]) (by simp [go_sem, hargs]) (by simp [go_sem]) ?_
    refine W_inLoop ?_
    refine t_g0 ?_
    refine t_c1 @ftt wn ?_
    refine t_r ?_
    simp [go_sem, hP, hgl, hn] <;> (try omega)
  | [x, y, z], _ =>
    obtain ⟨d, hd, w⟩ := step 0 x (by rw [hargs]; rfl)
    obtain ⟨e, he, v⟩ := step 1 y (by rw [hargs]; rfl)
    obtain ⟨k, hf3, u⟩ := step 2 z (by rw [hargs]; rfl)
    rw [hargs] at hdl
    obtain rfl : ds = [d, e, k] := by
      match ds, hdl, hd, he, hf3 with
      | [_, _, _], _, hd, he, hf3 => simp at hd he hf3; rw [hd, he, hf3]
    rw [sz3_3] at wn
    simp only [szC_eq] at w v u
    rw [hargs] at ftt
    simp only [List.map_cons, List.map_nil] at ftt
    rw [Tm.cells_eq x, Tm.cells_eq y, Tm.cells_eq z] at ftt
    refine t_g (j2 @h1 (j2 @hk2 @hargs)) ?_
    refine W_loop ?_
    refine t_g @hargs ?_
    refine t_c1 trivial w ?_
    refine t_g0 ?_
    refine W_sub [] (s' := [(.slot 0, .one (.v (.sl G))), (.slot 67, .one (.v (dint 1))), (.slot 66, .one (.v (dint 3))), (.slot 65, .one (.v (.sl [x.cells, y.cells, z.cells]))), (.slot 3, .one (.loc 3 0)), (.loc 3, .row ([.v (dint t.kind), .v (dint t.index), .v (dint t.type.kind), .v (.sl (t.type.args.map Ty.cells)), .v (.sl [x.cells, y.cells, z.cells])])), (.slot 4, .one (.loc 4 0)), (.loc 4, .row ([.v (dint 0), .own 0 [], .v (dint 0)])), (.slot 9, .one (.loc 9 0)), (.loc 9, .row ([.v (dint d.kind), .v (.sl (d.args.map Ty.cells)), .v (dint (d.count : Int)), .v (dint 0), .own 0 [], .v (dint 0), .v (dint 0), .own 0 [], .v (dint 0)]))]) (by simp [go_sem]) (by simp [go_sem, hargs]) (by simp [go_sem]) ?_
    refine W_inLoop ?_
    refine t_g @hargs ?_
    refine t_c1 trivial v ?_
    refine t_g0 ?_
    refine W_sub [] (s' := [(.slot 0, .one (.v (.sl G))), (.slot 67, .one (.v (dint 2))), (.slot 66, .one (.v (dint 3))), (.slot 65, .one (.v (.sl [x.cells, y.cells, z.cells]))), (.slot 3, .one (.loc 3 0)), (.loc 3, .row ([.v (dint t.kind), .v (dint t.index), .v (dint t.type.kind), .v (.sl (t.type.args.map Ty.cells)), .v (.sl [x.cells, y.cells, z.cells])])), (.slot 4, .one (.loc 4 0)), (.loc 4, .row ([.v (dint 0), .own 0 [], .v (dint 0)])), (.slot 9, .one (.loc 9 0)), (.loc 9, .row ([.v (dint d.kind), .v (.sl (d.args.map Ty.cells)), .v (dint (d.count : Int)), .v (dint e.kind), .v (.sl (e.args.map Ty.cells)), .v (dint (e.count : Int)), .v (dint 0), .own 0 [], .v (dint 0)]))]) (by simp [go_sem]) (by simp [go_sem, hargs]) (by simp [go_sem]) ?_
    refine W_inLoop ?_
    refine t_g @hargs ?_
    refine t_c1 trivial u ?_
    refine t_g0 ?_
    refine W_sub [] (s' := [(.slot 0, .one (.v (.sl G))), (.slot 67, .one (.v (dint 3))), (.slot 66, .one (.v (dint 3))), (.slot 65, .one (.v (.sl [x.cells, y.cells, z.cells]))), (.slot 3, .one (.loc 3 0)), (.loc 3, .row ([.v (dint t.kind), .v (dint t.index), .v (dint t.type.kind), .v (.sl (t.type.args.map Ty.cells)), .v (.sl [x.cells, y.cells, z.cells])])), (.slot 4, .one (.loc 4 0)), (.loc 4, .row ([.v (dint 0), .own 0 [], .v (dint 0)])), (.slot 9, .one (.loc 9 0)), (.loc 9, .row ([.v (dint d.kind), .v (.sl (d.args.map Ty.cells)), .v (dint (d.count : Int)), .v (dint e.kind), .v (.sl (e.args.map Ty.cells)), .v (dint (e.count : Int)), .v (dint k.kind), .v (.sl (k.args.map Ty.cells)), .v (dint (k.count : Int))]))]) (by simp [go_sem]) (by simp [go_sem, hargs]) (by simp [go_sem]) ?_
    refine W_inLoop ?_
    refine t_g0 ?_
    refine t_c1 @ftt wn ?_
    refine t_r ?_
    simp [go_sem, hP, hgl, hn] <;> (try omega)

/-- contexts without variables -/
theorem types_context_nil : Con1 Tryz.prog gl 82 [.sl []] [] (dint 0) [] := by
  refine t_in Tryz.func82 ?_
  intro X hP hgl hf hfn hn hR hids hfit
  refine t_g0 ?_
  refine W_loop ?_
  refine t_g0 ?_
  refine t_r ?_
  simp [go_sem, hP, hgl, hn] <;> (try omega)
theorem typing_from_nil : Con1 Tryz.prog gl 84 [.sl []] [] (.sl []) [] := by
  refine t_in Tryz.func84 ?_
  intro X hP hgl hf hfn hn hR hids hfit
  refine t_g0 ?_
  refine W_loop ?_
  refine t_g0 ?_
  refine t_r ?_
  simp [go_sem, hP, hgl, hn] <;> (try omega)

theorem terms_typeof_ok (har : globOf gl 0 = some arEls) (t : Tm) (r : Ty) (hc : t.checkN = 0) (h : t.inferN [] = (r, 0)) :
    Con1 Tryz.prog gl 29 [.sl [], t.dv] [] (.tup [r.dv, dint 0]) [] := by
  obtain ⟨hs, hcc⟩ := (Tm.checkN_iff t).1 hc
  have w2 := termscheck_ok har t (shape_tys t hs) (by omega)
  rw [hc] at w2
  have w3 := typeof_t_ok (gl := gl) t [] (by simp; omega) hs (by simp) (by rw [h])
  rw [h] at w3
  have w4 := ownType_ok (gl := gl) r
  have ftt := Tm.fold t
  have fr := Ty.fold r
  simp only [szC_eq, List.map_nil] at w3
  refine t_in Tryz.func29 ?_
  intro X hP hgl hf hfn hn hR hids hfit
  refine t_g0 ?_
  refine t_c1 trivial types_context_nil ?_
  refine t_g0 ?_
  refine t_c1 @ftt w2 ?_
  refine t_g0 ?_
  refine t_c2 @ftt typing_from_nil w3 ?_
  refine t_g0 ?_
  refine t_c1 @fr w4 ?_
  refine t_r ?_
  simp [go_sem, hP, hgl, hn] <;> (try omega)
  all_goals exact t_f
end Go.Proofs.YtcldnfbcbkaanaaGreatDoor.Lift

/-
  Plain law: the theorem of majorants, for what is denoted.
-/
namespace Go.Proofs.YtcldnfbcbkaanaaGreatDoor.Lift
set_option linter.unusedSimpArgs false
set_option linter.unusedVariables false
set_option linter.unnecessarySimpa false
open Go

/-- the majorant type -/
def T.maj : T → T
  | .nat => .nat
  | .list => .nat
  | .unit => .unit
  | .pair a b => .pair a.maj b.maj
  | .fn a b => .fn a.maj b.maj

/-- at least as great, in each part -/
def Ge : (b : T) → b.V → b.V → Prop
  | .nat, x, y => Nat.le y x
  | .list, x, y => x = y
  | .unit, _, _ => True
  | .pair a b, x, y => Ge a x.1 y.1 ∧ Ge b x.2 y.2
  | .fn a b, F, G => (∀ x y : a.V, Ge a x y → Ge b (F x) (G y)) ∧ ∀ x y : a.V, Ge a x y → Ge b (F x) (F y)
/-- a value bounds another one -/
def Mj : (a : T) → a.maj.V → a.V → Prop
  | .nat, m, n => Nat.le n m
  | .list, m, l => Nat.le (List.length l) m ∧ ∀ x : Nat, List.Mem x l → Nat.le x m
  | .unit, _, _ => True
  | .pair a b, x, y => Mj a x.1 y.1 ∧ Mj b x.2 y.2
  | .fn a b, F, f => (∀ (X : a.maj.V) (x : a.V), Mj a X x → Mj b (F X) (f x)) ∧ ∀ X Y : a.maj.V, Ge a.maj X Y → Ge b.maj (F X) (F Y)

theorem Ge.left : ∀ {b : T} {x y : b.V}, Ge b x y → Ge b x x
  | .nat, x, _, _ => Nat.le_refl x
  | .list, _, _, _ => rfl
  | .unit, _, _, _ => trivial
  | .pair _ _, _, _, h => ⟨Ge.left h.1, Ge.left h.2⟩
  | .fn _ _, _, _, h => ⟨h.2, h.2⟩
theorem Ge.trans : ∀ {b : T} {x y z : b.V}, Ge b x y → Ge b y z → Ge b x z
  | .nat, _, _, _, h, k => Nat.le_trans k h
  | .list, _, _, _, h, k => Eq.trans h k
  | .unit, _, _, _, _, _ => trivial
  | .pair _ _, _, _, _, h, k => ⟨Ge.trans h.1 k.1, Ge.trans h.2 k.2⟩
  | .fn _ _, _, _, _, h, k => ⟨fun x y hxy => Ge.trans (h.1 x x hxy.left) (k.1 x y hxy), h.2⟩
theorem Mj.left : ∀ {a : T} {X : a.maj.V} {x : a.V}, Mj a X x → Ge a.maj X X
  | .nat, X, _, _ => Nat.le_refl X
  | .list, X, _, _ => Nat.le_refl X
  | .unit, _, _, _ => trivial
  | .pair _ _, _, _, h => ⟨Mj.left h.1, Mj.left h.2⟩
  | .fn _ _, _, _, h => ⟨h.2, h.2⟩
theorem Ge.mj : ∀ {a : T} {X Y : a.maj.V} {y : a.V}, Ge a.maj X Y → Mj a Y y → Mj a X y
  | .nat, _, _, _, h, k => Nat.le_trans k h
  | .list, _, _, _, h, k => ⟨Nat.le_trans k.1 h, fun x hx => Nat.le_trans (k.2 x hx) h⟩
  | .unit, _, _, _, _, _ => trivial
  | .pair _ _, _, _, _, h, k => ⟨Ge.mj h.1 k.1, Ge.mj h.2 k.2⟩
  | .fn _ _, _, _, _, h, k => ⟨fun U u hu => Ge.mj (h.1 U U hu.left) (k.1 U u hu), h.2⟩

/-- the greater one of two values, in each part -/
def maxD : (b : T) → b.V → b.V → b.V
  | .nat, x, y => Nat.add x (Nat.sub y x)
  | .list, x, _ => x
  | .unit, _, _ => ()
  | .pair a b, x, y => (maxD a x.1 y.1, maxD b x.2 y.2)
  | .fn _ b, F, G => fun x => maxD b (F x) (G x)

/-- a type without lists -/
def T.bare : T → Prop
  | .nat => True
  | .list => False
  | .unit => True
  | .pair a b => a.bare ∧ b.bare
  | .fn a b => a.bare ∧ b.bare
theorem T.maj_bare : ∀ a : T, a.maj.bare
  | .nat => trivial
  | .list => trivial
  | .unit => trivial
  | .pair a b => ⟨a.maj_bare, b.maj_bare⟩
  | .fn a b => ⟨a.maj_bare, b.maj_bare⟩

theorem nmax_mono {x x' y y' : Nat} (h : x' ≤ x) (k : y' ≤ y) : Nat.add x' (Nat.sub y' x') ≤ Nat.add x (Nat.sub y x) := by
  show x' + (y' - x') ≤ x + (y - x)
  omega
theorem nmax_left {x y z : Nat} (h : z ≤ x) : z ≤ Nat.add x (Nat.sub y x) := by
  show z ≤ x + (y - x)
  omega
theorem nmax_right {x y z : Nat} (h : z ≤ y) : z ≤ Nat.add x (Nat.sub y x) := by
  show z ≤ x + (y - x)
  omega
theorem nat_ok0 : T.nat.ok := by unfold T.ok; decide
theorem max_mono : ∀ {b : T} {x x' y y' : b.V}, Ge b x x' → Ge b y y' → Ge b (maxD b x y) (maxD b x' y')
  | .nat, _, _, _, _, h, k => nmax_mono h k
  | .list, _, _, _, _, h, _ => h
  | .unit, _, _, _, _, _, _ => trivial
  | .pair _ _, _, _, _, _, h, k => ⟨max_mono h.1 k.1, max_mono h.2 k.2⟩
  | .fn _ _, _, _, _, _, h, k => ⟨fun u v huv => max_mono (h.1 u v huv) (k.1 u v huv), fun u v huv => max_mono (h.2 u v huv) (k.2 u v huv)⟩
theorem max_left : ∀ {b : T} {x y z : b.V}, Ge b x z → Ge b y y → Ge b (maxD b x y) z
  | .nat, _, _, _, h, _ => nmax_left h
  | .list, _, _, _, h, _ => h
  | .unit, _, _, _, _, _ => trivial
  | .pair _ _, _, _, _, h, k => ⟨max_left h.1 k.1, max_left h.2 k.2⟩
  | .fn _ _, _, _, _, h, k => ⟨fun u v huv => max_left (h.1 u v huv) (k.2 u u huv.left), fun u v huv => max_mono (h.2 u v huv) (k.2 u v huv)⟩
theorem max_right : ∀ {b : T}, b.bare → ∀ {x y z : b.V}, Ge b x x → Ge b y z → Ge b (maxD b x y) z
  | .nat, _, _, _, _, _, h => nmax_right h
  | .list, hb, _, _, _, _, _ => hb.elim
  | .unit, _, _, _, _, _, _ => trivial
  | .pair _ _, hb, _, _, _, h, k => ⟨max_right hb.1 h.1 k.1, max_right hb.2 h.2 k.2⟩
  | .fn _ _, hb, _, _, _, h, k => ⟨fun u v huv => max_right hb.2 (h.2 u u huv.left) (k.1 u v huv), fun u v huv => max_mono (h.2 u v huv) (k.2 u v huv)⟩

/-- the values of variables, bounded -/
def MjE : (Γ : List T) → Env (Γ.map T.maj) → Env Γ → Prop
  | [], _, _ => True
  | a :: Γ, X, x => Mj a X.1 x.1 ∧ MjE Γ X.2 x.2
def GeE : (Γ : List T) → Env Γ → Env Γ → Prop
  | [], _, _ => True
  | a :: Γ, X, x => Ge a X.1 x.1 ∧ GeE Γ X.2 x.2
theorem GeE.drop {Γ : List T} : ∀ (Ξ : List T) {X Y : Env (Ξ ++ Γ)}, GeE (Ξ ++ Γ) X Y → GeE Γ (Env.drop Ξ X) (Env.drop Ξ Y)
  | [], _, _, h => h
  | _ :: Ξ, _, _, h => GeE.drop Ξ h.2

/-! the closed terms of chapter 5 -/
theorem dn_pred (Γ : List T) : Dn Γ predT (.fn .nat .nat) (fun _ (n : Nat) => Nat.pred n) := by
  have h : Dn Γ predT (.fn .nat .nat) _ := .lam nat_ok0 (.rc (a := .nat) nat_ok0 .zero (.lam nat_ok0 (.lam nat_ok0 (.var (.succ .zero)))) (.var .zero))
  refine h.eq fun ρ => funext fun n => ?_
  have key : ∀ n : Nat, natRec (0 : Nat) (fun k _ => k) n = Nat.pred n := by intro n; cases n <;> rfl
  exact key n
theorem dn_plus (Γ : List T) : Dn Γ plusT (.fn .nat (.fn .nat .nat)) (fun _ (m n : Nat) => Nat.add m n) := by
  have h : Dn Γ plusT (.fn .nat (.fn .nat .nat)) _ := .lam nat_ok0 (.lam nat_ok0 (.rc (a := .nat) nat_ok0 (.var (.succ .zero)) (.lam nat_ok0 (.lam nat_ok0 (.succ (.var .zero)))) (.var .zero)))
  refine h.eq fun ρ => funext fun m => funext fun n => ?_
  have key : ∀ n : Nat, natRec (α := Nat) m (fun _ r => Nat.succ r) n = Nat.add m n := by
    intro n
    induction n with
    | zero => rfl
    | succ n ih => simp only [natRec, ih]; rfl
  exact key n
theorem dn_sub (Γ : List T) : Dn Γ subT (.fn .nat (.fn .nat .nat)) (fun _ (m n : Nat) => Nat.sub m n) := by
  have h : Dn Γ subT (.fn .nat (.fn .nat .nat)) _ := .lam nat_ok0 (.lam nat_ok0 (.rc (a := .nat) nat_ok0 (.var (.succ .zero)) (.lam nat_ok0 (.lam nat_ok0 (.app (dn_pred _) (.var .zero)))) (.var .zero)))
  refine h.eq fun ρ => funext fun m => funext fun n => ?_
  have key : ∀ n : Nat, natRec (α := Nat) m (fun _ r => Nat.pred r) n = Nat.sub m n := by
    intro n
    induction n with
    | zero => rfl
    | succ n ih => simp only [natRec, ih]; rfl
  exact key n

/-- the function that returns the greater one of two numbers -/
def greatT : Tm := lamT .nat (lamT .nat (appsT plusT [vT 1, appsT subT [vT 0, vT 1]]))
theorem dn_great (Γ : List T) : Dn Γ greatT (.fn .nat (.fn .nat .nat)) (fun _ (m n : Nat) => maxD .nat m n) :=
  .lam nat_ok0 (.lam nat_ok0 (.app (.app (dn_plus _) (.var (.succ .zero))) (.app (.app (dn_sub _) (.var .zero)) (.var (.succ .zero)))))

/-- the greatest of two terms -/
def maxT : T → Tm → Tm → Tm
  | .nat, a, b => appsT greatT [a, b]
  | .list, _, _ => nT 13 []
  | .unit, _, _ => nT 13 []
  | .pair s t, a, b => nT 10 [maxT s (nT 11 [a]) (nT 11 [b]), maxT t (nT 12 [a]) (nT 12 [b])]
  | .fn s t, a, b => lamT s (maxT t (nT 3 [a.upN 0 1, vT 0]) (nT 3 [b.upN 0 1, vT 0]))
/-- types whose parts are small enough -/
theorem dn_max : ∀ {b : T}, b.bare → b.ok → ∀ {Γ : List T} {x y : Tm} {X Y : Env Γ → b.V}, Dn Γ x b X → Dn Γ y b Y → Dn Γ (maxT b x y) b (fun e => maxD b (X e) (Y e))
  | .nat, _, _, Γ, x, y, X, Y, hx, hy => .app (.app (dn_great Γ) hx) hy
  | .list, hb, _, _, _, _, _, _, _, _ => hb.elim
  | .unit, _, _, _, _, _, _, _, _, _ => .unit
  | .pair s t, hb, ho, _, _, _, _, _, hx, hy => by
    simp only [T.ok, T.size] at ho
    exact .pair (dn_max hb.1 (by unfold T.ok; omega) (.fst hx) (.fst hy)) (dn_max hb.2 (by unfold T.ok; omega) (.snd hx) (.snd hy))
  | .fn s t, hb, ho, Γ, x, y, X, Y, hx, hy => by
    simp only [T.ok, T.size] at ho
    exact .lam (by unfold T.ok; omega) (dn_max hb.2 (by unfold T.ok; omega) (.app (dn_up hx [s]) (.var .zero)) (.app (dn_up hy [s]) (.var .zero)))

/-- numbers in place of lists -/
def bareN : Ty → Ty
  | .mk k a => if k = 2 then Ty.mk 1 [] else Ty.mk k (bares a)
where
  bares : List Ty → List Ty
    | [] => []
    | x :: r => bareN x :: bares r
theorem maj_ty (a : T) : a.maj.ty = bareN a.ty := by
  induction a with
  | nat => rfl
  | list => rfl
  | unit => rfl
  | pair a b iha ihb => show Ty.mk 3 [a.maj.ty, b.maj.ty] = Ty.mk 3 [bareN a.ty, bareN b.ty]; rw [iha, ihb]
  | fn a b iha ihb => show Ty.mk 4 [a.maj.ty, b.maj.ty] = Ty.mk 4 [bareN a.ty, bareN b.ty]; rw [iha, ihb]
theorem maj_size (a : T) : a.maj.size = a.size := by
  induction a with
  | nat => rfl
  | list => rfl
  | unit => rfl
  | pair a b iha ihb => show 1 + _ + _ = 1 + _ + _; rw [iha, ihb]
  | fn a b iha ihb => show 1 + _ + _ = 1 + _ + _; rw [iha, ihb]
theorem maj_ok {a : T} (h : a.ok) : a.maj.ok := by unfold T.ok; rw [maj_size]; exact h

/-- the greatest of two terms, by the type as it is written -/
def maxY (y : Ty) (a b : Tm) : Tm :=
  match y with
  | .mk k ts =>
    if k = 1 then appsT greatT [a, b]
    else match ts with
      | [s, t] =>
        if k = 3 then nT 10 [maxY s (nT 11 [a]) (nT 11 [b]), maxY t (nT 12 [a]) (nT 12 [b])]
        else if k = 4 then Tm.mk 2 0 s [maxY t (nT 3 [a.upN 0 1, vT 0]) (nT 3 [b.upN 0 1, vT 0])]
        else nT 13 []
      | _ => nT 13 []
termination_by SizeOf.sizeOf y
theorem maxY_ty : ∀ (a : T) (x y : Tm), maxY a.ty x y = maxT a x y
  | .nat, x, y => by rw [maxY.eq_def]; rfl
  | .list, x, y => by rw [maxY.eq_def]; rfl
  | .unit, x, y => by rw [maxY.eq_def]; rfl
  | .pair s t, x, y => by
    rw [maxY.eq_def]
    show nT 10 [maxY s.ty _ _, maxY t.ty _ _] = _
    rw [maxY_ty s, maxY_ty t]
    rfl
  | .fn s t, x, y => by
    rw [maxY.eq_def]
    show Tm.mk 2 0 s.ty [maxY t.ty _ _] = _
    rw [maxY_ty t]
    rfl

/-- the step of a recursion whose results grow -/
def stepY (s : Ty) (next : Tm) : Tm := Tm.mk 2 0 (Ty.mk 1 []) [Tm.mk 2 0 s [maxY s (vT 0) next]]

/-- the majorant of a node whose parts have theirs -/
def majNode (k i : Int) (y : Ty) (a l : List Tm) : Tm :=
  if k = 1 then Tm.mk k i y a
  else if k = 2 then Tm.mk 2 0 (bareN y) l
  else if k = 6 then Tm.mk 6 0 (bareN y) [l.getD 0 zeroTm, stepY (bareN y) (appsT ((l.getD 1 zeroTm).upN 0 2) [vT 1, vT 0]), l.getD 2 zeroTm]
  else if k = 7 then nT 4 []
  else if k = 8 then maxY (Ty.mk 1 []) (l.getD 0 zeroTm) (nT 5 [l.getD 1 zeroTm])
  else if k = 9 then nT 3 [Tm.mk 2 0 (Ty.mk 1 []) [Tm.mk 6 0 (bareN y) [(l.getD 0 zeroTm).upN 0 1, stepY (bareN y) (appsT ((l.getD 1 zeroTm).upN 0 3) [vT 2, vT 2, vT 0]), vT 0]], l.getD 2 zeroTm]
  else Tm.mk k 0 (Ty.mk 0 []) l
/-- the majorant of a term -/
def majT : Tm → Tm
  | .mk k i y a => majNode k i y a (majs a)
where
  majs : List Tm → List Tm
    | [] => []
    | x :: r => majT x :: majs r
theorem majs_map (l : List Tm) : majT.majs l = l.map majT := by
  induction l with
  | nil => rfl
  | cons a r ih => simp [majT.majs, ih]
theorem majT_eq (t : Tm) : majT t = majNode t.kind t.index t.type t.args (t.args.map majT) := by
  cases t; rw [majT, majs_map]; rfl

/-- the rounds of a recursion whose results grow -/
def growR {b : T} (B : b.V) (S : Nat → b.V → b.V) (n : Nat) : b.V := natRec B (fun k r => maxD b r (S k r)) n
theorem grow_self {b : T} {B : b.V} {S : Nat → b.V → b.V} (hB : Ge b B B) (hS : ∀ k r r', Ge b r r' → Ge b (S k r) (S k r')) : ∀ n, Ge b (growR B S n) (growR B S n)
  | 0 => hB
  | n + 1 => max_mono (grow_self hB hS n) (hS n _ _ (grow_self hB hS n))
theorem grow_up {b : T} {B : b.V} {S : Nat → b.V → b.V} (hB : Ge b B B) (hS : ∀ k r r', Ge b r r' → Ge b (S k r) (S k r')) (n : Nat) : ∀ m, Ge b (growR B S (n + m)) (growR B S n)
  | 0 => grow_self hB hS n
  | m + 1 => max_left (grow_up hB hS n m) (hS _ _ _ (grow_self hB hS (n + m)))
theorem grow_mono {b : T} {B B' : b.V} {S S' : Nat → b.V → b.V} (hB : Ge b B B') (hS : ∀ k r r', Ge b r r' → Ge b (S k r) (S' k r')) : ∀ n, Ge b (growR B S n) (growR B' S' n)
  | 0 => hB
  | n + 1 => max_mono (grow_mono hB hS n) (hS n _ _ (grow_mono hB hS n))

theorem dn_step {Γ : List T} {s : T} (hs : s.bare) (ho : s.ok) {next : Tm} {N : Env (s :: .nat :: Γ) → s.V} (h : Dn (s :: .nat :: Γ) next s N) :
    Dn Γ (stepY s.ty next) (.fn .nat (.fn s s)) (fun e (k : Nat) r => maxD s r (N (r, k, e))) := by
  unfold stepY
  rw [maxY_ty]
  exact .lam (a := .nat) nat_ok0 (.lam ho (dn_max hs ho (.var .zero) h))

theorem cons_le {x p q : Nat} {l : List Nat} (h1 : x ≤ p) (h2 : l.length ≤ q ∧ ∀ y : Nat, List.Mem y l → y ≤ q) : (x :: l).length ≤ Nat.add p (Nat.sub (Nat.succ q) p) ∧ ∀ y : Nat, List.Mem y (x :: l) → y ≤ Nat.add p (Nat.sub (Nat.succ q) p) := by
  have m1 : p ≤ Nat.add p (Nat.sub (Nat.succ q) p) := Nat.le_add_right _ _
  have m2 : q + 1 ≤ Nat.add p (Nat.sub (Nat.succ q) p) := by show q + 1 ≤ p + (q + 1 - p); omega
  refine ⟨Nat.le_trans (Nat.succ_le_succ h2.1) m2, fun y hy => ?_⟩
  cases hy with
  | head => exact Nat.le_trans h1 m1
  | tail _ hy => exact Nat.le_trans (h2.2 y hy) (Nat.le_trans (Nat.le_succ _) m2)
theorem at_maj {Γ : List T} {i : Nat} {a : T} {p : Env Γ → a.V} (h : At Γ i a p) : ∃ P : Env (Γ.map T.maj) → a.maj.V, At (Γ.map T.maj) i a.maj P ∧ (∀ X x, MjE Γ X x → Mj a (P X) (p x)) ∧ ∀ X Y, GeE (Γ.map T.maj) X Y → Ge a.maj (P X) (P Y) := by
  induction h with
  | zero => exact ⟨_, .zero, fun X x h => h.1, fun X Y h => h.1⟩
  | succ h ih =>
    obtain ⟨P, h1, h2, h3⟩ := ih
    exact ⟨_, .succ h1, fun X x h => h2 _ _ h.2, fun X Y h => h3 _ _ h.2⟩
theorem MjE.left : ∀ {Γ : List T} {X : Env (Γ.map T.maj)} {x : Env Γ}, MjE Γ X x → GeE (Γ.map T.maj) X X
  | [], _, _, _ => trivial
  | _ :: _, _, _, h => ⟨Mj.left h.1, MjE.left h.2⟩
theorem GeE.left : ∀ {Γ : List T} {X Y : Env Γ}, GeE Γ X Y → GeE Γ X X
  | [], _, _, _ => trivial
  | _ :: _, _, _, h => ⟨Ge.left h.1, GeE.left h.2⟩

/-- THE THEOREM OF MAJORANTS -/
theorem dn_maj {Γ : List T} {t : Tm} {a : T} {F : Env Γ → a.V} (h : Dn Γ t a F) : ∃ P : Env (Γ.map T.maj) → a.maj.V, Dn (Γ.map T.maj) (majT t) a.maj P ∧ (∀ X x, MjE Γ X x → Mj a (P X) (F x)) ∧ ∀ X Y, GeE (Γ.map T.maj) X Y → Ge a.maj (P X) (P Y) := by
  induction h with
  | var h =>
    obtain ⟨P, h1, h2, h3⟩ := at_maj h
    exact ⟨P, .var h1, h2, h3⟩
  | lam ha hb ih =>
    obtain ⟨P, h1, h2, h3⟩ := ih
    rename_i Γ a r b f
    have e : majT (lamT a b) = lamT a.maj (majT b) := by
      rw [majT_eq]
      show Tm.mk 2 0 (bareN a.ty) [majT b] = _
      rw [← maj_ty]
      rfl
    rw [e]
    refine ⟨_, .lam (maj_ok ha) h1, fun X x hX => ⟨fun U u hU => h2 (U, X) (u, x) ⟨hU, hX⟩, fun U V hUV => h3 (U, X) (V, X) ⟨hUV, hX.left⟩⟩, fun X Y hXY => ⟨fun U V hUV => h3 (U, X) (V, Y) ⟨hUV, hXY⟩, fun U V hUV => h3 (U, X) (V, X) ⟨hUV, hXY.left⟩⟩⟩
  | app hf hx ihf ihx =>
    obtain ⟨P, p1, p2, p3⟩ := ihf
    obtain ⟨Q, q1, q2, q3⟩ := ihx
    rename_i Γ a b f x F X
    have e : majT (nT 3 [f, x]) = nT 3 [majT f, majT x] := by rw [majT_eq]; rfl
    rw [e]
    exact ⟨_, .app p1 q1, fun X x hX => (p2 X x hX).1 _ _ (q2 X x hX), fun X Y hXY => (p3 X Y hXY).1 _ _ (q3 X Y hXY)⟩
  | zero =>
    have e : majT (nT 4 []) = nT 4 [] := by rw [majT_eq]; rfl
    rw [e]
    exact ⟨_, .zero, fun X x hX => Nat.le_refl 0, fun X Y hXY => Nat.le_refl 0⟩
  | succ hx ih =>
    obtain ⟨P, p1, p2, p3⟩ := ih
    rename_i Γ x X
    have e : majT (nT 5 [x]) = nT 5 [majT x] := by rw [majT_eq]; rfl
    rw [e]
    exact ⟨_, .succ p1, fun X x hX => Nat.succ_le_succ (p2 X x hX), fun X Y hXY => Nat.succ_le_succ (p3 X Y hXY)⟩
  | rc ha hb hf hn ihb ihf ihn =>
    obtain ⟨B', b1, b2, b3⟩ := ihb
    obtain ⟨F', f1, f2, f3⟩ := ihf
    obtain ⟨N', n1, n2, n3⟩ := ihn
    rename_i Γ a b f n B F N
    have e : majT (Tm.mk 6 0 a.ty [b, f, n]) = Tm.mk 6 0 a.maj.ty [majT b, stepY a.maj.ty (appsT ((majT f).upN 0 2) [vT 1, vT 0]), majT n] := by
      rw [majT_eq, maj_ty]; rfl
    rw [e]
    have hs := dn_step (Γ := Γ.map T.maj) a.maj_bare (maj_ok ha) (.app (.app (dn_up f1 [a.maj, .nat]) (.var (.succ .zero))) (.var .zero))
    have hS : ∀ X Y, GeE (Γ.map T.maj) X Y → ∀ (k : Nat) (r r' : a.maj.V), Ge a.maj r r' → Ge a.maj (F' X k r) (F' Y k r') := fun X Y hXY k r r' hr => ((f3 X Y hXY).1 k k (Nat.le_refl k)).1 r r' hr
    refine ⟨fun X => growR (B' X) (F' X) (N' X), .rc (maj_ok ha) b1 hs n1, fun X x hX => ?_, fun X Y hXY => ?_⟩
    · have hB := (b3 X X hX.left)
      have hSX := hS X X hX.left
      have key : ∀ k : Nat, Mj a (growR (B' X) (F' X) k) (natRec (B x) (F x) k) := by
        intro k
        induction k with
        | zero => exact b2 X x hX
        | succ k ih =>
          have h1 := ((f2 X x hX).1 k k (Nat.le_refl k)).1 _ _ ih
          exact Ge.mj (max_right a.maj_bare (grow_self hB hSX k) (hSX k _ _ (grow_self hB hSX k))) h1
      have main : ∀ k M : Nat, k ≤ M → Mj a (growR (B' X) (F' X) M) (natRec (B x) (F x) k) := by
        intro k M hN
        obtain ⟨m, hm⟩ := Nat.le.dest hN
        have := grow_up hB hSX k m
        rw [hm] at this
        exact Ge.mj this (key k)
      exact main (N x) (N' X) (n2 X x hX)
    · have main : ∀ M M' : Nat, M' ≤ M → Ge a.maj (growR (B' X) (F' X) M) (growR (B' Y) (F' Y) M') := by
        intro M M' hN
        obtain ⟨m, hm⟩ := Nat.le.dest hN
        have h1 := grow_up (b3 X X hXY.left) (hS X X hXY.left) M' m
        rw [hm] at h1
        exact Ge.trans h1 (grow_mono (b3 X Y hXY) (hS X Y hXY) M')
      exact main (N' X) (N' Y) (n3 X Y hXY)
  | nil =>
    have e : majT (nT 7 []) = nT 4 [] := by rw [majT_eq]; rfl
    rw [e]
    exact ⟨_, .zero, fun X x hX => ⟨Nat.le_refl 0, fun y hy => by cases hy⟩, fun X Y hXY => Nat.le_refl 0⟩
  | cons hx hl ihx ihl =>
    obtain ⟨P, p1, p2, p3⟩ := ihx
    obtain ⟨Q, q1, q2, q3⟩ := ihl
    rename_i Γ x l X L
    have e : majT (nT 8 [x, l]) = maxT .nat (majT x) (nT 5 [majT l]) := by
      rw [majT_eq]
      show maxY (T.ty .nat) (majT x) (nT 5 [majT l]) = _
      rw [maxY_ty]
    rw [e]
    refine ⟨_, dn_max (b := .nat) trivial nat_ok0 p1 (.succ q1), fun U u hU => ?_, fun U V hUV => ?_⟩
    · exact cons_le (p2 U u hU) (q2 U u hU)
    · exact max_mono (b := .nat) (p3 U V hUV) (Nat.succ_le_succ (q3 U V hUV))
  | fold ha hb hf hn ihb ihf ihn =>
    obtain ⟨B', b1, b2, b3⟩ := ihb
    obtain ⟨F', f1, f2, f3⟩ := ihf
    obtain ⟨N', n1, n2, n3⟩ := ihn
    rename_i Γ a b f n B F N
    have e : majT (Tm.mk 9 0 a.ty [b, f, n]) = nT 3 [lamT .nat (Tm.mk 6 0 a.maj.ty [(majT b).upN 0 1, stepY a.maj.ty (appsT ((majT f).upN 0 3) [vT 2, vT 2, vT 0]), vT 0]), majT n] := by
      rw [majT_eq, maj_ty]; rfl
    rw [e]
    have hs := dn_step (Γ := .nat :: Γ.map T.maj) a.maj_bare (maj_ok ha) (.app (.app (.app (dn_up f1 [a.maj, .nat, .nat]) (.var (.succ (.succ .zero)))) (.var (.succ (.succ .zero)))) (.var .zero))
    have hS : ∀ X Y, GeE (Γ.map T.maj) X Y → ∀ (M M' : Nat), M' ≤ M → ∀ (_ : Nat) (r r' : a.maj.V), Ge a.maj r r' → Ge a.maj (F' X M M r) (F' Y M' M' r') := fun X Y hXY M M' hM _ r r' hr => (((f3 X Y hXY).1 M M' hM).1 M M' hM).1 r r' hr
    have h0 : Dn (.nat :: Γ.map T.maj) (Tm.mk 6 0 a.maj.ty [(majT b).upN 0 1, stepY a.maj.ty (appsT ((majT f).upN 0 3) [vT 2, vT 2, vT 0]), vT 0]) a.maj _ := .rc (maj_ok ha) (dn_up b1 [.nat]) hs (.var .zero)
    have h1 := Dn.app (.lam (a := .nat) nat_ok0 h0) n1
    refine ⟨fun X => growR (B' X) (fun _ r => F' X (N' X) (N' X) r) (N' X), h1, fun X x hX => ?_, fun X Y hXY => ?_⟩
    · have hB := (b3 X X hX.left)
      have main : ∀ (M : Nat) (L : List Nat), L.length ≤ M → (∀ y, List.Mem y L → y ≤ M) → Mj a (growR (B' X) (fun _ r => F' X M M r) M) (listRec (B x) (F x) L) := by
        intro M L l1 l2
        have hSX := hS X X hX.left M M (Nat.le_refl _)
        have key : ∀ l : List Nat, l.length ≤ M → (∀ y, List.Mem y l → y ≤ M) → Mj a (growR (B' X) (fun _ r => F' X M M r) l.length) (listRec (B x) (F x) l) := by
          intro l
          induction l with
          | nil => intro _ _; exact b2 X x hX
          | cons y r ih =>
            intro h1 h2
            have h1' : r.length + 1 ≤ M := h1
            have hr := ih (by omega) fun z hz => h2 z (.tail _ hz)
            have h3 := (((f2 X x hX).1 M y (h2 y (.head _))).1 M r ⟨show r.length ≤ M by omega, fun z hz => h2 z (.tail _ hz)⟩).1 _ _ hr
            exact Ge.mj (max_right a.maj_bare (grow_self hB hSX r.length) (hSX r.length _ _ (grow_self hB hSX r.length))) h3
        obtain ⟨m, hm⟩ := Nat.le.dest l1
        have := grow_up hB hSX L.length m
        rw [hm] at this
        exact Ge.mj this (key L l1 l2)
      exact main (N' X) (N x) (n2 X x hX).1 (n2 X x hX).2
    · have main : ∀ M M' : Nat, M' ≤ M → Ge a.maj (growR (B' X) (fun _ r => F' X M M r) M) (growR (B' Y) (fun _ r => F' Y M' M' r) M') := by
        intro M M' hN
        obtain ⟨m, hm⟩ := Nat.le.dest hN
        have h1 := grow_up (b3 X X hXY.left) (hS X X hXY.left M M (Nat.le_refl _)) M' m
        rw [hm] at h1
        exact Ge.trans h1 (grow_mono (b3 X Y hXY) (hS X Y hXY M M' hN) M')
      exact main (N' X) (N' Y) (n3 X Y hXY)
  | pair hx hy ihx ihy =>
    obtain ⟨P, p1, p2, p3⟩ := ihx
    obtain ⟨Q, q1, q2, q3⟩ := ihy
    rename_i Γ a b x y X Y
    have e : majT (nT 10 [x, y]) = nT 10 [majT x, majT y] := by rw [majT_eq]; rfl
    rw [e]
    exact ⟨_, .pair p1 q1, fun X x hX => ⟨p2 X x hX, q2 X x hX⟩, fun X Y hXY => ⟨p3 X Y hXY, q3 X Y hXY⟩⟩
  | fst hx ih =>
    obtain ⟨P, p1, p2, p3⟩ := ih
    rename_i Γ a b x X
    have e : majT (nT 11 [x]) = nT 11 [majT x] := by rw [majT_eq]; rfl
    rw [e]
    exact ⟨_, .fst p1, fun X x hX => (p2 X x hX).1, fun X Y hXY => (p3 X Y hXY).1⟩
  | snd hx ih =>
    obtain ⟨P, p1, p2, p3⟩ := ih
    rename_i Γ a b x X
    have e : majT (nT 12 [x]) = nT 12 [majT x] := by rw [majT_eq]; rfl
    rw [e]
    exact ⟨_, .snd p1, fun X x hX => (p2 X x hX).2, fun X Y hXY => (p3 X Y hXY).2⟩
  | unit =>
    have e : majT (nT 13 []) = nT 13 [] := by rw [majT_eq]; rfl
    rw [e]
    exact ⟨_, .unit, fun X x hX => trivial, fun X Y hXY => trivial⟩
end Go.Proofs.YtcldnfbcbkaanaaGreatDoor.Lift

/-
  Plain facts: majorants as the program makes them: with an error where a node is too large.
-/
namespace Go.Proofs.YtcldnfbcbkaanaaGreatDoor.Lift
set_option linter.unusedSimpArgs false
set_option linter.unusedVariables false
set_option linter.unnecessarySimpa false
open Go

abbrev natY : Ty := Ty.mk 1 []
abbrev zY : Ty := Ty.mk 0 []
/-- a node, or none if it is too large -/
def buildN (k : Int) (s : Ty) (l : List Tm) : Tm × Int := if 4096 < (Tm.mk k 0 s l).count then (zeroTm, 4) else (Tm.mk k 0 s l, 0)
def nodeE (e k : Int) (s : Ty) (l : List Tm) : Tm × Int := if e = 0 then buildN k s l else (zeroTm, e)
def callE (e : Int) (f : Tm) : List Tm → Tm × Int
  | [] => (f, e)
  | a :: r => callE (nodeE e 3 zY [f, a]).2 (nodeE e 3 zY [f, a]).1 r
def maxE (y : Ty) (a b : Tm) (e : Int) : Tm × Int :=
  match y with
  | .mk k ts =>
    if e = 0 then
      if k = 1 then callE 0 greatT [a, b]
      else match ts with
        | [s, t] =>
          if k = 3 then
            let p := nodeE 0 11 zY [a]
            let q := nodeE p.2 11 zY [b]
            let l := maxE s p.1 q.1 q.2
            let p' := nodeE l.2 12 zY [a]
            let q' := nodeE p'.2 12 zY [b]
            let r := maxE t p'.1 q'.1 q'.2
            nodeE r.2 10 zY [l.1, r.1]
          else if k = 4 then
            let p := callE 0 (a.upN 0 1) [vT 0]
            let q := callE p.2 (b.upN 0 1) [vT 0]
            let r := maxE t p.1 q.1 q.2
            nodeE r.2 2 s [r.1]
          else (nT 13 [], 0)
        | _ => (nT 13 [], 0)
    else (zeroTm, e)
termination_by SizeOf.sizeOf y
theorem maxE_eq (y : Ty) (hy : y.ok) (a b : Tm) (e : Int) : maxE y a b e =
    if e = 0 then
      if y.kind = 1 then callE 0 greatT [a, b]
      else if y.kind = 3 then
        let p := nodeE 0 11 zY [a]
        let q := nodeE p.2 11 zY [b]
        let l := maxE (y.arg 0) p.1 q.1 q.2
        let p' := nodeE l.2 12 zY [a]
        let q' := nodeE p'.2 12 zY [b]
        let r := maxE (y.arg 1) p'.1 q'.1 q'.2
        nodeE r.2 10 zY [l.1, r.1]
      else if y.kind = 4 then
        let p := callE 0 (a.upN 0 1) [vT 0]
        let q := callE p.2 (b.upN 0 1) [vT 0]
        let r := maxE (y.arg 1) p.1 q.1 q.2
        nodeE r.2 2 (y.arg 0) [r.1]
      else (nT 13 [], 0)
    else (zeroTm, e) := by
  rw [maxE.eq_def]
  cases y with
  | mk k ts =>
    simp only [Ty.kind]
    by_cases he : e = 0
    · simp only [he, if_true]
      by_cases h1 : k = 1
      · simp [h1]
      simp only [h1, if_false]
      by_cases h34 : k = 3 ∨ k = 4
      · obtain ⟨s, t, hq, -, -, e0, e1⟩ := Ty.ok_args hy h34
        simp only [Ty.args] at hq
        subst hq
        rw [e0, e1]
        rfl
      · have h3 : k ≠ 3 := fun e => h34 (.inl e)
        have h4 : k ≠ 4 := fun e => h34 (.inr e)
        simp only [h3, h4, if_false]
        match ts with
        | [s, t] => rfl
        | [] => rfl
        | [_] => rfl
        | _ :: _ :: _ :: _ => rfl
    · simp only [he, if_false]

def stepE (s : Ty) (next : Tm) (e : Int) : Tm × Int :=
  let b := maxE s (vT 0) next e
  let i := nodeE b.2 2 s [b.1]
  nodeE i.2 2 natY [i.1]
def majNodeE (k i : Int) (y : Ty) (a l : List Tm) : Tm × Int :=
  if k = 7 then (nT 4 [], 0)
  else if k = 8 then
    let p := nodeE 0 5 zY [l.getD 1 zeroTm]
    maxE natY (l.getD 0 zeroTm) p.1 p.2
  else if k = 2 then nodeE 0 2 (bareN y) l
  else if k = 6 then
    let c := callE 0 ((l.getD 1 zeroTm).upN 0 2) [vT 1, vT 0]
    let st := stepE (bareN y) c.1 c.2
    nodeE st.2 6 (bareN y) [l.getD 0 zeroTm, st.1, l.getD 2 zeroTm]
  else if k = 9 then
    let c := callE 0 ((l.getD 1 zeroTm).upN 0 3) [vT 2, vT 2, vT 0]
    let st := stepE (bareN y) c.1 c.2
    let r := nodeE st.2 6 (bareN y) [(l.getD 0 zeroTm).upN 0 1, st.1, vT 0]
    let la := nodeE r.2 2 natY [r.1]
    callE la.2 la.1 [l.getD 2 zeroTm]
  else if k = 1 then (Tm.mk k i y a, 0)
  else nodeE 0 k zY l
def majE : Tm → Tm × Int
  | .mk k i y a => if (majsE a).2 = 0 then majNodeE k i y a (majsE a).1 else (zeroTm, (majsE a).2)
where
  majsE : List Tm → List Tm × Int
    | [] => ([], 0)
    | x :: r => if (majE x).2 = 0 then if (majsE r).2 = 0 then ((majE x).1 :: (majsE r).1, 0) else ([], (majsE r).2) else ([], (majE x).2)
theorem majE_eq (t : Tm) : majE t = if (majE.majsE t.args).2 = 0 then majNodeE t.kind t.index t.type t.args (majE.majsE t.args).1 else (zeroTm, (majE.majsE t.args).2) := by
  cases t; rw [majE]; rfl

theorem build_ok {k : Int} {s : Ty} {l : List Tm} (h : (buildN k s l).2 = 0) : (buildN k s l).1 = Tm.mk k 0 s l ∧ (Tm.mk k 0 s l).count ≤ 4096 := by
  unfold buildN at h ⊢
  split at h
  · cases h
  · rename_i hc; rw [if_neg hc]; exact ⟨rfl, by omega⟩
theorem node_ok {e k : Int} {s : Ty} {l : List Tm} (h : (nodeE e k s l).2 = 0) : e = 0 ∧ (nodeE e k s l).1 = Tm.mk k 0 s l ∧ (Tm.mk k 0 s l).count ≤ 4096 := by
  unfold nodeE at h ⊢
  by_cases he : e = 0
  · rw [if_pos he] at h ⊢; exact ⟨he, build_ok h⟩
  · rw [if_neg he] at h; exact absurd h he
theorem call_ok : ∀ {l : List Tm} {e : Int} {f : Tm}, (callE e f l).2 = 0 → e = 0 ∧ (callE e f l).1 = appsT f l
  | [], e, f, h => ⟨h, rfl⟩
  | a :: r, e, f, h => by
    rw [callE] at h ⊢
    obtain ⟨h1, h2⟩ := call_ok h
    obtain ⟨k1, k2, -⟩ := node_ok h1
    refine ⟨k1, ?_⟩
    rw [h2, k2]
    rfl
theorem node_err (e k : Int) (s : Ty) (l : List Tm) (he : e = 0 ∨ e = 4) : (nodeE e k s l).2 = 0 ∨ (nodeE e k s l).2 = 4 := by
  unfold nodeE buildN
  split
  · split
    · exact .inr rfl
    · exact .inl rfl
  · exact he
theorem call_err : ∀ (l : List Tm) (e : Int) (f : Tm), e = 0 ∨ e = 4 → (callE e f l).2 = 0 ∨ (callE e f l).2 = 4
  | [], e, f, h => h
  | a :: r, e, f, h => by rw [callE]; exact call_err r _ _ (node_err _ _ _ _ h)
theorem no31 : ¬ (3 : Int) = 1 := by decide
theorem no41 : ¬ (4 : Int) = 1 := by decide
theorem no43 : ¬ (4 : Int) = 3 := by decide
theorem maxE_nat (x y : Tm) : maxE (T.ty .nat) x y 0 = callE 0 greatT [x, y] := by rw [maxE_eq _ (T.ok_ty nat_ok0)]; rfl
theorem maxE_list (x y : Tm) : maxE (T.ty .list) x y 0 = (nT 13 [], 0) := by rw [maxE_eq _ (T.ok_ty (a := .list) (by unfold T.ok; decide))]; rfl
theorem maxE_unit (x y : Tm) : maxE (T.ty .unit) x y 0 = (nT 13 [], 0) := by rw [maxE_eq _ (T.ok_ty (a := .unit) (by unfold T.ok; decide))]; rfl
theorem maxE_pair {s t : T} (ho : (T.pair s t).ok) (x y : Tm) : maxE (T.pair s t).ty x y 0 =
    (let p := nodeE 0 11 zY [x]
     let q := nodeE p.2 11 zY [y]
     let l := maxE s.ty p.1 q.1 q.2
     let p' := nodeE l.2 12 zY [x]
     let q' := nodeE p'.2 12 zY [y]
     let r := maxE t.ty p'.1 q'.1 q'.2
     nodeE r.2 10 zY [l.1, r.1]) := by
  rw [maxE_eq _ (T.ok_ty ho), if_pos rfl, if_neg (show ¬ (T.pair s t).ty.kind = 1 from no31), if_pos (show (T.pair s t).ty.kind = 3 from rfl)]
  rfl
theorem maxE_fn {s t : T} (ho : (T.fn s t).ok) (x y : Tm) : maxE (T.fn s t).ty x y 0 =
    (let p := callE 0 (x.upN 0 1) [vT 0]
     let q := callE p.2 (y.upN 0 1) [vT 0]
     let r := maxE t.ty p.1 q.1 q.2
     nodeE r.2 2 s.ty [r.1]) := by
  rw [maxE_eq _ (T.ok_ty ho), if_pos rfl, if_neg (show ¬ (T.fn s t).ty.kind = 1 from no41), if_neg (show ¬ (T.fn s t).ty.kind = 3 from no43), if_pos (show (T.fn s t).ty.kind = 4 from rfl)]
  rfl
theorem maxE_no {a : T} (ho : a.ok) {e : Int} (he : e ≠ 0) (x y : Tm) : maxE a.ty x y e = (zeroTm, e) := by rw [maxE_eq _ (T.ok_ty ho), if_neg he]

theorem max_err : ∀ (a : T) (x y : Tm) (e : Int), a.ok → e = 0 ∨ e = 4 → (maxE a.ty x y e).2 = 0 ∨ (maxE a.ty x y e).2 = 4
  | a, x, y, e, ho, he => by
    by_cases h0 : e = 0
    · subst h0
      cases a with
      | nat => rw [maxE_nat]; exact call_err _ _ _ (.inl rfl)
      | list => rw [maxE_list]; exact .inl rfl
      | unit => rw [maxE_unit]; exact .inl rfl
      | pair s t =>
        rw [maxE_pair ho]
        simp only [T.ok, T.size] at ho
        exact node_err _ _ _ _ (max_err t _ _ _ (by unfold T.ok; omega) (node_err _ _ _ _ (node_err _ _ _ _ (max_err s _ _ _ (by unfold T.ok; omega) (node_err _ _ _ _ (node_err _ _ _ _ (.inl rfl)))))))
      | fn s t =>
        rw [maxE_fn ho]
        simp only [T.ok, T.size] at ho
        exact node_err _ _ _ _ (max_err t _ _ _ (by unfold T.ok; omega) (call_err _ _ _ (call_err _ _ _ (.inl rfl))))
    · rw [maxE_no ho h0]; exact he
theorem maxE_ok : ∀ (a : T) {x y : Tm} {e : Int}, a.ok → (maxE a.ty x y e).2 = 0 → e = 0 ∧ (maxE a.ty x y e).1 = maxT a x y
  | a, x, y, e, ho, h => by
    by_cases h0 : e = 0
    · subst h0
      refine ⟨rfl, ?_⟩
      cases a with
      | nat => rw [maxE_nat] at h ⊢; exact (call_ok h).2
      | list => rw [maxE_list]; rfl
      | unit => rw [maxE_unit]; rfl
      | pair s t =>
        rw [maxE_pair ho] at h ⊢
        simp only [T.ok, T.size] at ho
        obtain ⟨e1, r1, -⟩ := node_ok h
        obtain ⟨e2, r2⟩ := maxE_ok t (by unfold T.ok; omega) e1
        obtain ⟨e3, r3, -⟩ := node_ok e2
        obtain ⟨e4, r4, -⟩ := node_ok e3
        obtain ⟨e5, r5⟩ := maxE_ok s (by unfold T.ok; omega) e4
        obtain ⟨e6, r6, -⟩ := node_ok e5
        obtain ⟨-, r7, -⟩ := node_ok e6
        refine r1.trans ?_
        rw [r5, r2, r3, r4, r6, r7]
        rfl
      | fn s t =>
        rw [maxE_fn ho] at h ⊢
        simp only [T.ok, T.size] at ho
        obtain ⟨e1, r1, -⟩ := node_ok h
        obtain ⟨e2, r2⟩ := maxE_ok t (by unfold T.ok; omega) e1
        obtain ⟨e3, r3⟩ := call_ok e2
        obtain ⟨-, r4⟩ := call_ok e3
        refine r1.trans ?_
        rw [r2, r3, r4]
        rfl
    · rw [maxE_no ho h0] at h; exact absurd h h0

theorem stepE_ok {s : T} {next : Tm} {e : Int} (ho : s.ok) (h : (stepE s.ty next e).2 = 0) : e = 0 ∧ (stepE s.ty next e).1 = stepY s.ty next := by
  unfold stepE at h ⊢
  obtain ⟨e1, r1, -⟩ := node_ok h
  obtain ⟨e2, r2, -⟩ := node_ok e1
  obtain ⟨e3, r3⟩ := maxE_ok s ho e2
  refine ⟨e3, r1.trans ?_⟩
  rw [r2, r3]
  unfold stepY
  rw [maxY_ty]
  try rfl
theorem step_err {s : T} {next : Tm} {e : Int} (ho : s.ok) (he : e = 0 ∨ e = 4) : (stepE s.ty next e).2 = 0 ∨ (stepE s.ty next e).2 = 4 := by
  unfold stepE
  exact node_err _ _ _ _ (node_err _ _ _ _ (max_err s _ _ _ ho he))

/-- without an error it is the majorant; there is no other error than that of size -/
theorem majE_dn {Γ : List T} {t : Tm} {a : T} {F : Env Γ → a.V} (h : Dn Γ t a F) : ((majE t).2 = 0 → (majE t).1 = majT t) ∧ ((majE t).2 = 0 ∨ (majE t).2 = 4) := by
  have one : ∀ {x : Tm}, (((majE x).2 = 0 → (majE x).1 = majT x) ∧ ((majE x).2 = 0 ∨ (majE x).2 = 4)) → ((majE.majsE [x]).2 = 0 → (majE.majsE [x]).1 = [majT x]) ∧ ((majE.majsE [x]).2 = 0 ∨ (majE.majsE [x]).2 = 4) := by
    intro x ⟨h1, h2⟩
    simp only [majE.majsE]
    rcases h2 with h2 | h2 <;> simp [h2, h1]
  have two : ∀ {x : Tm} {l : List Tm} {m : List Tm}, (((majE x).2 = 0 → (majE x).1 = majT x) ∧ ((majE x).2 = 0 ∨ (majE x).2 = 4)) → (((majE.majsE l).2 = 0 → (majE.majsE l).1 = m) ∧ ((majE.majsE l).2 = 0 ∨ (majE.majsE l).2 = 4)) → ((majE.majsE (x :: l)).2 = 0 → (majE.majsE (x :: l)).1 = majT x :: m) ∧ ((majE.majsE (x :: l)).2 = 0 ∨ (majE.majsE (x :: l)).2 = 4) := by
    intro x l m ⟨h1, h2⟩ ⟨k1, k2⟩
    simp only [majE.majsE]
    rcases h2 with h2 | h2
    · rcases k2 with k2 | k2 <;> simp [h2, k2, h1, k1]
    · simp [h2]
  have fin : ∀ {t : Tm} {m : List Tm}, (((majE.majsE t.args).2 = 0 → (majE.majsE t.args).1 = m) ∧ ((majE.majsE t.args).2 = 0 ∨ (majE.majsE t.args).2 = 4)) → ((majNodeE t.kind t.index t.type t.args m).2 = 0 → (majNodeE t.kind t.index t.type t.args m).1 = majT t) ∧ ((majNodeE t.kind t.index t.type t.args m).2 = 0 ∨ (majNodeE t.kind t.index t.type t.args m).2 = 4) → ((majE t).2 = 0 → (majE t).1 = majT t) ∧ ((majE t).2 = 0 ∨ (majE t).2 = 4) := by
    intro t m ⟨h1, h2⟩ h3
    rw [majE_eq]
    rcases h2 with h2 | h2
    · rw [if_pos h2, h1 h2]; exact h3
    · rw [if_neg (by rw [h2]; decide)]
      exact ⟨fun h => absurd (h2.symm.trans h) (by decide), .inr h2⟩
  induction h with
  | var h => exact fin (t := vT _) (m := []) ⟨fun _ => rfl, .inl rfl⟩ ⟨fun _ => by rw [majT_eq]; rfl, .inl rfl⟩
  | lam ha hb ih =>
    rename_i Γ a r b f
    refine fin (t := lamT a b) (one ih) ?_
    have e : majNodeE (lamT a b).kind (lamT a b).index (lamT a b).type (lamT a b).args [majT b] = nodeE 0 2 (bareN a.ty) [majT b] := rfl
    rw [e]
    exact ⟨fun h => by rw [(node_ok h).2.1, majT_eq (lamT a b)]; rfl, node_err _ _ _ _ (.inl rfl)⟩
  | app hf hx ihf ihx =>
    rename_i Γ a b f x F X
    refine fin (t := nT 3 [f, x]) (two ihf (one ihx)) ?_
    have e : majNodeE (nT 3 [f, x]).kind (nT 3 [f, x]).index (nT 3 [f, x]).type (nT 3 [f, x]).args [majT f, majT x] = nodeE 0 3 zY [majT f, majT x] := rfl
    rw [e]
    exact ⟨fun h => by rw [(node_ok h).2.1, majT_eq (nT 3 [f, x])]; rfl, node_err _ _ _ _ (.inl rfl)⟩
  | zero =>
    refine fin (t := nT 4 []) (m := []) ⟨fun _ => rfl, .inl rfl⟩ ?_
    have e : majNodeE (nT 4 []).kind (nT 4 []).index (nT 4 []).type (nT 4 []).args [] = nodeE 0 4 zY [] := rfl
    rw [e]
    exact ⟨fun h => by rw [(node_ok h).2.1, majT_eq (nT 4 [])]; rfl, node_err _ _ _ _ (.inl rfl)⟩
  | succ hx ih =>
    rename_i Γ x X
    refine fin (t := nT 5 [x]) (one ih) ?_
    have e : majNodeE (nT 5 [x]).kind (nT 5 [x]).index (nT 5 [x]).type (nT 5 [x]).args [majT x] = nodeE 0 5 zY [majT x] := rfl
    rw [e]
    exact ⟨fun h => by rw [(node_ok h).2.1, majT_eq (nT 5 [x])]; rfl, node_err _ _ _ _ (.inl rfl)⟩
  | rc ha hb hf hn ihb ihf ihn =>
    rename_i Γ a b f n B F N
    refine fin (t := Tm.mk 6 0 a.ty [b, f, n]) (two ihb (two ihf (one ihn))) ?_
    have e : majNodeE 6 0 a.ty [b, f, n] [majT b, majT f, majT n] = nodeE (stepE (bareN a.ty) (callE 0 ((majT f).upN 0 2) [vT 1, vT 0]).1 (callE 0 ((majT f).upN 0 2) [vT 1, vT 0]).2).2 6 (bareN a.ty) [majT b, (stepE (bareN a.ty) (callE 0 ((majT f).upN 0 2) [vT 1, vT 0]).1 (callE 0 ((majT f).upN 0 2) [vT 1, vT 0]).2).1, majT n] := rfl
    show ((majNodeE 6 0 a.ty [b, f, n] [majT b, majT f, majT n]).2 = 0 → (majNodeE 6 0 a.ty [b, f, n] [majT b, majT f, majT n]).1 = majT (Tm.mk 6 0 a.ty [b, f, n])) ∧ ((majNodeE 6 0 a.ty [b, f, n] [majT b, majT f, majT n]).2 = 0 ∨ (majNodeE 6 0 a.ty [b, f, n] [majT b, majT f, majT n]).2 = 4)
    rw [e, ← maj_ty]
    refine ⟨fun h => ?_, node_err _ _ _ _ (step_err (maj_ok ha) (call_err _ _ _ (.inl rfl)))⟩
    obtain ⟨e1, r1, -⟩ := node_ok h
    obtain ⟨e2, r2⟩ := stepE_ok (maj_ok ha) e1
    obtain ⟨-, r3⟩ := call_ok e2
    rw [r1, r2, r3, majT_eq (Tm.mk 6 0 a.ty [b, f, n]), maj_ty]
    rfl
  | nil => exact fin (t := nT 7 []) (m := []) ⟨fun _ => rfl, .inl rfl⟩ ⟨fun _ => by rw [majT_eq]; rfl, .inl rfl⟩
  | cons hx hl ihx ihl =>
    rename_i Γ x l X L
    refine fin (t := nT 8 [x, l]) (two ihx (one ihl)) ?_
    have e : majNodeE (nT 8 [x, l]).kind (nT 8 [x, l]).index (nT 8 [x, l]).type (nT 8 [x, l]).args [majT x, majT l] = maxE (T.ty .nat) (majT x) (nodeE 0 5 zY [majT l]).1 (nodeE 0 5 zY [majT l]).2 := rfl
    rw [e]
    refine ⟨fun h => ?_, max_err .nat _ _ _ nat_ok0 (node_err _ _ _ _ (.inl rfl))⟩
    obtain ⟨e1, r1⟩ := maxE_ok .nat nat_ok0 h
    obtain ⟨-, r2, -⟩ := node_ok e1
    rw [r1, r2, majT_eq (nT 8 [x, l])]
    show _ = maxY (T.ty .nat) (majT x) (nT 5 [majT l])
    rw [maxY_ty]
    rfl
  | fold ha hb hf hn ihb ihf ihn =>
    rename_i Γ a b f n B F N
    refine fin (t := Tm.mk 9 0 a.ty [b, f, n]) (two ihb (two ihf (one ihn))) ?_
    have e : majNodeE 9 0 a.ty [b, f, n] [majT b, majT f, majT n] =
      (let c := callE 0 ((majT f).upN 0 3) [vT 2, vT 2, vT 0]
       let st := stepE (bareN a.ty) c.1 c.2
       let r := nodeE st.2 6 (bareN a.ty) [(majT b).upN 0 1, st.1, vT 0]
       let la := nodeE r.2 2 natY [r.1]
       callE la.2 la.1 [majT n]) := rfl
    show ((majNodeE 9 0 a.ty [b, f, n] [majT b, majT f, majT n]).2 = 0 → (majNodeE 9 0 a.ty [b, f, n] [majT b, majT f, majT n]).1 = majT (Tm.mk 9 0 a.ty [b, f, n])) ∧ ((majNodeE 9 0 a.ty [b, f, n] [majT b, majT f, majT n]).2 = 0 ∨ (majNodeE 9 0 a.ty [b, f, n] [majT b, majT f, majT n]).2 = 4)
    rw [e, ← maj_ty]
    refine ⟨fun h => ?_, call_err _ _ _ (node_err _ _ _ _ (node_err _ _ _ _ (step_err (maj_ok ha) (call_err _ _ _ (.inl rfl)))))⟩
    obtain ⟨e1, r1⟩ := call_ok h
    obtain ⟨e2, r2, -⟩ := node_ok e1
    obtain ⟨e3, r3, -⟩ := node_ok e2
    obtain ⟨e4, r4⟩ := stepE_ok (maj_ok ha) e3
    obtain ⟨-, r5⟩ := call_ok e4
    refine r1.trans ?_
    rw [r2, r3, r4, r5, majT_eq (Tm.mk 9 0 a.ty [b, f, n]), maj_ty]
    rfl
  | pair hx hy ihx ihy =>
    rename_i Γ a b x y X Y
    refine fin (t := nT 10 [x, y]) (two ihx (one ihy)) ?_
    have e : majNodeE (nT 10 [x, y]).kind (nT 10 [x, y]).index (nT 10 [x, y]).type (nT 10 [x, y]).args [majT x, majT y] = nodeE 0 10 zY [majT x, majT y] := rfl
    rw [e]
    exact ⟨fun h => by rw [(node_ok h).2.1, majT_eq (nT 10 [x, y])]; rfl, node_err _ _ _ _ (.inl rfl)⟩
  | fst hx ih =>
    rename_i Γ a b x X
    refine fin (t := nT 11 [x]) (one ih) ?_
    have e : majNodeE (nT 11 [x]).kind (nT 11 [x]).index (nT 11 [x]).type (nT 11 [x]).args [majT x] = nodeE 0 11 zY [majT x] := rfl
    rw [e]
    exact ⟨fun h => by rw [(node_ok h).2.1, majT_eq (nT 11 [x])]; rfl, node_err _ _ _ _ (.inl rfl)⟩
  | snd hx ih =>
    rename_i Γ a b x X
    refine fin (t := nT 12 [x]) (one ih) ?_
    have e : majNodeE (nT 12 [x]).kind (nT 12 [x]).index (nT 12 [x]).type (nT 12 [x]).args [majT x] = nodeE 0 12 zY [majT x] := rfl
    rw [e]
    exact ⟨fun h => by rw [(node_ok h).2.1, majT_eq (nT 12 [x])]; rfl, node_err _ _ _ _ (.inl rfl)⟩
  | unit =>
    refine fin (t := nT 13 []) (m := []) ⟨fun _ => rfl, .inl rfl⟩ ?_
    have e : majNodeE (nT 13 []).kind (nT 13 []).index (nT 13 []).type (nT 13 []).args [] = nodeE 0 13 zY [] := rfl
    rw [e]
    exact ⟨fun h => by rw [(node_ok h).2.1, majT_eq (nT 13 [])]; rfl, node_err _ _ _ _ (.inl rfl)⟩
end Go.Proofs.YtcldnfbcbkaanaaGreatDoor.Lift

namespace Go.Proofs.YtcldnfbcbkaanaaGreatDoor.Lift
set_option linter.unusedSimpArgs false
set_option linter.unusedVariables false
set_option linter.unnecessarySimpa false
open Go
variable {gl : Globs}

theorem sc_var_ok (i : Int) : Con1 Tryz.prog gl 189 [dint i] [] (vT i).dv [] := by
  refine t_in Tryz.func189 ?_
  intro X hP hgl hf hfn hn hR hids hfit
  refine t_g0 ?_
  refine t_r ?_
  simp [go_sem, hP, hgl, hn, vT] <;> (try omega)
  all_goals exact t_f
theorem sc_nat_ok : Con1 Tryz.prog gl 182 [] [] natY.dv [] := by
  refine t_in Tryz.func182 ?_
  intro X hP hgl hf hfn hn hR hids hfit
  refine t_g0 ?_
  refine t_r ?_
  simp [go_sem, hP, hgl, hn, natY] <;> (try omega)
  all_goals exact t_f
theorem sc_unit_ok : Con1 Tryz.prog gl 237 [] [] (nT 13 []).dv [] := by
  refine t_in Tryz.func237 ?_
  intro X hP hgl hf hfn hn hR hids hfit
  refine t_g0 ?_
  refine t_r ?_
  simp [go_sem, hP, hgl, hn, nT] <;> (try omega)
  all_goals exact t_f
theorem types_check_ok (t : Ty) (hc : t.count ≤ 2147483648) : Con1 Tryz.prog gl 141 [t.dv] [] (dint t.checkN) [] := by
  refine t_in Tryz.func141 ?_
  intro X hP hgl hf hfn hn hR hids hfit
  refine t_g0 ?_
  refine t_c1 trivial (checktype_ok t hc) ?_
  refine t_g0 ?_
  refine t_r ?_
  simp [go_sem, hP, hgl, hn] <;> (try omega)

theorem sc_nodes_ok (t : Tm) (hc : t.count ≤ 1073741824) : Con1 Tryz.prog gl 267 [t.dv] [] (dint t.count) [] := by
  induction t using Tm.ind with
  | h t ih =>
  refine t_in Tryz.func267 ?_
  intro X hP hgl hf hfn hn hR hids hfit
  have hl1 := Tm.fit_len (hfit t.dv (by simp))
  have hcv := Tm.count_eq t
  refine t_g0 ?_
  refine t_a ?_
  refine W_sub [] (by simp [go_sem]) (by simp [go_sem, Tm.count.counts] <;> omega) (by simp [go_sem]) (W_list (t.args) (fun done rest => [(.slot 9, .one (.v (dint done.length))), (.slot 8, .one (.v (dint t.args.length))), (.slot 7, .one (.v (.sl (t.args.map Tm.cells)))), (.slot 3, .one (.v (dint (1 + Tm.count.counts done : Nat)))), (.slot 2, .one (.v (dint 0)))]) ?_ ?_)
  · intro done x rest hL hg0 hnext
    have hlt : done.length < t.args.length := by rw [hL]; simp
    have hxm := List.mem_of_getElem? hg0
    have hca := Tm.counts_append done (x :: rest)
    have hcs := Tm.counts_append done [x]
    rw [← hL] at hca
    simp only [Tm.count.counts] at hca hcs
    refine t_rg0 ?_
    refine t_yes ?_
    refine t_g @hg0 ?_
    refine t_c1 @hg0 (ih x hxm (by omega)) ?_
    refine t_gt (wr []) @hcs trivial hnext
  · refine t_rg0 ?_
    refine t_no ?_
    refine t_g0 ?_
    refine t_r ?_
    simp [go_sem, hP, hgl, hn, hcv] <;> (try omega)

/-- no index is greater than 2^28 -/
theorem sc_far_ok (t : Tm) : Con1 Tryz.prog gl 133 [t.dv] [] (dbool (!t.leastN 268435456)) [] := by
  induction t using Tm.ind with
  | h t ih =>
  refine t_in Tryz.func133 ?_
  intro X hP hgl hf hfn hn hR hids hfit
  have hl1 := Tm.fit_len (hfit t.dv (by simp))
  rw [Tm.leastN_eq] at hR
  by_cases h : 268435456 < t.index
  · refine t_g @h ?_
    refine t_r ?_
    simp [go_sem, hP, hgl, hn, h] <;> (try omega)
  · refine t_g @h ?_
    refine t_a ?_
    refine t_sub [] trivial (W_listI (t.args) (fun done => Tm.leastN.leasts done 268435456 = true) (fun done rest => [(.slot 11, .one (.v (dint done.length))), (.slot 10, .one (.v (dint t.args.length))), (.slot 9, .one (.v (.sl (t.args.map Tm.cells))))]) (rfl) ?_ ?_)
    · intro done x rest hL hg0 hI hnext
      have hlt : done.length < t.args.length := by rw [hL]; simp
      have hxm := List.mem_of_getElem? hg0
      refine t_rg0 ?_
      refine t_yes ?_
      refine t_g @hg0 ?_
      refine t_c1 @hg0 (ih x hxm) ?_
      by_cases hx : x.leastN 268435456 = true
      · refine t_gt (wr []) trivial @hx (hnext (by rw [Tm.leasts_append, hI]; simp [Tm.leastN.leasts, hx]))
      · have hx' : x.leastN 268435456 = false := by simpa using hx
        have hall : Tm.leastN.leasts t.args 268435456 = false := by rw [hL, Tm.leasts_append]; simp [Tm.leastN.leasts, hx']
        refine t_g @hx' ?_
        refine t_r ?_
        simp [go_sem, hP, hgl, hn, hall] <;> (try omega)
    · intro hI
      refine t_rg0 ?_
      refine t_no ?_
      refine t_g0 ?_
      refine t_r ?_
      simp [go_sem, hP, hgl, hn, hI, h] <;> (try omega)

theorem sc_build_ok (k : Int) (s : Ty) (l : List Tm) (hc : (Tm.mk k 0 s l).count ≤ 1073741824) : Con1 Tryz.prog gl 238 [dint k, s.dv, .sl (l.map Tm.cells)] [] (.tup [(buildN k s l).1.dv, dint (buildN k s l).2]) [] := by
  refine t_in Tryz.func238 ?_
  intro X hP hgl hf hfn hn hR hids hfit
  have hfm := Tm.fold_mk k 0 s l
  refine t_g0 ?_
  refine t_c1 @hfm (sc_nodes_ok (Tm.mk k 0 s l) hc) ?_
  by_cases h : 4096 < (Tm.mk k 0 s l).count
  · refine t_g @h ?_
    refine t_r ?_
    simp [go_sem, hP, hgl, hn, buildN, h, zeroTm] <;> (try omega)
    all_goals exact t_f
  · refine t_g @h ?_
    refine t_r ?_
    simp [go_sem, hP, hgl, hn, buildN, h] <;> (try omega)
    all_goals exact t_f

theorem sc_lift_ok (t : Tm) (f b : Int) (hs : t.shape = true) (hi : t.idx 549755813888) (hb1 : 0 ≤ b) (hb2 : b ≤ 1048576) (hf0 : 0 ≤ f) (hfc : f + t.count ≤ 549755813888) : Con1 Tryz.prog gl 186 [t.dv, dint f, dint b] [] (t.upN f b).dv [] := by
  induction t using Tm.ind generalizing f with
  | h t ih =>
  have hct := Tm.count_eq t
  have hbd := bindI_le t.kind
  have hix := (Tm.idx_eq t _).1 hi
  obtain ⟨hlen0, -, -, -, hsa⟩ := Tm.shape_node hs
  refine t_in Tryz.func186 ?_
  intro X hP hgl hf hfn hn hR hids hfit
  have hlen := Tm.fit_len (hfit t.dv (by simp))
  have hfd := Tm.fold t
  by_cases h0 : b = 0
  · rw [h0, up_zero] at hR
    refine t_g @h0 ?_
    refine t_r ?_
    simp [go_sem, hP, hgl, hn] <;> (try omega)
    all_goals exact t_f
  by_cases h1 : t.kind = 1
  · have ha : t.args = [] := by rw [h1] at hlen0; simp [arityI] at hlen0; exact hlen0
    rw [Tm.upN_eq, ha] at hR
    by_cases h2 : f ≤ t.index
    · refine t_g (j2 @h0 (j2 @h1 @h2)) ?_
      refine t_r ?_
      simp [go_sem, hP, hgl, hn, h1, h2, ha] <;> (try omega)
      all_goals (simp [Ty.dv, Ty.cells_eq, Ty.kind_mk, Ty.args_mk, Tm.dv, Tm.cells_eq, Tm.kind_mk, Tm.index_mk, Tm.type_mk, Tm.args_mk, Val.dv, Val.cells_eq, Val.kind_mk, Val.num_mk, Val.list_mk, Val.args_mk, ints])
    · refine t_g (j2 @h0 (j2 @h1 @h2)) ?_
      refine t_r ?_
      simp [go_sem, hP, hgl, hn, h1, h2, ha] <;> (try omega)
      all_goals (simp [Ty.dv, Ty.cells_eq, Ty.kind_mk, Ty.args_mk, Tm.dv, Tm.cells_eq, Tm.kind_mk, Tm.index_mk, Tm.type_mk, Tm.args_mk, Val.dv, Val.cells_eq, Val.kind_mk, Val.num_mk, Val.list_mk, Val.args_mk, ints])
  rw [Tm.upN_eq, if_neg (fun h => h1 h.1)] at hR
  apply W_cutX [(.slot 36, .one (.v (dint 0))), (.slot 35, .one (.v (dint t.args.length))), (.slot 34, .one (.v (.sl (t.args.map Tm.cells)))), (.loc 7, .row ([.v (dint t.kind), .v (dint t.index), .v (dint t.type.kind), .v (.sl (t.type.args.map Ty.cells)), .own 0 []])), (.slot 7, .one (.loc 7 0)), (.slot 1, .one (.v (dint (f + bindI t.kind)))), (.slot 2, .one (.v (dint b))), (.loc 6, .row ([.v (dint 0), .v (dint 0), .v (dint 0), .own 0 [], .own 0 []])), (.slot 6, .one (.loc 6 0))]
  · intro hrest
    by_cases h2 : t.kind = 2
    · have hbi : bindI 2 = 1 := rfl
      refine t_g (j2 @h0 (j2 @h1 @h2)) ?_
      refine t_b ?_
      refine t_sub [] (j2 @hbi @h2) hrest
    · have hbi : bindI t.kind = 0 := by simp [bindI, h2]
      refine t_g (j2 @h0 (j2 @h1 @h2)) ?_
      refine t_b ?_
      refine t_sub [] (j2 @hbi @h2) hrest
  · refine t_a ?_
    refine t_sub [(1007, 0)] trivial (W_list (t.args) (fun done rest => [(.slot 36, .one (.v (dint done.length))), (.slot 35, .one (.v (dint t.args.length))), (.slot 34, .one (.v (.sl (t.args.map Tm.cells)))), (.loc 7, .row ([.v (dint t.kind), .v (dint t.index), .v (dint t.type.kind), .v (.sl (t.type.args.map Ty.cells)), .own 1007 (done.map fun x => (x.upN (f + bindI t.kind) b).cells)])), (.slot 7, .one (.loc 7 0)), (.tok 1007, .tk 5 done.length), (.slot 1, .one (.v (dint (f + bindI t.kind)))), (.slot 2, .one (.v (dint b))), (.loc 6, .row ([.v (dint 0), .v (dint 0), .v (dint 0), .own 0 [], .own 0 []])), (.slot 6, .one (.loc 6 0))]) ?_ ?_)
    · intro done x rest hL hg0 hnext
      have hlt : done.length < t.args.length := by rw [hL]; simp
      have hxm := List.mem_of_getElem? hg0
      have hcs := Tm.count_mem hxm
      refine t_rg0 ?_
      refine t_yes ?_
      refine t_g @hg0 ?_
      refine t_c1 @hg0 (ih x hxm (f + bindI t.kind) (hsa x hxm) (hix.2 x hxm) (by omega) (by omega)) ?_
      refine t_gt (wr [(1007, 47)]) (Tm.cells_eq (x.upN (f + bindI t.kind) b)) trivial hnext
    · refine t_rg0 ?_
      refine t_no ?_
      refine t_g0 ?_
      refine t_r ?_
      simp [go_sem, hP, hgl, hn] <;> (try omega)
      simp [Tm.dv, Tm.cells_eq, Tm.kind_mk, Tm.index_mk, Tm.type_mk, Tm.args_mk]

/-! the maker: an object that holds its error -/
abbrev mk1 (e : Int) : List DV := [dint e]

theorem node_walk (b : Nat) (e k : Int) (s : Ty) (l : List Tm) (hc : (Tm.mk k 0 s l).count ≤ 1073741824) :
    Con1 Tryz.prog gl 184 [ptr b, dint k, s.dv, .sl (l.map Tm.cells)] [(b, mk1 e)] (nodeE e k s l).1.dv [(b, mk1 (nodeE e k s l).2)] := by
  refine t_in Tryz.func184 ?_
  intro X hP hgl hf hfn hn hR hids hfit
  by_cases h : e = 0
  · have hne : nodeE e k s l = buildN k s l := by unfold nodeE; rw [if_pos h]
    rw [hne] at hR
    refine t_g @h ?_
    refine t_c1 @h (sc_build_ok k s l hc) ?_
    by_cases h2 : (buildN k s l).2 = 0
    · refine t_g @h2 ?_
      repeat (first | refine W_seq ?_ | refine W_skip ?_ | refine W_block ?_ | refine W_inBlock ?_ | refine W_label ?_ | refine W_exit rfl ?_)
      first | refine W_retR hP hf hfn _ ([(b, mk1 0)]) (by first | (simp [go_sem, hP, hgl, hn, h2]; done) | (simp [go_sem, hP, hgl, hn, h2]; rfl)) (by simp [go_sem, hP, hgl, hn, h2]) (by simp) ?_ hR.2 | refine W_endR hP hf hfn _ ([(b, mk1 0)]) (by first | (simp [go_sem, hP, hgl, hn, h2]; done) | (simp [go_sem, hP, hgl, hn, h2]; rfl)) (by simp [go_sem, hP, hgl, hn, h2]) (by simp) ?_ hR.2
      rw [hR.1]
      refine ⟨?_, by simp [h2]⟩
      try simp [h2]
      try all_goals (simp [Ty.dv, Ty.cells_eq, Ty.kind_mk, Ty.args_mk, Tm.dv, Tm.cells_eq, Tm.kind_mk, Tm.index_mk, Tm.type_mk, Tm.args_mk, Val.dv, Val.cells_eq, Val.kind_mk, Val.num_mk, Val.list_mk, Val.args_mk, ints])
    · refine t_g @h2 ?_
      repeat (first | refine W_seq ?_ | refine W_skip ?_ | refine W_block ?_ | refine W_inBlock ?_ | refine W_label ?_ | refine W_exit rfl ?_)
      first | refine W_retR hP hf hfn _ ([(b, mk1 (buildN k s l).2)]) (by first | (simp [go_sem, hP, hgl, hn]; done) | (simp [go_sem, hP, hgl, hn]; rfl)) (by simp [go_sem, hP, hgl, hn]) (by simp) ?_ hR.2 | refine W_endR hP hf hfn _ ([(b, mk1 (buildN k s l).2)]) (by first | (simp [go_sem, hP, hgl, hn]; done) | (simp [go_sem, hP, hgl, hn]; rfl)) (by simp [go_sem, hP, hgl, hn]) (by simp) ?_ hR.2
      rw [hR.1]
      refine ⟨?_, by simp⟩
      try simp
      try all_goals (simp [Ty.dv, Ty.cells_eq, Ty.kind_mk, Ty.args_mk, Tm.dv, Tm.cells_eq, Tm.kind_mk, Tm.index_mk, Tm.type_mk, Tm.args_mk, Val.dv, Val.cells_eq, Val.kind_mk, Val.num_mk, Val.list_mk, Val.args_mk, ints])
  · have hne : nodeE e k s l = (zeroTm, e) := by unfold nodeE; rw [if_neg h]
    rw [hne] at hR
    refine t_g @h ?_
    repeat (first | refine W_seq ?_ | refine W_skip ?_ | refine W_block ?_ | refine W_inBlock ?_ | refine W_label ?_ | refine W_exit rfl ?_)
    first | refine W_retR hP hf hfn _ ([(b, mk1 e)]) (by first | (simp [go_sem, hP, hgl, hn, zeroTm]; done) | (simp [go_sem, hP, hgl, hn, zeroTm]; rfl)) (by simp [go_sem, hP, hgl, hn, zeroTm]) (by simp) ?_ hR.2 | refine W_endR hP hf hfn _ ([(b, mk1 e)]) (by first | (simp [go_sem, hP, hgl, hn, zeroTm]; done) | (simp [go_sem, hP, hgl, hn, zeroTm]; rfl)) (by simp [go_sem, hP, hgl, hn, zeroTm]) (by simp) ?_ hR.2
    rw [hR.1]
    refine ⟨?_, by simp [zeroTm]⟩
    try simp [zeroTm]
    try all_goals (simp [Ty.dv, Ty.cells_eq, Ty.kind_mk, Ty.args_mk, Tm.dv, Tm.cells_eq, Tm.kind_mk, Tm.index_mk, Tm.type_mk, Tm.args_mk, Val.dv, Val.cells_eq, Val.kind_mk, Val.num_mk, Val.list_mk, Val.args_mk, ints])

theorem plain_walk (b : Nat) (e k : Int) (l : List Tm) (hc : (Tm.mk k 0 zY l).count ≤ 1073741824) :
    Con1 Tryz.prog gl 183 [ptr b, dint k, .sl (l.map Tm.cells)] [(b, mk1 e)] (nodeE e k zY l).1.dv [(b, mk1 (nodeE e k zY l).2)] := by
  refine t_in Tryz.func183 ?_
  intro X hP hgl hf hfn hn hR hids hfit
  have hz0 : DV.agg [dint 0, DV.sl []] = zY.dv := rfl
  refine t_g0 ?_
  refine t_c1 @hz0 (node_walk b e k zY l hc) ?_
  repeat (first | refine W_seq ?_ | refine W_skip ?_ | refine W_block ?_ | refine W_inBlock ?_ | refine W_label ?_ | refine W_exit rfl ?_)
  first | refine W_retR hP hf hfn _ ([(b, mk1 (nodeE e k zY l).2)]) (by first | (simp [go_sem, hP, hgl, hn]; done) | (simp [go_sem, hP, hgl, hn]; rfl)) (by simp [go_sem, hP, hgl, hn]) (by simp) ?_ hR.2 | refine W_endR hP hf hfn _ ([(b, mk1 (nodeE e k zY l).2)]) (by first | (simp [go_sem, hP, hgl, hn]; done) | (simp [go_sem, hP, hgl, hn]; rfl)) (by simp [go_sem, hP, hgl, hn]) (by simp) ?_ hR.2
  rw [hR.1]
  refine ⟨?_, by simp⟩
  try simp
  try all_goals (simp [Ty.dv, Ty.cells_eq, Ty.kind_mk, Ty.args_mk, Tm.dv, Tm.cells_eq, Tm.kind_mk, Tm.index_mk, Tm.type_mk, Tm.args_mk, Val.dv, Val.cells_eq, Val.kind_mk, Val.num_mk, Val.list_mk, Val.args_mk, ints])

theorem node_count (e k : Int) (s : Ty) (l : List Tm) : (nodeE e k s l).1.count ≤ 4096 := by
  unfold nodeE buildN
  split
  · split
    · show 1 + 0 ≤ 4096; omega
    · simp only; omega
  · show 1 + 0 ≤ 4096; omega

theorem callE_snoc (e : Int) (f : Tm) (l : List Tm) (x : Tm) : callE e f (l ++ [x]) = nodeE (callE e f l).2 3 zY [(callE e f l).1, x] := by
  induction l generalizing e f with
  | nil => rfl
  | cons a r ih => simp only [List.cons_append, callE, ih]
theorem callE_count (e : Int) (f : Tm) (l : List Tm) (hf : f.count ≤ 268435456) : (callE e f l).1.count ≤ 268435456 := by
  induction l generalizing e f with
  | nil => exact hf
  | cons a r ih =>
    have := node_count e 3 zY [f, a]
    exact ih _ _ (by omega)

theorem call_walk (b : Nat) (e : Int) (f : Tm) (l : List Tm) (hfc0 : f.count ≤ 268435456) (hl : ∀ x ∈ l, x.count ≤ 268435456) :
    Con1 Tryz.prog gl 188 [ptr b, f.dv, .sl (l.map Tm.cells)] [(b, mk1 e)] (callE e f l).1.dv [(b, mk1 (callE e f l).2)] := by
  refine t_in Tryz.func188 ?_
  intro X hP hgl hf hfn hn hR hids hfit
  have hlen := sl_len (hfit (.sl (l.map Tm.cells)) (by simp))
  simp only [List.length_map] at hlen
  refine t_g0 ?_
  refine t_a ?_
  refine W_sub [] (by simp [go_sem]) (by simp [go_sem, callE] <;> omega) (by simp [go_sem]) (W_list (l) (fun done rest => [(.slot 11, .one (.v (dint done.length))), (.slot 10, .one (.v (dint l.length))), (.slot 9, .one (.v (.sl (l.map Tm.cells)))), (.slot 0, .one (.v (ptr b))), (.slot 4, .one (.loc 4 0)), (.loc 4, .row ([.v (dint (callE e f done).1.kind), .v (dint (callE e f done).1.index), .v (dint (callE e f done).1.type.kind), .v (.sl ((callE e f done).1.type.args.map Ty.cells)), .v (.sl ((callE e f done).1.args.map Tm.cells))])), (.slot 6, .one (.loc 6 0)), (.loc 6, .row ([.v (dint 0), .v (dint 0), .v (dint 0), .own 0 [], .own 0 []])), (.heap  b, .row ([.v (dint (callE e f done).2)]))]) ?_ ?_)
  · intro done x rest hL hg0 hnext
    have hlt : done.length < l.length := by rw [hL]; simp
    have hxc := hl x (List.mem_of_getElem? hg0)
    have hfc := callE_count e f done hfc0
    have hsn := callE_snoc e f done x
    have hcc : (Tm.mk 3 0 zY [(callE e f done).1, x]).count = 1 + ((callE e f done).1.count + (x.count + 0)) := rfl
    generalize hg : callE e f done = g at *
    have hfx := Tm.fold x
    refine t_rg0 ?_
    refine t_yes ?_
    refine t_g @hg0 ?_
    refine t_c1 (j2 @hg0 @hfx) (plain_walk b g.2 3 [g.1, x] (by omega)) ?_
    refine t_gt (wr []) @hsn trivial hnext
  · refine t_rg0 ?_
    refine t_no ?_
    refine t_g0 ?_
    repeat (first | refine W_seq ?_ | refine W_skip ?_ | refine W_block ?_ | refine W_inBlock ?_ | refine W_label ?_ | refine W_exit rfl ?_)
    first | refine W_retR hP hf hfn _ ([(b, mk1 (callE e f l).2)]) (by first | (simp [go_sem, hP, hgl, hn]; done) | (simp [go_sem, hP, hgl, hn]; rfl)) (by simp [go_sem, hP, hgl, hn]) (by simp) ?_ hR.2 | refine W_endR hP hf hfn _ ([(b, mk1 (callE e f l).2)]) (by first | (simp [go_sem, hP, hgl, hn]; done) | (simp [go_sem, hP, hgl, hn]; rfl)) (by simp [go_sem, hP, hgl, hn]) (by simp) ?_ hR.2
    rw [hR.1]
    refine ⟨?_, by simp⟩
    try simp
    try all_goals (simp [Ty.dv, Ty.cells_eq, Ty.kind_mk, Ty.args_mk, Tm.dv, Tm.cells_eq, Tm.kind_mk, Tm.index_mk, Tm.type_mk, Tm.args_mk, Val.dv, Val.cells_eq, Val.kind_mk, Val.num_mk, Val.list_mk, Val.args_mk, ints])

theorem great1_ok (f x y : Tm) : Con1 Tryz.prog gl 264 [f.dv, x.dv, y.dv] [] (appsT f [x, y]).dv [] := by
  refine t_in Tryz.func264 ?_
  intro X hP hgl hf hfn hn hR hids hfit
  refine t_g0 ?_
  refine t_r ?_
  simp [go_sem, hP, hgl, hn, appsT, appT] <;> (try omega)
  all_goals exact t_f
def wrapT : Nat → Tm → Tm
  | 0, t => t
  | n + 1, t => Tm.mk 2 0 natY [wrapT n t]
theorem great_walk : Con1 Tryz.prog gl 236 [] [] greatT.dv [] := by
  refine t_in Tryz.func236 ?_
  intro X hP hgl hf hfn hn hR hids hfit
  refine t_g0 ?_
  refine t_a ?_
  first | refine W_reg [] fun K hK => ?_ | refine W_regd (by rw [hP]; exact mixed) [] fun K hK => ?_
  refine t_s0 ?_
  refine t_c trivial (plus_ok) ?_
  refine t_c trivial (sc_var_ok 1) ?_
  refine t_c trivial (sub_ok) ?_
  refine t_c trivial (sc_var_ok 0) ?_
  refine t_c trivial (sc_var_ok 1) ?_
  repeat (refine ⟨by omega, ?_⟩)
  refine vcK_callF hP hgl (great1_ok subT (vT 0) (vT 1)) (by simp [go_sem]) (by simp [go_sem, hP, hgl, hn]) rfl (by simp [go_sem]) (by simp) (by rw [hn]; exact Nat.le_of_ble_eq_true rfl) ?_
  simp [go_sem, hP, hgl, hn]
  repeat (refine ⟨by omega, ?_⟩)
  refine vcK_callF hP hgl (great1_ok plusT (vT 1) (appsT subT [vT 0, vT 1])) (by simp [go_sem]) (by simp [go_sem, hP, hgl, hn]) rfl (by simp [go_sem]) (by simp) (by rw [hn]; exact Nat.le_of_ble_eq_true rfl) ?_
  simp [go_sem, hP, hgl, hn]
  refine t_e ?_
  clear hK K
  obtain ⟨bd, hbd⟩ : ∃ bd, bd = appsT plusT [vT 1, appsT subT [vT 0, vT 1]] := ⟨_, rfl⟩
  rw [← hbd]
  refine t_g0 ?_
  refine t_a ?_
  refine W_sub [] (by simp [go_sem]) (by simp [go_sem, wrapT] <;> omega) (by simp [go_sem]) (W_upto (2) (fun i => True) (fun i => [(.slot 12, .one (.v (dint i))), (.loc 2, .row ((wrapT i bd).cells.map .v)), (.slot 2, .one (.loc 2 0)), (.loc 0, .row ([.v (dint 0), .v (dint 0), .v (dint 0), .own 0 [], .own 0 []])), (.slot 0, .one (.loc 0 0))]) (trivial) ?_ ?_)
  · intro i hi _ hnext
    have hfw := Tm.fold (wrapT i bd)
    refine t_rg0 ?_
    refine t_yes ?_
    refine t_g0 ?_
    refine t_c1 @hfw sc_nat_ok ?_
    repeat (first | (refine W_sub [] (by simp [go_sem]) (by simp [go_sem, wrapT, natY] <;> omega) (by simp [go_sem]) (hnext trivial)) | refine W_seq ?_ | refine W_skip ?_ | refine W_block ?_ | refine W_inBlock ?_ | refine W_label ?_ | refine W_exit rfl ?_ | ((first | refine W_reg [] fun K hK => ?_ | refine W_regd (by rw [hP]; exact mixed) [] fun K hK => ?_); simp [go_sem, hP, hgl, hn]; (repeat (refine ⟨by omega, ?_⟩)); (first | refine hK _ ?_ | refine ⟨by rfl, hK _ ?_⟩); clear hK K) | refine W_cond rfl (fun _ => ?_) (fun hq => False.elim (by first | (simp; done) | (simp; omega) | (simp at hq; done) | (simp at hq; omega))) | refine W_cond rfl (fun hq => False.elim (by first | (simp; done) | (simp; omega) | (simp at hq; done) | (simp at hq; omega))) (fun _ => ?_))
  · intro _
    have he : wrapT 2 bd = greatT := by rw [hbd]; rfl
    refine t_rg0 ?_
    refine t_no ?_
    refine t_g0 ?_
    refine t_r ?_
    simp [go_sem, hP, hgl, hn, he] <;> (try omega)
    all_goals exact t_f
end Go.Proofs.YtcldnfbcbkaanaaGreatDoor.Lift

/-
  Package types: a type without functions is seen to be one (Data).
-/
namespace Go.Proofs.YtcldnfbcbkaanaaGreatDoor.Lift
set_option linter.unusedSimpArgs false
set_option linter.unusedVariables false
set_option linter.unnecessarySimpa false
open Go
variable {gl : Globs}

theorem arrRow_at {E : Nat} {full : List (List DV)} (hE : ∀ e ∈ full, e.length = E) {i : Nat} {e : List DV} (h : full[i]? = some e) : toDs (((arrRow full).drop (i * E)).take E) = some e := by
  have he := hE e (List.mem_of_getElem? h)
  have h1 : ((arrRow full).drop (i * E)).take E = e.map SV.v := by
    apply List.ext_getElem?
    intro j
    by_cases hj : j < E
    · rw [List.getElem?_take_of_lt hj, List.getElem?_drop]
      have hje : e[j]? = some (e[j]'(by omega)) := List.getElem?_eq_getElem (by omega)
      simp only [arrRow, List.getElem?_map, flatten_at hE h hje, hje]
    · rw [List.getElem?_eq_none (by simp; omega), List.getElem?_eq_none (by simp; omega)]
  rw [h1]
  exact toDs_map e

theorem anyLoc_arr (d : Nat) (ys : List (List DV)) : anyLoc d (arrRow ys) = false := anyLoc_vs d _
theorem anyTok_arr (d : Nat) (ys : List (List DV)) : anyTok d (arrRow ys) = false := anyTok_vs d _
attribute [go_sem] anyLoc_arr anyTok_arr
theorem rowLe_vs (σ : Nat → Nat) (l : List DV) : rowLe σ (l.map SV.v) (l.map SV.v) := by
  induction l with
  | nil => simp [rowLe]
  | cons x r ih => simp [rowLe, svLe, ih]
theorem rowLe_arr (σ : Nat → Nat) (ys : List (List DV)) : rowLe σ (arrRow ys) (arrRow ys) := rowLe_vs σ _
/-- the sizes of some types -/
def sizes : List T → Nat
  | [] => 0
  | a :: r => a.size + sizes r
theorem sizes_append (l r : List T) : sizes (l ++ r) = sizes l + sizes r := by
  induction l with
  | nil => simp [sizes]
  | cons a l ih => simp [sizes, ih]; omega
theorem size_pos (a : T) : 1 ≤ a.size := by cases a <;> simp only [T.size] <;> omega
theorem len_sizes (l : List T) : l.length ≤ sizes l := by
  induction l with
  | nil => simp [sizes]
  | cons a l ih => have := size_pos a; simp only [sizes, List.length_cons]; omega

/-- the parts of a type without functions -/
def T.parts : T → List T
  | .pair a b => [a, b]
  | _ => []
theorem parts_size (a : T) (h : a.plain) : sizes a.parts + 1 = a.size := by
  cases a with
  | pair a b => simp only [T.parts, sizes, T.size]; omega
  | fn a b => exact h.elim
  | _ => rfl
theorem parts_plain (a : T) (h : a.plain) : ∀ x ∈ a.parts, x.plain := by
  cases a with
  | pair a b => intro x hx; simp [T.parts] at hx; rcases hx with rfl | rfl; exact h.1; exact h.2
  | fn a b => exact h.elim
  | _ => intro x hx; simp [T.parts] at hx
theorem parts_args (a : T) (h : a.plain) : a.ty.args.map Ty.cells = a.parts.map fun x => x.ty.cells := by
  cases a with
  | fn a b => exact h.elim
  | _ => rfl
theorem parts_len (a : T) : a.parts.length ≤ 2 := by cases a <;> simp [T.parts]
theorem plain_kind (a : T) (h : a.plain) : ¬ a.ty.kind = 4 := by
  cases a with
  | fn a b => exact h.elim
  | _ => simp [T.ty, Ty.kind]

def tyRows (l : List T) : List (List DV) := l.map fun x => x.ty.cells
theorem tyRows_len (l : List T) : (tyRows l).length = l.length := by simp [tyRows]
theorem tyRows_wid (l : List T) : ∀ e ∈ tyRows l, e.length = 2 := by
  intro e he
  simp only [tyRows, List.mem_map] at he
  obtain ⟨x, -, rfl⟩ := he
  exact Ty.length_cells _

theorem grow_rows {full : List (List DV)} {init parts : List T} (h : full.take init.length = tyRows init) (rest : List (List DV)) : (full.take init.length ++ tyRows parts ++ rest).take (init ++ parts).length = tyRows (init ++ parts) := by
  rw [h]
  have e : tyRows init ++ tyRows parts = tyRows (init ++ parts) := by simp [tyRows]
  rw [e]
  exact List.take_left' (tyRows_len _)
theorem grow_wid {full : List (List DV)} {n : Nat} {zs rest : List (List DV)} (h : ∀ e ∈ full, e.length = 2) (h1 : ∀ e ∈ zs, e.length = 2) (h2 : ∀ e ∈ rest, e.length = 2) : ∀ e ∈ full.take n ++ zs ++ rest, e.length = 2 := by
  intro e he
  rcases List.mem_append.1 he with he | he
  · rcases List.mem_append.1 he with he | he
    · exact h e (List.mem_of_mem_take he)
    · exact h1 e he
  · exact h2 e he
theorem W_cutA {α : Type} {X : Ctx} {k kk : List Item} {s : St} (E : α → Prop) (S : α → St) (h1 : (∀ x, E x → W X kk (S x)) → W X k s) (h2 : ∀ x, E x → W X kk (S x)) : W X k s := h1 h2

set_option maxHeartbeats 1000000 in
set_option maxRecDepth 10000 in
theorem nodesIt_ok (a0 : T) (hp0 : a0.plain) (hs0 : a0.size ≤ 1000000) (b0 lp : Nat) (r : Loop) (hps : r.params.size = 1) :
    ItC Tryz.prog gl 194 [.prim (.func (.yield lp) #[] #[]), ptr b0] [(b0, a0.ty.cells)] lp r (fun D0 w0 => ∀ a : T, a.plain → YC Tryz.prog gl D0 w0 lp r [a.ty.dv] [] fun b φ' r' => b = true ∧ φ' = [] ∧ r' = r) (fun φ' r' => φ' = [(b0, a0.ty.cells)] ∧ r' = r) := by
  refine ItC_intro Tryz.func194 rfl (by kernel_rfl) (Nat.le_of_ble_eq_true rfl) ?_
  intro X hP hgl hf hfn hn hmd hids hfit hlp hY
  have hlb : ¬ lp = b0 := by simpa using hlp
  have hlb' : ¬ b0 = lp := fun e => hlb e.symm
  simp only [entryL, entry, argSt, heapSt, List.map_cons, List.map_nil, List.cons_append, List.nil_append]
  have hc0 := Ty.cells_eq a0.ty
  refine t_a ?_
  refine W_reg [6] fun K hK => ?_
  simp [go_sem, hP, hgl, hn, hlb, hlb', hc0]
  refine vcK_litX (E := 2) (els := [[dint a0.ty.kind, .sl (a0.ty.args.map Ty.cells)]]) (by simp [go_sem, hP]; rfl) (by simp [go_sem, hP, hgl, hn]) ⟨rfl, by decide⟩ (by rw [hn]; exact Nat.le_of_ble_eq_true rfl) (by rfl) ?_
  intro b hb hw
  simp [go_sem] at hb
  simp [go_sem, hP, hgl, hn, hlb, hlb', hb]
  repeat (refine ⟨by omega, ?_⟩)
  refine hK _ ?_
  clear hK K
  have hb1 : ¬ b = lp := fun e => hb.1 e.symm
  have hb2 : ¬ b = b0 := fun e => hb.2 e.symm
  refine t_a ?_
  refine W_sub [] (by simp [go_sem]) (by simp [go_sem, hb1, hb2, hb, hlb, hlb', tyRows, hc0, rowLe_arr]) (by simp [go_sem]) (W_rounds
    (fun x : Nat × Nat × List (List DV) × List T => x.2.2.1.length = x.2.1 ∧ (∀ e ∈ x.2.2.1, e.length = 2) ∧ x.2.2.1.take x.2.2.2.length = tyRows x.2.2.2 ∧ x.2.2.2.length ≤ x.2.1 ∧ (∀ a ∈ x.2.2.2, a.plain) ∧ sizes x.2.2.2 ≤ 1000000 ∧ ¬ x.1 = lp ∧ ¬ x.1 = b0)
    (fun x => [(.slot 0, .one (.v (.prim (.func (.yield lp) #[] #[])))), (.slot 1, .one (.v (ptr b0))), (.slot 3, .one (.v (rawS x.1 x.2.2.2.length x.2.1))), (.heap lp, .ob r), (.heap b0, .row [.v (dint a0.ty.kind), .v (.sl (a0.ty.args.map Ty.cells))]), (.heap x.1, .row (arrRow x.2.2.1))])
    (fun x => sizes x.2.2.2) (b, 1, tyRows [a0], [a0]) ⟨rfl, tyRows_wid _, rfl, Nat.le_refl _, by simpa using hp0, by simpa [sizes] using hs0, hb1, hb2⟩ ?_)
  clear hb hb1 hb2 b hw
  rintro ⟨b, cap, full, rest⟩ ⟨i1, i2, i3, i4, i5, i6, i7, i8⟩ ih
  simp only at i1 i2 i3 i4 i5 i6 i7 i8
  have i7' : ¬ lp = b := fun e => i7 e.symm
  have i8' : ¬ b0 = b := fun e => i8 e.symm
  rcases List.eq_nil_or_concat rest with rfl | ⟨init, a, hrest⟩
  · refine t_rg (j2 @hlb (j2 @hlb' (j2 @i7 (j2 @i8 (j2 @i7' @i8'))))) ?_
    refine t_no ?_
    refine t_a ?_
    refine W_itfin hmd (φ := [(b0, a0.ty.cells)]) (q := r) (r := .tup []) (by rw [hP, hf, hfn]; exact Tryz.func194) (by rw [hfn]; simp [go_sem]) (objsIn_one ?_ (by simp [objsIn])) (by simp) ?_ ⟨rfl, rfl⟩ outs_end
    · simp [go_sem, hlb, hlb', i7, i8, i7', i8', hc0]
    · simp [go_sem, hlb, hlb', i7, i8, i7', i8']
  · rw [List.concat_eq_append] at hrest
    subst hrest
    have ha := i5 a (by simp)
    have hln : (init ++ [a]).length = init.length + 1 := by simp
    have hls := len_sizes (init ++ [a])
    rw [hln] at hls i3 i4
    rw [hln]
    have hbig : init.length + 1 ≤ BIG := by unfold BIG; omega
    have hfa : full[init.length]? = some a.ty.cells := by
      have h1 : (full.take (init.length + 1))[init.length]? = some a.ty.cells := by rw [i3]; simp [tyRows]
      rw [List.getElem?_take_of_lt (by omega)] at h1
      exact h1
    have hrd := arrRow_at i2 hfa
    rw [Ty.cells_eq a.ty] at hrd
    have hps' := parts_size a ha
    have hpl := parts_len a
    have hargs := parts_args a ha
    have hsz := sizes_append init [a]
    have hsz2 := sizes_append init a.parts
    simp only [sizes] at hsz
    have hls2 := len_sizes (init ++ a.parts)
    rw [List.length_append] at hls2
    have hfo := Ty.fold a.ty
    have htr : tyRows a.parts = a.ty.args.map Ty.cells := hargs.symm
    have hal : (arrRow full).length = cap * 2 := by rw [arrRow_len i2, i1]
    refine t_rg (j2 @hbig (j2 @hlb (j2 @hlb' (j2 @i7 (j2 @i8 (j2 @i7' @i8')))))) ?_
    refine t_yes ?_
    have hlt : ((init.length : Nat) : Int) < (init.length : Nat) + 1 := by omega
    refine t_rg (j2 @hbig (j2 @hlb (j2 @hlb' (j2 @i7 (j2 @i8 (j2 @i7' (j2 @i8' @hrd))))))) ?_
    have hnb : init.length + (a.ty.args.map Ty.cells).length ≤ BIG := by
      rw [hargs, List.length_map]; unfold BIG; omega
    have hzw : ∀ e ∈ a.ty.args.map Ty.cells, e.length = 2 := by rw [hargs]; exact tyRows_wid a.parts
    have hzl : (a.ty.args.map Ty.cells).length = a.parts.length := by rw [hargs, List.length_map]
    have hil : (init ++ a.parts).length = init.length + a.parts.length := List.length_append
    have hfl1 : full.take init.length = tyRows init := by
      have h1 : (full.take (init.length + 1)).take init.length = (tyRows (init ++ [a])).take init.length := by rw [i3]
      rw [List.take_take, Nat.min_eq_left (by omega)] at h1
      rw [h1]; simp [tyRows]
    generalize a.ty.args.map Ty.cells = zs at *
    apply W_cutA (fun x : Nat × Nat × List (List DV) => x.2.2.length = x.2.1 ∧ (∀ e ∈ x.2.2, e.length = 2) ∧ x.2.2.take (init ++ a.parts).length = tyRows (init ++ a.parts) ∧ (init ++ a.parts).length ≤ x.2.1 ∧ ¬ x.1 = lp ∧ ¬ x.1 = b0)
      (fun x => [(.slot 0, .one (.v (.prim (.func (.yield lp) #[] #[])))), (.slot 1, .one (.v (ptr b0))), (.slot 3, .one (.v (rawS x.1 (init ++ a.parts).length x.2.1))), (.slot 4, .one (.loc 4 0)), (.loc 4, .row [.v (dint a.ty.kind), .v (.sl zs)]), (.heap lp, .ob r), (.heap b0, .row [.v (dint a0.ty.kind), .v (.sl (a0.ty.args.map Ty.cells))]), (.heap x.1, .row (arrRow x.2.2))])
    · intro hrest
      refine t_a ?_
      refine W_regT (by rw [hP]; exact mixed) 7 ?_ ?_ [] [23] fun K hK => ?_
      · decide
      · rfl
      simp [go_sem, hP, hgl, hn, hbig, hlb, hlb', i7, i8, i7', i8', hrd]
      repeat (refine ⟨by omega, ?_⟩)
      refine ⟨by rfl, ?_⟩
      refine vcK_appendR (E := 2) (B := 32) (b := b) (n := init.length) (cap := cap) (full := full) (zs := zs) (zd := [dint 0, .sl []]) (by simp [go_sem, hP, hgl, hn]) (by simp [go_sem, hP, hgl, hn]) (by simp [go_sem, hlb, hlb', i7, i8, i7', i8']) (by simp [go_sem, hP]) (by rw [hP]; kernel_rfl) rfl ⟨by decide, by decide⟩ (by rw [hP]; rfl) (by rw [hn]; exact Nat.le_of_ble_eq_true rfl) i1 (by omega) hnb i2 hzw rfl ?_ ?_
      · intro hle
        simp [go_sem, hP, hgl, hn, hlb, hlb', i7, i8, i7', i8']
        refine hK _ ?_
        clear hK K
        rw [hzl] at hle
        have q1 : (full.take init.length ++ zs ++ full.drop (init.length + zs.length)).length = cap := by
          simp only [List.length_append, List.length_take, List.length_drop, i1, hzl]; omega
        have q2 := grow_wid (n := init.length) i2 hzw (rest := full.drop (init.length + zs.length)) fun e he => i2 e (List.mem_of_mem_drop he)
        have q3 := grow_rows (parts := a.parts) hfl1 (full.drop (init.length + zs.length))
        rw [htr] at q3
        have q4 : (init ++ a.parts).length ≤ cap := by rw [hil]; exact hle
        have q5 : init.length + zs.length = (init ++ a.parts).length := by rw [hil, hzl]
        have hres := hrest (b, cap, _) ⟨q1, q2, q3, q4, i7, i8⟩
        simp only at hres
        rw [← q5] at hres
        rw [List.append_assoc] at hres
        generalize full.take init.length ++ (zs ++ full.drop (init.length + zs.length)) = fl at *
        refine t_b ?_
        refine t_sub [] (j2 @hlb (j2 @hlb' (j2 @i7 (j2 @i8 (j2 @i7' (j2 @i8' @rowLe_arr)))))) hres
      · intro hlt b' cap' hc hb' hw'
        simp [go_sem] at hb'
        simp [go_sem, hP, hgl, hn, hlb, hlb', i7, i8, i7', i8', hb']
        refine hK _ ?_
        clear hK K
        have k1 : ¬ b' = lp := fun e => hb'.1 e.symm
        have k2 : ¬ b' = b0 := fun e => hb'.2.1 e.symm
        have k3 : ¬ b = b' := fun e => hb'.2.2 e
        have q1 : (full.take init.length ++ zs ++ List.replicate (cap' - (init.length + zs.length)) [dint 0, DV.sl []]).length = cap' := by
          simp only [List.length_append, List.length_take, List.length_replicate, i1]; omega
        have q2 := grow_wid (n := init.length) i2 hzw (rest := List.replicate (cap' - (init.length + zs.length)) [dint 0, DV.sl []]) fun e he => by rw [(List.mem_replicate.1 he).2]; rfl
        have q3 := grow_rows (parts := a.parts) hfl1 (List.replicate (cap' - (init.length + zs.length)) [dint 0, DV.sl []])
        rw [htr] at q3
        have q5 : init.length + zs.length = (init ++ a.parts).length := by rw [hil, hzl]
        have q4 : (init ++ a.parts).length ≤ cap' := by rw [← q5]; exact hc
        have hres := hrest (b', cap', _) ⟨q1, q2, q3, q4, k1, k2⟩
        simp only at hres
        rw [← q5] at hres
        rw [List.append_assoc] at hres
        generalize full.take init.length ++ (zs ++ List.replicate (cap' - (init.length + zs.length)) [dint 0, DV.sl []]) = fl at *
        refine t_b ?_
        refine t_sub [] (j2 @hlb (j2 @hlb' (j2 @i7 (j2 @i8 (j2 @i7' (j2 @i8' (j2 @hb' (j2 @k1 (j2 @k2 (j2 @k3 @rowLe_arr)))))))))) hres
    · rintro ⟨b', cap', full'⟩ ⟨w1, w2, w3, w4, w5, w6⟩
      simp only at w1 w2 w3 w4 w5 w6 ⊢
      have w5' : ¬ lp = b' := fun e => w5 e.symm
      have w6' : ¬ b0 = b' := fun e => w6 e.symm
      have w7 : ∀ x ∈ init ++ a.parts, x.plain := by
        intro x hx
        rcases List.mem_append.1 hx with hx | hx
        · exact i5 x (by simp [hx])
        · exact parts_plain a ha x hx
      have w8 : sizes (init ++ a.parts) ≤ 1000000 := by omega
      have w9 : sizes (init ++ a.parts) < sizes (init ++ [a]) := by omega
      have hres := ih (b', cap', full', init ++ a.parts) ⟨w1, w2, w3, w4, w7, w8, w5, w6⟩ w9
      simp only at hres
      generalize hnn : (init ++ a.parts).length = nn at *
      refine t_a ?_
      first | refine W_reg [] fun K hK => ?_ | refine W_regd (by rw [hP]; exact mixed) [] fun K hK => ?_
      refine t_s (j2 @hlb (j2 @hlb' (j2 @w5 (j2 @w6 (j2 @w5' (j2 @w6' @hfo)))))) ?_
      repeat (refine ⟨by omega, ?_⟩)
      refine vcK_yieldA (by simp [go_sem]) hP hgl (hY a ha) hps (by simp [go_sem, hlb, hlb', w5, w6, w5', w6', hfo]) rfl (by simp [objsIn]) (by simp) (by simp [go_sem, hlb, hlb', w5, w6, w5', w6']) (by rw [hn]; exact Nat.le_of_ble_eq_true rfl) [(.slot 0, .one (.v (.prim (.func (.yield lp) #[] #[])))), (.slot 1, .one (.v (ptr b0))), (.slot 3, .one (.v (rawS b' nn cap'))), (.heap b0, .row [.v (dint a0.ty.kind), .v (.sl (a0.ty.args.map Ty.cells))]), (.heap b', .row (arrRow full'))] ?_ ?_ ?_
      · intro m v h
        simp only [List.mem_cons, List.not_mem_nil, or_false, Prod.mk.injEq] at h
        rcases h with ⟨rfl, rfl⟩ | ⟨rfl, rfl⟩ | ⟨rfl, rfl⟩ | ⟨rfl, rfl⟩ | ⟨rfl, rfl⟩ <;> simp [go_sem, hlb, hlb', w5, w6, w5', w6']
      · rintro _ _ _ ⟨rfl, rfl, rfl⟩
        simp
      · rintro _ _ _ ⟨rfl, rfl, rfl⟩ -
        simp only [List.cons_append, List.nil_append]
        simp [go_sem, hP, hgl, hn]
        refine t_e ?_
        clear hK K
        refine t_no ?_
        refine t_b ?_
        refine t_sub [] (j2 @hlb (j2 @hlb' (j2 @w5 (j2 @w6 (j2 @w5' (j2 @w6' @rowLe_arr)))))) hres

theorem types_nodes_ok (a : T) : Con Tryz.prog gl 142 [a.ty.dv] [] fun r φ => ∃ b, r = .prim (.func (.func 194) #[] #[.pointer (some ⟨b, 0, none⟩)]) ∧ φ = [(b, a.ty.cells)] := by
  have hc0 := Ty.cells_eq a.ty
  refine t_in Tryz.func142 ?_
  intro X hP hgl hf hfn hn hR hids hfit
  refine t_rg0 ?_
  refine W_expose 1 (by simp [go_sem]; rfl) ?_
  intro b hb
  simp [go_sem]
  refine t_rg0 ?_
  refine t_a ?_
  refine W_retR hP hf hfn (.prim (.func (.func 194) #[] #[.pointer (some ⟨b, 0, none⟩)])) [(b, a.ty.cells)] (by simp [go_sem, hP, hgl, hn]) (by simp [go_sem, hc0]) (by simp) (by rw [hR.1]; exact ⟨b, rfl, rfl⟩) hR.2

set_option maxHeartbeats 1000000 in
theorem data_t_ok (a : T) (hp : a.plain) (ho : a.ok) : Con1 Tryz.prog gl 74 [a.ty.dv] [] (.tup [dbool true, dint 0]) [] := by
  have hs : a.size ≤ 64 := ho
  have hc := T.ty_count a
  have h0 : a.ty.checkN = 0 := (Ty.checkN_iff _).2 (T.ok_ty ho)
  have wc := types_check_ok (gl := gl) a.ty (by omega)
  rw [h0] at wc
  have fa := Ty.fold a.ty
  have hc0 := Ty.cells_eq a.ty
  refine t_in Tryz.func74 ?_
  intro X hP hgl hf hfn hn hR hids hfit
  refine t_g0 ?_
  refine t_c1 @fa wc ?_
  refine t_g0 ?_
  refine t_a ?_
  first | refine W_reg [] fun K hK => ?_ | refine W_regd (by rw [hP]; exact mixed) [] fun K hK => ?_
  refine t_s0 ?_
  repeat (refine ⟨by omega, ?_⟩)
  refine vcK_callR hP hgl (types_nodes_ok a) (by simp [go_sem]) rfl (by simp [go_sem]) (by simp) (by rw [hn]; exact Nat.le_of_ble_eq_true rfl) ?_
  rintro r ψ ⟨b0, rfl, rfl⟩ -
  simp [go_sem]
  refine t_e ?_
  clear hK K
  refine t_a ?_
  refine W_rangeFunc hR.2 (f := 194) (fi := #[]) (ca := #[.pointer (some ⟨b0, 0, none⟩)]) (by simp [go_sem]) (by simp [primOK]) (φ := [(b0, a.ty.cells)]) ?_ ?_ (Y := fun lp r D0 w0 => ∀ x : T, x.plain → YC X.P X.gl D0 w0 lp r [x.ty.dv] [] fun b φ' r' => b = true ∧ φ' = [] ∧ r' = r) (R := fun φ' r' => φ' = [(b0, a.ty.cells)] ∧ r'.state = .ready ∧ r'.pending = none) (SL := []) ?_ ?_ ?_ ?_ ?_
  · exact objsIn_one (by simp [go_sem, hc0]) (by simp [objsIn])
  · simp
  · intro n x h
    cases h
  · intro lp r h1 h2 h3 h4
    have := nodesIt_ok (gl := gl) a hp (by omega) b0 lp r (by rw [h3]; rfl)
    rw [hP, hgl]
    refine ⟨this.1, fun D w vs a1 a2 a3 a4 a5 a6 => (this.2 D w vs a1 a2 a3 a4 a5 a6).mono ?_⟩
    rintro e w' ⟨v1, D', φ', r', rfl, hR', rest⟩
    refine ⟨v1, D', φ', r', rfl, ?_, rest⟩
    obtain ⟨rfl, rfl⟩ := hR'
    exact ⟨rfl, h1, h2⟩
  · intro lp r D0 w0 h1 h2 h3 h4 h5 h6 h7 h8 h9 x hx
    rw [hP, hgl]
    refine YC_round X.n h5 h9 h1 (by rw [h3]; rfl) (by rw [h3, hn]; decide) (by rw [h3]; decide) (by rw [h3]; simp) ?_
    intro X' hP' hgl' hf' hn' hmd' hids' hl' hfit'
    rw [h3, h6, h7]
    rw [hn] at hn'
    clear hP hgl hn
    have hP := hP'
    have hgl := hgl'
    have hn := hn'
    have hk := plain_kind x hx
    have fx := Ty.fold x.ty
    simp only [entryR, h3, parSt, slotSt, heapSt, List.cons_append, List.nil_append, List.map_nil]
    refine t_rg0 ?_
    refine W_begin (r := r) (l := lp) (by simp [Ctx.rd, hmd']) (by simp [go_sem]) h1 ?_
    simp [go_sem]
    refine t_rg0 ?_
    refine t_a ?_
    refine W_cond rfl ?_ ?_
    · intro h; exact absurd (by simpa using h) hk
    intro _
    refine t_a ?_
    refine W_rdfin hmd' (φ := []) (by simp [objsIn]) (by simp) (by simp [go_sem]) none rfl ?_
    simp only [Option.isNone_none, true_and]
    cases r
    simp only [pastL] at h1 h2 ⊢
    subst h1 h2
    rfl
  · rintro φ' r' ⟨-, h, -⟩
    rw [h]; simp
  · rintro φ' r' ⟨rfl, -, h⟩ -
    rw [h]
    simp [go_sem]
    refine t_rg0 ?_
    refine t_r ?_
    simp [go_sem, hP, hgl, hn] <;> (try omega)
end Go.Proofs.YtcldnfbcbkaanaaGreatDoor.Lift

namespace Go.Proofs.YtcldnfbcbkaanaaGreatDoor.Lift
set_option linter.unusedSimpArgs false
set_option linter.unusedVariables false
set_option linter.unnecessarySimpa false
open Go

/-- what a run of the second form's machine leaves: a value, the work used so far, and whether the work is out; none: stuck -/
abbrev Rn := Option (MV × Int × Bool)
abbrev Ev6 := Tm → List MV → Int → Rn
/-- the zero result -/
def zeroM : MV := .num 0
def callRun (ev : Ev6) (f x : MV) (u : Int) : Rn :=
  match f with
  | .clo b e => ev b (x :: e) u
  | _ => none
/-- the rounds of a recursion: after the work is out the rounds stop -/
def recRun (ev : Ev6) (f : MV) : Nat → Nat → MV → Int → Rn
  | 0, _, r, u => some (r, u, false)
  | n + 1, k, r, u => match callRun ev f (.num k) u with
    | none => none
    | some (_, u1, true) => some (r, u1, true)
    | some (g, u1, false) => match callRun ev g r u1 with
      | none => none
      | some (r', u2, true) => some (r', u2, true)
      | some (r', u2, false) => recRun ev f n (k + 1) r' u2
/-- the rounds of a fold, from the last element on: what is given is the list in reverse, and what lies behind -/
def foldRun (ev : Ev6) (f : MV) : List Nat → List Nat → MV → Int → Rn
  | [], _, r, u => some (r, u, false)
  | x :: l, rest, r, u => match callRun ev f (.num x) u with
    | none => none
    | some (_, u1, true) => some (r, u1, true)
    | some (g, u1, false) => match callRun ev g (.list rest) u1 with
      | none => none
      | some (_, u2, true) => some (r, u2, true)
      | some (g2, u2, false) => match callRun ev g2 r u2 with
        | none => none
        | some (r', u3, true) => some (r', u3, true)
        | some (r', u3, false) => foldRun ev f l (x :: rest) r' u3
/-- the arguments, one after the other -/
def allRun (ev : Ev6) : List Tm → List MV → Int → Option (List MV × Int × Bool)
  | [], _, u => some ([], u, false)
  | t :: r, e, u => match ev t e u with
    | none => none
    | some (_, u1, true) => some ([], u1, true)
    | some (v, u1, false) => match allRun ev r e u1 with
      | none => none
      | some (l, u2, o) => some (v :: l, u2, o)
def nodeRun (ev : Ev6) (k : Int) (l : List MV) (u : Int) : Rn :=
  if k = 3 then match l with
    | [f, x] => callRun ev f x u
    | _ => none
  else if k = 4 then some (.num 0, u, false)
  else if k = 5 then match l with
    | [.num n] => some (.num (n + 1), u, false)
    | _ => none
  else if k = 6 then match l with
    | [b, f, .num n] => recRun ev f n 0 b u
    | _ => none
  else if k = 7 then some (.list [], u, false)
  else if k = 8 then match l with
    | [.num n, .list r] => some (.list (n :: r), u, false)
    | _ => none
  else if k = 9 then match l with
    | [b, f, .list r] => foldRun ev f r.reverse [] b u
    | _ => none
  else if k = 10 then match l with
    | [a, b] => some (.both a b, u, false)
    | _ => none
  else if k = 11 then match l with
    | [.both a _] => some (a, u, false)
    | _ => none
  else if k = 12 then match l with
    | [.both _ b] => some (b, u, false)
    | _ => none
  else some (.unit, u, false)
def ev6 (most : Int) : Nat → Ev6
  | 0, _, _, _ => none
  | d + 1, t, e, u =>
    if u = most then some (zeroM, u, true)
    else if t.kind = 1 then if 0 ≤ t.index then match e[t.index.toNat]? with
      | some v => some (v, u + 1, false)
      | none => none
      else none
    else if t.kind = 2 then match t.args with
      | b :: _ => some (.clo b e, u + 1, false)
      | [] => none
    else match allRun (ev6 most d) t.args e (u + 1) with
      | none => none
      | some (_, u1, true) => some (zeroM, u1, true)
      | some (l, u1, false) => nodeRun (ev6 most d) t.kind l u1
end Go.Proofs.YtcldnfbcbkaanaaGreatDoor.Lift

namespace Go.Proofs.YtcldnfbcbkaanaaGreatDoor.Lift
set_option linter.unusedSimpArgs false
set_option linter.unusedVariables false
set_option linter.unnecessarySimpa false
open Go

/-! the second form's machine on typed terms: it is never stuck, and returns what is denoted -/

mutual
/-- a machine's value has a type and a meaning -/
inductive MVT : (a : T) → MV → a.V → Prop
  | num (n : Nat) : MVT .nat (.num n) n
  | list (l : List Nat) : MVT .list (.list l) l
  | unit : MVT .unit .unit ()
  | both {a b : T} {x y : MV} {X : a.V} {Y : b.V} (hx : MVT a x X) (hy : MVT b y Y) : MVT (.pair a b) (.both x y) (X, Y)
  | clo {Γ : List T} {a r : T} {b : Tm} {f : Env (a :: Γ) → r.V} {e : List MV} {ρ : Env Γ} (he : MVE Γ e ρ) (hb : Dn (a :: Γ) b r f) : MVT (.fn a r) (.clo b e) (fun x => f (x, ρ))
inductive MVE : (Γ : List T) → List MV → Env Γ → Prop
  | nil : MVE [] [] ()
  | cons {Γ : List T} {a : T} {x : MV} {X : a.V} {e : List MV} {ρ : Env Γ} (h : MVT a x X) (k : MVE Γ e ρ) : MVE (a :: Γ) (x :: e) (X, ρ)
end

theorem MVE.get {Γ : List T} {i : Nat} {a : T} {p : Env Γ → a.V} (h : At Γ i a p) : ∀ {e : List MV} {ρ : Env Γ}, MVE Γ e ρ → ∃ x, e[i]? = some x ∧ MVT a x (p ρ) := by
  induction h with
  | zero => intro e ρ he; cases he with | cons h k => exact ⟨_, rfl, h⟩
  | succ h ih => intro e ρ he; cases he with | cons h k => obtain ⟨x, e1, e2⟩ := ih k; exact ⟨x, by simpa using e1, e2⟩
theorem mvt_nat {v : MV} {n : Nat} (h : MVT .nat v n) : v = .num n := by cases h; rfl
theorem mvt_list {v : MV} {l : List Nat} (h : MVT .list v l) : v = .list l := by cases h; rfl
theorem mvt_pair {a b : T} {v : MV} {p : (T.pair a b).V} (h : MVT (.pair a b) v p) : ∃ x y, v = .both x y ∧ MVT a x p.1 ∧ MVT b y p.2 := by
  cases h with | both hx hy => exact ⟨_, _, rfl, hx, hy⟩
theorem mvt_fn {a b : T} {v : MV} {f : (T.fn a b).V} (h : MVT (.fn a b) v f) : ∃ (Γ : List T) (t : Tm) (e : List MV) (ρ : Env Γ) (g : Env (a :: Γ) → b.V), v = .clo t e ∧ MVE Γ e ρ ∧ Dn (a :: Γ) t b g ∧ f = fun x => g (x, ρ) := by
  cases h with | clo he hb => exact ⟨_, _, _, _, _, rfl, he, hb, rfl⟩

/-- a run is not stuck; when the work is not out it leaves a value of the kind that is told -/
def Out (most : Int) (P : MV → Prop) (u : Int) (r : Rn) : Prop := ∃ v u' o, r = some (v, u', o) ∧ u ≤ u' ∧ u' ≤ most ∧ (o = false → P v)
theorem Out.mono {most u u0 : Int} {P Q : MV → Prop} {r : Rn} (h : Out most P u r) (hu : u0 ≤ u) (hq : ∀ v, P v → Q v) : Out most Q u0 r := by
  obtain ⟨v, u', o, h1, h2, h3, h4⟩ := h
  exact ⟨v, u', o, h1, by omega, h3, fun h => hq v (h4 h)⟩

/-- evaluation is good to a depth -/
def Evs (most : Int) (d : Nat) (ev : Ev6) : Prop := ∀ ⦃Γ : List T⦄ ⦃t : Tm⦄ ⦃a : T⦄ ⦃F : Env Γ → a.V⦄ ⦃e : List MV⦄ ⦃ρ : Env Γ⦄ ⦃u : Int⦄, Dn Γ t a F → MVE Γ e ρ → u ≤ most → most - u < d → Out most (fun v => MVT a v (F ρ)) u (ev t e u)

theorem callRun_out {most : Int} {d : Nat} {ev : Ev6} (H : Evs most d ev) {a b : T} {f x : MV} {F : (T.fn a b).V} {X : a.V} (hf : MVT (.fn a b) f F) (hx : MVT a x X) {u : Int} (hu : u ≤ most) (hd : most - u < d) :
    Out most (fun v => MVT b v (F X)) u (callRun ev f x u) := by
  obtain ⟨Γ, t, e, ρ, g, rfl, he, hb, rfl⟩ := mvt_fn hf
  exact H hb (.cons hx he) hu hd

theorem recRun_out {most : Int} {d : Nat} {ev : Ev6} (H : Evs most d ev) {a : T} {f : MV} {F : (T.fn .nat (.fn a a)).V} (hf : MVT (.fn .nat (.fn a a)) f F) : ∀ (n k : Nat) {r : MV} {R : a.V} {u : Int}, MVT a r R → u ≤ most → most - u < d →
    Out most (fun v => MVT a v ((List.range' k n).foldl (fun r i => F i r) R)) u (recRun ev f n k r u)
  | 0, k, r, R, u, hr, hu, hd => ⟨r, u, false, rfl, by omega, hu, fun _ => hr⟩
  | n + 1, k, r, R, u, hr, hu, hd => by
    obtain ⟨g, u1, o1, h1, l1, m1, q1⟩ := callRun_out H hf (.num k) hu hd
    cases o1 with
    | true => exact ⟨r, u1, true, by rw [recRun, h1], l1, m1, fun h => by cases h⟩
    | false =>
      obtain ⟨r', u2, o2, h2, l2, m2, q2⟩ := callRun_out H (q1 rfl) hr m1 (by omega)
      cases o2 with
      | true => exact ⟨r', u2, true, by rw [recRun, h1]; simp only [h2], by omega, m2, fun h => by cases h⟩
      | false =>
        have := recRun_out H hf n (k + 1) (q2 rfl) m2 (by omega)
        have e : recRun ev f (n + 1) k r u = recRun ev f n (k + 1) r' u2 := by rw [recRun, h1]; simp only [h2]
        rw [e]
        exact this.mono (by omega) fun v h => h

theorem foldRun_out {most : Int} {d : Nat} {ev : Ev6} (H : Evs most d ev) {a : T} {f : MV} {F : (T.fn .nat (.fn .list (.fn a a))).V} (hf : MVT (.fn .nat (.fn .list (.fn a a))) f F) (B : a.V) : ∀ (l rest : List Nat) {r : MV} {u : Int}, MVT a r (listRec B F rest) → u ≤ most → most - u < d →
    Out most (fun v => MVT a v (listRec B F (l.reverse ++ rest))) u (foldRun ev f l rest r u)
  | [], rest, r, u, hr, hu, hd => ⟨r, u, false, rfl, by omega, hu, fun _ => hr⟩
  | x :: l, rest, r, u, hr, hu, hd => by
    obtain ⟨g, u1, o1, h1, l1, m1, q1⟩ := callRun_out H hf (.num x) hu hd
    cases o1 with
    | true => exact ⟨r, u1, true, by rw [foldRun, h1], l1, m1, fun h => by cases h⟩
    | false =>
      obtain ⟨g2, u2, o2, h2, l2, m2, q2⟩ := callRun_out H (q1 rfl) (.list rest) m1 (by omega)
      cases o2 with
      | true => exact ⟨r, u2, true, by rw [foldRun, h1]; simp only [h2], by omega, m2, fun h => by cases h⟩
      | false =>
        obtain ⟨r', u3, o3, h3, l3, m3, q3⟩ := callRun_out H (q2 rfl) hr m2 (by omega)
        cases o3 with
        | true => exact ⟨r', u3, true, by rw [foldRun, h1]; simp only [h2, h3], by omega, m3, fun h => by cases h⟩
        | false =>
          have := foldRun_out H hf B l (x :: rest) (r := r') (q3 rfl) m3 (by omega)
          have e : foldRun ev f (x :: l) rest r u = foldRun ev f l (x :: rest) r' u3 := by rw [foldRun, h1]; simp only [h2, h3]
          rw [e]
          refine this.mono (by omega) fun v h => ?_
          simpa using h

/-- values of some kinds, one after the other -/
def Fits2 : List MV → List (MV → Prop) → Prop
  | [], [] => True
  | v :: l, P :: r => P v ∧ Fits2 l r
  | _, _ => False

theorem allRun_out {most : Int} {ev : Ev6} {d : Nat} {e : List MV} : ∀ (l : List Tm) (Ps : List (MV → Prop)), l.length = Ps.length → (∀ (i : Nat) (t : Tm) (P : MV → Prop), l[i]? = some t → Ps[i]? = some P → ∀ u : Int, u ≤ most → most - u < d → Out most P u (ev t e u)) → ∀ {u : Int}, u ≤ most → most - u < d →
    ∃ vs u' o, allRun ev l e u = some (vs, u', o) ∧ u ≤ u' ∧ u' ≤ most ∧ (o = false → Fits2 vs Ps)
  | [], [], _, _, u, hu, hd => ⟨[], u, false, rfl, by omega, hu, fun _ => trivial⟩
  | [], _ :: _, hl, _, _, _, _ => by cases hl
  | _ :: _, [], hl, _, _, _, _ => by cases hl
  | t :: l, P :: Ps, hl, h, u, hu, hd => by
    obtain ⟨v, u1, o1, h1, l1, m1, q1⟩ := h 0 t P rfl rfl u hu hd
    cases o1 with
    | true => exact ⟨[], u1, true, by rw [allRun, h1], l1, m1, fun h => by cases h⟩
    | false =>
      obtain ⟨vs, u2, o2, h2, l2, m2, q2⟩ := allRun_out l Ps (by simpa using hl) (fun i t P ht hP => h (i + 1) t P (by simpa using ht) (by simpa using hP)) m1 (by omega)
      exact ⟨v :: vs, u2, o2, by rw [allRun, h1]; simp only [h2], by omega, m2, fun h => ⟨q1 rfl, q2 h⟩⟩

theorem ev6_node {most : Int} {d : Nat} {t : Tm} {e : List MV} {u : Int} (h1 : t.kind ≠ 1) (h2 : t.kind ≠ 2) (hu : u ≤ most) (Ps : List (MV → Prop)) (hl : t.args.length = Ps.length) {Q : MV → Prop} (hd : most - u < (d + 1 : Nat))
    (h : ∀ (i : Nat) (x : Tm) (P : MV → Prop), t.args[i]? = some x → Ps[i]? = some P → ∀ u : Int, u ≤ most → most - u < d → Out most P u (ev6 most d x e u))
    (hn : ∀ l u, Fits2 l Ps → u ≤ most → most - u < d → Out most Q u (nodeRun (ev6 most d) t.kind l u)) : Out most Q u (ev6 most (d + 1) t e u) := by
  rw [ev6]
  by_cases hum : u = most
  · rw [if_pos hum]; exact ⟨_, _, _, rfl, by omega, hu, fun h => by cases h⟩
  rw [if_neg hum, if_neg h1, if_neg h2]
  obtain ⟨vs, u1, o, e1, l1, m1, q1⟩ := allRun_out (ev := ev6 most d) (e := e) (d := d) t.args Ps hl h (u := u + 1) (by omega) (by omega)
  rw [e1]
  cases o with
  | true => exact ⟨_, _, _, rfl, by omega, m1, fun h => by cases h⟩
  | false => exact (hn vs u1 (q1 rfl) m1 (by omega)).mono (by omega) fun _ h => h

theorem fits1 {l : List MV} {P : MV → Prop} (h : Fits2 l [P]) : ∃ x, l = [x] ∧ P x := by
  match l, h with
  | [x], h => exact ⟨x, rfl, h.1⟩
theorem fits2 {l : List MV} {P Q : MV → Prop} (h : Fits2 l [P, Q]) : ∃ x y, l = [x, y] ∧ P x ∧ Q y := by
  match l, h with
  | [x, y], h => exact ⟨x, y, rfl, h.1, h.2.1⟩
theorem fits3 {l : List MV} {P Q R : MV → Prop} (h : Fits2 l [P, Q, R]) : ∃ x y z, l = [x, y, z] ∧ P x ∧ Q y ∧ R z := by
  match l, h with
  | [x, y, z], h => exact ⟨x, y, z, rfl, h.1, h.2.1, h.2.2.1⟩
theorem fits0 {l : List MV} (h : Fits2 l []) : l = [] := by
  match l, h with
  | [], _ => rfl
theorem at1 {x : Tm} {P : MV → Prop} {S : Tm → (MV → Prop) → Prop} (h : S x P) : ∀ (i : Nat) (y : Tm) (Q : MV → Prop), ([x] : List Tm)[i]? = some y → ([P] : List (MV → Prop))[i]? = some Q → S y Q := by
  intro i y Q h1 h2
  match i with
  | 0 => simp at h1 h2; subst h1; subst h2; exact h
  | i + 1 => simp at h1
theorem at2 {x y : Tm} {P Q : MV → Prop} {S : Tm → (MV → Prop) → Prop} (h : S x P) (k : S y Q) : ∀ (i : Nat) (z : Tm) (R : MV → Prop), ([x, y] : List Tm)[i]? = some z → ([P, Q] : List (MV → Prop))[i]? = some R → S z R := by
  intro i z R h1 h2
  match i with
  | 0 => simp at h1 h2; subst h1; subst h2; exact h
  | 1 => simp at h1 h2; subst h1; subst h2; exact k
  | i + 2 => simp at h1
theorem atM3 {x y w : Tm} {P Q P' : MV → Prop} {S : Tm → (MV → Prop) → Prop} (h : S x P) (k : S y Q) (j : S w P') : ∀ (i : Nat) (z : Tm) (R : MV → Prop), ([x, y, w] : List Tm)[i]? = some z → ([P, Q, P'] : List (MV → Prop))[i]? = some R → S z R := by
  intro i z R h1 h2
  match i with
  | 0 => simp at h1 h2; subst h1; subst h2; exact h
  | 1 => simp at h1 h2; subst h1; subst h2; exact k
  | 2 => simp at h1 h2; subst h1; subst h2; exact j
  | i + 3 => simp at h1

theorem out_val {most u : Int} {P : MV → Prop} {v : MV} (hu : u ≤ most) (h : P v) : Out most P u (some (v, u, false)) := ⟨v, u, false, rfl, by omega, hu, fun _ => h⟩

/-- THE MACHINE OF THE SECOND FORM RETURNS WHAT IS DENOTED, if the work is not out; it is never stuck -/
theorem ev6_ok (most : Int) : ∀ d : Nat, Evs most d (ev6 most d)
  | 0 => fun Γ t a F e ρ u h he hu hd => absurd hd (by omega)
  | d + 1 => fun Γ t a F e ρ u h he hu hd => by
    have H := @ev6_ok most d
    cases h with
    | var h =>
      obtain ⟨x, e1, e2⟩ := MVE.get h he
      rw [ev6]
      by_cases hum : u = most
      · rw [if_pos hum]; exact ⟨_, _, _, rfl, by omega, hu, fun h => by cases h⟩
      rw [if_neg hum, if_pos (show (vT _).kind = 1 from rfl), if_pos (show 0 ≤ (vT (↑(_ : Nat))).index from Int.natCast_nonneg _)]
      have : e[(vT (↑(_ : Nat))).index.toNat]? = some x := e1
      rw [this]
      exact ⟨x, u + 1, false, rfl, by omega, by omega, fun _ => e2⟩
    | lam ha hb =>
      rw [ev6]
      by_cases hum : u = most
      · rw [if_pos hum]; exact ⟨_, _, _, rfl, by omega, hu, fun h => by cases h⟩
      rw [if_neg hum, if_neg (by simp [lamT, Tm.kind]), if_pos (show (lamT _ _).kind = 2 from rfl)]
      exact ⟨_, u + 1, false, rfl, by omega, by omega, fun _ => .clo he hb⟩
    | app hf hx =>
      refine ev6_node (by simp [nT, Tm.kind]) (by simp [nT, Tm.kind]) hu [_, _] rfl hd (at2 (S := fun x P => ∀ u : Int, u ≤ most → most - u < d → Out most P u (ev6 most d x e u)) (fun u hu hd => H hf he hu hd) (fun u hu hd => H hx he hu hd)) fun l u hl hu hd => ?_
      obtain ⟨f, x, rfl, h1, h2⟩ := fits2 hl
      exact callRun_out H h1 h2 hu hd
    | zero =>
      refine ev6_node (by simp [nT, Tm.kind]) (by simp [nT, Tm.kind]) hu [] rfl hd (by intro i x P h; simp [nT, Tm.args] at h) fun l u hl hu hd => ?_
      obtain rfl := fits0 hl
      exact out_val hu (.num 0)
    | succ hx =>
      refine ev6_node (by simp [nT, Tm.kind]) (by simp [nT, Tm.kind]) hu [_] rfl hd (at1 (S := fun x P => ∀ u : Int, u ≤ most → most - u < d → Out most P u (ev6 most d x e u)) (fun u hu hd => H hx he hu hd)) fun l u hl hu hd => ?_
      obtain ⟨x, rfl, h1⟩ := fits1 hl
      obtain rfl := mvt_nat h1
      exact out_val hu (.num _)
    | rc ha hb hf hn =>
      refine ev6_node (by simp [Tm.kind]) (by simp [Tm.kind]) hu [_, _, _] rfl hd (atM3 (S := fun x P => ∀ u : Int, u ≤ most → most - u < d → Out most P u (ev6 most d x e u)) (fun u hu hd => H hb he hu hd) (fun u hu hd => H hf he hu hd) (fun u hu hd => H hn he hu hd)) fun l u hl hu hd => ?_
      obtain ⟨b, f, n, rfl, h1, h2, h3⟩ := fits3 hl
      obtain rfl := mvt_nat h3
      refine (recRun_out H h2 _ 0 h1 hu hd).mono (by omega) fun v hv => ?_
      exact Eq.mpr (congrArg (MVT _ v) (natRec_range _ _ _)) hv
    | nil =>
      refine ev6_node (by simp [nT, Tm.kind]) (by simp [nT, Tm.kind]) hu [] rfl hd (by intro i x P h; simp [nT, Tm.args] at h) fun l u hl hu hd => ?_
      obtain rfl := fits0 hl
      exact out_val hu (.list [])
    | cons hx hl =>
      refine ev6_node (by simp [nT, Tm.kind]) (by simp [nT, Tm.kind]) hu [_, _] rfl hd (at2 (S := fun x P => ∀ u : Int, u ≤ most → most - u < d → Out most P u (ev6 most d x e u)) (fun u hu hd => H hx he hu hd) (fun u hu hd => H hl he hu hd)) fun l u hl hu hd => ?_
      obtain ⟨f, x, rfl, h1, h2⟩ := fits2 hl
      obtain rfl := mvt_nat h1
      obtain rfl := mvt_list h2
      exact out_val hu (.list _)
    | fold ha hb hf hn =>
      refine ev6_node (by simp [Tm.kind]) (by simp [Tm.kind]) hu [_, _, _] rfl hd (atM3 (S := fun x P => ∀ u : Int, u ≤ most → most - u < d → Out most P u (ev6 most d x e u)) (fun u hu hd => H hb he hu hd) (fun u hu hd => H hf he hu hd) (fun u hu hd => H hn he hu hd)) fun l u hl hu hd => ?_
      obtain ⟨b, f, n, rfl, h1, h2, h3⟩ := fits3 hl
      obtain rfl := mvt_list h3
      have key := fun L : List Nat => foldRun_out H h2 _ L.reverse [] h1 hu hd
      simp only [List.reverse_reverse, List.append_nil] at key
      exact key _
    | pair hx hy =>
      refine ev6_node (by simp [nT, Tm.kind]) (by simp [nT, Tm.kind]) hu [_, _] rfl hd (at2 (S := fun x P => ∀ u : Int, u ≤ most → most - u < d → Out most P u (ev6 most d x e u)) (fun u hu hd => H hx he hu hd) (fun u hu hd => H hy he hu hd)) fun l u hl hu hd => ?_
      obtain ⟨f, x, rfl, h1, h2⟩ := fits2 hl
      exact out_val hu (.both h1 h2)
    | fst hx =>
      refine ev6_node (by simp [nT, Tm.kind]) (by simp [nT, Tm.kind]) hu [_] rfl hd (at1 (S := fun x P => ∀ u : Int, u ≤ most → most - u < d → Out most P u (ev6 most d x e u)) (fun u hu hd => H hx he hu hd)) fun l u hl hu hd => ?_
      obtain ⟨x, rfl, h1⟩ := fits1 hl
      obtain ⟨p, q, rfl, h2, h3⟩ := mvt_pair h1
      exact out_val hu h2
    | snd hx =>
      refine ev6_node (by simp [nT, Tm.kind]) (by simp [nT, Tm.kind]) hu [_] rfl hd (at1 (S := fun x P => ∀ u : Int, u ≤ most → most - u < d → Out most P u (ev6 most d x e u)) (fun u hu hd => H hx he hu hd)) fun l u hl hu hd => ?_
      obtain ⟨x, rfl, h1⟩ := fits1 hl
      obtain ⟨p, q, rfl, h2, h3⟩ := mvt_pair h1
      exact out_val hu h3
    | unit =>
      refine ev6_node (by simp [nT, Tm.kind]) (by simp [nT, Tm.kind]) hu [] rfl hd (by intro i x P h; simp [nT, Tm.args] at h) fun l u hl hu hd => ?_
      obtain rfl := fits0 hl
      exact out_val hu .unit
end Go.Proofs.YtcldnfbcbkaanaaGreatDoor.Lift

namespace Go.Proofs.YtcldnfbcbkaanaaGreatDoor.Lift
set_option linter.unusedSimpArgs false
set_option linter.unusedVariables false
set_option linter.unnecessarySimpa false
open Go

/-! how large the values of the second form's machine grow -/

mutual
def MV.le (n : Int) : MV → Prop
  | .num k => (k : Int) ≤ n
  | .list l => (l.length : Int) ≤ n ∧ ∀ x ∈ l, (x : Int) ≤ n
  | .both a b => MV.le n a ∧ MV.le n b
  | .unit => True
  | .clo _ e => (e.length : Int) ≤ n ∧ MV.les n e
def MV.les (n : Int) : List MV → Prop
  | [] => True
  | x :: r => MV.le n x ∧ MV.les n r
end
theorem MV.les_iff {n : Int} : ∀ {l : List MV}, MV.les n l ↔ ∀ x ∈ l, x.le n
  | [] => by simp [MV.les]
  | x :: r => by simp [MV.les, MV.les_iff (l := r)]
mutual
theorem MV.le_mono {n m : Int} (h : n ≤ m) : ∀ {v : MV}, v.le n → v.le m
  | .num k, hv => by simp only [MV.le] at hv ⊢; omega
  | .list l, hv => by
    simp only [MV.le] at hv ⊢
    exact ⟨by omega, fun x hx => by have := hv.2 x hx; omega⟩
  | .both a b, hv => by
    simp only [MV.le] at hv ⊢
    exact ⟨MV.le_mono h hv.1, MV.le_mono h hv.2⟩
  | .unit, _ => by simp only [MV.le]
  | .clo b e, hv => by
    simp only [MV.le] at hv ⊢
    exact ⟨by omega, MV.les_mono h hv.2⟩
theorem MV.les_mono {n m : Int} (h : n ≤ m) : ∀ {l : List MV}, MV.les n l → MV.les m l
  | [], _ => by simp only [MV.les]
  | x :: r, hv => by
    simp only [MV.les] at hv ⊢
    exact ⟨MV.le_mono h hv.1, MV.les_mono h hv.2⟩
end

/-- evaluation grows by the work at most -/
def Bds (most : Int) (ev : Ev6) : Prop := ∀ ⦃t : Tm⦄ ⦃e : List MV⦄ ⦃u M : Int⦄ ⦃v : MV⦄ ⦃u' : Int⦄ ⦃o : Bool⦄, ev t e u = some (v, u', o) → u ≤ most → 0 ≤ M → MV.les M e → (e.length : Int) ≤ M + 1 → u ≤ u' ∧ u' ≤ most ∧ v.le (M + (u' - u))

theorem callRun_bd {most : Int} {ev : Ev6} (H : Bds most ev) {f x : MV} {u M : Int} {v : MV} {u' : Int} {o : Bool} (h : callRun ev f x u = some (v, u', o)) (hu : u ≤ most) (hM : 0 ≤ M) (hf : f.le M) (hx : x.le M) : u ≤ u' ∧ u' ≤ most ∧ v.le (M + (u' - u)) := by
  cases f with
  | clo b e =>
    simp only [MV.le] at hf
    exact H h hu hM (by simp only [MV.les]; exact ⟨hx, hf.2⟩) (by simp only [List.length_cons]; omega)
  | num n => cases h
  | list l => cases h
  | both a b => cases h
  | unit => cases h

theorem recRun_bd {most : Int} {ev : Ev6} (H : Bds most ev) {f : MV} : ∀ (n k : Nat) {r : MV} {u M : Int} {v : MV} {u' : Int} {o : Bool}, recRun ev f n k r u = some (v, u', o) → u ≤ most → 0 ≤ M → f.le M → r.le M → ((n : Int) + k ≤ M) → u ≤ u' ∧ u' ≤ most ∧ v.le (M + (u' - u))
  | 0, k, r, u, M, v, u', o, h, hu, hM, hf, hr, hk => by
    simp only [recRun, Option.some.injEq, Prod.mk.injEq] at h
    obtain ⟨rfl, rfl, rfl⟩ := h
    exact ⟨by omega, by omega, MV.le_mono (by omega) hr⟩
  | n + 1, k, r, u, M, v, u', o, h, hu, hM, hf, hr, hk => by
    simp only [recRun] at h
    split at h
    · cases h
    · rename_i u1 h1
      obtain ⟨l1, m1, b1⟩ := callRun_bd H h1 hu hM hf (by simp only [MV.le]; omega)
      simp only [Option.some.injEq, Prod.mk.injEq] at h
      obtain ⟨rfl, rfl, rfl⟩ := h
      exact ⟨l1, m1, MV.le_mono (by omega) hr⟩
    · rename_i g u1 h1
      obtain ⟨l1, m1, b1⟩ := callRun_bd H h1 hu hM hf (by simp only [MV.le]; omega)
      split at h
      · cases h
      · rename_i r' u2 h2
        obtain ⟨l2, m2, b2⟩ := callRun_bd H h2 m1 (by omega) b1 (MV.le_mono (by omega) hr)
        simp only [Option.some.injEq, Prod.mk.injEq] at h
        obtain ⟨rfl, rfl, rfl⟩ := h
        exact ⟨by omega, by omega, MV.le_mono (by omega) b2⟩
      · rename_i r' u2 h2
        obtain ⟨l2, m2, b2⟩ := callRun_bd H h2 m1 (by omega) b1 (MV.le_mono (by omega) hr)
        obtain ⟨l3, m3, b3⟩ := recRun_bd H n (k + 1) h m2 (M := M + (u2 - u)) (by omega) (MV.le_mono (by omega) hf) (MV.le_mono (by omega) b2) (by omega)
        exact ⟨by omega, by omega, MV.le_mono (by omega) b3⟩

theorem foldRun_bd {most : Int} {ev : Ev6} (H : Bds most ev) {f : MV} : ∀ (l rest : List Nat) {r : MV} {u M : Int} {v : MV} {u' : Int} {o : Bool}, foldRun ev f l rest r u = some (v, u', o) → u ≤ most → 0 ≤ M → f.le M → r.le M → ((l.length : Int) + rest.length ≤ M) → (∀ x ∈ l, (x : Int) ≤ M) → (∀ x ∈ rest, (x : Int) ≤ M) → u ≤ u' ∧ u' ≤ most ∧ v.le (M + (u' - u))
  | [], rest, r, u, M, v, u', o, h, hu, hM, hf, hr, hk, _, _ => by
    simp only [foldRun, Option.some.injEq, Prod.mk.injEq] at h
    obtain ⟨rfl, rfl, rfl⟩ := h
    exact ⟨by omega, by omega, MV.le_mono (by omega) hr⟩
  | x :: l, rest, r, u, M, v, u', o, h, hu, hM, hf, hr, hk, hl, hrest => by
    have hx := hl x (by simp)
    have hlen : ((x :: l).length : Int) = l.length + 1 := by simp
    simp only [foldRun] at h
    split at h
    · cases h
    · rename_i u1 h1
      obtain ⟨l1, m1, b1⟩ := callRun_bd H h1 hu hM hf (by simp only [MV.le]; omega)
      simp only [Option.some.injEq, Prod.mk.injEq] at h
      obtain ⟨rfl, rfl, rfl⟩ := h
      exact ⟨l1, m1, MV.le_mono (by omega) hr⟩
    · rename_i g u1 h1
      obtain ⟨l1, m1, b1⟩ := callRun_bd H h1 hu hM hf (by simp only [MV.le]; omega)
      split at h
      · cases h
      · rename_i u2 h2
        obtain ⟨l2, m2, b2⟩ := callRun_bd H h2 m1 (by omega) b1 (by simp only [MV.le]; exact ⟨by omega, fun y hy => by have := hrest y hy; omega⟩)
        simp only [Option.some.injEq, Prod.mk.injEq] at h
        obtain ⟨rfl, rfl, rfl⟩ := h
        exact ⟨by omega, by omega, MV.le_mono (by omega) hr⟩
      · rename_i g2 u2 h2
        obtain ⟨l2, m2, b2⟩ := callRun_bd H h2 m1 (by omega) b1 (by simp only [MV.le]; exact ⟨by omega, fun y hy => by have := hrest y hy; omega⟩)
        split at h
        · cases h
        · rename_i r' u3 h3
          obtain ⟨l3, m3, b3⟩ := callRun_bd H h3 m2 (by omega) b2 (MV.le_mono (by omega) hr)
          simp only [Option.some.injEq, Prod.mk.injEq] at h
          obtain ⟨rfl, rfl, rfl⟩ := h
          exact ⟨by omega, by omega, MV.le_mono (by omega) b3⟩
        · rename_i r' u3 h3
          obtain ⟨l3, m3, b3⟩ := callRun_bd H h3 m2 (by omega) b2 (MV.le_mono (by omega) hr)
          obtain ⟨l4, m4, b4⟩ := foldRun_bd H l (x :: rest) h m3 (M := M + (u3 - u)) (by omega) (MV.le_mono (by omega) hf) (MV.le_mono (by omega) b3) (by simp only [List.length_cons]; omega)
            (fun y hy => by have := hl y (by simp [hy]); omega) (fun y hy => by rcases List.mem_cons.1 hy with rfl | hy; omega; have := hrest y hy; omega)
          exact ⟨by omega, by omega, MV.le_mono (by omega) b4⟩

theorem allRun_bd {most : Int} {ev : Ev6} (H : Bds most ev) {e : List MV} : ∀ (l : List Tm) {u M : Int} {vs : List MV} {u' : Int} {o : Bool}, allRun ev l e u = some (vs, u', o) → u ≤ most → 0 ≤ M → MV.les M e → (e.length : Int) ≤ M + 1 → u ≤ u' ∧ u' ≤ most ∧ MV.les (M + (u' - u)) vs
  | [], u, M, vs, u', o, h, hu, hM, he, hl => by
    simp only [allRun, Option.some.injEq, Prod.mk.injEq] at h
    obtain ⟨rfl, rfl, rfl⟩ := h
    exact ⟨by omega, by omega, by simp only [MV.les]⟩
  | t :: r, u, M, vs, u', o, h, hu, hM, he, hl => by
    simp only [allRun] at h
    split at h
    · cases h
    · rename_i u1 h1
      obtain ⟨l1, m1, b1⟩ := H h1 hu hM he hl
      simp only [Option.some.injEq, Prod.mk.injEq] at h
      obtain ⟨rfl, rfl, rfl⟩ := h
      exact ⟨by omega, by omega, by simp only [MV.les]⟩
    · rename_i v1 u1 h1
      obtain ⟨l1, m1, b1⟩ := H h1 hu hM he hl
      split at h
      · cases h
      · rename_i vs2 u2 o2 h2
        obtain ⟨l2, m2, b2⟩ := allRun_bd H r h2 m1 (M := M + (u1 - u)) (by omega) (MV.les_mono (by omega) he) (by omega)
        simp only [Option.some.injEq, Prod.mk.injEq] at h
        obtain ⟨rfl, rfl, rfl⟩ := h
        exact ⟨by omega, by omega, by simp only [MV.les]; exact ⟨MV.le_mono (by omega) b1, MV.les_mono (by omega) b2⟩⟩

theorem nodeRun_bd {most : Int} {ev : Ev6} (H : Bds most ev) {k : Int} {l : List MV} {u M : Int} {v : MV} {u' : Int} {o : Bool} (h : nodeRun ev k l u = some (v, u', o)) (hu : u ≤ most) (hM : 0 ≤ M) (hl : MV.les M l) : u ≤ u' ∧ u' ≤ most ∧ v.le (M + 1 + (u' - u)) := by
  unfold nodeRun at h
  split at h
  · split at h
    · simp only [MV.les] at hl
      obtain ⟨l1, m1, b1⟩ := callRun_bd H h hu hM hl.1 hl.2.1
      exact ⟨l1, m1, MV.le_mono (by omega) b1⟩
    · cases h
  split at h
  · simp only [Option.some.injEq, Prod.mk.injEq] at h
    obtain ⟨rfl, rfl, rfl⟩ := h
    exact ⟨by omega, by omega, by simp only [MV.le]; omega⟩
  split at h
  · split at h
    · simp only [MV.les, MV.le] at hl
      simp only [Option.some.injEq, Prod.mk.injEq] at h
      obtain ⟨rfl, rfl, rfl⟩ := h
      exact ⟨by omega, by omega, by simp only [MV.le]; omega⟩
    · cases h
  split at h
  · split at h
    · simp only [MV.les] at hl
      obtain ⟨a1, a2, a3, -⟩ := hl
      simp only [MV.le] at a3
      obtain ⟨l1, m1, b1⟩ := recRun_bd H _ 0 h hu hM a2 a1 (by omega)
      exact ⟨l1, m1, MV.le_mono (by omega) b1⟩
    · cases h
  split at h
  · simp only [Option.some.injEq, Prod.mk.injEq] at h
    obtain ⟨rfl, rfl, rfl⟩ := h
    exact ⟨by omega, by omega, by simp only [MV.le]; exact ⟨by simp only [List.length_nil]; omega, fun x hx => by cases hx⟩⟩
  split at h
  · split at h
    · simp only [MV.les, MV.le] at hl
      obtain ⟨a1, ⟨a2, a3⟩, -⟩ := hl
      simp only [Option.some.injEq, Prod.mk.injEq] at h
      obtain ⟨rfl, rfl, rfl⟩ := h
      exact ⟨by omega, by omega, by simp only [MV.le]; exact ⟨by simp only [List.length_cons]; omega, fun x hx => by rcases List.mem_cons.1 hx with rfl | hx; omega; have := a3 x hx; omega⟩⟩
    · cases h
  split at h
  · split at h
    · simp only [MV.les] at hl
      obtain ⟨a1, a2, a3, -⟩ := hl
      simp only [MV.le] at a3
      obtain ⟨l1, m1, b1⟩ := foldRun_bd H _ [] h hu hM a2 a1 (by simp only [List.length_reverse, List.length_nil]; omega) (fun x hx => a3.2 x (by simpa using hx)) (fun x hx => by cases hx)
      exact ⟨l1, m1, MV.le_mono (by omega) b1⟩
    · cases h
  split at h
  · split at h
    · simp only [MV.les] at hl
      simp only [Option.some.injEq, Prod.mk.injEq] at h
      obtain ⟨rfl, rfl, rfl⟩ := h
      exact ⟨by omega, by omega, by simp only [MV.le]; exact ⟨MV.le_mono (by omega) hl.1, MV.le_mono (by omega) hl.2.1⟩⟩
    · cases h
  split at h
  · split at h
    · simp only [MV.les, MV.le] at hl
      simp only [Option.some.injEq, Prod.mk.injEq] at h
      obtain ⟨rfl, rfl, rfl⟩ := h
      exact ⟨by omega, by omega, MV.le_mono (by omega) hl.1.1⟩
    · cases h
  split at h
  · split at h
    · simp only [MV.les, MV.le] at hl
      simp only [Option.some.injEq, Prod.mk.injEq] at h
      obtain ⟨rfl, rfl, rfl⟩ := h
      exact ⟨by omega, by omega, MV.le_mono (by omega) hl.1.2⟩
    · cases h
  · simp only [Option.some.injEq, Prod.mk.injEq] at h
    obtain ⟨rfl, rfl, rfl⟩ := h
    exact ⟨by omega, by omega, by simp only [MV.le]⟩

theorem ev6_bd (most : Int) : ∀ d : Nat, Bds most (ev6 most d)
  | 0 => fun t e u M v u' o h => by cases h
  | d + 1 => fun t e u M v u' o h hu hM he hl => by
    have H := @ev6_bd most d
    rw [ev6] at h
    split at h
    · simp only [Option.some.injEq, Prod.mk.injEq] at h
      obtain ⟨rfl, rfl, rfl⟩ := h
      exact ⟨by omega, by omega, by simp only [zeroM, MV.le]; omega⟩
    split at h
    · split at h
      · split at h
        · rename_i v1 hv
          simp only [Option.some.injEq, Prod.mk.injEq] at h
          obtain ⟨rfl, rfl, rfl⟩ := h
          exact ⟨by omega, by omega, MV.le_mono (by omega) (MV.les_iff.1 he _ (List.mem_of_getElem? hv))⟩
        · cases h
      · cases h
    split at h
    · split at h
      · simp only [Option.some.injEq, Prod.mk.injEq] at h
        obtain ⟨rfl, rfl, rfl⟩ := h
        exact ⟨by omega, by omega, by simp only [MV.le]; exact ⟨by omega, MV.les_mono (by omega) he⟩⟩
      · cases h
    split at h
    · cases h
    · rename_i u1 h1
      obtain ⟨l1, m1, b1⟩ := allRun_bd H _ h1 (by omega) hM he hl
      simp only [Option.some.injEq, Prod.mk.injEq] at h
      obtain ⟨rfl, rfl, rfl⟩ := h
      exact ⟨by omega, by omega, by simp only [zeroM, MV.le]; omega⟩
    · rename_i vs u1 h1
      obtain ⟨l1, m1, b1⟩ := allRun_bd H _ h1 (by omega) hM he hl
      obtain ⟨l2, m2, b2⟩ := nodeRun_bd H h m1 (by omega) b1
      exact ⟨by omega, by omega, MV.le_mono (by omega) b2⟩
end Go.Proofs.YtcldnfbcbkaanaaGreatDoor.Lift

namespace Go.Proofs.YtcldnfbcbkaanaaGreatDoor.Lift
set_option linter.unusedSimpArgs false
set_option linter.unusedVariables false
set_option linter.unnecessarySimpa false
open Go
variable {gl : Globs}

/-! the results of the second form's machine as data -/

mutual
def MV.cells : MV → List DV
  | .num n => [dint (n : Int), .sl [], .sl [], dint 0, dint 0, dint 0, .sl [], .sl [], .sl []]
  | .list l => [dint 0, .sl (ints (l.map Int.ofNat)), .sl [], dint 0, dint 0, dint 0, .sl [], .sl [], .sl []]
  | .both a b => [dint 0, .sl [], .sl [MV.cells a, MV.cells b], dint 0, dint 0, dint 0, .sl [], .sl [], .sl []]
  | .unit => [dint 0, .sl [], .sl [], dint 0, dint 0, dint 0, .sl [], .sl [], .sl []]
  | .clo b e => [dint 0, .sl [], .sl [], dint b.kind, dint b.index, dint b.type.kind, .sl (List.map Ty.cells b.type.args), .sl (List.map Tm.cells b.args), .sl (MV.cellss e).reverse]
def MV.cellss : List MV → List (List DV)
  | [] => []
  | x :: r => MV.cells x :: MV.cellss r
end
namespace MV
set_option linter.unusedSimpArgs false
set_option linter.unusedVariables false
set_option linter.unnecessarySimpa false
theorem cellss_map : ∀ l : List MV, cellss l = l.map cells
  | [] => rfl
  | x :: r => by simp only [cellss, List.map_cons, cellss_map r]
def numF : MV → Int | .num n => n | _ => 0
def listF : MV → List Int | .list l => l.map Int.ofNat | _ => []
def pairF : MV → List MV | .both a b => [a, b] | _ => []
def bodyF : MV → Tm | .clo b _ => b | _ => zeroTm
def envF : MV → List MV | .clo _ e => e.reverse | _ => []
theorem cells_eq (v : MV) : v.cells = [dint v.numF, .sl (ints v.listF), .sl (v.pairF.map cells), dint v.bodyF.kind, dint v.bodyF.index, dint v.bodyF.type.kind, .sl (v.bodyF.type.args.map Ty.cells), .sl (v.bodyF.args.map Tm.cells), .sl (v.envF.map cells)] := by
  cases v with
  | num n => rfl
  | list l => rfl
  | both a b => simp only [cells, numF, listF, pairF, bodyF, envF]; rfl
  | unit => rfl
  | clo b e => simp only [cells, numF, listF, pairF, bodyF, envF, cellss_map, List.map_reverse]; rfl
def dv (v : MV) : DV := .agg v.cells
theorem fold (v : MV) : DV.agg [dint v.numF, .sl (ints v.listF), .sl (v.pairF.map cells), dint v.bodyF.kind, dint v.bodyF.index, dint v.bodyF.type.kind, .sl (v.bodyF.type.args.map Ty.cells), .sl (v.bodyF.args.map Tm.cells), .sl (v.envF.map cells)] = v.dv := by rw [dv, cells_eq]
theorem cellsD_dv (v : MV) : cellsD v.dv = [dint v.numF, .sl (ints v.listF), .sl (v.pairF.map cells), dint v.bodyF.kind, dint v.bodyF.index, dint v.bodyF.type.kind, .sl (v.bodyF.type.args.map Ty.cells), .sl (v.bodyF.args.map Tm.cells), .sl (v.envF.map cells)] := by rw [dv, cellsD, cells_eq]
theorem isCell_dv (v : MV) : v.dv.isCell = false := rfl
theorem isAgg_dv (v : MV) : v.dv.isAgg = true := rfl
theorem length_cells (v : MV) : v.cells.length = 9 := by rw [cells_eq]; rfl
theorem wide (l : List MV) : (∀ e ∈ List.map cells l, e.length = 9) = True := by simp [length_cells]
theorem numF_num (n : Nat) : (MV.num n).numF = n := rfl
theorem listF_list (l : List Nat) : (MV.list l).listF = l.map Int.ofNat := rfl
theorem pairF_both (a b : MV) : (MV.both a b).pairF = [a, b] := rfl
theorem bodyF_clo (b : Tm) (e : List MV) : (MV.clo b e).bodyF = b := rfl
theorem envF_clo (b : Tm) (e : List MV) : (MV.clo b e).envF = e.reverse := rfl
end MV
attribute [go_sem] MV.cells_eq MV.fold MV.cellsD_dv MV.isCell_dv MV.isAgg_dv MV.wide MV.numF_num MV.listF_list MV.pairF_both MV.bodyF_clo MV.envF_clo

/-- the machine's cells -/
def mach6 (u most : Int) (o : Bool) : List DV := [dint u, dint most, dbool o]

/-- what is asked of evaluation, to be walked -/
def Walk6 (P : Program) (gl : Globs) (fe : FuncId) (most : Int) (ev : Ev6) : Prop :=
  ∀ ⦃t : Tm⦄ ⦃e : List MV⦄ ⦃u : Int⦄ ⦃v : MV⦄ ⦃u' : Int⦄ ⦃o : Bool⦄ (b : Nat) (M : Int), ev t e u = some (v, u', o) → 0 ≤ u → u ≤ most → 0 ≤ M → M + (most - u) ≤ 1073741824 → MV.les M e → (e.length : Int) ≤ M + 1 →
    Con1 P gl fe [ptr b, t.dv, .sl (e.reverse.map MV.cells)] [(b, mach6 u most false)] v.dv [(b, mach6 u' most o)]

theorem call6_ok {most : Int} (hm : most ≤ 1073741824) {ev : Ev6} (H : Walk6 Tryz.prog gl 34 most ev) {f x v : MV} {u u' : Int} {o : Bool} (b : Nat) (M : Int)
    (h : callRun ev f x u = some (v, u', o)) (hu0 : 0 ≤ u) (hu : u ≤ most) (hM : 0 ≤ M) (hMb : M + (most - u) ≤ 1073741824) (hf : f.le M) (hx : x.le M) :
    Con1 Tryz.prog gl 35 [ptr b, f.dv, x.dv] [(b, mach6 u most false)] v.dv [(b, mach6 u' most o)] := by
  cases f with
  | num n => cases h
  | list l => cases h
  | both a b => cases h
  | unit => cases h
  | clo body e =>
    simp only [MV.le] at hf
    have w := H (e := x :: e) b M h hu0 hu hM hMb (by simp only [MV.les]; exact ⟨hx, hf.2⟩) (by simp only [List.length_cons]; omega)
    have hfx := MV.cells_eq x
    have hft := Tm.fold body
    have hbF : (MV.clo body e).bodyF = body := rfl
    have heF : (MV.clo body e).envF = e.reverse := rfl
    have hl : (e.reverse.length : Int) ≤ M := by rw [List.length_reverse]; exact hf.1
    have htk : List.take e.reverse.length (e.reverse.map MV.cells) = e.reverse.map MV.cells := List.take_of_length_le (by simp)
    rw [List.reverse_cons, List.map_append] at w
    generalize e.reverse = r at *
    generalize MV.clo body e = f at *
    unfold mach6 at *
    refine t_in Tryz.func35 ?_
    intro X hP hgl hf hfn hn hR hids hfit
    refine t_g0 ?_
    refine t_c1 (j2 @hft (j2 @hbF (j2 @heF (j2 @htk @hfx)))) w ?_
    repeat (first | refine W_seq ?_ | refine W_skip ?_ | refine W_block ?_ | refine W_inBlock ?_ | refine W_label ?_ | refine W_exit rfl ?_)
    first | refine W_retR hP hf hfn _ ([(b, [dint u', dint most, dbool o])]) (by first | (simp [go_sem, hP, hgl, hn]; done) | (simp [go_sem, hP, hgl, hn]; rfl)) (by simp [go_sem, hP, hgl, hn]) (by simp) ?_ hR.2 | refine W_endR hP hf hfn _ ([(b, [dint u', dint most, dbool o])]) (by first | (simp [go_sem, hP, hgl, hn]; done) | (simp [go_sem, hP, hgl, hn]; rfl)) (by simp [go_sem, hP, hgl, hn]) (by simp) ?_ hR.2
    rw [hR.1]
    refine ⟨?_, by simp⟩
    try simp
    try all_goals (simp [Ty.dv, Ty.cells_eq, Ty.kind_mk, Ty.args_mk, Tm.dv, Tm.cells_eq, Tm.kind_mk, Tm.index_mk, Tm.type_mk, Tm.args_mk, Val.dv, Val.cells_eq, Val.kind_mk, Val.num_mk, Val.list_mk, Val.args_mk, ints])
end Go.Proofs.YtcldnfbcbkaanaaGreatDoor.Lift

namespace Go.Proofs.YtcldnfbcbkaanaaGreatDoor.Lift
set_option linter.unusedSimpArgs false
set_option linter.unusedVariables false
set_option linter.unnecessarySimpa false
open Go
variable {gl : Globs}

/-! types without functions; values of the machine read back and given -/

def T.level : T → Nat
  | .pair a b => Nat.max a.level b.level
  | .fn a b => Nat.max (a.level + 1) b.level
  | _ => 0
theorem T.level_le (a : T) : a.level < a.size := by
  induction a with
  | nat => decide
  | list => decide
  | unit => decide
  | pair a b iha ihb =>
    simp only [T.level, T.size, Nat.max_def]
    split <;> omega
  | fn a b iha ihb =>
    simp only [T.level, T.size, Nat.max_def]
    split <;> omega
theorem T.level_plain (a : T) : a.level = 0 ↔ a.plain := by
  induction a with
  | nat => simp [T.level, T.plain]
  | list => simp [T.level, T.plain]
  | unit => simp [T.level, T.plain]
  | pair a b iha ihb =>
    simp only [T.level, T.plain, ← iha, ← ihb, Nat.max_def]
    split <;> omega
  | fn a b iha ihb =>
    simp only [T.level, T.plain, Nat.max_def, iff_false]
    split <;> omega
theorem max_if (x y : Nat) : (if (y : Int) > (x : Int) then (y : Int) else (x : Int)) = ((Nat.max x y : Nat) : Int) := by
  simp only [Nat.max_def]
  split <;> split <;> omega
theorem T.ty_nat : T.nat.ty = Ty.mk 1 [] := rfl
theorem T.ty_list : T.list.ty = Ty.mk 2 [] := rfl
theorem T.ty_unit : T.unit.ty = Ty.mk 5 [] := rfl
theorem T.ty_pair (a b : T) : (T.pair a b).ty = Ty.mk 3 [a.ty, b.ty] := rfl
theorem T.ty_fn (a b : T) : (T.fn a b).ty = Ty.mk 4 [a.ty, b.ty] := rfl

theorem level_ok (a : T) (hs : a.size ≤ 1000000) : Con1 Tryz.prog gl 92 [a.ty.dv] [] (dint (a.level : Nat)) [] := by
  induction a with
  | nat =>
    refine t_in Tryz.func92 ?_
    intro X hP hgl hf hfn hn hR hids hfit
    rw [T.ty_nat]
    refine t_g0 ?_
    refine t_r ?_
    simp [go_sem, hP, hgl, hn, T.level] <;> (try omega)
  | list =>
    refine t_in Tryz.func92 ?_
    intro X hP hgl hf hfn hn hR hids hfit
    rw [T.ty_list]
    refine t_g0 ?_
    refine t_r ?_
    simp [go_sem, hP, hgl, hn, T.level] <;> (try omega)
  | unit =>
    refine t_in Tryz.func92 ?_
    intro X hP hgl hf hfn hn hR hids hfit
    rw [T.ty_unit]
    refine t_g0 ?_
    refine t_r ?_
    simp [go_sem, hP, hgl, hn, T.level] <;> (try omega)
  | pair a b iha ihb =>
    simp only [T.size] at hs
    have la := T.level_le a
    have lb := T.level_le b
    have wa := iha (by omega)
    have wb := ihb (by omega)
    have hm := max_if a.level b.level
    have fa := Ty.fold a.ty
    have fb := Ty.fold b.ty
    have hL : (T.pair a b).level = Nat.max a.level b.level := rfl
    rw [hL]
    refine t_in Tryz.func92 ?_
    intro X hP hgl hf hfn hn hR hids hfit
    rw [T.ty_pair]
    generalize a.ty = ta at *
    generalize b.ty = tb at *
    refine t_g0 ?_
    refine t_c2 (j2 @fa @fb) wa wb ?_
    refine t_r ?_
    simp [go_sem, hP, hgl, hn, hm] <;> (try omega)
  | fn a b iha ihb =>
    simp only [T.size] at hs
    have la := T.level_le a
    have lb := T.level_le b
    have wa := iha (by omega)
    have wb := ihb (by omega)
    have hm := max_if (a.level + 1) b.level
    have fa := Ty.fold a.ty
    have fb := Ty.fold b.ty
    have hL : (T.fn a b).level = Nat.max (a.level + 1) b.level := rfl
    rw [hL]
    have h1 : ((a.level + 1 : Nat) : Int) = (a.level : Int) + 1 := by omega
    rw [h1] at hm
    refine t_in Tryz.func92 ?_
    intro X hP hgl hf hfn hn hR hids hfit
    rw [T.ty_fn]
    generalize a.ty = ta at *
    generalize b.ty = tb at *
    refine t_g0 ?_
    refine t_c2 (j2 @fa @fb) wa wb ?_
    refine t_r ?_
    simp [go_sem, hP, hgl, hn, hm] <;> (try omega)

theorem data_ok (a : T) (ha : a.ok) : Con1 Tryz.prog gl 33 [a.ty.dv] [] (.tup [dbool (decide (a.level = 0)), dint 0]) [] := by
  have hs : a.size ≤ 64 := ha
  have hc := T.ty_count a
  have h0 : a.ty.checkN = 0 := (Ty.checkN_iff _).2 (T.ok_ty ha)
  have w1 := ref01_check_ok (gl := gl) a.ty (by omega)
  have w2 := level_ok (gl := gl) a (by omega)
  have ll := T.level_le a
  have fa := Ty.fold a.ty
  rw [h0] at w1
  generalize a.ty = ta at *
  refine t_in Tryz.func33 ?_
  intro X hP hgl hf hfn hn hR hids hfit
  refine t_g0 ?_
  refine t_c1 @fa w1 ?_
  refine t_g0 ?_
  refine t_c1 @fa w2 ?_
  refine t_r ?_
  simp [go_sem, hP, hgl, hn] <;> (try omega)

/-- a plain value as one of the machine -/
def ofM : (a : T) → a.V → MV
  | .nat, n => .num n
  | .list, l => .list l
  | .unit, _ => .unit
  | .pair a b, p => .both (ofM a p.1) (ofM b p.2)
  | .fn _ _, _ => .unit
theorem ofM_typed : ∀ (a : T) (x : a.V), a.plain → MVT a (ofM a x) x
  | .nat, n, _ => .num n
  | .list, l, _ => .list l
  | .unit, _, _ => .unit
  | .pair a b, p, h => .both (ofM_typed a p.1 h.1) (ofM_typed b p.2 h.2)
  | .fn _ _, _, h => h.elim

theorem valOf_nat (n : T.nat.V) : valOf .nat n = Val.mk 1 (Int.ofNat n) [] [] := rfl
theorem valOf_list (l : T.list.V) : valOf .list l = Val.mk 2 0 (List.map Int.ofNat l) [] := rfl
theorem valOf_unit (u : T.unit.V) : valOf .unit u = Val.mk 4 0 [] [] := rfl
theorem valOf_pair {a b : T} (p : (T.pair a b).V) : valOf (.pair a b) p = Val.mk 3 0 [] [valOf a p.1, valOf b p.2] := rfl
end Go.Proofs.YtcldnfbcbkaanaaGreatDoor.Lift

/-
  Package machine: plain values given to it and read back.
-/
namespace Go.Proofs.YtcldnfbcbkaanaaGreatDoor.Lift
set_option linter.unusedSimpArgs false
set_option linter.unusedVariables false
set_option linter.unnecessarySimpa false
open Go
variable {gl : Globs}

theorem thing_num' (n : Nat) : (MV.num n).thing = .iface 3 (dint (n : Int)) := by rw [MV.thing]
theorem thing_list' (l : List Nat) : (MV.list l).thing = .iface 176 (cellM l) := by rw [MV.thing]
theorem thing_both' (a b : MV) : (MV.both a b).thing = .iface 182 (.ref [a.thing, b.thing]) := by rw [MV.thing]
theorem thing_unit' : MV.unit.thing = .iface 186 (.agg []) := by rw [MV.thing]


theorem plain_nat_ok (n : Nat) : Con1 Tryz.prog gl 77 [(MV.num n).thing] [] (Val.mk 1 (n : Nat) [] []).dv [] := by
  rw [thing_num']
  refine t_in Tryz.func77 ?_
  intro X hP hgl hf hfn hn hR hids hfit
  refine t_g0 ?_
  refine t_r ?_
  simp [go_sem, hP, hgl, hn] <;> (try omega)
  all_goals exact t_f
theorem plain_unit_ok : Con1 Tryz.prog gl 77 [MV.unit.thing] [] (Val.mk 4 0 [] []).dv [] := by
  rw [thing_unit']
  refine t_in Tryz.func77 ?_
  intro X hP hgl hf hfn hn hR hids hfit
  refine t_g0 ?_
  refine t_r ?_
  simp [go_sem, hP, hgl, hn] <;> (try omega)
  all_goals exact t_f
theorem ints_snoc (l : List Nat) (n : Nat) : ints (List.map Int.ofNat l) ++ [[dint (n : Int)]] = ints (List.map Int.ofNat (l ++ [n])) := by simp [ints]
theorem plain_list_ok (l : List Nat) (hl : l.length ≤ 1073741824) : Con1 Tryz.prog gl 77 [(MV.list l).thing] [] (Val.mk 2 0 (List.map Int.ofNat l) []).dv [] := by
  rw [thing_list']
  refine t_in Tryz.func77 ?_
  intro X hP hgl hf hfn hn hR hids hfit
  refine t_g0 ?_
  refine t_a ?_
  refine W_sub [(1005, 0)] (by simp [go_sem]) (by simp [go_sem, ints] <;> omega) (by simp [go_sem]) (W_rounds (fun x : List Nat × List Nat => x.1 ++ x.2 = l) (fun x : List Nat × List Nat => [(.slot 4, .one (.v (cellM x.2))), (.slot 5, .one (.loc 5 0)), (.loc 5, .row ([.v (dint 2), .v (dint 0), .own 1005 (ints (x.1.map Int.ofNat)), .own 0 []])), (.tok 1005, .tk 1 x.1.length), (.slot 2, .one (.loc 2 0)), (.loc 2, .row ([.v (dint 0), .v (dint 0), .own 0 [], .own 0 []]))]) (fun x : List Nat × List Nat => x.2.length) (([] : List Nat), l) (rfl) ?_)
  rintro ⟨ds, q⟩ hq ih
  simp only at hq
  have hql : ds.length + q.length = l.length := by rw [← hq]; simp
  cases q with
  | nil =>
    have hcm := cellM_nil
    rw [hcm]
    have hds : ds = l := by rw [← hq]; simp
    subst hds
    refine t_rg0 ?_
    refine t_no ?_
    refine t_g0 ?_
    refine t_r ?_
    simp [go_sem, hP, hgl, hn] <;> (try omega)
    all_goals exact t_f
  | cons n q =>
    have hcm := cellM_cons n q
    have hon := ints_snoc ds n
    have hw1 : ∀ e : List DV, e ∈ ints (List.map Int.ofNat ds) → e.length = 1 := by intro e he; simp only [ints, List.mem_map] at he; obtain ⟨x, -, rfl⟩ := he; rfl
    have hl1 : (ints (List.map Int.ofNat ds)).length = ds.length := by simp [ints]
    have hcl : ds.length ≤ 2147483647 := by simp at hql; omega
    have e2 : (ds ++ [n]) ++ q = l := by rw [← hq]; simp
    have e3 : q.length < (n :: q).length := by simp
    have hl2 : (ds ++ [n]).length = ds.length + 1 := by simp
    have hl3 : (ints (List.map Int.ofNat (ds ++ [n]))).length = ds.length + 1 := by simp [ints]
    have hih := ih (ds ++ [n], q) e2 e3
    rw [← hon] at hih
    simp only [hl2] at hih
    rw [hcm]
    generalize ints (List.map Int.ofNat ds) = L at *
    refine t_rg0 ?_
    refine t_yes ?_
    refine t_rg (j2 @hcl (j2 @hw1 @hl1)) ?_
    refine t_rg0 ?_
    refine t_b ?_
    refine t_sub [(1005, 30)] @hl1 hih
theorem plain_pair_ok (a b : T) (x y : MV) (v w : Val) (h1 : Con1 Tryz.prog gl 77 [x.thing] [] v.dv []) (h2 : Con1 Tryz.prog gl 77 [y.thing] [] w.dv []) :
    Con1 Tryz.prog gl 77 [(MV.both x y).thing] [] (Val.mk 3 0 [] [v, w]).dv [] := by
  rw [thing_both']
  have fv := Val.fold v
  have fw := Val.fold w
  refine t_in Tryz.func77 ?_
  intro X hP hgl hf hfn hn hR hids hfit
  refine t_g0 ?_
  refine t_c2 trivial h1 h2 ?_
  refine t_r ?_
  simp [go_sem, hP, hgl, hn] <;> (try omega)
  all_goals exact t_f

theorem machine_plain_ok : ∀ (a : T) (x : a.V), a.plain → (ofM a x).nle 1073741824 → Con1 Tryz.prog gl 77 [(ofM a x).thing] [] (valOf a x).dv []
  | .nat, n, _, _ => plain_nat_ok n
  | .list, l, _, h => plain_list_ok l (by simp only [ofM, MV.nle] at h; exact h.1)
  | .unit, _, _, _ => plain_unit_ok
  | .pair a b, p, hp, h => by
    simp only [ofM, MV.nle] at h
    exact plain_pair_ok a b _ _ _ _ (machine_plain_ok a p.1 hp.1 h.1) (machine_plain_ok b p.2 hp.2 h.2)
  | .fn _ _, _, hp, _ => hp.elim

theorem from_nat_ok (n : Nat) : Con1 Tryz.prog gl 73 [(Val.mk 1 (n : Nat) [] []).dv] [] (MV.num n).thing [] := by
  rw [thing_num']
  refine t_in Tryz.func73 ?_
  intro X hP hgl hf hfn hn hR hids hfit
  refine t_g0 ?_
  refine t_r ?_
  simp [go_sem, hP, hgl, hn] <;> (try omega)
theorem from_unit_ok : Con1 Tryz.prog gl 73 [(Val.mk 4 0 [] []).dv] [] MV.unit.thing [] := by
  rw [thing_unit']
  refine t_in Tryz.func73 ?_
  intro X hP hgl hf hfn hn hR hids hfit
  refine t_g0 ?_
  refine t_r ?_
  simp [go_sem, hP, hgl, hn] <;> (try omega)
theorem from_pair_ok (x y : MV) (v w : Val) (h1 : Con1 Tryz.prog gl 73 [v.dv] [] x.thing []) (h2 : Con1 Tryz.prog gl 73 [w.dv] [] y.thing []) :
    Con1 Tryz.prog gl 73 [(Val.mk 3 0 [] [v, w]).dv] [] (MV.both x y).thing [] := by
  rw [thing_both']
  have fv := Val.fold v
  have fw := Val.fold w
  have lv := Val.length_cells v
  have lw := Val.length_cells w
  refine t_in Tryz.func73 ?_
  intro X hP hgl hf hfn hn hR hids hfit
  refine t_g0 ?_
  refine t_a ?_
  refine W_regd (by rw [hP]; exact mixed) [34] fun K hK => ?_
  simp [go_sem, hP, hgl, hn, fv, fw, lv, lw]
  refine t_c (j2 @fv @fw) (h1) ?_
  refine t_c (j2 @fv @fw) (h2) ?_
  refine vcdC_boxR (cs := [x.thing, y.thing]) (y := .ag [x.thing, y.thing] []) (fun _ _ => vcd_sound) (by simp [go_sem, hP, hgl, hn]) (by simp [go_sem]) (by simp [go_sem]) (by rw [hn]; exact Nat.le_of_ble_eq_true rfl) (by rfl) ?_
  simp [go_sem, hP, hgl, hn]
  refine t_e ?_
  clear hK K
  refine t_r ?_
  simp [go_sem, hP, hgl, hn] <;> (try omega)

set_option maxHeartbeats 1000000 in
theorem from_list_ok (l : List Nat) : Con1 Tryz.prog gl 73 [(Val.mk 2 0 (List.map Int.ofNat l) []).dv] [] (MV.list l).thing [] := by
  rw [thing_list']
  have hll : (List.map Int.ofNat l).length = l.length := by simp
  refine t_in Tryz.func73 ?_
  intro X hP hgl hf hfn hn hR hids hfit
  have hl2 := Val.fit_list (hfit (Val.mk 2 0 (List.map Int.ofNat l) []).dv (by simp))
  rw [show (Val.mk 2 0 (List.map Int.ofNat l) []).list = List.map Int.ofNat l from rfl] at hl2
  refine t_g0 ?_
  refine t_a ?_
  first | refine W_reg [] fun K hK => ?_ | refine W_regd (by rw [hP]; exact mixed) [] fun K hK => ?_
  refine t_s0 ?_
  repeat (refine ⟨by omega, ?_⟩)
  refine vcK_callR hP hgl (backward_ok (List.map Int.ofNat l)) (by simp [go_sem]) rfl (by simp [go_sem]) (by simp) (by rw [hn]; exact Nat.le_of_ble_eq_true rfl) ?_
  rintro r ψ ⟨b0, rfl, rfl⟩ -
  simp [go_sem]
  refine t_e ?_
  clear hK K
  refine t_a ?_
  refine W_expose 3 (by simp [go_sem]; rfl) ?_
  intro b3 hb
  simp [go_sem] at hb ⊢
  have hb' : b0 ≠ b3 := hb
  let Φ : Nat → Objs := fun i => [(b3, [cellM (l.drop i)])]
  have hlast : cellM (l.drop l.length) = nilP := by rw [List.drop_length]; rfl
  refine W_rangeFunc hR.2 (f := 192) (fi := #[]) (ca := #[.pointer (some ⟨b0, 0, none⟩)]) (by simp [go_sem]) (by simp [primOK]) (φ := (b0, [.sl (ints (List.map Int.ofNat l))]) :: Φ l.length) ?_ ?_ (Y := BackY X.P X.gl (List.map Int.ofNat l) Φ (fun _ _ => False)) (R := fun φ' r' => φ' = (b0, [.sl (ints (List.map Int.ofNat l))]) :: Φ 0 ∧ r'.state = .ready ∧ r'.pending = none) (SL := [(3, ptr b3)]) ?_ ?_ ?_ ?_ ?_
  · refine objsIn_one (by simp [go_sem]) (objsIn_one ?_ (by simp [objsIn]))
    simp only [hlast]
    simp [go_sem, hb']
  · simp [Φ, hb']
  · intro n x h
    simp only [List.mem_singleton, Prod.mk.injEq] at h
    obtain ⟨rfl, rfl⟩ := h
    simp [go_sem]
  · intro lp r h1 h2 h3 h4
    have := backIt_ok (gl := gl) (List.map Int.ofNat l) (by omega) b0 Φ (fun _ => rfl) (by simp [Φ]) (by simp [Φ]; exact hb') (Stop := fun _ _ => False) (fun _ _ h => h.elim) lp r (by rw [h3]; rfl)
    rw [hll] at this
    rw [hP, hgl]
    refine ⟨this.1, fun D w vs a1 a2 a3 a4 a5 a6 => (this.2 D w vs a1 a2 a3 a4 a5 a6).mono ?_⟩
    rintro e w' ⟨v1, D', φ', r', rfl, hR', rest⟩
    refine ⟨v1, D', φ', r', rfl, ?_, rest⟩
    rcases hR' with ⟨rfl, rfl⟩ | ⟨ψ, -, h⟩
    · exact ⟨rfl, h1, h2⟩
    · exact h.elim
  · intro lp r D0 w0 h1 h2 h3 h4 h5 h6 h7 h8 h9 i x hx
    rw [hP, hgl]
    refine YC_round X.n h5 h9 h1 (by rw [h3]; rfl) (by rw [h3, hn]; decide) (by rw [h3]; decide) (by rw [h3]; simp) ?_
    intro X' hP' hgl' hf' hn' hmd' hids' hl' hfit'
    rw [h3, h6, h7]
    obtain ⟨n, rfl, hdrop⟩ : ∃ n : Nat, x = Int.ofNat n ∧ l.drop i = n :: l.drop (i + 1) := by
      obtain ⟨hi, hxx⟩ := List.getElem?_eq_some_iff.1 hx
      have hi' : i < l.length := by simpa using hi
      refine ⟨l[i], ?_, List.drop_eq_getElem_cons hi'⟩
      rw [← hxx]; simp
    rw [hn] at hn'
    clear hP hgl hn
    have hP := hP'
    have hgl := hgl'
    have hn := hn'
    have hlb3 : lp ≠ b3 := by simpa [Φ] using hl'
    have hcm := cellM_cons n (l.drop (i + 1))
    simp only [entryR, Φ, h3, parSt, slotSt, heapSt, List.cons_append, List.nil_append]
    refine t_rg @hlb3 ?_
    refine W_begin (r := r) (l := lp) (by simp [Ctx.rd, hmd']) (by simp [go_sem]) h1 ?_
    simp [go_sem, hlb3, hlb3.symm]
    refine t_a ?_
    refine W_reg [18] fun K hK => ?_
    simp [go_sem, hP, hgl, hn, hlb3, hlb3.symm]
    refine vcK_boxR (cs := [dint (n : Int), cellM (l.drop (i + 1))]) (y := .ag [dint (n : Int), cellM (l.drop (i + 1))] []) (by simp [go_sem, hP, hgl, hn]) (by simp [go_sem]) (by simp [go_sem]) (by rw [hn]; exact Nat.le_of_ble_eq_true rfl) (by rfl) ?_
    simp [go_sem, hP, hgl, hn, hlb3, hlb3.symm]
    refine t_e ?_
    clear hK K
    refine t_a ?_
    refine W_rdfin hmd' (φ := Φ i) ?_ (by simp [Φ]) (by simp [go_sem, hlb3.symm]) none rfl ?_
    · refine objsIn_one ?_ (by simp [objsIn])
      rw [hdrop, hcm]
      simp [go_sem, hlb3, hlb3.symm]
    · simp only [Option.isNone_none, if_true, true_and]
      cases r; simp only [pastL] at h1 h2 ⊢; subst h1 h2; rfl
  · rintro φ' r' ⟨-, h, -⟩
    rw [h]; simp
  · rintro φ' r' ⟨rfl, -, h⟩ -
    rw [h]
    simp [go_sem, Φ, hb', hb'.symm]
    refine t_rg @hb' ?_
    refine t_r ?_
    simp [go_sem, hP, hgl, hn] <;> (try omega)

theorem machine_from_ok : ∀ (a : T) (x : a.V), a.plain → Con1 Tryz.prog gl 73 [(valOf a x).dv] [] (ofM a x).thing []
  | .nat, n, _ => from_nat_ok n
  | .list, l, _ => from_list_ok l
  | .unit, _, _ => from_unit_ok
  | .pair a b, p, hp => from_pair_ok _ _ _ _ (machine_from_ok a p.1 hp.1) (machine_from_ok b p.2 hp.2)
  | .fn _ _, _, hp => hp.elim
end Go.Proofs.YtcldnfbcbkaanaaGreatDoor.Lift

/-
  Plain law: every typed term's run comes to its end (with no bound on the work), and returns what is denoted.
-/
namespace Go.Proofs.YtcldnfbcbkaanaaGreatDoor.Lift
set_option linter.unusedSimpArgs false
set_option linter.unusedVariables false
set_option linter.unnecessarySimpa false
open Go

/-- what a value of a machine is a value of, where every call comes to its end -/
def Tl : (a : T) → MV → a.V → Prop
  | .nat, v, n => v = .num n
  | .list, v, l => v = .list l
  | .unit, v, _ => v = .unit
  | .pair a b, v, p => ∃ x y, v = .both x y ∧ Tl a x p.1 ∧ Tl b y p.2
  | .fn a b, v, f => ∃ body e, v = .clo body e ∧ ∀ (x : MV) (y : a.V), Tl a x y → ∃ (r : MV) (c d0 : Nat), (∀ d, d0 ≤ d → evS d body (x :: e) = some (r, c)) ∧ Tl b r (f y)
def TlE : (Γ : List T) → List MV → Env Γ → Prop
  | [], e, _ => e = []
  | a :: Γ, e, ρ => ∃ x r, e = x :: r ∧ Tl a x ρ.1 ∧ TlE Γ r ρ.2
theorem TlE.get {Γ : List T} {i : Nat} {a : T} {p : Env Γ → a.V} (h : At Γ i a p) : ∀ {e : List MV} {ρ : Env Γ}, TlE Γ e ρ → i < e.length ∧ Tl a (e.getD i .unit) (p ρ) := by
  induction h with
  | zero => rintro e ρ ⟨x, r, rfl, h1, h2⟩; exact ⟨by simp, h1⟩
  | succ h ih =>
    rintro e ρ ⟨x, r, rfl, h1, h2⟩
    obtain ⟨k1, k2⟩ := ih h2
    exact ⟨by simpa using k1, by simpa using k2⟩

theorem tl_call {a b : T} {f : MV} {F : (T.fn a b).V} (hf : Tl (.fn a b) f F) {x : MV} {X : a.V} (hx : Tl a x X) : ∃ (v : MV) (c d0 : Nat), Tl b v (F X) ∧ ∀ d, d0 ≤ d → ∀ (l : List MV) (w : MV) (c' : Nat), callC (evS d) v l = some (w, c') → callC (evS d) f (x :: l) = some (w, c + c') := by
  obtain ⟨body, e, rfl, hb⟩ := hf
  obtain ⟨r, c, d0, h1, h2⟩ := hb x X hx
  refine ⟨r, c, d0, h2, fun d hd l w c' h => ?_⟩
  simp only [callC, h1 d hd, h]
theorem call_nil (ev : Evl) (v : MV) : callC ev v [] = some (v, 0) := by cases v <;> rfl
theorem tl_rec {a : T} {f : MV} {F : (T.fn .nat (.fn a a)).V} (hf : Tl (.fn .nat (.fn a a)) f F) : ∀ (n k : Nat) {r : MV} {R : a.V}, Tl a r R → ∃ (w : MV) (c d0 : Nat), (∀ d, d0 ≤ d → recC (evS d) f n k r = some (w, c)) ∧ Tl a w ((List.range' k n).foldl (fun r i => F i r) R)
  | 0, k, r, R, hr => ⟨r, 0, 0, fun d _ => rfl, hr⟩
  | n + 1, k, r, R, hr => by
    obtain ⟨v, c1, d1, hv, h1⟩ := tl_call hf (show Tl .nat (.num k) k from rfl)
    obtain ⟨u, c2, d2, hu, h2⟩ := tl_call hv hr
    obtain ⟨w, c3, d3, h3, hw⟩ := tl_rec hf n (k + 1) hu
    refine ⟨w, c1 + (c2 + 0) + c3, max d1 (max d2 d3), fun d hd => ?_, hw⟩
    have e1 : callC (evS d) f [.num k, r] = some (u, c1 + (c2 + 0)) := h1 d (by omega) [r] u _ (h2 d (by omega) [] u 0 (call_nil _ _))
    simp only [recC, e1, h3 d (by omega)]
theorem tl_fold {a : T} {f : MV} {F : (T.fn .nat (.fn .list (.fn a a))).V} (hf : Tl (.fn .nat (.fn .list (.fn a a))) f F) {b : MV} {B : a.V} (hb : Tl a b B) : ∀ (l : List Nat), ∃ (w : MV) (c d0 : Nat), (∀ d, d0 ≤ d → foldC (evS d) f b l = some (w, c)) ∧ Tl a w (listRec B F l)
  | [] => ⟨b, 0, 0, fun d _ => rfl, hb⟩
  | x :: l => by
    obtain ⟨w, c0, d0, h0, hw⟩ := tl_fold hf hb l
    obtain ⟨v, c1, d1, hv, h1⟩ := tl_call hf (show Tl .nat (.num x) x from rfl)
    obtain ⟨u, c2, d2, hu, h2⟩ := tl_call hv (show Tl .list (.list l) l from rfl)
    obtain ⟨z, c3, d3, hz, h3⟩ := tl_call hu hw
    refine ⟨z, c0 + (c1 + (c2 + (c3 + 0))), max d0 (max d1 (max d2 d3)), fun d hd => ?_, hz⟩
    have e1 : callC (evS d) f [.num x, .list l, w] = some (z, c1 + (c2 + (c3 + 0))) := h1 d (by omega) _ _ _ (h2 d (by omega) _ _ _ (h3 d (by omega) [] z 0 (call_nil _ _)))
    simp only [foldC, h0 d (by omega), e1]

theorem evS_node {d : Nat} {t : Tm} {e : List MV} {l : List MV} {c1 c2 : Nat} {v : MV} (h1 : 3 ≤ t.kind ∧ t.kind ≤ 13) (h3 : t.args.length ≤ 3) (hl : allC (evS d) t.args e = some (l, c1)) (hn : nodeC (evS d) t.kind l = some (v, c2)) : evS (d + 1) t e = some (v, 1 + c1 + c2) := by
  rw [evS, if_neg (show ¬ t.kind = 1 by omega), if_neg (show ¬ t.kind = 2 by omega), if_neg (show ¬ 3 < t.args.length by omega), hl]
  simp only
  unfold nodeS
  rw [if_pos h1, hn]

/-- a run's outcome, from some depth on -/
def Ends (t : Tm) (e : List MV) (P : MV → Prop) : Prop := ∃ (v : MV) (c d0 : Nat), (∀ d, d0 ≤ d → evS d t e = some (v, c)) ∧ P v
theorem ends_node {t : Tm} {e l : List MV} {v : MV} {P : MV → Prop} {c1 c2 d0 : Nat} (h1 : 3 ≤ t.kind ∧ t.kind ≤ 13) (h3 : t.args.length ≤ 3) (hl : ∀ d, d0 ≤ d → allC (evS d) t.args e = some (l, c1) ∧ nodeC (evS d) t.kind l = some (v, c2)) (hP : P v) : Ends t e P := by
  refine ⟨v, 1 + c1 + c2, d0 + 1, fun d hd => ?_, hP⟩
  obtain ⟨d', rfl⟩ : ∃ d', d = d' + 1 := ⟨d - 1, by omega⟩
  exact evS_node h1 h3 (hl d' (by omega)).1 (hl d' (by omega)).2

/-- THE THEOREM OF THE END -/
theorem dn_total {Γ : List T} {t : Tm} {a : T} {F : Env Γ → a.V} (h : Dn Γ t a F) : ∀ {e : List MV} {ρ : Env Γ}, TlE Γ e ρ → Ends t e fun v => Tl a v (F ρ) := by
  induction h with
  | var h =>
    intro e ρ he
    rename_i Γ i a p
    obtain ⟨k1, k2⟩ := TlE.get h he
    refine ⟨_, 1, 1, fun d hd => ?_, k2⟩
    obtain ⟨d', rfl⟩ : ∃ d', d = d' + 1 := ⟨d - 1, by omega⟩
    have hi : (vT (i : Nat)).index = (i : Int) := rfl
    rw [evS, if_pos (show (vT (i : Nat)).kind = 1 from rfl), hi, if_pos ⟨by omega, by simpa using k1⟩]
    rfl
  | lam ha hb ih =>
    intro e ρ he
    rename_i Γ a r b f
    refine ⟨.clo b e, 1, 1, fun d hd => ?_, b, e, rfl, fun x y hxy => ?_⟩
    · obtain ⟨d', rfl⟩ : ∃ d', d = d' + 1 := ⟨d - 1, by omega⟩
      rw [evS, if_neg (by simp [lamT, Tm.kind]), if_pos (show (lamT a b).kind = 2 from rfl), if_neg (by simp [lamT, Tm.args])]
      rfl
    · obtain ⟨v, c, d0, h1, h2⟩ := ih (ρ := (y, ρ)) ⟨x, e, rfl, hxy, he⟩
      exact ⟨v, c, d0, h1, h2⟩
  | app hf hx ihf ihx =>
    intro e ρ he
    obtain ⟨f', c1, d1, h1, k1⟩ := ihf he
    obtain ⟨x', c2, d2, h2, k2⟩ := ihx he
    obtain ⟨w, c3, d3, hw, h3⟩ := tl_call k1 k2
    refine ends_node (l := [f', x']) (v := w) (c1 := c1 + (c2 + 0)) (c2 := c3 + 0) (d0 := max d1 (max d2 d3)) (by simp [nT, Tm.kind]) (by simp [nT, Tm.args]) (fun d hd => ⟨?_, h3 d (by omega) [] w 0 (call_nil _ _)⟩) hw
    simp only [nT, Tm.args, allC, h1 d (by omega), h2 d (by omega)]
  | zero =>
    intro e ρ he
    exact ends_node (l := []) (v := .num 0) (c1 := 0) (c2 := 0) (d0 := 0) (by simp [nT, Tm.kind]) (by simp [nT, Tm.args]) (fun d hd => ⟨rfl, rfl⟩) rfl
  | succ hx ih =>
    intro e ρ he
    rename_i Γ x X
    obtain ⟨x', c1, d1, h1, k1⟩ := ih he
    have k1 : x' = .num (X ρ) := k1
    refine ends_node (l := [x']) (v := .num (Nat.succ (X ρ))) (c1 := c1 + 0) (c2 := 0) (d0 := d1) (by simp [nT, Tm.kind]) (by simp [nT, Tm.args]) (fun d hd => ⟨?_, by rw [k1]; rfl⟩) rfl
    simp only [nT, Tm.args, allC, h1 d (by omega)]
  | rc ha hb hf hn ihb ihf ihn =>
    intro e ρ he
    obtain ⟨b', c1, d1, h1, k1⟩ := ihb he
    obtain ⟨f', c2, d2, h2, k2⟩ := ihf he
    obtain ⟨n', c3, d3, h3, k3⟩ := ihn he
    obtain rfl : n' = .num _ := k3
    obtain ⟨w, c4, d4, h4, hw⟩ := tl_rec k2 _ 0 k1
    refine ends_node (l := [b', f', .num _]) (v := w) (c1 := c1 + (c2 + (c3 + 0))) (c2 := c4) (d0 := max d1 (max d2 (max d3 d4))) (by simp [Tm.kind]) (by simp [Tm.args]) (fun d hd => ⟨?_, h4 d (by omega)⟩) (Eq.mpr (congrArg (Tl _ w) (natRec_range _ _ _)) hw)
    simp only [Tm.args, allC, h1 d (by omega), h2 d (by omega), h3 d (by omega)]
  | nil =>
    intro e ρ he
    exact ends_node (l := []) (v := .list []) (c1 := 0) (c2 := 0) (d0 := 0) (by simp [nT, Tm.kind]) (by simp [nT, Tm.args]) (fun d hd => ⟨rfl, rfl⟩) rfl
  | cons hx hl ihx ihl =>
    intro e ρ he
    obtain ⟨x', c1, d1, h1, k1⟩ := ihx he
    obtain ⟨l', c2, d2, h2, k2⟩ := ihl he
    obtain rfl : x' = .num _ := k1
    obtain rfl : l' = .list _ := k2
    refine ends_node (l := [.num _, .list _]) (v := .list (_ :: _)) (c1 := c1 + (c2 + 0)) (c2 := 0) (d0 := max d1 d2) (by simp [nT, Tm.kind]) (by simp [nT, Tm.args]) (fun d hd => ⟨?_, rfl⟩) rfl
    simp only [nT, Tm.args, allC, h1 d (by omega), h2 d (by omega)]
  | fold ha hb hf hn ihb ihf ihn =>
    intro e ρ he
    obtain ⟨b', c1, d1, h1, k1⟩ := ihb he
    obtain ⟨f', c2, d2, h2, k2⟩ := ihf he
    obtain ⟨n', c3, d3, h3, k3⟩ := ihn he
    obtain rfl : n' = .list _ := k3
    obtain ⟨w, c4, d4, h4, hw⟩ := tl_fold k2 k1 _
    refine ends_node (l := [b', f', .list _]) (v := w) (c1 := c1 + (c2 + (c3 + 0))) (c2 := c4) (d0 := max d1 (max d2 (max d3 d4))) (by simp [Tm.kind]) (by simp [Tm.args]) (fun d hd => ⟨?_, h4 d (by omega)⟩) hw
    simp only [Tm.args, allC, h1 d (by omega), h2 d (by omega), h3 d (by omega)]
  | pair hx hy ihx ihy =>
    intro e ρ he
    obtain ⟨x', c1, d1, h1, k1⟩ := ihx he
    obtain ⟨y', c2, d2, h2, k2⟩ := ihy he
    refine ends_node (l := [x', y']) (v := .both x' y') (c1 := c1 + (c2 + 0)) (c2 := 0) (d0 := max d1 d2) (by simp [nT, Tm.kind]) (by simp [nT, Tm.args]) (fun d hd => ⟨?_, rfl⟩) ⟨x', y', rfl, k1, k2⟩
    simp only [nT, Tm.args, allC, h1 d (by omega), h2 d (by omega)]
  | fst hx ih =>
    intro e ρ he
    obtain ⟨x', c1, d1, h1, k1⟩ := ih he
    obtain ⟨p, q, rfl, hp, hq⟩ := k1
    refine ends_node (l := [.both p q]) (v := p) (c1 := c1 + 0) (c2 := 0) (d0 := d1) (by simp [nT, Tm.kind]) (by simp [nT, Tm.args]) (fun d hd => ⟨?_, rfl⟩) hp
    simp only [nT, Tm.args, allC, h1 d (by omega)]
  | snd hx ih =>
    intro e ρ he
    obtain ⟨x', c1, d1, h1, k1⟩ := ih he
    obtain ⟨p, q, rfl, hp, hq⟩ := k1
    refine ends_node (l := [.both p q]) (v := q) (c1 := c1 + 0) (c2 := 0) (d0 := d1) (by simp [nT, Tm.kind]) (by simp [nT, Tm.args]) (fun d hd => ⟨?_, rfl⟩) hq
    simp only [nT, Tm.args, allC, h1 d (by omega)]
  | unit =>
    intro e ρ he
    exact ends_node (l := []) (v := .unit) (c1 := 0) (c2 := 0) (d0 := 0) (by simp [nT, Tm.kind]) (by simp [nT, Tm.args]) (fun d hd => ⟨rfl, rfl⟩) rfl
end Go.Proofs.YtcldnfbcbkaanaaGreatDoor.Lift

namespace Go.Proofs.YtcldnfbcbkaanaaGreatDoor.Lift
set_option linter.unusedSimpArgs false
set_option linter.unusedVariables false
set_option linter.unnecessarySimpa false
open Go
variable {gl : Globs}

theorem num_cells (n : Nat) : (MV.num n).cells = [dint (n : Int), .sl [], .sl [], dint 0, dint 0, dint 0, .sl [], .sl [], .sl []] := by rw [MV.cells]
theorem list_cells (l : List Nat) : (MV.list l).cells = [dint 0, .sl (ints (l.map Int.ofNat)), .sl [], dint 0, dint 0, dint 0, .sl [], .sl [], .sl []] := by rw [MV.cells]
theorem both_cells (a b : MV) : (MV.both a b).cells = [dint 0, .sl [], .sl [a.cells, b.cells], dint 0, dint 0, dint 0, .sl [], .sl [], .sl []] := by rw [MV.cells]
theorem unit_cells : MV.unit.cells = [dint 0, .sl [], .sl [], dint 0, dint 0, dint 0, .sl [], .sl [], .sl []] := by rw [MV.cells]

theorem of6_ok (a : T) (x : a.V) (hp : a.plain) : Con1 Tryz.prog gl 36 [(valOf a x).dv] [] (ofM a x).dv [] := by
  induction a with
  | nat =>
    have hc := num_cells x
    have hd : (ofM .nat x).dv = .agg (MV.num x).cells := rfl
    rw [valOf_nat, hd, hc]
    refine t_in Tryz.func36 ?_
    intro X hP hgl hf hfn hn hR hids hfit
    refine t_g0 ?_
    refine t_a ?_
    refine t_sub [] @ints_nil (W_upto (0) (fun i => True) (fun i => [(.slot 14, .one (.v (dint i))), (.slot 13, .one (.v (dint 0))), (.slot 12, .one (.v (.sl []))), (.slot 2, .one (.loc 2 0)), (.loc 2, .row ([.v (dint 0), .own 0 [], .own 0 [], .v (dint 0), .v (dint 0), .v (dint 0), .own 0 [], .own 0 [], .own 0 []])), (.slot 3, .one (.loc 3 0)), (.loc 3, .row ([.v (dint (Int.ofNat x)), .v (.sl []), .v (.sl []), .v (dint 0), .v (dint 0), .v (dint 0), .v (.sl []), .v (.sl []), .v (.sl [])]))]) (trivial) ?_ ?_)
    · intro i hi; exact absurd hi (by omega)
    · intro _
      refine t_rg0 ?_
      refine t_no ?_
      refine t_g0 ?_
      refine t_r ?_
      simp [go_sem, hP, hgl, hn] <;> (try omega)
      rfl
  | list =>
    have hc := list_cells x
    have hd : (ofM .list x).dv = .agg (MV.list x).cells := rfl
    rw [valOf_list, hd, hc]
    refine t_in Tryz.func36 ?_
    intro X hP hgl hf hfn hn hR hids hfit
    refine t_g0 ?_
    refine t_a ?_
    refine t_sub [] @ints_nil (W_upto (0) (fun i => True) (fun i => [(.slot 14, .one (.v (dint i))), (.slot 13, .one (.v (dint 0))), (.slot 12, .one (.v (.sl []))), (.slot 2, .one (.loc 2 0)), (.loc 2, .row ([.v (dint 0), .own 0 [], .own 0 [], .v (dint 0), .v (dint 0), .v (dint 0), .own 0 [], .own 0 [], .own 0 []])), (.slot 3, .one (.loc 3 0)), (.loc 3, .row ([.v (dint 0), .v (.sl (ints (List.map Int.ofNat x))), .v (.sl []), .v (dint 0), .v (dint 0), .v (dint 0), .v (.sl []), .v (.sl []), .v (.sl [])]))]) (trivial) ?_ ?_)
    · intro i hi; exact absurd hi (by omega)
    · intro _
      refine t_rg0 ?_
      refine t_no ?_
      refine t_g0 ?_
      refine t_r ?_
      simp [go_sem, hP, hgl, hn] <;> (try omega)
  | unit =>
    have hc := unit_cells
    have hd : (ofM .unit x).dv = .agg MV.unit.cells := rfl
    rw [valOf_unit, hd, hc]
    refine t_in Tryz.func36 ?_
    intro X hP hgl hf hfn hn hR hids hfit
    refine t_g0 ?_
    refine t_a ?_
    refine t_sub [] @ints_nil (W_upto (0) (fun i => True) (fun i => [(.slot 14, .one (.v (dint i))), (.slot 13, .one (.v (dint 0))), (.slot 12, .one (.v (.sl []))), (.slot 2, .one (.loc 2 0)), (.loc 2, .row ([.v (dint 0), .own 0 [], .own 0 [], .v (dint 0), .v (dint 0), .v (dint 0), .own 0 [], .own 0 [], .own 0 []])), (.slot 3, .one (.loc 3 0)), (.loc 3, .row ([.v (dint 0), .v (.sl []), .v (.sl []), .v (dint 0), .v (dint 0), .v (dint 0), .v (.sl []), .v (.sl []), .v (.sl [])]))]) (trivial) ?_ ?_)
    · intro i hi; exact absurd hi (by omega)
    · intro _
      refine t_rg0 ?_
      refine t_no ?_
      refine t_g0 ?_
      refine t_r ?_
      simp [go_sem, hP, hgl, hn] <;> (try omega)
  | pair a b iha ihb =>
    have w1 := iha x.1 hp.1
    have w2 := ihb x.2 hp.2
    have hc := both_cells (ofM a x.1) (ofM b x.2)
    have hd : (ofM (.pair a b) x).dv = .agg (MV.both (ofM a x.1) (ofM b x.2)).cells := rfl
    have l1 := MV.length_cells (ofM a x.1)
    have l2 := MV.length_cells (ofM b x.2)
    rw [valOf_pair, hd, hc]
    generalize valOf a x.1 = v1 at *
    generalize valOf b x.2 = v2 at *
    generalize ofM a x.1 = m1 at *
    generalize ofM b x.2 = m2 at *
    have f1 := Val.fold v1
    have f2 := Val.fold v2
    have g1 := MV.cells_eq m1
    have g2 := MV.cells_eq m2
    refine t_in Tryz.func36 ?_
    intro X hP hgl hf hfn hn hR hids hfit
    refine t_g0 ?_
    refine t_a ?_
    refine t_sub [(1003, 0)] @ints_nil (W_upto (2) (fun i => True) (fun i => [(.slot 14, .one (.v (dint i))), (.slot 13, .one (.v (dint 2))), (.slot 12, .one (.v (.sl [v1.cells, v2.cells]))), (.slot 2, .one (.loc 2 0)), (.loc 2, .row ([.v (dint 0), .own 0 [], .own 0 [], .v (dint 0), .v (dint 0), .v (dint 0), .own 0 [], .own 0 [], .own 0 []])), (.slot 3, .one (.loc 3 0)), (.loc 3, .row ([.v (dint 0), .v (.sl []), .own 1003 ([m1.cells, m2.cells].take i), .v (dint 0), .v (dint 0), .v (dint 0), .v (.sl []), .v (.sl []), .v (.sl [])])), (.tok 1003, .tk 9 i)]) (trivial) ?_ ?_)
    · intro i hi _ hnext
      match i, hi with
      | 0, _ =>
        refine t_rg0 ?_
        refine t_yes ?_
        refine t_g0 ?_
        refine t_c1 (j2 @f1 @l1) w1 ?_
        refine t_gt (wr [(1003, 23)]) @g1 @l1 (hnext trivial)
      | 1, _ =>
        refine t_rg0 ?_
        refine t_yes ?_
        refine t_g0 ?_
        refine t_c1 (j2 @f2 (j2 @l1 @l2)) w2 ?_
        refine t_gt (wr [(1003, 23)]) (j2 @g1 @g2) (j2 @l1 @l2) (hnext trivial)
    · intro _
      refine t_rg0 ?_
      refine t_no ?_
      refine t_g0 ?_
      refine t_r ?_
      simp [go_sem, hP, hgl, hn] <;> (try omega)
  | fn a b iha ihb => exact hp.elim

theorem MV.fit_list {v : MV} (h : v.dv.fit) : v.listF.length ≤ 2147483648 := by
  rw [MV.dv, MV.cells_eq] at h
  simp only [DV.fit, DV.fit.fits, ints_length, BIG] at h
  exact h.2.1.1
theorem plain6_ok {a : T} {v : MV} {x : a.V} (h : MVT a v x) (hp : a.plain) : Con1 Tryz.prog gl 37 [v.dv, a.ty.dv] [] (valOf a x).dv [] := by
  induction a generalizing v with
  | nat =>
    obtain rfl := mvt_nat h
    rw [valOf_nat, T.ty_nat]
    have hq : (MV.num x).numF = Int.ofNat x := rfl
    generalize MV.num x = m at *
    refine t_in Tryz.func37 ?_
    intro X hP hgl hf hfn hn hR hids hfit
    refine t_g0 ?_
    refine t_r ?_
    simp [go_sem, hP, hgl, hn, hq] <;> (try omega)
    all_goals exact t_f
  | list =>
    obtain rfl := mvt_list h
    rw [valOf_list, T.ty_list]
    have hq : (MV.list x).listF = List.map Int.ofNat x := rfl
    generalize MV.list x = m at *
    refine t_in Tryz.func37 ?_
    intro X hP hgl hf hfn hn hR hids hfit
    have hl := MV.fit_list (hfit m.dv (by simp))
    refine t_g0 ?_
    refine t_r ?_
    simp [go_sem, hP, hgl, hn, hq] <;> (try omega)
    all_goals exact t_f
  | unit =>
    rw [valOf_unit, T.ty_unit]
    refine t_in Tryz.func37 ?_
    intro X hP hgl hf hfn hn hR hids hfit
    refine t_g0 ?_
    refine t_r ?_
    simp [go_sem, hP, hgl, hn] <;> (try omega)
    all_goals exact t_f
  | pair a b iha ihb =>
    obtain ⟨y, z, rfl, hy, hz⟩ := mvt_pair h
    have w1 := iha hy hp.1
    have w2 := ihb hz hp.2
    rw [valOf_pair, T.ty_pair]
    have fa := Ty.fold a.ty
    have fb := Ty.fold b.ty
    have fy := MV.fold y
    have fz := MV.fold z
    generalize a.ty = ta at *
    generalize b.ty = tb at *
    refine t_in Tryz.func37 ?_
    intro X hP hgl hf hfn hn hR hids hfit
    refine t_g0 ?_
    refine t_c2 (j2 @fa (j2 @fb (j2 @fy @fz))) w1 w2 ?_
    refine t_r ?_
    simp [go_sem, hP, hgl, hn] <;> (try omega)
    all_goals exact t_f
  | fn a b iha ihb => exact hp.elim
end Go.Proofs.YtcldnfbcbkaanaaGreatDoor.Lift

namespace Go.Proofs.YtcldnfbcbkaanaaGreatDoor.Lift
set_option linter.unusedSimpArgs false
set_option linter.unusedVariables false
set_option linter.unnecessarySimpa false
open Go

/-- the type is found, or something is too large -/
def Fits (t : Tm) (g : List Ty) (a : T) : Prop := t.inferN g = (a.ty, 0) ∨ (t.inferN g).2 = 4
def AllFit (g : List Ty) : List Tm → List T → Prop
  | [], [] => True
  | t :: r, a :: s => Fits t g a ∧ AllFit g r s
  | _, _ => False

theorem infers_fit {g : List Ty} : ∀ {l : List Tm} {ts : List T}, AllFit g l ts → (Tm.inferN.infers l g = (ts.map T.ty, 0)) ∨ (Tm.inferN.infers l g).2 = 4
  | [], [], _ => .inl rfl
  | [], _ :: _, h => h.elim
  | _ :: _, [], h => h.elim
  | t :: r, a :: s, ⟨h, hr⟩ => by
    simp only [Tm.inferN.infers]
    rcases h with h | h
    · rw [h]
      rcases infers_fit hr with h2 | h2
      · rw [h2]; exact .inl rfl
      · right; rw [if_pos rfl, if_neg (by rw [h2]; decide)]; exact h2
    · right; rw [if_neg (by rw [h]; decide)]; exact h

theorem fits_node {k : Int} {y : Ty} {l : List Tm} {g : List Ty} {ts : List T} {a : T} (hk : ¬ k = 1) (h : AllFit (if k = 2 then g ++ [y] else g) l ts)
    (hr : ruleN k y (ts.map T.ty) = (a.ty, 0) ∨ (ruleN k y (ts.map T.ty)).2 = 4) : Fits (Tm.mk k 0 y l) g a := by
  have e0 : (Tm.mk k 0 y l).inferN g = if (Tm.inferN.infers l (if k = 2 then g ++ [y] else g)).2 = 0 then ruleN k y (Tm.inferN.infers l (if k = 2 then g ++ [y] else g)).1 else (zeroTy, (Tm.inferN.infers l (if k = 2 then g ++ [y] else g)).2) := by
    rw [Tm.inferN_eq, if_neg (show ¬ (Tm.mk k 0 y l).kind = 1 from hk)]
    rfl
  unfold Fits
  rw [e0]
  rcases infers_fit h with e | e
  · rw [e, if_pos rfl]
    exact hr
  · right
    rw [if_neg (by rw [e]; decide)]
    exact e
theorem okN_fit (y : Ty) : okN y = (y, 0) ∨ (okN y).2 = 4 := by
  unfold okN
  split
  · exact .inl rfl
  · exact .inr rfl

/-- a term that means something of a type has that type, or is too large -/
theorem infer_of_dn {Γ : List T} {t : Tm} {a : T} {F : Env Γ → a.V} (h : Dn Γ t a F) : Fits t (Γ.reverse.map T.ty) a := by
  induction h with
  | @var Γ i a p h =>
    left
    have hg := At.get h
    have hlt : i < Γ.length := (List.getElem?_eq_some_iff.1 hg).1
    rw [Tm.inferN_eq, if_pos (show (vT i).kind = 1 from rfl)]
    rw [if_neg (by show ¬ (((Γ.reverse.map T.ty).length : Int) ≤ (i : Int)); simp; omega)]
    have hi : (vT i).index.toNat = i := rfl
    rw [hi, List.getD_eq_getElem?_getD, List.getElem?_map]
    have : Γ.reverse[(Γ.reverse.map T.ty).length - 1 - i]? = some a := by
      rw [List.getElem?_reverse (by simp; omega)]
      simp only [List.length_map, List.length_reverse]
      rw [show Γ.length - 1 - (Γ.length - 1 - i) = i by omega]
      exact hg
    rw [this]
    rfl
  | @lam Γ a r b f ha h ih =>
    refine fits_node (ts := [r]) (by decide) ⟨?_, trivial⟩ (okN_fit _)
    rw [if_pos rfl]
    simpa using ih
  | @app Γ a b f x F X hf hx ih1 ih2 =>
    refine fits_node (ts := [.fn a b, a]) (by decide) ⟨ih1, ih2, trivial⟩ (.inl ?_)
    show (if (4 : Int) = 4 ∧ a.ty.same a.ty = true then (b.ty, (0 : Int)) else (zeroTy, 7)) = (b.ty, 0)
    rw [if_pos ⟨rfl, (Ty.same_iff _ _).2 rfl⟩]
  | zero => exact fits_node (ts := []) (by decide) trivial (.inl rfl)
  | succ hx ih => exact fits_node (ts := [.nat]) (by decide) ⟨ih, trivial⟩ (.inl rfl)
  | @rc Γ a b f n B F N ha hb hf hn ih1 ih2 ih3 =>
    refine fits_node (ts := [a, .fn .nat (.fn a a), .nat]) (by decide) ⟨ih1, ih2, ih3, trivial⟩ (.inl ?_)
    show (if a.ty.same a.ty = true ∧ (T.fn .nat (.fn a a)).ty.same (Ty.mk 4 [Ty.mk 1 [], Ty.mk 4 [a.ty, a.ty]]) = true ∧ (T.ty .nat).same (Ty.mk 1 []) = true then (a.ty, (0 : Int)) else (zeroTy, 7)) = (a.ty, 0)
    rw [if_pos ⟨(Ty.same_iff _ _).2 rfl, (Ty.same_iff _ _).2 rfl, (Ty.same_iff _ _).2 rfl⟩]
  | nil => exact fits_node (ts := []) (by decide) trivial (.inl rfl)
  | cons hx hl ih1 ih2 => exact fits_node (ts := [.nat, .list]) (by decide) ⟨ih1, ih2, trivial⟩ (.inl rfl)
  | @fold Γ a b f n B F N ha hb hf hn ih1 ih2 ih3 =>
    refine fits_node (ts := [a, .fn .nat (.fn .list (.fn a a)), .list]) (by decide) ⟨ih1, ih2, ih3, trivial⟩ (.inl ?_)
    show (if a.ty.same a.ty = true ∧ (T.fn .nat (.fn .list (.fn a a))).ty.same (Ty.mk 4 [Ty.mk 1 [], Ty.mk 4 [Ty.mk 2 [], Ty.mk 4 [a.ty, a.ty]]]) = true ∧ (T.ty .list).same (Ty.mk 2 []) = true then (a.ty, (0 : Int)) else (zeroTy, 7)) = (a.ty, 0)
    rw [if_pos ⟨(Ty.same_iff _ _).2 rfl, (Ty.same_iff _ _).2 rfl, (Ty.same_iff _ _).2 rfl⟩]
  | @pair Γ a b x y X Y hx hy ih1 ih2 => exact fits_node (ts := [a, b]) (by decide) ⟨ih1, ih2, trivial⟩ (okN_fit _)
  | @fst Γ a b x X hx ih => exact fits_node (ts := [.pair a b]) (by decide) ⟨ih, trivial⟩ (.inl rfl)
  | @snd Γ a b x X hx ih => exact fits_node (ts := [.pair a b]) (by decide) ⟨ih, trivial⟩ (.inl rfl)
  | unit => exact fits_node (ts := []) (by decide) trivial (.inl rfl)
end Go.Proofs.YtcldnfbcbkaanaaGreatDoor.Lift

namespace Go.Proofs.YtcldnfbcbkaanaaGreatDoor.Lift
set_option linter.unusedSimpArgs false
set_option linter.unusedVariables false
set_option linter.unnecessarySimpa false
open Go

/-! closed functions of several plain arguments, and what a call of them leaves -/

def FnT : List T → T → T
  | [], r => r
  | a :: l, r => .fn a (FnT l r)
def appl : (l : List T) → {r : T} → (FnT l r).V → Env l → r.V
  | [], _, f, _ => f
  | _ :: l, _, f, e => appl l (f e.1) e.2
def valsOf : (l : List T) → Env l → List Val
  | [], _ => []
  | a :: l, e => valOf a e.1 :: valsOf l e.2
def mvsOf : (l : List T) → Env l → List MV
  | [], _ => []
  | a :: l, e => ofM a e.1 :: mvsOf l e.2
def Plains : List T → Prop
  | [] => True
  | a :: l => a.plain ∧ a.ok ∧ Plains l

theorem valsOf_len : ∀ (l : List T) (X : Env l), (valsOf l X).length = l.length
  | [], _ => rfl
  | a :: l, X => by simp only [valsOf, List.length_cons, valsOf_len l X.2]
theorem mvsOf_len : ∀ (l : List T) (X : Env l), (mvsOf l X).length = l.length
  | [], _ => rfl
  | a :: l, X => by simp only [mvsOf, List.length_cons, mvsOf_len l X.2]
theorem args_at {r : T} : ∀ (l : List T) (X : Env l) (i : Nat), i < l.length → Plains l → ∃ (a : T) (x : a.V), (valsOf l X)[i]? = some (valOf a x) ∧ (mvsOf l X)[i]? = some (ofM a x) ∧ FnT (l.drop i) r = .fn a (FnT (l.drop (i + 1)) r) ∧ a.plain ∧ a.ok
  | [], X, i, h, _ => absurd h (Nat.not_lt_zero _)
  | a :: l, X, 0, h, hp => ⟨a, X.1, rfl, rfl, rfl, hp.1, hp.2.1⟩
  | a :: l, X, i + 1, h, hp => by
    obtain ⟨b, x, h1, h2, h3, h4⟩ := args_at (r := r) l X.2 i (by simpa using h) hp.2.2
    exact ⟨b, x, by simpa [valsOf] using h1, by simpa [mvsOf] using h2, by simpa using h3, h4⟩

theorem valOf_check {a : T} (x : a.V) (hp : a.plain) (hs : a.ok) : (valOf a x).checkN = 0 := by
  obtain ⟨v1, v2⟩ := valOf_nodes a x hp
  have hs : a.size ≤ 64 := hs
  unfold Val.checkN
  rw [if_pos v1, if_neg (by rw [Val.nodes_count _ v1]; omega)]
theorem valOf_ty : ∀ (a : T) (x : a.V), a.plain → (valOf a x).tyN = a.ty
  | .nat, n, _ => by rw [Val.tyN_eq]; rfl
  | .list, l, _ => by rw [Val.tyN_eq]; rfl
  | .unit, _, _ => by rw [Val.tyN_eq]; rfl
  | .pair a b, p, h => by
    rw [Val.tyN_eq, valOf_pair]
    simp only [Val.kind, Val.args, List.map_cons, List.map_nil, valOf_ty a p.1 h.1, valOf_ty b p.2 h.2]
    rfl
  | .fn _ _, _, h => h.elim
theorem valOf_typeE {a : T} (x : a.V) (hp : a.plain) (hs : a.ok) : (valOf a x).typeE = (a.ty, 0) := by
  unfold Val.typeE
  rw [valOf_check x hp hs, valOf_ty a x hp]
  rfl

theorem typeE_dn {t : Tm} {a : T} {F : Env [] → a.V} (h : Dn [] t a F) : t.typeE [] = (a.ty, 0) ∨ (t.typeE []).2 = 4 := by
  have hc : ctxN [] = 0 := rfl
  unfold Tm.typeE Tm.typedE
  rw [if_pos hc]
  by_cases h0 : t.checkN = 0
  · rw [if_pos h0]
    exact infer_of_dn h
  · rw [if_neg h0]
    right
    have hs := dn_shape h
    unfold Tm.checkN at h0 ⊢
    rw [if_pos hs] at h0 ⊢
    split at h0
    · rename_i hq; rw [if_pos hq]
    · exact absurd rfl h0

/-- a closure called with some values, one after the other -/
def callsRun (ev : Ev6) : MV → List MV → Int → Rn
  | r, [], u => some (r, u, false)
  | r, x :: l, u => match callRun ev r x u with
    | none => none
    | some (v, u1, true) => some (v, u1, true)
    | some (v, u1, false) => callsRun ev v l u1
/-- a closed function called -/
def call6N (most : Int) (t : Tm) (xs : List MV) : Rn :=
  match ev6 most (most.toNat + 1) t [] 0 with
  | none => none
  | some (v, u, true) => some (v, u, true)
  | some (v, u, false) => callsRun (ev6 most (most.toNat + 1)) v xs u

theorem callsRun_out {most : Int} {d : Nat} {ev : Ev6} (H : Evs most d ev) : ∀ (l : List T) {r : T} {f : MV} {F : (FnT l r).V} (X : Env l) {u : Int}, MVT (FnT l r) f F → Plains l → u ≤ most → most - u < d →
    Out most (fun v => MVT r v (appl l F X)) u (callsRun ev f (mvsOf l X) u)
  | [], r, f, F, X, u, hf, hp, hu, hd => ⟨f, u, false, rfl, by omega, hu, fun _ => hf⟩
  | a :: l, r, f, F, X, u, hf, hp, hu, hd => by
    obtain ⟨g, u1, o1, h1, l1, m1, q1⟩ := callRun_out H hf (ofM_typed a X.1 hp.1) hu hd
    simp only [mvsOf, callsRun, h1]
    cases o1 with
    | true => exact ⟨g, u1, true, rfl, l1, m1, fun h => by cases h⟩
    | false => exact (callsRun_out H l X.2 (q1 rfl) hp.2.2 m1 (by omega)).mono l1 fun _ h => h
theorem call6_out {most : Int} (hm : 0 ≤ most) {t : Tm} {l : List T} {r : T} {F : Env [] → (FnT l r).V} (h : Dn [] t (FnT l r) F) (X : Env l) (hp : Plains l) :
    Out most (fun v => MVT r v (appl l (F ()) X)) 0 (call6N most t (mvsOf l X)) := by
  have H := ev6_ok most (most.toNat + 1)
  obtain ⟨v, u, o, h1, l1, m1, q1⟩ := H h .nil hm (by omega)
  unfold call6N
  rw [h1]
  cases o with
  | true => exact ⟨v, u, true, rfl, l1, m1, fun h => by cases h⟩
  | false => exact (callsRun_out H l X (q1 rfl) hp m1 (by omega)).mono l1 fun _ h => h

/-- what a call returns: the value, the work, the error -/
def callOut (t : Tm) (l : List T) {r : T} (F : (FnT l r).V) (X : Env l) (work : Int) : Val × Int × Int :=
  if (t.typeE []).2 = 0 then match call6N work t (mvsOf l X) with
    | some (_, u, false) => (valOf r (appl l F X), u, 0)
    | _ => (zeroV, 0, 5)
  else (zeroV, 0, (t.typeE []).2)
theorem callOut_err {t : Tm} {l : List T} {r : T} {F : Env [] → (FnT l r).V} (h : Dn [] t (FnT l r) F) (X : Env l) (work : Int) :
    (callOut t l (F ()) X work).2.2 = 4 ∨ (callOut t l (F ()) X work).2.2 = 5 ∨ ((callOut t l (F ()) X work).2.2 = 0 ∧ (callOut t l (F ()) X work).1 = valOf r (appl l (F ()) X)) := by
  unfold callOut
  by_cases h0 : (t.typeE []).2 = 0
  · rw [if_pos h0]
    split
    · exact .inr (.inr ⟨rfl, rfl⟩)
    · exact .inr (.inl rfl)
  · rw [if_neg h0]
    rcases typeE_dn h with h1 | h1
    · rw [h1] at h0; exact absurd rfl h0
    · exact .inl h1
end Go.Proofs.YtcldnfbcbkaanaaGreatDoor.Lift

/-
  Plain law: a closed term called with plain values, as a run with its work; it always comes to its end.
-/
namespace Go.Proofs.YtcldnfbcbkaanaaGreatDoor.Lift
set_option linter.unusedSimpArgs false
set_option linter.unusedVariables false
set_option linter.unnecessarySimpa false
open Go

theorem tl_plain : ∀ (a : T) {v : MV} {x : a.V}, a.plain → Tl a v x → v = ofM a x
  | .nat, _, _, _, h => h
  | .list, _, _, _, h => h
  | .unit, _, _, _, h => h
  | .pair a b, v, p, hp, h => by
    obtain ⟨x, y, rfl, h1, h2⟩ := h
    rw [tl_plain a hp.1 h1, tl_plain b hp.2 h2]
    rfl
  | .fn _ _, _, _, hp, _ => hp.elim
theorem tl_ofM : ∀ (a : T) (x : a.V), a.plain → Tl a (ofM a x) x
  | .nat, _, _ => rfl
  | .list, _, _ => rfl
  | .unit, _, _ => rfl
  | .pair a b, p, hp => ⟨_, _, rfl, tl_ofM a p.1 hp.1, tl_ofM b p.2 hp.2⟩
  | .fn _ _, _, hp => hp.elim

theorem tl_calls {r : T} : ∀ (l : List T) (X : Env l) {g : MV} {F : (FnT l r).V}, Plains l → Tl (FnT l r) g F → ∃ (w : MV) (c d0 : Nat), (∀ d, d0 ≤ d → callC (evS d) g (mvsOf l X) = some (w, c)) ∧ Tl r w (appl l F X)
  | [], _, g, _, _, h => ⟨g, 0, 0, fun d _ => call_nil _ _, h⟩
  | a :: l, X, g, F, hp, h => by
    obtain ⟨v, c1, d1, hv, h1⟩ := tl_call h (tl_ofM a X.1 hp.1)
    obtain ⟨w, c2, d2, h2, hw⟩ := tl_calls l X.2 hp.2.2 hv
    exact ⟨w, c1 + c2, max d1 d2, fun d hd => h1 d (by omega) _ _ _ (h2 d (by omega)), hw⟩

/-- a closed term called with some values -/
def callS (d : Nat) (t : Tm) (xs : List MV) : Option (MV × Nat) :=
  match evS d t [] with
  | none => none
  | some (g, c1) => match callC (evS d) g xs with
    | none => none
    | some (w, c2) => some (w, c1 + c2)
theorem callS_parts {d : Nat} {t : Tm} {xs : List MV} {w : MV} {c : Nat} (h : callS d t xs = some (w, c)) : ∃ g c1 c2, evS d t [] = some (g, c1) ∧ callC (evS d) g xs = some (w, c2) ∧ c = c1 + c2 := by
  unfold callS at h
  split at h
  · cases h
  · rename_i g c1 h1
    split at h
    · cases h
    · rename_i w' c2 h2
      cases h
      exact ⟨g, c1, c2, h1, h2, rfl⟩

theorem calls_total {t : Tm} {l : List T} {r : T} {F : Env [] → (FnT l r).V} (h : Dn [] t (FnT l r) F) (X : Env l) (hp : Plains l) (hr : r.plain) :
    ∃ c d0, ∀ d, d0 ≤ d → callS d t (mvsOf l X) = some (ofM r (appl l (F ()) X), c) := by
  obtain ⟨g, c1, d1, h1, hg⟩ := dn_total h (e := []) (ρ := ()) rfl
  obtain ⟨w, c2, d2, h2, hw⟩ := tl_calls l X hp hg
  have hw' := tl_plain r hr hw
  subst hw'
  refine ⟨c1 + c2, max d1 d2, fun d hd => ?_⟩
  unfold callS
  rw [h1 d (by omega)]
  simp only
  rw [h2 d (by omega)]

/-- what a call of the machine returns -/
def outC (v : Val) (c : Nat) (work : Int) : DV := if (c : Int) ≤ work then .tup [v.dv, dint (c : Int), dint 0] else .tup [zeroV.dv, dint 0, dint 5]
theorem outC_yes {v : Val} {c : Nat} {work : Int} (h : (c : Int) ≤ work) : outC v c work = .tup [v.dv, dint (c : Int), dint 0] := if_pos h
theorem outC_no {v : Val} {c : Nat} {work : Int} (h : ¬ (c : Int) ≤ work) : outC v c work = .tup [zeroV.dv, dint 0, dint 5] := if_neg h
end Go.Proofs.YtcldnfbcbkaanaaGreatDoor.Lift

/-
  Package machine: Call and Eval, on terms of a type and plain values.
-/
namespace Go.Proofs.YtcldnfbcbkaanaaGreatDoor.Lift
set_option linter.unusedSimpArgs false
set_option linter.unusedVariables false
set_option linter.unnecessarySimpa false
open Go
variable {gl : Globs}

def things (l : List MV) : List (List DV) := l.map fun x => [x.thing]
theorem things_nil : things [] = [] := rfl
theorem things_len (l : List MV) : (things l).length = l.length := by simp [things]
theorem things_wid (l : List MV) : ∀ e ∈ things l, e.length = 1 := by
  intro e he
  simp only [things, List.mem_map] at he
  obtain ⟨x, -, rfl⟩ := he
  rfl
theorem things_snoc {l : List MV} {i : Nat} {v : MV} (h : l[i]? = some v) : things (l.take (i + 1)) = things (l.take i) ++ [[v.thing]] := by
  rw [List.take_add_one, h]
  simp [things]

set_option maxHeartbeats 4000000 in
set_option maxRecDepth 100000 in
theorem machine_call_ok (har : globOf gl 0 = some arEls) (t : Tm) (l : List T) (r : T) (Z : Env l) (y : r.V) (c d : Nat) (hcs : callS d t (mvsOf l Z) = some (ofM r y, c)) (ht : t.checkN = 0) (hi : t.inferN [] = ((FnT l r).ty, 0)) (hl : Plains l) (hll : l.length ≤ 1000000) (hr : r.plain) (hro : r.ok) (wk : Nat) (hwk : wk ≤ 65536) (M : Nat) (hM : M ≤ 1073000000) (hX : MV.nles M (mvsOf l Z)) :
    Con1 Tryz.prog gl 24 [t.dv, .sl ((valsOf l Z).map Val.cells), dint (wk : Int)] [] (outC (valOf r y) c wk) [] := by
  obtain ⟨g, c1, c2, e1, e2, rfl⟩ := callS_parts hcs
  have hte := terms_typeof_ok (gl := gl) har t _ ht hi
  have hvl := valsOf_len l Z
  have hml := mvsOf_len l Z
  have hft := Tm.fold t
  have hfz : (Ty.mk 0 []).cells = [dint 0, .sl []] := rfl
  have hfr := Ty.fold (FnT l r).ty
  refine t_in Tryz.func24 ?_
  intro X hP hgl hf hfn hn hR hids hfit
  refine t_g0 ?_
  refine t_c1 @hft hte ?_
  refine t_g0 ?_
  refine t_a ?_
  refine t_sub [(1011, 0)] (j2 @hvl @things_nil) (W_upto (l.length) (fun i => True) (fun i => [(.slot 2, .one (.v (dint (wk : Int)))), (.slot 3, .one (.loc 3 0)), (.loc 3, .row ([.v (dint t.kind), .v (dint t.index), .v (dint t.type.kind), .v (.sl (t.type.args.map Ty.cells)), .v (.sl (t.args.map Tm.cells))])), (.slot 6, .one (.loc 6 0)), (.loc 6, .row ([.v (dint 0), .v (dint 0), .own 0 [], .own 0 []])), (.slot 9, .one (.loc 9 0)), (.loc 9, .row ([.v (dint (FnT (l.drop i) r).ty.kind), .v (.sl ((FnT (l.drop i) r).ty.args.map Ty.cells))])), (.slot 11, .one (.own 1011 (things ((mvsOf l Z).take i)))), (.tok 1011, .tk 1 i), (.slot 30, .one (.v (.sl ((valsOf l Z).map Val.cells)))), (.slot 31, .one (.v (dint l.length))), (.slot 32, .one (.v (dint i)))]) (trivial) ?_ ?_)
  · intro i hi _ hnext
    obtain ⟨a, x, g1, g2, g3, g4, g5⟩ := args_at (r := r) l Z i hi hl
    have hvg : (List.map Val.cells (valsOf l Z))[i]? = some (valOf a x).cells := by rw [List.getElem?_map, g1]; rfl
    have hfv := Val.fold (valOf a x)
    have hcv := Val.cells_eq (valOf a x)
    have hvc := (valOf_nodes a x g4).2
    have hsz : a.size ≤ 64 := g5
    have w1 := typeE_ok (gl := gl) (valOf a x) (by omega)
    rw [valOf_typeE x g4 g5] at w1
    have w2 := sameType_ok (gl := gl) a.ty a.ty
    rw [show a.ty.same a.ty = true from (Ty.same_iff _ _).2 rfl] at w2
    have w3 := machine_from_ok (gl := gl) a x g4
    have hti : (FnT (l.drop i) r).ty = Ty.mk 4 [a.ty, (FnT (l.drop (i + 1)) r).ty] := by rw [g3, T.ty_fn]
    have hfa := Ty.fold a.ty
    have hsn := things_snoc g2
    have hln : (things ((mvsOf l Z).take i)).length = i := by rw [things_len, List.length_take]; omega
    have hwid := things_wid ((mvsOf l Z).take i)
    have hil : i ≤ 2147483647 := by omega
    have hil2 : i + 1 ≤ 2147483647 := by omega
    generalize (FnT (l.drop (i + 1)) r).ty = ty' at *
    generalize (FnT (l.drop i) r).ty = ty0 at *
    generalize a.ty = ta at *
    generalize things ((mvsOf l Z).take i) = L at *
    generalize things ((mvsOf l Z).take (i + 1)) = L' at *
    subst hti
    subst hsn
    have hct := Ty.cells_eq ty'
    refine t_rg0 ?_
    refine t_yes ?_
    refine t_g (j2 @hvg @hcv) ?_
    refine t_c1 @hfv w1 ?_
    refine t_g0 ?_
    refine t_c1 @hfa w2 ?_
    refine t_g0 ?_
    refine t_c1 (j2 @hfv (j2 @hwid (j2 @hln (j2 @hil @hil2)))) w3 ?_
    refine t_gt (wr [(1011, 62)]) @hct @hln (hnext trivial)
  · intro _
    have hdl : FnT (l.drop l.length) r = r := by rw [List.drop_length]; rfl
    have htk : (mvsOf l Z).take l.length = mvsOf l Z := by rw [← hml]; exact List.take_length
    rw [hdl, htk]
    have wd := data_t_ok (gl := gl) r hr hro
    have hfr := Ty.fold r.ty
    have hwn : ¬ ((wk : Int) < 0) := by omega
    have hwm : ¬ (65536 < (wk : Int)) := by omega
    have HW := walkM_all (gl := gl) (most := wk) (by omega) (fun ev h1 h2 => foldM_ok (by omega) h1 h2) d
    have HN := nle_evS wk d
    have ng := HN M e1 (by simp only [MV.nles])
    refine t_rg0 ?_
    refine t_no ?_
    refine t_g0 ?_
    refine t_c1 @hfr wd ?_
    refine t_g (j2 @hwn @hwm) ?_
    refine W_expose 85 (by simp [go_sem]; rfl) ?_
    intro b hb
    simp [go_sem] at hb ⊢
    have we := HW b M e1 (Nat.zero_le _) (by omega) (by simp only [MV.nles])
    have henv : MV.envM [] = nilP := by rw [MV.envM]
    rw [henv, Nat.zero_add, useM_yes (Nat.zero_le _)] at we
    by_cases hf1 : c1 ≤ wk
    · rw [outM_yes hf1, useM_yes hf1] at we
      have wc := callM_ok (gl := gl) (most := wk) (by omega) HW HN b (M + c1) e2 hf1 (by omega) ng (MV.nles_mono (by omega) _ hX)
      rw [useM_yes hf1] at wc
      have hmt : (mvsOf l Z).map (fun x => [x.thing]) = things (mvsOf l Z) := rfl
      rw [hmt] at wc
      by_cases hf2 : c1 + c2 ≤ wk
      · rw [outM_yes hf2, useM_yes hf2] at wc
        have hnl := nle_call HN e2 ng (MV.nles_mono (by omega) _ hX)
        have wp := machine_plain_ok (gl := gl) r y hr (MV.nle_mono (by omega) _ hnl)
        have hfy := Val.fold (valOf r y)
        rw [outC_yes (by omega)] at hR
        refine t_c1 @hft we ?_
        refine t_g0 ?_
        refine t_c1 trivial wc ?_
        refine t_g0 ?_
        refine t_c1 trivial wp ?_
        refine t_r ?_
        simp [go_sem, hP, hgl, hn] <;> (try omega)
        all_goals exact t_f
      · rw [outM_no hf2, useM_no hf2] at wc
        rw [outC_no (by omega)] at hR
        refine t_c1 @hft we ?_
        refine t_g0 ?_
        refine t_c1 trivial wc ?_
        refine t_g0 ?_
        refine t_r ?_
        simp [go_sem, hP, hgl, hn, zeroV] <;> (try omega)
        all_goals exact t_f
    · rw [outM_no hf1, useM_no hf1] at we
      rw [outC_no (by omega)] at hR
      refine t_c1 @hft we ?_
      refine t_g0 ?_
      refine t_r ?_
      simp [go_sem, hP, hgl, hn, zeroV] <;> (try omega)
      all_goals exact t_f

end Go.Proofs.YtcldnfbcbkaanaaGreatDoor.Lift

/-
  Plain law: what is drawn has its type, by the rules, and at most 4096 nodes.
-/
namespace Go.Proofs.YtcldnfbcbkaanaaGreatDoor.Lift
set_option linter.unusedSimpArgs false
set_option linter.unusedVariables false
set_option linter.unnecessarySimpa false
open Go

theorem okN_of {y : Ty} (h : y.ok) : okN y = (y, 0) := by unfold okN; rw [if_pos ((Ty.checkN_iff y).2 h)]
theorem two_ok' {k : Int} {s t : Ty} (hk : k = 3 ∨ k = 4) (hs : s.shape = true) (ht : t.shape = true) (hc : 1 + s.count + t.count ≤ 64) : (Ty.mk k [s, t]).ok := ⟨ty_two hk hs ht, by rw [show (Ty.mk k [s, t]).count = 1 + (s.count + (t.count + 0)) from rfl]; omega⟩

end Go.Proofs.YtcldnfbcbkaanaaGreatDoor.Lift

/-
  Package typing: terms whose types are too large; terms.TypeOf with its errors.
-/
namespace Go.Proofs.YtcldnfbcbkaanaaGreatDoor.Lift
set_option linter.unusedSimpArgs false
set_option linter.unusedVariables false
set_option linter.unnecessarySimpa false
open Go
variable {gl : Globs}

abbrev sz0 : DV := .agg [dint 0, .sl [], dint 0]
theorem ty_join_big (k : Int) (a b : Ty) (ha64 : a.count ≤ 64) (hb64 : b.count ≤ 64) (hc : ¬ 1 + a.count + b.count ≤ 64) : Con1 Tryz.prog gl 150 [dint k, .agg (szC a), .agg (szC b)] [] (.tup [sz0, dint 4]) [] := by
  refine t_in Tryz.func150 ?_
  intro X hP hgl hf hfn hn hR hids hfit
  have ha := szC_eq a
  have hb := szC_eq b
  have hc1 : ¬ (1 : Int) + a.count + b.count ≤ 64 := by omega
  have hc2 : (64 : Int) < 1 + a.count + b.count := by omega
  refine t_g (j2 @ha (j2 @hb (j2 @hc1 @hc2))) ?_
  refine t_r ?_
  simp [go_sem, hP, hgl, hn] <;> (try omega)
  all_goals exact t_f
theorem node_k10_big (t : Tm) (h : t.kind = 10) (x y : Ty) (hx64 : x.count ≤ 64) (hy64 : y.count ≤ 64) (hc : ¬ 1 + x.count + y.count ≤ 64) :
    Con1 Tryz.prog gl 151 [t.dv, .agg (sz3 [x, y])] [] (.tup [sz0, dint 4]) [] := by
  rw [sz3_2]
  have wp := ty_plain_ok (gl := gl) 10
  rw [if_neg (by decide), if_neg (by decide), if_neg (by decide), if_neg (by decide), if_neg (by decide)] at wp
  have hi : ints [] = [] := rfl
  rw [hi] at wp
  have wj := ty_join_big (gl := gl) 3 x y hx64 hy64 hc
  simp only [szC_eq] at wj ⊢
  refine t_in Tryz.func151 ?_
  intro X hP hgl hf hfn hn hR hids hfit
  refine t_g @h ?_
  refine t_c1 @h wp ?_
  refine t_g @h ?_
  refine t_c1 trivial wj ?_
  refine t_r ?_
  simp [go_sem, hP, hgl, hn] <;> (try omega)

theorem okN_big {k : Int} {s t : Ty} (hk : k = 3 ∨ k = 4) (hs : s.ok) (ht : t.ok) (h : (okN (Ty.mk k [s, t])).2 ≠ 0) : ¬ 1 + s.count + t.count ≤ 64 := by
  intro hc
  apply h
  rw [okN_of (two_ok' hk hs.1 ht.1 hc)]
theorem rule_big {k : Int} {y : Ty} {l : List Ty} (hk2 : ¬ k = 2) (h : (ruleN k y l).2 = 4) : k = 10 ∧ (okN (Ty.mk 3 [l.getD 0 zeroTy, l.getD 1 zeroTy])).2 ≠ 0 := by
  unfold ruleN at h
  rw [if_neg hk2] at h
  by_cases h10 : k = 10
  · subst h10
    rw [if_neg (by decide), if_neg (by decide), if_neg (by decide), if_neg (by decide), if_neg (by decide), if_neg (by decide), if_neg (by decide), if_pos rfl] at h
    exact ⟨rfl, by rw [h]; decide⟩
  · exfalso
    rw [if_neg h10] at h
    repeat' split at h
    all_goals first | (cases h; done) | contradiction
theorem infers_first {g : List Ty} : ∀ {l : List Tm}, (Tm.inferN.infers l g).2 = 4 → ∃ (i : Nat) (x : Tm), l[i]? = some x ∧ (x.inferN g).2 = 4 ∧ ∀ (j : Nat) (y : Tm), j < i → l[j]? = some y → (y.inferN g).2 = 0
  | [], h => by cases h
  | a :: r, h => by
    simp only [Tm.inferN.infers] at h
    by_cases e : (a.inferN g).2 = 0
    · rw [if_pos e] at h
      by_cases e2 : (Tm.inferN.infers r g).2 = 0
      · rw [if_pos e2] at h; cases h
      · rw [if_neg e2] at h
        obtain ⟨i, x, h1, h2, h3⟩ := infers_first (l := r) h
        refine ⟨i + 1, x, by simpa using h1, h2, fun j y hj hy => ?_⟩
        cases j with
        | zero => simp at hy; rw [← hy]; exact e
        | succ j => exact h3 j y (by omega) (by simpa using hy)
    · rw [if_neg e] at h
      exact ⟨0, a, rfl, h, fun j y hj _ => absurd hj (Nat.not_lt_zero _)⟩

set_option maxHeartbeats 1000000 in
theorem typeof_t_big (t : Tm) (g : List Ty) (hgt : g.length + t.count ≤ 2147483648) (ht : t.shape = true) (hg : ∀ x ∈ g, x.ok) (h : (t.inferN g).2 = 4) :
    Con1 Tryz.prog gl 85 [.sl (g.map szC), t.dv] [] (.tup [sz0, dint 4]) [] := by
  induction t using Tm.ind generalizing g with
  | h t ih =>
  obtain ⟨ha, hi, hv, hty, hs⟩ := Tm.shape_node ht
  refine t_in Tryz.func85 ?_
  intro X hP hgl hf hfn hn hR hids hfit
  have hlg := sl_len (hfit (.sl (g.map szC)) (by simp))
  simp at hlg
  rw [Tm.inferN_eq t] at h
  by_cases h1 : t.kind = 1
  · rw [if_pos h1] at h
    split at h <;> cases h
  rw [if_neg h1] at h
  by_cases hk2 : t.kind = 2
  · rw [if_pos hk2] at h
    rw [hk2] at ha
    obtain ⟨b, hb⟩ : ∃ b, t.args = [b] := by
      match hh : t.args, ha with
      | [b], _ => exact ⟨b, rfl⟩
    have hbm : b ∈ t.args := by rw [hb]; simp
    rw [if_pos (.inl hk2)] at hty
    have hg' : ∀ x ∈ g ++ [t.type], x.ok := by
      intro x hx
      rcases List.mem_append.1 hx with hx | hx
      · exact hg x hx
      · rw [List.mem_singleton.1 hx]; exact hty
    have hcb1 : t.count = 1 + (b.count + 0) := by rw [Tm.count_eq, hb]; rfl
    have hcb2 := Tm.count_pos b
    have hgl1 : g.length ≤ 2147483647 := by omega
    have wo := ty_of_ok (gl := gl) t.type hty
    have fty := Ty.fold t.type
    have fb := Tm.fold b
    have hszm : List.map szC (g ++ [t.type]) = List.map szC g ++ [szC t.type] := by simp
    have hlm : (List.map szC g).length = g.length := by simp
    have hwid : ∀ e : List DV, e ∈ List.map szC g → e.length = 3 := by intro e he; simp only [List.mem_map] at he; obtain ⟨x, -, rfl⟩ := he; rfl
    rw [hb] at h
    simp only [Tm.inferN.infers] at h
    by_cases hb0 : (b.inferN (g ++ [t.type])).2 = 0
    · rw [if_pos hb0] at h
      simp only [if_true] at h
      have hbo := Tm.inferN_ok b (g ++ [t.type]) (hs b hbm) hg' hb0
      have w1 := typeof_t_ok (gl := gl) b (g ++ [t.type]) (by simp; omega) (hs b hbm) hg' hb0
      generalize (b.inferN (g ++ [t.type])).1 = rb at *
      have hrule : ruleN t.kind t.type [rb] = okN (Ty.mk 4 [t.type, rb]) := by rw [hk2]; rfl
      rw [hrule] at h
      have hbig := okN_big (.inr rfl) hty hbo (by rw [h]; decide)
      have wj := ty_join_big (gl := gl) 4 t.type rb hty.2 hbo.2 hbig
      rw [hszm] at w1
      simp only [szC_eq t.type, szC_eq rb] at w1 wo wj
      generalize List.map szC g = G at *
      have htake : List.take g.length G = G := by rw [List.take_of_length_le]; omega
      refine t_g @hk2 ?_
      refine t_c1 (j2 @hk2 @fty) wo ?_
      refine t_c1 (j2 @hk2 (j2 @hb (j2 @htake (j2 @hlm (j2 @hwid @hgl1))))) w1 ?_
      refine t_g0 ?_
      refine t_c1 trivial wj ?_
      refine t_r ?_
      simp [go_sem, hP, hgl, hn] <;> (try omega)
    · rw [if_neg hb0] at h
      simp only at h
      rw [if_neg hb0] at h
      have w1 := ih b hbm (g ++ [t.type]) (by simp; omega) (hs b hbm) hg' h
      rw [hszm] at w1
      simp only [szC_eq t.type] at w1 wo
      generalize List.map szC g = G at *
      have htake : List.take g.length G = G := by rw [List.take_of_length_le]; omega
      refine t_g @hk2 ?_
      refine t_c1 (j2 @hk2 @fty) wo ?_
      refine t_c1 (j2 @hk2 (j2 @hb (j2 @htake (j2 @hlm (j2 @hwid @hgl1))))) w1 ?_
      refine t_g0 ?_
      refine t_r ?_
      simp [go_sem, hP, hgl, hn] <;> (try omega)
      all_goals exact t_f
  rw [if_neg hk2] at h
  have hlen := Tm.fit_len (hfit t.dv (by simp))
  have h3 : t.args.length ≤ 3 := by
    have : arityI t.kind ≤ 3 := by unfold arityI; repeat' split
                                   all_goals omega
    omega
  have ftt := Tm.fold t
  have stepOK : ∀ (i : Nat) (x : Tm), t.args[i]? = some x → (x.inferN g).2 = 0 → Con1 Tryz.prog gl 85 [.sl (g.map szC), x.dv] [] (.tup [.agg (szC (x.inferN g).1), dint 0]) [] := by
    intro i x hx h0
    have hm := List.mem_of_getElem? hx
    have hcx := Tm.count_mem hm
    have hct := Tm.count_eq t
    exact typeof_t_ok x g (by omega) (hs x hm) hg h0
  by_cases hI : (Tm.inferN.infers t.args g).2 = 0
  · rw [if_pos hI] at h
    obtain ⟨h10, hbg⟩ := rule_big hk2 h
    obtain ⟨hdl, hall⟩ := Tm.infers_all t.args g hI
    rw [h10] at ha
    match hargs : t.args, ha with
    | [x, y], _ =>
      obtain ⟨x1, x2⟩ := hall 0 x (by rw [hargs]; rfl)
      obtain ⟨y1, y2⟩ := hall 1 y (by rw [hargs]; rfl)
      have w := stepOK 0 x (by rw [hargs]; rfl) x1
      have v := stepOK 1 y (by rw [hargs]; rfl) y1
      have xo := Tm.inferN_ok x g (hs x (by rw [hargs]; simp)) hg x1
      have yo := Tm.inferN_ok y g (hs y (by rw [hargs]; simp)) hg y1
      have e0 : (Tm.inferN.infers t.args g).1.getD 0 zeroTy = (x.inferN g).1 := by rw [List.getD_eq_getElem?_getD, x2]; rfl
      have e1 : (Tm.inferN.infers t.args g).1.getD 1 zeroTy = (y.inferN g).1 := by rw [List.getD_eq_getElem?_getD, y2]; rfl
      rw [e0, e1] at hbg
      have hbig := okN_big (.inl rfl) xo yo hbg
      generalize (x.inferN g).1 = d at *
      generalize (y.inferN g).1 = e at *
      have wn := node_k10_big (gl := gl) t h10 d e xo.2 yo.2 hbig
      rw [sz3_2] at wn
      simp only [szC_eq] at w v
      clear ih stepOK
      generalize List.map szC g = G at *
      rw [hargs] at ftt
      simp only [List.map_cons, List.map_nil] at ftt
      rw [Tm.cells_eq x, Tm.cells_eq y] at ftt
      refine t_g (j2 @h1 (j2 @hk2 @hargs)) ?_
      refine W_loop ?_
      refine t_g @hargs ?_
      refine t_c1 trivial w ?_
      refine t_g0 ?_
      refine W_sub [] (s' := [(.slot 0, .one (.v (.sl G))), (.slot 67, .one (.v (dint 1))), (.slot 66, .one (.v (dint 2))), (.slot 65, .one (.v (.sl [x.cells, y.cells]))), (.slot 3, .one (.loc 3 0)), (.loc 3, .row ([.v (dint t.kind), .v (dint t.index), .v (dint t.type.kind), .v (.sl (t.type.args.map Ty.cells)), .v (.sl [x.cells, y.cells])])), (.slot 4, .one (.loc 4 0)), (.loc 4, .row ([.v (dint 0), .own 0 [], .v (dint 0)])), (.slot 9, .one (.loc 9 0)), (.loc 9, .row ([.v (dint d.kind), .v (.sl (d.args.map Ty.cells)), .v (dint (d.count : Int)), .v (dint 0), .own 0 [], .v (dint 0), .v (dint 0), .own 0 [], .v (dint 0)]))]) (by simp [go_sem]) (by simp [go_sem, hargs]) (by simp [go_sem]) ?_
      refine W_inLoop ?_
      refine t_g @hargs ?_
      refine t_c1 trivial v ?_
      refine t_g0 ?_
      refine W_sub [] (s' := [(.slot 0, .one (.v (.sl G))), (.slot 67, .one (.v (dint 2))), (.slot 66, .one (.v (dint 2))), (.slot 65, .one (.v (.sl [x.cells, y.cells]))), (.slot 3, .one (.loc 3 0)), (.loc 3, .row ([.v (dint t.kind), .v (dint t.index), .v (dint t.type.kind), .v (.sl (t.type.args.map Ty.cells)), .v (.sl [x.cells, y.cells])])), (.slot 4, .one (.loc 4 0)), (.loc 4, .row ([.v (dint 0), .own 0 [], .v (dint 0)])), (.slot 9, .one (.loc 9 0)), (.loc 9, .row ([.v (dint d.kind), .v (.sl (d.args.map Ty.cells)), .v (dint (d.count : Int)), .v (dint e.kind), .v (.sl (e.args.map Ty.cells)), .v (dint (e.count : Int)), .v (dint 0), .own 0 [], .v (dint 0)]))]) (by simp [go_sem]) (by simp [go_sem, hargs]) (by simp [go_sem]) ?_
      refine W_inLoop ?_
      refine t_g0 ?_
      refine t_c1 @ftt wn ?_
      refine t_r ?_
      simp [go_sem, hP, hgl, hn] <;> (try omega)
  rw [if_neg hI] at h
  obtain ⟨i, z, z1, z2, z3⟩ := infers_first h
  have zm := List.mem_of_getElem? z1
  have wz := ih z zm g (by have hcx := Tm.count_mem zm; have hct := Tm.count_eq t; omega) (hs z zm) hg z2
  clear ih
  have hiz : i < t.args.length := (List.getElem?_eq_some_iff.1 z1).1
  match hargs : t.args, h3 with
  | [], _ => rw [hargs] at hiz; simp at hiz
  | [x], _ =>
    rw [hargs] at z1 z3 hiz ftt
    simp only [List.map_cons, List.map_nil] at ftt
    rw [Tm.cells_eq x] at ftt
    match i, hiz, z1, z3 with
    | 0, _, z1, z3 =>
      simp at z1
      subst z1
      clear stepOK
      generalize List.map szC g = G at *
      refine t_g (j2 @h1 (j2 @hk2 @hargs)) ?_
      refine W_loop ?_
      refine t_g @hargs ?_
      refine t_c1 trivial wz ?_
      refine t_g0 ?_
      refine t_r ?_
      simp [go_sem, hP, hgl, hn] <;> (try omega)
      all_goals exact t_f
    | i + 1, hiz, _, _ => exact absurd hiz (by simp)
  | [x, y], _ =>
    rw [hargs] at z1 z3 hiz ftt
    simp only [List.map_cons, List.map_nil] at ftt
    rw [Tm.cells_eq x, Tm.cells_eq y] at ftt
    match i, hiz, z1, z3 with
    | 0, _, z1, z3 =>
      simp at z1
      subst z1
      clear stepOK
      generalize List.map szC g = G at *
      refine t_g (j2 @h1 (j2 @hk2 @hargs)) ?_
      refine W_loop ?_
      refine t_g @hargs ?_
      refine t_c1 trivial wz ?_
      refine t_g0 ?_
      refine t_r ?_
      simp [go_sem, hP, hgl, hn] <;> (try omega)
      all_goals exact t_f
    | 1, _, z1, z3 =>
      simp at z1
      subst z1
      have w := stepOK 0 x (by rw [hargs]; rfl) (z3 0 x (by omega) rfl)
      generalize (x.inferN g).1 = d at *
      simp only [szC_eq] at w
      clear stepOK
      generalize List.map szC g = G at *
      refine t_g (j2 @h1 (j2 @hk2 @hargs)) ?_
      refine W_loop ?_
      refine t_g @hargs ?_
      refine t_c1 trivial w ?_
      refine t_g0 ?_
      refine W_sub [] (s' := [(.slot 0, .one (.v (.sl G))), (.slot 67, .one (.v (dint 1))), (.slot 66, .one (.v (dint 2))), (.slot 65, .one (.v (.sl [x.cells, y.cells]))), (.slot 3, .one (.loc 3 0)), (.loc 3, .row ([.v (dint t.kind), .v (dint t.index), .v (dint t.type.kind), .v (.sl (t.type.args.map Ty.cells)), .v (.sl [x.cells, y.cells])])), (.slot 4, .one (.loc 4 0)), (.loc 4, .row ([.v (dint 0), .own 0 [], .v (dint 0)])), (.slot 9, .one (.loc 9 0)), (.loc 9, .row ([.v (dint d.kind), .v (.sl (d.args.map Ty.cells)), .v (dint (d.count : Int)), .v (dint 0), .own 0 [], .v (dint 0), .v (dint 0), .own 0 [], .v (dint 0)]))]) (by simp [go_sem]) (by simp [go_sem, hargs]) (by simp [go_sem]) ?_
      refine W_inLoop ?_
      refine t_g @hargs ?_
      refine t_c1 trivial wz ?_
      refine t_g0 ?_
      refine t_r ?_
      simp [go_sem, hP, hgl, hn] <;> (try omega)
      all_goals exact t_f
    | i + 2, hiz, _, _ => exact absurd hiz (by simp)
  | [x, y, z'], _ =>
    rw [hargs] at z1 z3 hiz ftt
    simp only [List.map_cons, List.map_nil] at ftt
    rw [Tm.cells_eq x, Tm.cells_eq y, Tm.cells_eq z'] at ftt
    match i, hiz, z1, z3 with
    | 0, _, z1, z3 =>
      simp at z1
      subst z1
      clear stepOK
      generalize List.map szC g = G at *
      refine t_g (j2 @h1 (j2 @hk2 @hargs)) ?_
      refine W_loop ?_
      refine t_g @hargs ?_
      refine t_c1 trivial wz ?_
      refine t_g0 ?_
      refine t_r ?_
      simp [go_sem, hP, hgl, hn] <;> (try omega)
      all_goals exact t_f
    | 1, _, z1, z3 =>
      simp at z1
      subst z1
      have w := stepOK 0 x (by rw [hargs]; rfl) (z3 0 x (by omega) rfl)
      generalize (x.inferN g).1 = d at *
      simp only [szC_eq] at w
      clear stepOK
      generalize List.map szC g = G at *
      refine t_g (j2 @h1 (j2 @hk2 @hargs)) ?_
      refine W_loop ?_
      refine t_g @hargs ?_
      refine t_c1 trivial w ?_
      refine t_g0 ?_
      refine W_sub [] (s' := [(.slot 0, .one (.v (.sl G))), (.slot 67, .one (.v (dint 1))), (.slot 66, .one (.v (dint 3))), (.slot 65, .one (.v (.sl [x.cells, y.cells, z'.cells]))), (.slot 3, .one (.loc 3 0)), (.loc 3, .row ([.v (dint t.kind), .v (dint t.index), .v (dint t.type.kind), .v (.sl (t.type.args.map Ty.cells)), .v (.sl [x.cells, y.cells, z'.cells])])), (.slot 4, .one (.loc 4 0)), (.loc 4, .row ([.v (dint 0), .own 0 [], .v (dint 0)])), (.slot 9, .one (.loc 9 0)), (.loc 9, .row ([.v (dint d.kind), .v (.sl (d.args.map Ty.cells)), .v (dint (d.count : Int)), .v (dint 0), .own 0 [], .v (dint 0), .v (dint 0), .own 0 [], .v (dint 0)]))]) (by simp [go_sem]) (by simp [go_sem, hargs]) (by simp [go_sem]) ?_
      refine W_inLoop ?_
      refine t_g @hargs ?_
      refine t_c1 trivial wz ?_
      refine t_g0 ?_
      refine t_r ?_
      simp [go_sem, hP, hgl, hn] <;> (try omega)
      all_goals exact t_f
    | 2, _, z1, z3 =>
      simp at z1
      subst z1
      have w := stepOK 0 x (by rw [hargs]; rfl) (z3 0 x (by omega) rfl)
      have v := stepOK 1 y (by rw [hargs]; rfl) (z3 1 y (by omega) rfl)
      generalize (x.inferN g).1 = d at *
      generalize (y.inferN g).1 = e at *
      simp only [szC_eq] at w v
      clear stepOK
      generalize List.map szC g = G at *
      refine t_g (j2 @h1 (j2 @hk2 @hargs)) ?_
      refine W_loop ?_
      refine t_g @hargs ?_
      refine t_c1 trivial w ?_
      refine t_g0 ?_
      refine W_sub [] (s' := [(.slot 0, .one (.v (.sl G))), (.slot 67, .one (.v (dint 1))), (.slot 66, .one (.v (dint 3))), (.slot 65, .one (.v (.sl [x.cells, y.cells, z'.cells]))), (.slot 3, .one (.loc 3 0)), (.loc 3, .row ([.v (dint t.kind), .v (dint t.index), .v (dint t.type.kind), .v (.sl (t.type.args.map Ty.cells)), .v (.sl [x.cells, y.cells, z'.cells])])), (.slot 4, .one (.loc 4 0)), (.loc 4, .row ([.v (dint 0), .own 0 [], .v (dint 0)])), (.slot 9, .one (.loc 9 0)), (.loc 9, .row ([.v (dint d.kind), .v (.sl (d.args.map Ty.cells)), .v (dint (d.count : Int)), .v (dint 0), .own 0 [], .v (dint 0), .v (dint 0), .own 0 [], .v (dint 0)]))]) (by simp [go_sem]) (by simp [go_sem, hargs]) (by simp [go_sem]) ?_
      refine W_inLoop ?_
      refine t_g @hargs ?_
      refine t_c1 trivial v ?_
      refine t_g0 ?_
      refine W_sub [] (s' := [(.slot 0, .one (.v (.sl G))), (.slot 67, .one (.v (dint 2))), (.slot 66, .one (.v (dint 3))), (.slot 65, .one (.v (.sl [x.cells, y.cells, z'.cells]))), (.slot 3, .one (.loc 3 0)), (.loc 3, .row ([.v (dint t.kind), .v (dint t.index), .v (dint t.type.kind), .v (.sl (t.type.args.map Ty.cells)), .v (.sl [x.cells, y.cells, z'.cells])])), (.slot 4, .one (.loc 4 0)), (.loc 4, .row ([.v (dint 0), .own 0 [], .v (dint 0)])), (.slot 9, .one (.loc 9 0)), (.loc 9, .row ([.v (dint d.kind), .v (.sl (d.args.map Ty.cells)), .v (dint (d.count : Int)), .v (dint e.kind), .v (.sl (e.args.map Ty.cells)), .v (dint (e.count : Int)), .v (dint 0), .own 0 [], .v (dint 0)]))]) (by simp [go_sem]) (by simp [go_sem, hargs]) (by simp [go_sem]) ?_
      refine W_inLoop ?_
      refine t_g @hargs ?_
      refine t_c1 trivial wz ?_
      refine t_g0 ?_
      refine t_r ?_
      simp [go_sem, hP, hgl, hn] <;> (try omega)
      all_goals exact t_f
    | i + 3, hiz, _, _ => exact absurd hiz (by simp)

/-- terms.TypeOf of closed terms that mean something -/
theorem terms_typeof_dn (har : globOf gl 0 = some arEls) {t : Tm} {a : T} {F : Env [] → a.V} (h : Dn [] t a F) (hc : t.count ≤ 536870912) :
    Con1 Tryz.prog gl 29 [.sl [], t.dv] [] (if (t.typeE []).2 = 0 then .tup [a.ty.dv, dint 0] else .tup [(Ty.mk 0 []).dv, dint 4]) [] := by
  have hs := dn_shape h
  have hct : ctxN [] = 0 := rfl
  by_cases hk : t.checkN = 0
  · have hty : t.typeE [] = t.inferN [] := by
      unfold Tm.typeE Tm.typedE
      rw [if_pos hct, if_pos hk]
    rw [hty]
    have hcc := ((Tm.checkN_iff t).1 hk).2
    rcases infer_of_dn h with h1 | h1
    · have h1 : t.inferN [] = (a.ty, 0) := h1
      rw [h1]
      exact terms_typeof_ok har t a.ty hk h1
    · have h1 : (t.inferN []).2 = 4 := h1
      rw [if_neg (by rw [h1]; decide)]
      have w2 := termscheck_ok (gl := gl) har t (shape_tys t hs) (by omega)
      rw [hk] at w2
      have w3 := typeof_t_big (gl := gl) t [] (by simp; omega) hs (by simp) h1
      have ftt := Tm.fold t
      have fz : DV.agg [dint 0, .sl []] = (Ty.mk 0 []).dv := rfl
      simp only [List.map_nil] at w3
      refine t_in Tryz.func29 ?_
      intro X hP hgl hf hfn hn hR hids hfit
      refine t_g0 ?_
      refine t_c1 trivial types_context_nil ?_
      refine t_g0 ?_
      refine t_c1 @ftt w2 ?_
      refine t_g0 ?_
      refine t_c2 @ftt typing_from_nil w3 ?_
      refine t_g0 ?_
      refine t_r ?_
      simp [go_sem, hP, hgl, hn] <;> (try omega)
      all_goals exact t_f
  · have hk4 : t.checkN = 4 := by
      unfold Tm.checkN at hk ⊢
      rw [if_pos hs] at hk ⊢
      split at hk
      · rename_i q; rw [if_pos q]
      · exact absurd rfl hk
    have hty : (t.typeE []).2 = 4 := by
      unfold Tm.typeE Tm.typedE
      rw [if_pos hct, if_neg hk]
      exact hk4
    rw [if_neg (by rw [hty]; decide)]
    have w2 := termscheck_ok (gl := gl) har t (shape_tys t hs) (by omega)
    rw [hk4] at w2
    have ftt := Tm.fold t
    have fz : DV.agg [dint 0, .sl []] = (Ty.mk 0 []).dv := rfl
    refine t_in Tryz.func29 ?_
    intro X hP hgl hf hfn hn hR hids hfit
    refine t_g0 ?_
    refine t_c1 trivial types_context_nil ?_
    refine t_g0 ?_
    refine t_c1 @ftt w2 ?_
    refine t_g0 ?_
    refine t_r ?_
    simp [go_sem, hP, hgl, hn] <;> (try omega)
    all_goals exact t_f
end Go.Proofs.YtcldnfbcbkaanaaGreatDoor.Lift

