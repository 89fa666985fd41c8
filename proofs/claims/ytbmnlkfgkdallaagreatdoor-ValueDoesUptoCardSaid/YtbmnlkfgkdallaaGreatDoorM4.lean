import Derived.Test.YtbmnlkfgkdallaaGreatDoorM3
namespace Go.Proofs.YtbmnlkfgkdallaaGreatDoor.Lift
set_option linter.unusedSimpArgs false
set_option linter.unusedVariables false
set_option linter.unnecessarySimpa false
open Go
variable {gl : Globs}

def funP (g : List Ty) (t : Ty) (i : Nat) : Bool := decide ((varTy g i).kind = 4) && ((varTy g i).arg 1).same t
theorem upto_snoc {Q : Nat → Prop} {i : Nat} (h : ∀ j, j < i → Q j) (hi : Q i) : ∀ j, j < i + 1 → Q j := by
  intro j hj
  by_cases e : j = i
  · rw [e]; exact hi
  · exact h j (by omega)
theorem funN_found {g : List Ty} {t : Ty} {i : Nat} (hi : i < g.length) (h : ∀ j, j < i → funP g t j = false) (hp : funP g t i = true) : funN g t = some i := by
  unfold funN
  rw [List.find?_range_eq_some]
  exact ⟨hp, List.mem_range.2 hi, fun j hj => by show (!funP g t j) = true; rw [h j hj]; rfl⟩
theorem funN_none {g : List Ty} {t : Ty} (h : ∀ j, j < g.length → funP g t j = false) : funN g t = none := by
  unfold funN
  rw [List.find?_eq_none]
  intro j hj
  show ¬ funP g t j = true
  rw [h j (List.mem_range.1 hj)]
  decide

theorem W_cutXP {X : Ctx} {k kk : List Item} {s : St} (E : Prop) (S : St) (h1 : (E → W X kk S) → W X k s) (h2 : E → W X kk S) : W X k s := h1 h2

set_option maxHeartbeats 4000000 in
theorem mk_term_ok (b : Nat) (l : List Int) (hl : l.length ≤ 500) (n : Nat) (hn9 : n ≤ 9) : ∀ (t : Ty) (g : List Ty) (p : Nat), t.small → (∀ x ∈ g, x.small) → g.length + 3 * n + 15 ≤ 1000000 → p ≤ l.length →
    Con1 Tryz.prog gl 22 [ptr b, .sl (g.map Ty.cells), t.dv, dint n] [(b, deck l p)] (termD l n t g p).1.dv [(b, deck l (termD l n t g p).2)] := by
  induction n with
  | zero =>
    intro t g p ht hg hgl1 hp
    exact mk_term_leaf b l hl t 0 g p (by omega) (by have := ht.2; omega) ht hg (by have := ht.2; omega) hp
  | succ n ihn0 =>
  intro t g p ht hg hgl1 hp
  have ihn := ihn0 (by omega)
  have hD := termD_facts (l := l) closed_shape n
  have hg1 : ∀ a : List Ty, (∀ x ∈ a, x.small) → ∀ x ∈ g ++ a, x.small := by
    intro a ha x hx
    rcases List.mem_append.1 hx with hx | hx
    · exact hg x hx
    · exact ha x hx
  have hz2 : (0 : Int) < ((n + 1 : Nat) : Int) := by omega
  have hsub : ((n + 1 : Nat) : Int) - 1 = (n : Int) := by omega
  refine t_in Tryz.func22 ?_
  intro X hP hgl hf hfn hn hR hids hfit
  rw [termD] at hR
  have hvl : (varsN g t).length ≤ g.length := varsP_le g t g.length
  have hq3 := nextD_le (n := 3) hp
  have hb3 := nextD_bd (l := l) (p := p) (n := 3) (by decide)
  rcases hpk : pickD l t g p with ⟨_ | x, q⟩
  · rw [hpk] at hR
    simp only at hR
    have hq : q ≤ l.length := by have := pickD_le (t := t) (g := g) hp; rw [hpk] at this; exact this
    apply W_cutX [(.slot 0, .one (.v (ptr b))), (.slot 1, .one (.v (.sl (g.map Ty.cells)))), (.slot 3, .one (.v (dint ((n + 1 : Nat) : Int)))), (.slot 6, .one (.loc 6 0)), (.loc 6, .row ([.v (dint t.kind), .v (.sl (t.args.map Ty.cells))])), (.slot 8, .one (.loc 8 0)), (.loc 8, .row ([.v (dint 0), .v (dint 0), .v (dint 0), .own 0 [], .own 0 []])), (.heap  b, .row ([.v (.sl (ints l)), .v (dint q)]))]
    · intro hrest
      refine t_g0 ?_
      refine t_c1 trivial (mk_vars_ok g t (by omega)) ?_
      rcases pickD_none hpk with ⟨h0, rfl⟩ | ⟨h0, h1, rfl⟩
      · refine t_g (j2 @natI_len @h0) ?_
        refine t_b ?_
        refine t_sub [] trivial hrest
      · have hpos : 0 < (varsN g t).length := by omega
        refine t_g0 ?_
        refine t_c1 (j2 @natI_len (j2 @hpos @h1)) (next_ok b l p 3 (by decide) (by omega)) ?_
        refine t_g @h1 ?_
        refine t_b ?_
        refine t_sub [] trivial hrest
    · have hq8 := nextD_le (n := 8) hq
      have hb8 := nextD_bd (l := l) (p := q) (n := 8) (by decide)
      refine t_g @hz2 ?_
      refine t_c1 trivial (next_ok b l q 8 (by decide) (by omega)) ?_
      generalize hd : nextD l q 8 = d at *
      obtain ⟨k, r⟩ := d
      simp only at hR hb8 hq8
      have hr : r ≤ l.length := hq8
      by_cases h0 : k = 0
      · rw [stepD, if_pos h0] at hR
        have cs := mk_type_ok (gl := gl) 0 b l r hl hr (by decide)
        obtain ⟨fs, ss⟩ := typeD_small l (n := 0) hr (by decide)
        generalize hes : typeD l 0 r = rs at cs fs ss hR
        obtain ⟨s, qs⟩ := rs
        simp only at cs fs ss hR
        have cx := ihn (t) (g ++ [s]) qs ht (hg1 [s] (by simpa using ss)) (by simp; omega) fs
        have fx := (hD (t) (g ++ [s]) qs ht (hg1 [s] (by simpa using ss)) fs).1
        generalize hex : termD l n (t) (g ++ [s]) qs = rx at cx fx hR
        obtain ⟨x, qx⟩ := rx
        simp only at cx fx hR
        have cy := ihn (s) (g) qx ss hg (by omega) fx
        have fy := (hD (s) (g) qx ss hg fx).1
        generalize hey : termD l n (s) (g) qx = ry at cy fy hR
        obtain ⟨y, qy⟩ := ry
        simp only at cy fy hR
        refine t_g @h0 ?_
        refine t_c1 trivial cs ?_
        refine t_c5 @hsub (mk_longer_ok g [s] (by simp; omega)) cx (ref02_t_ok 2 s [x]) cy (ref02_n_ok 3 [Tm.mk 2 0 s [x], y]) ?_
        repeat (first | refine W_seq ?_ | refine W_skip ?_ | refine W_block ?_ | refine W_inBlock ?_ | refine W_label ?_ | refine W_exit rfl ?_)
        first | refine W_retR hP hf hfn _ ([(b, deck l qy)]) (by first | (simp [go_sem, hP, hgl, hn, nT]; done) | (simp [go_sem, hP, hgl, hn, nT]; rfl)) (by simp [go_sem, hP, hgl, hn, nT]) (by simp) ?_ hR.2 | refine W_endR hP hf hfn _ ([(b, deck l qy)]) (by first | (simp [go_sem, hP, hgl, hn, nT]; done) | (simp [go_sem, hP, hgl, hn, nT]; rfl)) (by simp [go_sem, hP, hgl, hn, nT]) (by simp) ?_ hR.2
        rw [hR.1]
        refine ⟨?_, by simp [nT]⟩
        try simp [nT]
        try all_goals (simp [Ty.dv, Ty.cells_eq, Ty.kind_mk, Ty.args_mk, Tm.dv, Tm.cells_eq, Tm.kind_mk, Tm.index_mk, Tm.type_mk, Tm.args_mk, Val.dv, Val.cells_eq, Val.kind_mk, Val.num_mk, Val.list_mk, Val.args_mk, ints])
      by_cases h1 : k = 1
      · rw [stepD, if_neg h0, if_pos h1] at hR
        have cs := mk_type_ok (gl := gl) 0 b l r hl hr (by decide)
        obtain ⟨fs, ss⟩ := typeD_small l (n := 0) hr (by decide)
        generalize hes : typeD l 0 r = rs at cs fs ss hR
        obtain ⟨s, qs⟩ := rs
        simp only at cs fs ss hR
        have cx := ihn (t) (g) qs ht hg (by omega) fs
        have fx := (hD (t) (g) qs ht hg fs).1
        generalize hex : termD l n (t) (g) qs = rx at cx fx hR
        obtain ⟨x, qx⟩ := rx
        simp only at cx fx hR
        have cy := ihn (s) (g) qx ss hg (by omega) fx
        have fy := (hD (s) (g) qx ss hg fx).1
        generalize hey : termD l n (s) (g) qx = ry at cy fy hR
        obtain ⟨y, qy⟩ := ry
        simp only at cy fy hR
        refine t_g @h1 ?_
        refine t_c1 trivial cs ?_
        refine t_c4 @hsub cx cy (ref02_n_ok 10 [x, y]) (ref02_n_ok 11 [Tm.mk 10 0 (Ty.mk 0 []) [x, y]]) ?_
        repeat (first | refine W_seq ?_ | refine W_skip ?_ | refine W_block ?_ | refine W_inBlock ?_ | refine W_label ?_ | refine W_exit rfl ?_)
        first | refine W_retR hP hf hfn _ ([(b, deck l qy)]) (by first | (simp [go_sem, hP, hgl, hn, nT]; done) | (simp [go_sem, hP, hgl, hn, nT]; rfl)) (by simp [go_sem, hP, hgl, hn, nT]) (by simp) ?_ hR.2 | refine W_endR hP hf hfn _ ([(b, deck l qy)]) (by first | (simp [go_sem, hP, hgl, hn, nT]; done) | (simp [go_sem, hP, hgl, hn, nT]; rfl)) (by simp [go_sem, hP, hgl, hn, nT]) (by simp) ?_ hR.2
        rw [hR.1]
        refine ⟨?_, by simp [nT]⟩
        try simp [nT]
        try all_goals (simp [Ty.dv, Ty.cells_eq, Ty.kind_mk, Ty.args_mk, Tm.dv, Tm.cells_eq, Tm.kind_mk, Tm.index_mk, Tm.type_mk, Tm.args_mk, Val.dv, Val.cells_eq, Val.kind_mk, Val.num_mk, Val.list_mk, Val.args_mk, ints])
      by_cases h2 : k = 2
      · rw [stepD, if_neg h0, if_neg h1, if_pos h2] at hR
        have cx := ihn (t) (g ++ [Ty.mk 1 [], t]) r ht (hg1 [Ty.mk 1 [], t] (by intro x hx; simp at hx; rcases hx with rfl | rfl; exact small_nat; exact ht)) (by simp; omega) hr
        have fx := (hD (t) (g ++ [Ty.mk 1 [], t]) r ht (hg1 [Ty.mk 1 [], t] (by intro x hx; simp at hx; rcases hx with rfl | rfl; exact small_nat; exact ht)) hr).1
        generalize hex : termD l n (t) (g ++ [Ty.mk 1 [], t]) r = rx at cx fx hR
        obtain ⟨x, qx⟩ := rx
        simp only at cx fx hR
        have cy := ihn (t) (g) qx ht hg (by omega) fx
        have fy := (hD (t) (g) qx ht hg fx).1
        generalize hey : termD l n (t) (g) qx = ry at cy fy hR
        obtain ⟨y, qy⟩ := ry
        simp only at cy fy hR
        have hqy := nextD_le (n := 3) fy
        have hby := nextD_bd (l := l) (p := qy) (n := 3) (by decide)
        obtain ⟨m, hm⟩ : ∃ m : Nat, (nextD l qy 3).1 = m := ⟨_, (Int.toNat_of_nonneg hby.1).symm⟩
        rw [hm] at hby
        refine t_g @h2 ?_
        refine t_c6 (j2 @hsub @nat_v) ref01_nat_ok ref01_nat_ok (mk_longer_ok g [Ty.mk 1 [], t] (by simp; omega)) cx (ref02_t_ok 2 t [x]) (ref02_t_ok 2 (Ty.mk 1 []) [Tm.mk 2 0 t [x]]) ?_
        refine t_c4 (j2 @hsub @hm) cy (next_ok b l qy 3 (by decide) (by omega)) (mk_num_ok m (by omega)) (ref02_t_ok 6 t [y, Tm.mk 2 0 (Ty.mk 1 []) [Tm.mk 2 0 t [x]], numTm m]) ?_
        repeat (first | refine W_seq ?_ | refine W_skip ?_ | refine W_block ?_ | refine W_inBlock ?_ | refine W_label ?_ | refine W_exit rfl ?_)
        first | refine W_retR hP hf hfn _ ([(b, deck l (nextD l qy 3).2)]) (by first | (simp [go_sem, hP, hgl, hn, numD, hm]; done) | (simp [go_sem, hP, hgl, hn, numD, hm]; rfl)) (by simp [go_sem, hP, hgl, hn, numD, hm]) (by simp) ?_ hR.2 | refine W_endR hP hf hfn _ ([(b, deck l (nextD l qy 3).2)]) (by first | (simp [go_sem, hP, hgl, hn, numD, hm]; done) | (simp [go_sem, hP, hgl, hn, numD, hm]; rfl)) (by simp [go_sem, hP, hgl, hn, numD, hm]) (by simp) ?_ hR.2
        rw [hR.1]
        refine ⟨?_, by simp [numD, hm]⟩
        try simp [numD, hm]
        try all_goals (simp [Ty.dv, Ty.cells_eq, Ty.kind_mk, Ty.args_mk, Tm.dv, Tm.cells_eq, Tm.kind_mk, Tm.index_mk, Tm.type_mk, Tm.args_mk, Val.dv, Val.cells_eq, Val.kind_mk, Val.num_mk, Val.list_mk, Val.args_mk, ints])
      by_cases h3 : k = 3
      · rw [stepD, if_neg h0, if_neg h1, if_neg h2, if_pos h3] at hR
        have cx := ihn (t) (g ++ [Ty.mk 1 [], Ty.mk 2 [], t]) r ht (hg1 [Ty.mk 1 [], Ty.mk 2 [], t] (by intro x hx; simp at hx; rcases hx with rfl | rfl | rfl; exact small_nat; exact small_list; exact ht)) (by simp; omega) hr
        have fx := (hD (t) (g ++ [Ty.mk 1 [], Ty.mk 2 [], t]) r ht (hg1 [Ty.mk 1 [], Ty.mk 2 [], t] (by intro x hx; simp at hx; rcases hx with rfl | rfl | rfl; exact small_nat; exact small_list; exact ht)) hr).1
        generalize hex : termD l n (t) (g ++ [Ty.mk 1 [], Ty.mk 2 [], t]) r = rx at cx fx hR
        obtain ⟨x, qx⟩ := rx
        simp only at cx fx hR
        have cy := ihn (t) (g) qx ht hg (by omega) fx
        have fy := (hD (t) (g) qx ht hg fx).1
        generalize hey : termD l n (t) (g) qx = ry at cy fy hR
        obtain ⟨y, qy⟩ := ry
        simp only at cy fy hR
        have cz := ihn (Ty.mk 2 []) (g) qy small_list hg (by omega) fy
        have fz := (hD (Ty.mk 2 []) (g) qy small_list hg fy).1
        generalize hez : termD l n (Ty.mk 2 []) (g) qy = rz at cz fz hR
        obtain ⟨z, qz⟩ := rz
        simp only at cz fz hR
        refine t_g @h3 ?_
        refine t_c9 (j2 @hsub (j2 @nat_v @list_v)) ref01_nat_ok ref01_list_ok ref01_nat_ok ref01_list_ok (mk_longer_ok g [Ty.mk 1 [], Ty.mk 2 [], t] (by simp; omega)) cx (ref02_t_ok 2 t [x]) (ref02_t_ok 2 (Ty.mk 2 []) [Tm.mk 2 0 t [x]]) (ref02_t_ok 2 (Ty.mk 1 []) [Tm.mk 2 0 (Ty.mk 2 []) [Tm.mk 2 0 t [x]]]) ?_
        refine t_c4 (j2 @hsub @list_v) cy ref01_list_ok cz (ref02_t_ok 9 t [y, Tm.mk 2 0 (Ty.mk 1 []) [Tm.mk 2 0 (Ty.mk 2 []) [Tm.mk 2 0 t [x]]], z]) ?_
        repeat (first | refine W_seq ?_ | refine W_skip ?_ | refine W_block ?_ | refine W_inBlock ?_ | refine W_label ?_ | refine W_exit rfl ?_)
        first | refine W_retR hP hf hfn _ ([(b, deck l qz)]) (by first | (simp [go_sem, hP, hgl, hn]; done) | (simp [go_sem, hP, hgl, hn]; rfl)) (by simp [go_sem, hP, hgl, hn]) (by simp) ?_ hR.2 | refine W_endR hP hf hfn _ ([(b, deck l qz)]) (by first | (simp [go_sem, hP, hgl, hn]; done) | (simp [go_sem, hP, hgl, hn]; rfl)) (by simp [go_sem, hP, hgl, hn]) (by simp) ?_ hR.2
        rw [hR.1]
        refine ⟨?_, by simp⟩
        try simp
        try all_goals (simp [Ty.dv, Ty.cells_eq, Ty.kind_mk, Ty.args_mk, Tm.dv, Tm.cells_eq, Tm.kind_mk, Tm.index_mk, Tm.type_mk, Tm.args_mk, Val.dv, Val.cells_eq, Val.kind_mk, Val.num_mk, Val.list_mk, Val.args_mk, ints])
      by_cases h4 : k = 4
      · rw [stepD, if_neg h0, if_neg h1, if_neg h2, if_neg h3, if_pos h4] at hR
        have cs := mk_type_ok (gl := gl) 0 b l r hl hr (by decide)
        obtain ⟨fs, ss⟩ := typeD_small l (n := 0) hr (by decide)
        generalize hes : typeD l 0 r = rs at cs fs ss hR
        obtain ⟨s, qs⟩ := rs
        simp only at cs fs ss hR
        have cx := ihn (s) (g) qs ss hg (by omega) fs
        have fx := (hD (s) (g) qs ss hg fs).1
        generalize hex : termD l n (s) (g) qs = rx at cx fx hR
        obtain ⟨x, qx⟩ := rx
        simp only at cx fx hR
        have cy := ihn (t) (g) qx ht hg (by omega) fx
        have fy := (hD (t) (g) qx ht hg fx).1
        generalize hey : termD l n (t) (g) qx = ry at cy fy hR
        obtain ⟨y, qy⟩ := ry
        simp only at cy fy hR
        refine t_g @h4 ?_
        refine t_c1 trivial cs ?_
        refine t_c4 @hsub cx cy (ref02_n_ok 10 [x, y]) (ref02_n_ok 12 [Tm.mk 10 0 (Ty.mk 0 []) [x, y]]) ?_
        repeat (first | refine W_seq ?_ | refine W_skip ?_ | refine W_block ?_ | refine W_inBlock ?_ | refine W_label ?_ | refine W_exit rfl ?_)
        first | refine W_retR hP hf hfn _ ([(b, deck l qy)]) (by first | (simp [go_sem, hP, hgl, hn, nT]; done) | (simp [go_sem, hP, hgl, hn, nT]; rfl)) (by simp [go_sem, hP, hgl, hn, nT]) (by simp) ?_ hR.2 | refine W_endR hP hf hfn _ ([(b, deck l qy)]) (by first | (simp [go_sem, hP, hgl, hn, nT]; done) | (simp [go_sem, hP, hgl, hn, nT]; rfl)) (by simp [go_sem, hP, hgl, hn, nT]) (by simp) ?_ hR.2
        rw [hR.1]
        refine ⟨?_, by simp [nT]⟩
        try simp [nT]
        try all_goals (simp [Ty.dv, Ty.cells_eq, Ty.kind_mk, Ty.args_mk, Tm.dv, Tm.cells_eq, Tm.kind_mk, Tm.index_mk, Tm.type_mk, Tm.args_mk, Val.dv, Val.cells_eq, Val.kind_mk, Val.num_mk, Val.list_mk, Val.args_mk, ints])
      apply W_cutXP (stepD l (termD l n) t g k r = endD l (termD l n) t g r) [(.slot 215, .one (.v (dbool (decide (t.kind = 1))))), (.slot 214, .one (.v (dint t.kind))), (.slot 0, .one (.v (ptr b))), (.slot 1, .one (.v (.sl (g.map Ty.cells)))), (.slot 3, .one (.v (dint ((n + 1 : Nat) : Int)))), (.slot 6, .one (.loc 6 0)), (.loc 6, .row ([.v (dint t.kind), .v (.sl (t.args.map Ty.cells))])), (.slot 8, .one (.loc 8 0)), (.loc 8, .row ([.v (dint 0), .v (dint 0), .v (dint 0), .own 0 [], .own 0 []])), (.heap  b, .row ([.v (.sl (ints l)), .v (dint r)]))]
      · intro hrest
        by_cases h5 : k = 5
        · refine t_g @h5 ?_
          refine t_a ?_
          refine t_sub [] trivial (W_upto (g.length) (fun i => ∀ j, j < i → funP g t j = false) (fun i => [(.slot 177, .one (.v (dint i))), (.slot 176, .one (.v (dint g.length))), (.slot 0, .one (.v (ptr b))), (.slot 1, .one (.v (.sl (g.map Ty.cells)))), (.slot 3, .one (.v (dint ((n + 1 : Nat) : Int)))), (.slot 6, .one (.loc 6 0)), (.loc 6, .row ([.v (dint t.kind), .v (.sl (t.args.map Ty.cells))])), (.slot 8, .one (.loc 8 0)), (.loc 8, .row ([.v (dint 0), .v (dint 0), .v (dint 0), .own 0 [], .own 0 []])), (.heap  b, .row ([.v (.sl (ints l)), .v (dint r)]))]) (by intro j hj; omega) ?_ ?_)
          · intro i hi hI hnext
            have hvt := (varTy_mem hi).2
            have hix : (g.length : Int) - 1 - i = ((g.length - 1 - i : Nat) : Int) := by omega
            refine t_rg0 ?_
            refine t_yes ?_
            refine t_g (j2 @hix @hvt) ?_
            by_cases hk4 : (varTy g i).kind = 4
            · have hfs := hg _ (varTy_mem hi).1
              obtain ⟨c0, c1, -⟩ := hfs.arg (.inr hk4)
              obtain ⟨a0, a1, ha, -, -, e0, e1⟩ := Ty.ok_args hfs.ok (.inr hk4)
              rw [e0] at c0
              refine t_c1 (j2 @hix (j2 @hvt (j2 @hk4 @ha))) (ref01_same_ok a1 t) ?_
              by_cases hs : a1.same t = true
              · have hfi : funN g t = some i := funN_found hi hI (by simp [funP, hk4, e1, hs])
                rw [stepD, if_neg h0, if_neg h1, if_neg h2, if_neg h3, if_neg h4, if_pos h5, hfi] at hR
                simp only at hR
                rw [e0] at hR
                have cx := ihn (a0) (g) r c0 hg (by omega) hr
                have fx := (hD (a0) (g) r c0 hg hr).1
                generalize hex : termD l n (a0) (g) r = rx at cx fx hR
                obtain ⟨x, qx⟩ := rx
                simp only at cx fx hR
                refine t_g @hs ?_
                refine t_a ?_
                first | refine W_reg [] fun K hK => ?_ | refine W_regd (by rw [hP]; exact mixed) [] fun K hK => ?_
                simp [go_sem, hP, hgl, hn, hsub, ha, vT]
                repeat (refine ⟨by omega, ?_⟩)
                first | refine vcK_call hP hgl (ref02_var_ok i) (by simp [go_sem, hP, hgl, hn, hsub, ha, vT]) rfl (by simp [go_sem]) (by simp) (by rw [hn]; exact Nat.le_of_ble_eq_true rfl) ?_ | refine vcdC_call (fun _ _ => vcd_sound) hP hgl (ref02_var_ok i) (by simp [go_sem, hP, hgl, hn, hsub, ha, vT]) rfl (by simp [go_sem]) (by simp) (by rw [hn]; exact Nat.le_of_ble_eq_true rfl) ?_ | refine vcK_callG hP hgl (ref02_var_ok i) (by simp [go_sem, hP, hgl, hn, hsub, ha, vT]) rfl (by simp [go_sem]) (by simp) (by rw [hn]; exact Nat.le_of_ble_eq_true rfl) (by simp [go_sem]; rfl) (by rw [hn]; exact Nat.le_of_ble_eq_true rfl) (by simp [go_sem]) ?_ | refine vcdC_callG (fun _ _ => vcd_sound) hP hgl (ref02_var_ok i) (by simp [go_sem, hP, hgl, hn, hsub, ha, vT]) rfl (by simp [go_sem]) (by simp) (by rw [hn]; exact Nat.le_of_ble_eq_true rfl) (by simp [go_sem]; rfl) (by rw [hn]; exact Nat.le_of_ble_eq_true rfl) (by simp [go_sem]) ?_
                simp [go_sem, hP, hgl, hn, hsub, ha, vT]
                repeat (refine ⟨by omega, ?_⟩)
                first | refine vcK_call hP hgl (cx) (by simp [go_sem, hP, hgl, hn, hsub, ha, vT]) rfl (by simp [go_sem]) (by simp) (by rw [hn]; exact Nat.le_of_ble_eq_true rfl) ?_ | refine vcdC_call (fun _ _ => vcd_sound) hP hgl (cx) (by simp [go_sem, hP, hgl, hn, hsub, ha, vT]) rfl (by simp [go_sem]) (by simp) (by rw [hn]; exact Nat.le_of_ble_eq_true rfl) ?_ | refine vcK_callG hP hgl (cx) (by simp [go_sem, hP, hgl, hn, hsub, ha, vT]) rfl (by simp [go_sem]) (by simp) (by rw [hn]; exact Nat.le_of_ble_eq_true rfl) (by simp [go_sem]; rfl) (by rw [hn]; exact Nat.le_of_ble_eq_true rfl) (by simp [go_sem]) ?_ | refine vcdC_callG (fun _ _ => vcd_sound) hP hgl (cx) (by simp [go_sem, hP, hgl, hn, hsub, ha, vT]) rfl (by simp [go_sem]) (by simp) (by rw [hn]; exact Nat.le_of_ble_eq_true rfl) (by simp [go_sem]; rfl) (by rw [hn]; exact Nat.le_of_ble_eq_true rfl) (by simp [go_sem]) ?_
                simp [go_sem, hP, hgl, hn, hsub, ha, vT]
                repeat (refine ⟨by omega, ?_⟩)
                first | refine vcK_call hP hgl (ref02_n_ok 3 [vT i, x]) (by simp [go_sem, hP, hgl, hn, hsub, ha, vT]) rfl (by simp [go_sem]) (by simp) (by rw [hn]; exact Nat.le_of_ble_eq_true rfl) ?_ | refine vcdC_call (fun _ _ => vcd_sound) hP hgl (ref02_n_ok 3 [vT i, x]) (by simp [go_sem, hP, hgl, hn, hsub, ha, vT]) rfl (by simp [go_sem]) (by simp) (by rw [hn]; exact Nat.le_of_ble_eq_true rfl) ?_ | refine vcK_callG hP hgl (ref02_n_ok 3 [vT i, x]) (by simp [go_sem, hP, hgl, hn, hsub, ha, vT]) rfl (by simp [go_sem]) (by simp) (by rw [hn]; exact Nat.le_of_ble_eq_true rfl) (by simp [go_sem]; rfl) (by rw [hn]; exact Nat.le_of_ble_eq_true rfl) (by simp [go_sem]) ?_ | refine vcdC_callG (fun _ _ => vcd_sound) hP hgl (ref02_n_ok 3 [vT i, x]) (by simp [go_sem, hP, hgl, hn, hsub, ha, vT]) rfl (by simp [go_sem]) (by simp) (by rw [hn]; exact Nat.le_of_ble_eq_true rfl) (by simp [go_sem]; rfl) (by rw [hn]; exact Nat.le_of_ble_eq_true rfl) (by simp [go_sem]) ?_
                simp [go_sem, hP, hgl, hn, hsub, ha, vT]
                refine t_e ?_
                clear hK K
                repeat (first | refine W_seq ?_ | refine W_skip ?_ | refine W_block ?_ | refine W_inBlock ?_ | refine W_label ?_ | refine W_exit rfl ?_)
                first | refine W_retR hP hf hfn _ ([(b, deck l qx)]) (by first | (simp [go_sem, hP, hgl, hn, nT, vT]; done) | (simp [go_sem, hP, hgl, hn, nT, vT]; rfl)) (by simp [go_sem, hP, hgl, hn, nT, vT]) (by simp) ?_ hR.2 | refine W_endR hP hf hfn _ ([(b, deck l qx)]) (by first | (simp [go_sem, hP, hgl, hn, nT, vT]; done) | (simp [go_sem, hP, hgl, hn, nT, vT]; rfl)) (by simp [go_sem, hP, hgl, hn, nT, vT]) (by simp) ?_ hR.2
                rw [hR.1]
                refine ⟨?_, by simp [nT, vT]⟩
                try simp [nT, vT]
                try all_goals (simp [Ty.dv, Ty.cells_eq, Ty.kind_mk, Ty.args_mk, Tm.dv, Tm.cells_eq, Tm.kind_mk, Tm.index_mk, Tm.type_mk, Tm.args_mk, Val.dv, Val.cells_eq, Val.kind_mk, Val.num_mk, Val.list_mk, Val.args_mk, ints])
              · refine t_gt (wr []) trivial @hs (hnext (upto_snoc hI (by simp [funP, hk4, e1, hs])))
            · refine t_gt (wr []) trivial @hk4 (hnext (upto_snoc hI (by simp [funP, hk4])))
          · intro hI
            refine t_rg0 ?_
            refine t_no ?_
            refine t_g0 ?_
            refine t_b ?_
            refine t_sub [] trivial (hrest (by rw [stepD, if_neg h0, if_neg h1, if_neg h2, if_neg h3, if_neg h4, if_pos h5, funN_none hI]))
        · have hE : stepD l (termD l n) t g k r = endD l (termD l n) t g r := by rw [stepD, if_neg h0, if_neg h1, if_neg h2, if_neg h3, if_neg h4, if_neg h5]
          by_cases h6 : k = 6
          · refine t_g @h6 ?_
            refine t_b ?_
            refine t_sub [] trivial (hrest hE)
          · have h7 : k = 7 := by omega
            refine t_g @h7 ?_
            refine t_b ?_
            refine t_sub [] trivial (hrest hE)
      · intro hE
        rw [hE, endD] at hR
        have h5q := nextD_le (n := 5) hr
        have h2q := nextD_le (n := 2) hr
        have hfd := Ty.fold t
        rcases small_kinds ht with ⟨h, e⟩ | ⟨h, e⟩ | ⟨h, e⟩ | ⟨h, e⟩ | ⟨h, e⟩
        · rw [if_pos h] at hR
          rw [h] at hfd
          have hb5 := nextD_bd (l := l) (p := r) (n := 5) (by decide)
          refine t_g (j2 @h @hz2) ?_
          refine t_c1 trivial (next_ok b l r 5 (by decide) (by omega)) ?_
          generalize hd5 : nextD l r 5 = d at *
          obtain ⟨c, q5⟩ := d
          simp only at hR hb5 h5q
          by_cases c0 : c = 0
          · rw [if_pos c0] at hR
            have cx := ihn (t) (g) q5 ht hg (by omega) h5q
            have fx := (hD (t) (g) q5 ht hg h5q).1
            generalize hex : termD l n (t) (g) q5 = rx at cx fx hR
            obtain ⟨x, qx⟩ := rx
            simp only at cx fx hR
            refine t_g @c0 ?_
            refine t_c2 (j2 @hsub @hfd) cx (ref02_n_ok 5 [x]) ?_
            repeat (first | refine W_seq ?_ | refine W_skip ?_ | refine W_block ?_ | refine W_inBlock ?_ | refine W_label ?_ | refine W_exit rfl ?_)
            first | refine W_retR hP hf hfn _ ([(b, deck l qx)]) (by first | (simp [go_sem, hP, hgl, hn, nT]; done) | (simp [go_sem, hP, hgl, hn, nT]; rfl)) (by simp [go_sem, hP, hgl, hn, nT]) (by simp) ?_ hR.2 | refine W_endR hP hf hfn _ ([(b, deck l qx)]) (by first | (simp [go_sem, hP, hgl, hn, nT]; done) | (simp [go_sem, hP, hgl, hn, nT]; rfl)) (by simp [go_sem, hP, hgl, hn, nT]) (by simp) ?_ hR.2
            rw [hR.1]
            refine ⟨?_, by simp [nT]⟩
            try simp [nT]
            try all_goals (simp [Ty.dv, Ty.cells_eq, Ty.kind_mk, Ty.args_mk, Tm.dv, Tm.cells_eq, Tm.kind_mk, Tm.index_mk, Tm.type_mk, Tm.args_mk, Val.dv, Val.cells_eq, Val.kind_mk, Val.num_mk, Val.list_mk, Val.args_mk, ints])
          rw [if_neg c0] at hR
          by_cases c1 : c = 1
          · rw [if_pos c1] at hR
            have cx := ihn (t) (g) q5 ht hg (by omega) h5q
            have fx := (hD (t) (g) q5 ht hg h5q).1
            generalize hex : termD l n (t) (g) q5 = rx at cx fx hR
            obtain ⟨x, qx⟩ := rx
            simp only at cx fx hR
            have cy := ihn (t) (g) qx ht hg (by omega) fx
            have fy := (hD (t) (g) qx ht hg fx).1
            generalize hey : termD l n (t) (g) qx = ry at cy fy hR
            obtain ⟨y, qy⟩ := ry
            simp only at cy fy hR
            refine t_g @c1 ?_
            refine t_c4 (j2 @hsub @hfd) ref05_plus_ok cx cy (mk_app_ok plusT [x, y]) ?_
            repeat (first | refine W_seq ?_ | refine W_skip ?_ | refine W_block ?_ | refine W_inBlock ?_ | refine W_label ?_ | refine W_exit rfl ?_)
            first | refine W_retR hP hf hfn _ ([(b, deck l qy)]) (by first | (simp [go_sem, hP, hgl, hn]; done) | (simp [go_sem, hP, hgl, hn]; rfl)) (by simp [go_sem, hP, hgl, hn]) (by simp) ?_ hR.2 | refine W_endR hP hf hfn _ ([(b, deck l qy)]) (by first | (simp [go_sem, hP, hgl, hn]; done) | (simp [go_sem, hP, hgl, hn]; rfl)) (by simp [go_sem, hP, hgl, hn]) (by simp) ?_ hR.2
            rw [hR.1]
            refine ⟨?_, by simp⟩
            try simp
            try all_goals (simp [Ty.dv, Ty.cells_eq, Ty.kind_mk, Ty.args_mk, Tm.dv, Tm.cells_eq, Tm.kind_mk, Tm.index_mk, Tm.type_mk, Tm.args_mk, Val.dv, Val.cells_eq, Val.kind_mk, Val.num_mk, Val.list_mk, Val.args_mk, ints])
          rw [if_neg c1] at hR
          by_cases c2 : c = 2
          · rw [if_pos c2] at hR
            have cx := ihn (t) (g) q5 ht hg (by omega) h5q
            have fx := (hD (t) (g) q5 ht hg h5q).1
            generalize hex : termD l n (t) (g) q5 = rx at cx fx hR
            obtain ⟨x, qx⟩ := rx
            simp only at cx fx hR
            have cy := ihn (t) (g) qx ht hg (by omega) fx
            have fy := (hD (t) (g) qx ht hg fx).1
            generalize hey : termD l n (t) (g) qx = ry at cy fy hR
            obtain ⟨y, qy⟩ := ry
            simp only at cy fy hR
            refine t_g @c2 ?_
            refine t_c4 (j2 @hsub @hfd) ref05_sub_ok cx cy (mk_app_ok subT [x, y]) ?_
            repeat (first | refine W_seq ?_ | refine W_skip ?_ | refine W_block ?_ | refine W_inBlock ?_ | refine W_label ?_ | refine W_exit rfl ?_)
            first | refine W_retR hP hf hfn _ ([(b, deck l qy)]) (by first | (simp [go_sem, hP, hgl, hn]; done) | (simp [go_sem, hP, hgl, hn]; rfl)) (by simp [go_sem, hP, hgl, hn]) (by simp) ?_ hR.2 | refine W_endR hP hf hfn _ ([(b, deck l qy)]) (by first | (simp [go_sem, hP, hgl, hn]; done) | (simp [go_sem, hP, hgl, hn]; rfl)) (by simp [go_sem, hP, hgl, hn]) (by simp) ?_ hR.2
            rw [hR.1]
            refine ⟨?_, by simp⟩
            try simp
            try all_goals (simp [Ty.dv, Ty.cells_eq, Ty.kind_mk, Ty.args_mk, Tm.dv, Tm.cells_eq, Tm.kind_mk, Tm.index_mk, Tm.type_mk, Tm.args_mk, Val.dv, Val.cells_eq, Val.kind_mk, Val.num_mk, Val.list_mk, Val.args_mk, ints])
          rw [if_neg c2] at hR
          have hb3 := nextD_bd (l := l) (p := q5) (n := 3) (by decide)
          obtain ⟨m, hm⟩ : ∃ m : Nat, (nextD l q5 3).1 = m := ⟨_, (Int.toNat_of_nonneg hb3.1).symm⟩
          rw [hm] at hb3
          by_cases c3 : c = 3
          · refine t_g @c3 ?_
            refine t_c2 @hm (next_ok b l q5 3 (by decide) (by omega)) (mk_num_ok m (by omega)) ?_
            repeat (first | refine W_seq ?_ | refine W_skip ?_ | refine W_block ?_ | refine W_inBlock ?_ | refine W_label ?_ | refine W_exit rfl ?_)
            first | refine W_retR hP hf hfn _ ([(b, deck l (nextD l q5 3).2)]) (by first | (simp [go_sem, hP, hgl, hn, numD, hm]; done) | (simp [go_sem, hP, hgl, hn, numD, hm]; rfl)) (by simp [go_sem, hP, hgl, hn, numD, hm]) (by simp) ?_ hR.2 | refine W_endR hP hf hfn _ ([(b, deck l (nextD l q5 3).2)]) (by first | (simp [go_sem, hP, hgl, hn, numD, hm]; done) | (simp [go_sem, hP, hgl, hn, numD, hm]; rfl)) (by simp [go_sem, hP, hgl, hn, numD, hm]) (by simp) ?_ hR.2
            rw [hR.1]
            refine ⟨?_, by simp [numD, hm]⟩
            try simp [numD, hm]
            try all_goals (simp [Ty.dv, Ty.cells_eq, Ty.kind_mk, Ty.args_mk, Tm.dv, Tm.cells_eq, Tm.kind_mk, Tm.index_mk, Tm.type_mk, Tm.args_mk, Val.dv, Val.cells_eq, Val.kind_mk, Val.num_mk, Val.list_mk, Val.args_mk, ints])
          · have c4 : c = 4 := by omega
            refine t_g @c4 ?_
            refine t_c2 @hm (next_ok b l q5 3 (by decide) (by omega)) (mk_num_ok m (by omega)) ?_
            repeat (first | refine W_seq ?_ | refine W_skip ?_ | refine W_block ?_ | refine W_inBlock ?_ | refine W_label ?_ | refine W_exit rfl ?_)
            first | refine W_retR hP hf hfn _ ([(b, deck l (nextD l q5 3).2)]) (by first | (simp [go_sem, hP, hgl, hn, numD, hm]; done) | (simp [go_sem, hP, hgl, hn, numD, hm]; rfl)) (by simp [go_sem, hP, hgl, hn, numD, hm]) (by simp) ?_ hR.2 | refine W_endR hP hf hfn _ ([(b, deck l (nextD l q5 3).2)]) (by first | (simp [go_sem, hP, hgl, hn, numD, hm]; done) | (simp [go_sem, hP, hgl, hn, numD, hm]; rfl)) (by simp [go_sem, hP, hgl, hn, numD, hm]) (by simp) ?_ hR.2
            rw [hR.1]
            refine ⟨?_, by simp [numD, hm]⟩
            try simp [numD, hm]
            try all_goals (simp [Ty.dv, Ty.cells_eq, Ty.kind_mk, Ty.args_mk, Tm.dv, Tm.cells_eq, Tm.kind_mk, Tm.index_mk, Tm.type_mk, Tm.args_mk, Val.dv, Val.cells_eq, Val.kind_mk, Val.num_mk, Val.list_mk, Val.args_mk, ints])
        · rw [if_neg (by omega), if_pos h] at hR
          rw [h] at hfd
          have hb2 := nextD_bd (l := l) (p := r) (n := 2) (by decide)
          refine t_g @h ?_
          generalize hd2 : nextD l r 2 = d at *
          obtain ⟨c, q2⟩ := d
          have cn := next_ok (gl := gl) b l r 2 (by decide) (by omega)
          rw [hd2] at cn
          simp only at hR hb2 h2q cn
          by_cases c0 : c = 0
          · rw [if_pos c0] at hR
            have cx := ihn (Ty.mk 1 []) (g) q2 small_nat hg (by omega) h2q
            have fx := (hD (Ty.mk 1 []) (g) q2 small_nat hg h2q).1
            generalize hex : termD l n (Ty.mk 1 []) (g) q2 = rx at cx fx hR
            obtain ⟨x, qx⟩ := rx
            simp only at cx fx hR
            have cy := ihn (t) (g) qx ht hg (by omega) fx
            have fy := (hD (t) (g) qx ht hg fx).1
            generalize hey : termD l n (t) (g) qx = ry at cy fy hR
            obtain ⟨y, qy⟩ := ry
            simp only at cy fy hR
            refine t_c1 (j2 @hz2 @c0) cn ?_
            refine t_g @c0 ?_
            refine t_c4 (j2 @hsub (j2 @nat_v @hfd)) ref01_nat_ok cx cy (ref02_n_ok 8 [x, y]) ?_
            repeat (first | refine W_seq ?_ | refine W_skip ?_ | refine W_block ?_ | refine W_inBlock ?_ | refine W_label ?_ | refine W_exit rfl ?_)
            first | refine W_retR hP hf hfn _ ([(b, deck l qy)]) (by first | (simp [go_sem, hP, hgl, hn, nT]; done) | (simp [go_sem, hP, hgl, hn, nT]; rfl)) (by simp [go_sem, hP, hgl, hn, nT]) (by simp) ?_ hR.2 | refine W_endR hP hf hfn _ ([(b, deck l qy)]) (by first | (simp [go_sem, hP, hgl, hn, nT]; done) | (simp [go_sem, hP, hgl, hn, nT]; rfl)) (by simp [go_sem, hP, hgl, hn, nT]) (by simp) ?_ hR.2
            rw [hR.1]
            refine ⟨?_, by simp [nT]⟩
            try simp [nT]
            try all_goals (simp [Ty.dv, Ty.cells_eq, Ty.kind_mk, Ty.args_mk, Tm.dv, Tm.cells_eq, Tm.kind_mk, Tm.index_mk, Tm.type_mk, Tm.args_mk, Val.dv, Val.cells_eq, Val.kind_mk, Val.num_mk, Val.list_mk, Val.args_mk, ints])
          · rw [if_neg c0] at hR
            refine t_c1 (j2 @hz2 @c0) cn ?_
            refine t_g @c0 ?_
            refine t_c1 trivial (ref02_n_ok 7 []) ?_
            repeat (first | refine W_seq ?_ | refine W_skip ?_ | refine W_block ?_ | refine W_inBlock ?_ | refine W_label ?_ | refine W_exit rfl ?_)
            first | refine W_retR hP hf hfn _ ([(b, deck l q2)]) (by first | (simp [go_sem, hP, hgl, hn, nT]; done) | (simp [go_sem, hP, hgl, hn, nT]; rfl)) (by simp [go_sem, hP, hgl, hn, nT]) (by simp) ?_ hR.2 | refine W_endR hP hf hfn _ ([(b, deck l q2)]) (by first | (simp [go_sem, hP, hgl, hn, nT]; done) | (simp [go_sem, hP, hgl, hn, nT]; rfl)) (by simp [go_sem, hP, hgl, hn, nT]) (by simp) ?_ hR.2
            rw [hR.1]
            refine ⟨?_, by simp [nT]⟩
            try simp [nT]
            try all_goals (simp [Ty.dv, Ty.cells_eq, Ty.kind_mk, Ty.args_mk, Tm.dv, Tm.cells_eq, Tm.kind_mk, Tm.index_mk, Tm.type_mk, Tm.args_mk, Val.dv, Val.cells_eq, Val.kind_mk, Val.num_mk, Val.list_mk, Val.args_mk, ints])
        · rw [if_neg (by omega), if_neg (by omega), if_neg (by omega), if_neg (by omega)] at hR
          refine t_g @h ?_
          refine t_c1 trivial (ref02_n_ok 13 []) ?_
          repeat (first | refine W_seq ?_ | refine W_skip ?_ | refine W_block ?_ | refine W_inBlock ?_ | refine W_label ?_ | refine W_exit rfl ?_)
          first | refine W_retR hP hf hfn _ ([(b, deck l r)]) (by first | (simp [go_sem, hP, hgl, hn, nT]; done) | (simp [go_sem, hP, hgl, hn, nT]; rfl)) (by simp [go_sem, hP, hgl, hn, nT]) (by simp) ?_ hR.2 | refine W_endR hP hf hfn _ ([(b, deck l r)]) (by first | (simp [go_sem, hP, hgl, hn, nT]; done) | (simp [go_sem, hP, hgl, hn, nT]; rfl)) (by simp [go_sem, hP, hgl, hn, nT]) (by simp) ?_ hR.2
          rw [hR.1]
          refine ⟨?_, by simp [nT]⟩
          try simp [nT]
          try all_goals (simp [Ty.dv, Ty.cells_eq, Ty.kind_mk, Ty.args_mk, Tm.dv, Tm.cells_eq, Tm.kind_mk, Tm.index_mk, Tm.type_mk, Tm.args_mk, Val.dv, Val.cells_eq, Val.kind_mk, Val.num_mk, Val.list_mk, Val.args_mk, ints])
        · rw [if_neg (by omega), if_neg (by omega), if_pos h] at hR
          obtain ⟨s0, s1, hc⟩ := ht.arg (.inl h)
          have ha : t.args = [t.arg 0, t.arg 1] := by rw [e]; rfl
          have cx := ihn (t.arg 0) (g) r s0 hg (by omega) hr
          have fx := (hD (t.arg 0) (g) r s0 hg hr).1
          generalize hex : termD l n (t.arg 0) (g) r = rx at cx fx hR
          obtain ⟨x, qx⟩ := rx
          simp only at cx fx hR
          have cy := ihn (t.arg 1) (g) qx s1 hg (by omega) fx
          have fy := (hD (t.arg 1) (g) qx s1 hg fx).1
          generalize hey : termD l n (t.arg 1) (g) qx = ry at cy fy hR
          obtain ⟨y, qy⟩ := ry
          simp only at cy fy hR
          refine t_g @h ?_
          refine t_c3 (j2 @hsub @ha) cx cy (ref02_n_ok 10 [x, y]) ?_
          repeat (first | refine W_seq ?_ | refine W_skip ?_ | refine W_block ?_ | refine W_inBlock ?_ | refine W_label ?_ | refine W_exit rfl ?_)
          first | refine W_retR hP hf hfn _ ([(b, deck l qy)]) (by first | (simp [go_sem, hP, hgl, hn, nT]; done) | (simp [go_sem, hP, hgl, hn, nT]; rfl)) (by simp [go_sem, hP, hgl, hn, nT]) (by simp) ?_ hR.2 | refine W_endR hP hf hfn _ ([(b, deck l qy)]) (by first | (simp [go_sem, hP, hgl, hn, nT]; done) | (simp [go_sem, hP, hgl, hn, nT]; rfl)) (by simp [go_sem, hP, hgl, hn, nT]) (by simp) ?_ hR.2
          rw [hR.1]
          refine ⟨?_, by simp [nT]⟩
          try simp [nT]
          try all_goals (simp [Ty.dv, Ty.cells_eq, Ty.kind_mk, Ty.args_mk, Tm.dv, Tm.cells_eq, Tm.kind_mk, Tm.index_mk, Tm.type_mk, Tm.args_mk, Val.dv, Val.cells_eq, Val.kind_mk, Val.num_mk, Val.list_mk, Val.args_mk, ints])
        · rw [if_neg (by omega), if_neg (by omega), if_neg (by omega), if_pos h] at hR
          obtain ⟨s0, s1, hc⟩ := ht.arg (.inr h)
          have ha : t.args = [t.arg 0, t.arg 1] := by rw [e]; rfl
          have cx := ihn (t.arg 1) (g ++ [t.arg 0]) r s1 (hg1 [t.arg 0] (by simpa using s0)) (by simp; omega) hr
          have fx := (hD (t.arg 1) (g ++ [t.arg 0]) r s1 (hg1 [t.arg 0] (by simpa using s0)) hr).1
          generalize hex : termD l n (t.arg 1) (g ++ [t.arg 0]) r = rx at cx fx hR
          obtain ⟨x, qx⟩ := rx
          simp only at cx fx hR
          refine t_g @h ?_
          refine t_c3 (j2 @hsub @ha) (mk_longer_ok g [t.arg 0] (by simp; omega)) cx (ref02_t_ok 2 (t.arg 0) [x]) ?_
          repeat (first | refine W_seq ?_ | refine W_skip ?_ | refine W_block ?_ | refine W_inBlock ?_ | refine W_label ?_ | refine W_exit rfl ?_)
          first | refine W_retR hP hf hfn _ ([(b, deck l qx)]) (by first | (simp [go_sem, hP, hgl, hn]; done) | (simp [go_sem, hP, hgl, hn]; rfl)) (by simp [go_sem, hP, hgl, hn]) (by simp) ?_ hR.2 | refine W_endR hP hf hfn _ ([(b, deck l qx)]) (by first | (simp [go_sem, hP, hgl, hn]; done) | (simp [go_sem, hP, hgl, hn]; rfl)) (by simp [go_sem, hP, hgl, hn]) (by simp) ?_ hR.2
          rw [hR.1]
          refine ⟨?_, by simp⟩
          try simp
          try all_goals (simp [Ty.dv, Ty.cells_eq, Ty.kind_mk, Ty.args_mk, Tm.dv, Tm.cells_eq, Tm.kind_mk, Tm.index_mk, Tm.type_mk, Tm.args_mk, Val.dv, Val.cells_eq, Val.kind_mk, Val.num_mk, Val.list_mk, Val.args_mk, ints])
  · rw [hpk] at hR
    simp only at hR
    obtain ⟨h0, h1, k, i, hk, hi, rfl, rfl⟩ := pickD_some' hpk
    have hpos : 0 < (varsN g t).length := by omega
    have hpos3 : 0 < (nextD l p 3).1 := by omega
    have hgi := ints_get (l := natI (varsN g t)) (i := k) (n := i) (by simp [natI, hi])
    have hkl := (List.getElem?_eq_some_iff.1 hi).1
    refine t_g0 ?_
    refine t_c1 trivial (mk_vars_ok g t (by omega)) ?_
    refine t_g0 ?_
    refine t_c1 (j2 @natI_len (j2 @hpos @hpos3)) (next_ok b l p 3 (by decide) (by omega)) ?_
    refine t_g @hpos3 ?_
    refine t_c2 (j2 @natI_len (j2 @hk @hgi)) (next_ok b l (nextD l p 3).2 (varsN g t).length (by omega) (by omega)) (ref02_var_ok i) ?_
    repeat (first | refine W_seq ?_ | refine W_skip ?_ | refine W_block ?_ | refine W_inBlock ?_ | refine W_label ?_ | refine W_exit rfl ?_)
    first | refine W_retR hP hf hfn _ ([(b, deck l (nextD l (nextD l p 3).2 (varsN g t).length).2)]) (by first | (simp [go_sem, hP, hgl, hn, vT]; done) | (simp [go_sem, hP, hgl, hn, vT]; rfl)) (by simp [go_sem, hP, hgl, hn, vT]) (by simp) ?_ hR.2 | refine W_endR hP hf hfn _ ([(b, deck l (nextD l (nextD l p 3).2 (varsN g t).length).2)]) (by first | (simp [go_sem, hP, hgl, hn, vT]; done) | (simp [go_sem, hP, hgl, hn, vT]; rfl)) (by simp [go_sem, hP, hgl, hn, vT]) (by simp) ?_ hR.2
    rw [hR.1]
    refine ⟨?_, by simp [vT]⟩
    try simp [vT]
    try all_goals (simp [Ty.dv, Ty.cells_eq, Ty.kind_mk, Ty.args_mk, Tm.dv, Tm.cells_eq, Tm.kind_mk, Tm.index_mk, Tm.type_mk, Tm.args_mk, Val.dv, Val.cells_eq, Val.kind_mk, Val.num_mk, Val.list_mk, Val.args_mk, ints])
end Go.Proofs.YtbmnlkfgkdallaaGreatDoor.Lift
