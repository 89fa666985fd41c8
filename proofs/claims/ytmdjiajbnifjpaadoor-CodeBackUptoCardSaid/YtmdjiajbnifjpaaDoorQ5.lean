import Derived.Test.YtmdjiajbnifjpaaDoorQ4
namespace Go.Proofs.YtmdjiajbnifjpaaDoor.Lift
set_option linter.unusedSimpArgs false
set_option linter.unusedVariables false
set_option linter.unnecessarySimpa false
open Go
variable {gl : Globs}

theorem pickD_none {l : List Int} {t : Ty} {g : List Ty} {p q : Nat} (h : pickD l t g p = (none, q)) : ((varsN g t).length = 0 ∧ q = p) ∨ ((varsN g t).length ≠ 0 ∧ (nextD l p 3).1 = 0 ∧ q = (nextD l p 3).2) := by
  unfold pickD at h
  split at h
  · rename_i h0; cases h; exact .inl ⟨h0, rfl⟩
  · rename_i h0
    split at h
    · rename_i h1; cases h; exact .inr ⟨h0, h1, rfl⟩
    · cases h
theorem pickD_some' {l : List Int} {t : Ty} {g : List Ty} {p q : Nat} {x : Tm} (h : pickD l t g p = (some x, q)) : (varsN g t).length ≠ 0 ∧ (nextD l p 3).1 ≠ 0 ∧ ∃ k i : Nat, (nextD l (nextD l p 3).2 (varsN g t).length).1 = k ∧ (varsN g t)[k]? = some i ∧ x = vT i ∧ q = (nextD l (nextD l p 3).2 (varsN g t).length).2 := by
  unfold pickD at h
  split at h
  · cases h
  · rename_i h0
    split at h
    · cases h
    · rename_i h1
      have hb := nextD_bd (l := l) (p := (nextD l p 3).2) (n := (varsN g t).length) (by omega)
      cases h
      obtain ⟨k, hk⟩ : ∃ k : Nat, (nextD l (nextD l p 3).2 (varsN g t).length).1 = k := ⟨_, (Int.toNat_of_nonneg hb.1).symm⟩
      rw [hk] at hb
      have hlt : k < (varsN g t).length := by omega
      refine ⟨h0, h1, k, (varsN g t)[k], hk, List.getElem?_eq_getElem hlt, ?_, rfl⟩
      rw [hk, Int.toNat_natCast, List.getD_eq_getElem?_getD, List.getElem?_eq_getElem hlt, Option.getD_some]

set_option maxHeartbeats 1000000 in
theorem mk_term_leaf (b : Nat) (l : List Int) (hl : l.length ≤ 500) (t : Ty) : ∀ (z : Int) (g : List Ty) (p : Nat), z ≤ 0 → t.count ≤ z + 1000 → t.small → (∀ x ∈ g, x.small) → g.length + t.count ≤ 1000000 → p ≤ l.length →
    Con1 Tryd.prog gl 14 [ptr b, .sl (g.map Ty.cells), t.dv, dint z] [(b, deck l p)] (leafD l t g p).1.dv [(b, deck l (leafD l t g p).2)] := by
  induction t using Ty.ind with
  | h t ih =>
  intro z g p hz hz1 ht hg hgl1 hp
  refine t_in Tryd.func14 ?_
  intro X hP hgl hf hfn hn hR hids hfit
  rw [leafD_eq l t g p ht.ok] at hR
  have hvl : (varsN g t).length ≤ g.length := varsP_le g t g.length
  have hq3 := nextD_le (n := 3) hp
  have hb3 := nextD_bd (l := l) (p := p) (n := 3) (by decide)
  rcases hpk : pickD l t g p with ⟨_ | x, q⟩
  · rw [hpk] at hR
    simp only at hR
    have hq : q ≤ l.length := by have := pickD_le (t := t) (g := g) hp; rw [hpk] at this; exact this
    apply W_cutX [(.slot 215, .one (.v (dbool (decide (t.kind = 1))))), (.slot 214, .one (.v (dint t.kind))), (.slot 0, .one (.v (ptr b))), (.slot 1, .one (.v (.sl (g.map Ty.cells)))), (.slot 3, .one (.v (dint z))), (.slot 6, .one (.loc 6 0)), (.loc 6, .row ([.v (dint t.kind), .v (.sl (t.args.map Ty.cells))])), (.slot 8, .one (.loc 8 0)), (.loc 8, .row ([.v (dint 0), .v (dint 0), .v (dint 0), .own 0 [], .own 0 []])), (.heap  b, .row ([.v (.sl (ints l)), .v (dint q)]))]
    · intro hrest
      refine t_g0 ?_
      refine t_c1 trivial (mk_vars_ok g t (by omega)) ?_
      rcases pickD_none hpk with ⟨h0, rfl⟩ | ⟨h0, h1, rfl⟩
      · refine t_g (j2 @natI_len @h0) ?_
        refine t_b ?_
        refine t_sub [] trivial hrest
      · have hpos : 0 < (varsN g t).length := by omega
        refine t_g0 ?_
        refine t_c1 (j2 @natI_len (j2 @hpos @h1)) (next_ok b l p 3 (by decide) (by omega)) ?_
        refine t_g @h1 ?_
        refine t_b ?_
        refine t_sub [] trivial hrest
    · have hz2 : ¬ 0 < z := by omega
      rcases small_kinds ht with ⟨h, e⟩ | ⟨h, e⟩ | ⟨h, e⟩ | ⟨h, e⟩ | ⟨h, e⟩
      · rw [if_pos h] at hR
        have hb := nextD_bd (l := l) (p := q) (n := 3) (by decide)
        obtain ⟨k, hk⟩ : ∃ k : Nat, (nextD l q 3).1 = k := ⟨_, (Int.toNat_of_nonneg hb.1).symm⟩
        rw [hk] at hb
        refine t_g (j2 @hz2 @h) ?_
        refine t_c2 @hk (next_ok b l q 3 (by decide) (by omega)) (mk_num_ok k (by omega)) ?_
        repeat (first | refine W_seq ?_ | refine W_skip ?_ | refine W_block ?_ | refine W_inBlock ?_ | refine W_label ?_ | refine W_exit rfl ?_)
        first | refine W_retR hP hf hfn _ ([(b, deck l (nextD l q 3).2)]) (by first | (simp [go_sem, hP, hgl, hn, numD, hk]; done) | (simp [go_sem, hP, hgl, hn, numD, hk]; rfl)) (by simp [go_sem, hP, hgl, hn, numD, hk]) (by simp) ?_ hR.2 | refine W_endR hP hf hfn _ ([(b, deck l (nextD l q 3).2)]) (by first | (simp [go_sem, hP, hgl, hn, numD, hk]; done) | (simp [go_sem, hP, hgl, hn, numD, hk]; rfl)) (by simp [go_sem, hP, hgl, hn, numD, hk]) (by simp) ?_ hR.2
        rw [hR.1]
        refine ⟨?_, by simp [numD, hk]⟩
        try simp [numD, hk]
        try all_goals (simp [Ty.dv, Ty.cells_eq, Ty.kind_mk, Ty.args_mk, Tm.dv, Tm.cells_eq, Tm.kind_mk, Tm.index_mk, Tm.type_mk, Tm.args_mk, Val.dv, Val.cells_eq, Val.kind_mk, Val.num_mk, Val.list_mk, Val.args_mk, ints])
      · rw [if_neg (by omega), if_pos h] at hR
        refine t_g (j2 @hz2 @h) ?_
        refine t_c1 trivial (ref02_n_ok 7 []) ?_
        repeat (first | refine W_seq ?_ | refine W_skip ?_ | refine W_block ?_ | refine W_inBlock ?_ | refine W_label ?_ | refine W_exit rfl ?_)
        first | refine W_retR hP hf hfn _ ([(b, deck l q)]) (by first | (simp [go_sem, hP, hgl, hn, nT]; done) | (simp [go_sem, hP, hgl, hn, nT]; rfl)) (by simp [go_sem, hP, hgl, hn, nT]) (by simp) ?_ hR.2 | refine W_endR hP hf hfn _ ([(b, deck l q)]) (by first | (simp [go_sem, hP, hgl, hn, nT]; done) | (simp [go_sem, hP, hgl, hn, nT]; rfl)) (by simp [go_sem, hP, hgl, hn, nT]) (by simp) ?_ hR.2
        rw [hR.1]
        refine ⟨?_, by simp [nT]⟩
        try simp [nT]
        try all_goals (simp [Ty.dv, Ty.cells_eq, Ty.kind_mk, Ty.args_mk, Tm.dv, Tm.cells_eq, Tm.kind_mk, Tm.index_mk, Tm.type_mk, Tm.args_mk, Val.dv, Val.cells_eq, Val.kind_mk, Val.num_mk, Val.list_mk, Val.args_mk, ints])
      · rw [if_neg (by omega), if_neg (by omega), if_neg (by omega), if_neg (by omega)] at hR
        refine t_g (j2 @hz2 @h) ?_
        refine t_c1 trivial (ref02_n_ok 13 []) ?_
        repeat (first | refine W_seq ?_ | refine W_skip ?_ | refine W_block ?_ | refine W_inBlock ?_ | refine W_label ?_ | refine W_exit rfl ?_)
        first | refine W_retR hP hf hfn _ ([(b, deck l q)]) (by first | (simp [go_sem, hP, hgl, hn, nT]; done) | (simp [go_sem, hP, hgl, hn, nT]; rfl)) (by simp [go_sem, hP, hgl, hn, nT]) (by simp) ?_ hR.2 | refine W_endR hP hf hfn _ ([(b, deck l q)]) (by first | (simp [go_sem, hP, hgl, hn, nT]; done) | (simp [go_sem, hP, hgl, hn, nT]; rfl)) (by simp [go_sem, hP, hgl, hn, nT]) (by simp) ?_ hR.2
        rw [hR.1]
        refine ⟨?_, by simp [nT]⟩
        try simp [nT]
        try all_goals (simp [Ty.dv, Ty.cells_eq, Ty.kind_mk, Ty.args_mk, Tm.dv, Tm.cells_eq, Tm.kind_mk, Tm.index_mk, Tm.type_mk, Tm.args_mk, Val.dv, Val.cells_eq, Val.kind_mk, Val.num_mk, Val.list_mk, Val.args_mk, ints])
      · rw [if_neg (by omega), if_neg (by omega), if_pos h] at hR
        obtain ⟨s0, s1, hc⟩ := ht.arg (.inl h)
        have p0 := Ty.count_eq (t.arg 0)
        have p1 := Ty.count_eq (t.arg 1)
        have ha : t.args = [t.arg 0, t.arg 1] := by rw [e]; rfl
        obtain ⟨a1, -⟩ := leafD_facts closed_shape (t.arg 0) g q s0 hg hq
        refine t_g (j2 @hz2 @h) ?_
        refine t_c3 @ha (ih (t.arg 0) (by rw [ha]; simp) (z - 1) g q (by omega) (by omega) s0 hg (by omega) hq) (ih (t.arg 1) (by rw [ha]; simp) (z - 1) g (leafD l (t.arg 0) g q).2 (by omega) (by omega) s1 hg (by omega) a1) (ref02_n_ok 10 [(leafD l (t.arg 0) g q).1, (leafD l (t.arg 1) g (leafD l (t.arg 0) g q).2).1]) ?_
        repeat (first | refine W_seq ?_ | refine W_skip ?_ | refine W_block ?_ | refine W_inBlock ?_ | refine W_label ?_ | refine W_exit rfl ?_)
        first | refine W_retR hP hf hfn _ ([(b, deck l (leafD l (t.arg 1) g (leafD l (t.arg 0) g q).2).2)]) (by first | (simp [go_sem, hP, hgl, hn, nT]; done) | (simp [go_sem, hP, hgl, hn, nT]; rfl)) (by simp [go_sem, hP, hgl, hn, nT]) (by simp) ?_ hR.2 | refine W_endR hP hf hfn _ ([(b, deck l (leafD l (t.arg 1) g (leafD l (t.arg 0) g q).2).2)]) (by first | (simp [go_sem, hP, hgl, hn, nT]; done) | (simp [go_sem, hP, hgl, hn, nT]; rfl)) (by simp [go_sem, hP, hgl, hn, nT]) (by simp) ?_ hR.2
        rw [hR.1]
        refine ⟨?_, by simp [nT]⟩
        try simp [nT]
        try all_goals (simp [Ty.dv, Ty.cells_eq, Ty.kind_mk, Ty.args_mk, Tm.dv, Tm.cells_eq, Tm.kind_mk, Tm.index_mk, Tm.type_mk, Tm.args_mk, Val.dv, Val.cells_eq, Val.kind_mk, Val.num_mk, Val.list_mk, Val.args_mk, ints])
      · rw [if_neg (by omega), if_neg (by omega), if_neg (by omega), if_pos h] at hR
        obtain ⟨s0, s1, hc⟩ := ht.arg (.inr h)
        have p0 := Ty.count_eq (t.arg 0)
        have p1 := Ty.count_eq (t.arg 1)
        have ha : t.args = [t.arg 0, t.arg 1] := by rw [e]; rfl
        have hgs : ∀ x ∈ g ++ [t.arg 0], x.small := by intro x hx; rcases List.mem_append.1 hx with hx | hx; exact hg x hx; rw [List.mem_singleton.1 hx]; exact s0
        refine t_g (j2 @hz2 @h) ?_
        refine t_c3 @ha (mk_longer_ok g [t.arg 0] (by simp; omega)) (ih (t.arg 1) (by rw [ha]; simp) (z - 1) (g ++ [t.arg 0]) q (by omega) (by omega) s1 hgs (by simp; omega) hq) (ref02_t_ok 2 (t.arg 0) [(leafD l (t.arg 1) (g ++ [t.arg 0]) q).1]) ?_
        repeat (first | refine W_seq ?_ | refine W_skip ?_ | refine W_block ?_ | refine W_inBlock ?_ | refine W_label ?_ | refine W_exit rfl ?_)
        first | refine W_retR hP hf hfn _ ([(b, deck l (leafD l (t.arg 1) (g ++ [t.arg 0]) q).2)]) (by first | (simp [go_sem, hP, hgl, hn]; done) | (simp [go_sem, hP, hgl, hn]; rfl)) (by simp [go_sem, hP, hgl, hn]) (by simp) ?_ hR.2 | refine W_endR hP hf hfn _ ([(b, deck l (leafD l (t.arg 1) (g ++ [t.arg 0]) q).2)]) (by first | (simp [go_sem, hP, hgl, hn]; done) | (simp [go_sem, hP, hgl, hn]; rfl)) (by simp [go_sem, hP, hgl, hn]) (by simp) ?_ hR.2
        rw [hR.1]
        refine ⟨?_, by simp⟩
        try simp
        try all_goals (simp [Ty.dv, Ty.cells_eq, Ty.kind_mk, Ty.args_mk, Tm.dv, Tm.cells_eq, Tm.kind_mk, Tm.index_mk, Tm.type_mk, Tm.args_mk, Val.dv, Val.cells_eq, Val.kind_mk, Val.num_mk, Val.list_mk, Val.args_mk, ints])
  · rw [hpk] at hR
    simp only at hR
    obtain ⟨h0, h1, k, i, hk, hi, rfl, rfl⟩ := pickD_some' hpk
    have hpos : 0 < (varsN g t).length := by omega
    have hpos3 : 0 < (nextD l p 3).1 := by omega
    have hgi := ints_get (l := natI (varsN g t)) (i := k) (n := i) (by simp [natI, hi])
    have hkl := (List.getElem?_eq_some_iff.1 hi).1
    refine t_g0 ?_
    refine t_c1 trivial (mk_vars_ok g t (by omega)) ?_
    refine t_g0 ?_
    refine t_c1 (j2 @natI_len (j2 @hpos @hpos3)) (next_ok b l p 3 (by decide) (by omega)) ?_
    refine t_g @hpos3 ?_
    refine t_c2 (j2 @natI_len (j2 @hk @hgi)) (next_ok b l (nextD l p 3).2 (varsN g t).length (by omega) (by omega)) (ref02_var_ok i) ?_
    repeat (first | refine W_seq ?_ | refine W_skip ?_ | refine W_block ?_ | refine W_inBlock ?_ | refine W_label ?_ | refine W_exit rfl ?_)
    first | refine W_retR hP hf hfn _ ([(b, deck l (nextD l (nextD l p 3).2 (varsN g t).length).2)]) (by first | (simp [go_sem, hP, hgl, hn, vT]; done) | (simp [go_sem, hP, hgl, hn, vT]; rfl)) (by simp [go_sem, hP, hgl, hn, vT]) (by simp) ?_ hR.2 | refine W_endR hP hf hfn _ ([(b, deck l (nextD l (nextD l p 3).2 (varsN g t).length).2)]) (by first | (simp [go_sem, hP, hgl, hn, vT]; done) | (simp [go_sem, hP, hgl, hn, vT]; rfl)) (by simp [go_sem, hP, hgl, hn, vT]) (by simp) ?_ hR.2
    rw [hR.1]
    refine ⟨?_, by simp [vT]⟩
    try simp [vT]
    try all_goals (simp [Ty.dv, Ty.cells_eq, Ty.kind_mk, Ty.args_mk, Tm.dv, Tm.cells_eq, Tm.kind_mk, Tm.index_mk, Tm.type_mk, Tm.args_mk, Val.dv, Val.cells_eq, Val.kind_mk, Val.num_mk, Val.list_mk, Val.args_mk, ints])
end Go.Proofs.YtmdjiajbnifjpaaDoor.Lift

namespace Go.Proofs.YtmdjiajbnifjpaaDoor.Lift
set_option linter.unusedSimpArgs false
set_option linter.unusedVariables false
set_option linter.unnecessarySimpa false
open Go
variable {gl : Globs}

def funP (g : List Ty) (t : Ty) (i : Nat) : Bool := decide ((varTy g i).kind = 4) && ((varTy g i).arg 1).same t
theorem upto_snoc {Q : Nat → Prop} {i : Nat} (h : ∀ j, j < i → Q j) (hi : Q i) : ∀ j, j < i + 1 → Q j := by
  intro j hj
  by_cases e : j = i
  · rw [e]; exact hi
  · exact h j (by omega)
theorem funN_found {g : List Ty} {t : Ty} {i : Nat} (hi : i < g.length) (h : ∀ j, j < i → funP g t j = false) (hp : funP g t i = true) : funN g t = some i := by
  unfold funN
  rw [List.find?_range_eq_some]
  exact ⟨hp, List.mem_range.2 hi, fun j hj => by show (!funP g t j) = true; rw [h j hj]; rfl⟩
theorem funN_none {g : List Ty} {t : Ty} (h : ∀ j, j < g.length → funP g t j = false) : funN g t = none := by
  unfold funN
  rw [List.find?_eq_none]
  intro j hj
  show ¬ funP g t j = true
  rw [h j (List.mem_range.1 hj)]
  decide

theorem W_cutXP {X : Ctx} {k kk : List Item} {s : St} (E : Prop) (S : St) (h1 : (E → W X kk S) → W X k s) (h2 : E → W X kk S) : W X k s := h1 h2

set_option maxHeartbeats 4000000 in
theorem mk_term_ok (b : Nat) (l : List Int) (hl : l.length ≤ 500) (n : Nat) (hn9 : n ≤ 9) : ∀ (t : Ty) (g : List Ty) (p : Nat), t.small → (∀ x ∈ g, x.small) → g.length + 3 * n + 15 ≤ 1000000 → p ≤ l.length →
    Con1 Tryd.prog gl 14 [ptr b, .sl (g.map Ty.cells), t.dv, dint n] [(b, deck l p)] (termD l n t g p).1.dv [(b, deck l (termD l n t g p).2)] := by
  induction n with
  | zero =>
    intro t g p ht hg hgl1 hp
    exact mk_term_leaf b l hl t 0 g p (by omega) (by have := ht.2; omega) ht hg (by have := ht.2; omega) hp
  | succ n ihn0 =>
  intro t g p ht hg hgl1 hp
  have ihn := ihn0 (by omega)
  have hD := termD_facts (l := l) closed_shape n
  have hg1 : ∀ a : List Ty, (∀ x ∈ a, x.small) → ∀ x ∈ g ++ a, x.small := by
    intro a ha x hx
    rcases List.mem_append.1 hx with hx | hx
    · exact hg x hx
    · exact ha x hx
  have hz2 : (0 : Int) < ((n + 1 : Nat) : Int) := by omega
  have hsub : ((n + 1 : Nat) : Int) - 1 = (n : Int) := by omega
  refine t_in Tryd.func14 ?_
  intro X hP hgl hf hfn hn hR hids hfit
  rw [termD] at hR
  have hvl : (varsN g t).length ≤ g.length := varsP_le g t g.length
  have hq3 := nextD_le (n := 3) hp
  have hb3 := nextD_bd (l := l) (p := p) (n := 3) (by decide)
  rcases hpk : pickD l t g p with ⟨_ | x, q⟩
  · rw [hpk] at hR
    simp only at hR
    have hq : q ≤ l.length := by have := pickD_le (t := t) (g := g) hp; rw [hpk] at this; exact this
    apply W_cutX [(.slot 0, .one (.v (ptr b))), (.slot 1, .one (.v (.sl (g.map Ty.cells)))), (.slot 3, .one (.v (dint ((n + 1 : Nat) : Int)))), (.slot 6, .one (.loc 6 0)), (.loc 6, .row ([.v (dint t.kind), .v (.sl (t.args.map Ty.cells))])), (.slot 8, .one (.loc 8 0)), (.loc 8, .row ([.v (dint 0), .v (dint 0), .v (dint 0), .own 0 [], .own 0 []])), (.heap  b, .row ([.v (.sl (ints l)), .v (dint q)]))]
    · intro hrest
      refine t_g0 ?_
      refine t_c1 trivial (mk_vars_ok g t (by omega)) ?_
      rcases pickD_none hpk with ⟨h0, rfl⟩ | ⟨h0, h1, rfl⟩
      · refine t_g (j2 @natI_len @h0) ?_
        refine t_b ?_
        refine t_sub [] trivial hrest
      · have hpos : 0 < (varsN g t).length := by omega
        refine t_g0 ?_
        refine t_c1 (j2 @natI_len (j2 @hpos @h1)) (next_ok b l p 3 (by decide) (by omega)) ?_
        refine t_g @h1 ?_
        refine t_b ?_
        refine t_sub [] trivial hrest
    · have hq8 := nextD_le (n := 8) hq
      have hb8 := nextD_bd (l := l) (p := q) (n := 8) (by decide)
      refine t_g @hz2 ?_
      refine t_c1 trivial (next_ok b l q 8 (by decide) (by omega)) ?_
      generalize hd : nextD l q 8 = d at *
      obtain ⟨k, r⟩ := d
      simp only at hR hb8 hq8
      have hr : r ≤ l.length := hq8
      by_cases h0 : k = 0
      · rw [stepD, if_pos h0] at hR
        have cs := mk_type_ok (gl := gl) 0 b l r hl hr (by decide)
        obtain ⟨fs, ss⟩ := typeD_small l (n := 0) hr (by decide)
        generalize hes : typeD l 0 r = rs at cs fs ss hR
        obtain ⟨s, qs⟩ := rs
        simp only at cs fs ss hR
        have cx := ihn (t) (g ++ [s]) qs ht (hg1 [s] (by simpa using ss)) (by simp; omega) fs
        have fx := (hD (t) (g ++ [s]) qs ht (hg1 [s] (by simpa using ss)) fs).1
        generalize hex : termD l n (t) (g ++ [s]) qs = rx at cx fx hR
        obtain ⟨x, qx⟩ := rx
        simp only at cx fx hR
        have cy := ihn (s) (g) qx ss hg (by omega) fx
        have fy := (hD (s) (g) qx ss hg fx).1
        generalize hey : termD l n (s) (g) qx = ry at cy fy hR
        obtain ⟨y, qy⟩ := ry
        simp only at cy fy hR
        refine t_g @h0 ?_
        refine t_c1 trivial cs ?_
        refine t_c5 @hsub (mk_longer_ok g [s] (by simp; omega)) cx (ref02_t_ok 2 s [x]) cy (ref02_n_ok 3 [Tm.mk 2 0 s [x], y]) ?_
        repeat (first | refine W_seq ?_ | refine W_skip ?_ | refine W_block ?_ | refine W_inBlock ?_ | refine W_label ?_ | refine W_exit rfl ?_)
        first | refine W_retR hP hf hfn _ ([(b, deck l qy)]) (by first | (simp [go_sem, hP, hgl, hn, nT]; done) | (simp [go_sem, hP, hgl, hn, nT]; rfl)) (by simp [go_sem, hP, hgl, hn, nT]) (by simp) ?_ hR.2 | refine W_endR hP hf hfn _ ([(b, deck l qy)]) (by first | (simp [go_sem, hP, hgl, hn, nT]; done) | (simp [go_sem, hP, hgl, hn, nT]; rfl)) (by simp [go_sem, hP, hgl, hn, nT]) (by simp) ?_ hR.2
        rw [hR.1]
        refine ⟨?_, by simp [nT]⟩
        try simp [nT]
        try all_goals (simp [Ty.dv, Ty.cells_eq, Ty.kind_mk, Ty.args_mk, Tm.dv, Tm.cells_eq, Tm.kind_mk, Tm.index_mk, Tm.type_mk, Tm.args_mk, Val.dv, Val.cells_eq, Val.kind_mk, Val.num_mk, Val.list_mk, Val.args_mk, ints])
      by_cases h1 : k = 1
      · rw [stepD, if_neg h0, if_pos h1] at hR
        have cs := mk_type_ok (gl := gl) 0 b l r hl hr (by decide)
        obtain ⟨fs, ss⟩ := typeD_small l (n := 0) hr (by decide)
        generalize hes : typeD l 0 r = rs at cs fs ss hR
        obtain ⟨s, qs⟩ := rs
        simp only at cs fs ss hR
        have cx := ihn (t) (g) qs ht hg (by omega) fs
        have fx := (hD (t) (g) qs ht hg fs).1
        generalize hex : termD l n (t) (g) qs = rx at cx fx hR
        obtain ⟨x, qx⟩ := rx
        simp only at cx fx hR
        have cy := ihn (s) (g) qx ss hg (by omega) fx
        have fy := (hD (s) (g) qx ss hg fx).1
        generalize hey : termD l n (s) (g) qx = ry at cy fy hR
        obtain ⟨y, qy⟩ := ry
        simp only at cy fy hR
        refine t_g @h1 ?_
        refine t_c1 trivial cs ?_
        refine t_c4 @hsub cx cy (ref02_n_ok 10 [x, y]) (ref02_n_ok 11 [Tm.mk 10 0 (Ty.mk 0 []) [x, y]]) ?_
        repeat (first | refine W_seq ?_ | refine W_skip ?_ | refine W_block ?_ | refine W_inBlock ?_ | refine W_label ?_ | refine W_exit rfl ?_)
        first | refine W_retR hP hf hfn _ ([(b, deck l qy)]) (by first | (simp [go_sem, hP, hgl, hn, nT]; done) | (simp [go_sem, hP, hgl, hn, nT]; rfl)) (by simp [go_sem, hP, hgl, hn, nT]) (by simp) ?_ hR.2 | refine W_endR hP hf hfn _ ([(b, deck l qy)]) (by first | (simp [go_sem, hP, hgl, hn, nT]; done) | (simp [go_sem, hP, hgl, hn, nT]; rfl)) (by simp [go_sem, hP, hgl, hn, nT]) (by simp) ?_ hR.2
        rw [hR.1]
        refine ⟨?_, by simp [nT]⟩
        try simp [nT]
        try all_goals (simp [Ty.dv, Ty.cells_eq, Ty.kind_mk, Ty.args_mk, Tm.dv, Tm.cells_eq, Tm.kind_mk, Tm.index_mk, Tm.type_mk, Tm.args_mk, Val.dv, Val.cells_eq, Val.kind_mk, Val.num_mk, Val.list_mk, Val.args_mk, ints])
      by_cases h2 : k = 2
      · rw [stepD, if_neg h0, if_neg h1, if_pos h2] at hR
        have cx := ihn (t) (g ++ [Ty.mk 1 [], t]) r ht (hg1 [Ty.mk 1 [], t] (by intro x hx; simp at hx; rcases hx with rfl | rfl; exact small_nat; exact ht)) (by simp; omega) hr
        have fx := (hD (t) (g ++ [Ty.mk 1 [], t]) r ht (hg1 [Ty.mk 1 [], t] (by intro x hx; simp at hx; rcases hx with rfl | rfl; exact small_nat; exact ht)) hr).1
        generalize hex : termD l n (t) (g ++ [Ty.mk 1 [], t]) r = rx at cx fx hR
        obtain ⟨x, qx⟩ := rx
        simp only at cx fx hR
        have cy := ihn (t) (g) qx ht hg (by omega) fx
        have fy := (hD (t) (g) qx ht hg fx).1
        generalize hey : termD l n (t) (g) qx = ry at cy fy hR
        obtain ⟨y, qy⟩ := ry
        simp only at cy fy hR
        have hqy := nextD_le (n := 3) fy
        have hby := nextD_bd (l := l) (p := qy) (n := 3) (by decide)
        obtain ⟨m, hm⟩ : ∃ m : Nat, (nextD l qy 3).1 = m := ⟨_, (Int.toNat_of_nonneg hby.1).symm⟩
        rw [hm] at hby
        refine t_g @h2 ?_
        refine t_c6 (j2 @hsub @nat_v) ref01_nat_ok ref01_nat_ok (mk_longer_ok g [Ty.mk 1 [], t] (by simp; omega)) cx (ref02_t_ok 2 t [x]) (ref02_t_ok 2 (Ty.mk 1 []) [Tm.mk 2 0 t [x]]) ?_
        refine t_c4 (j2 @hsub @hm) cy (next_ok b l qy 3 (by decide) (by omega)) (mk_num_ok m (by omega)) (ref02_t_ok 6 t [y, Tm.mk 2 0 (Ty.mk 1 []) [Tm.mk 2 0 t [x]], numTm m]) ?_
        repeat (first | refine W_seq ?_ | refine W_skip ?_ | refine W_block ?_ | refine W_inBlock ?_ | refine W_label ?_ | refine W_exit rfl ?_)
        first | refine W_retR hP hf hfn _ ([(b, deck l (nextD l qy 3).2)]) (by first | (simp [go_sem, hP, hgl, hn, numD, hm]; done) | (simp [go_sem, hP, hgl, hn, numD, hm]; rfl)) (by simp [go_sem, hP, hgl, hn, numD, hm]) (by simp) ?_ hR.2 | refine W_endR hP hf hfn _ ([(b, deck l (nextD l qy 3).2)]) (by first | (simp [go_sem, hP, hgl, hn, numD, hm]; done) | (simp [go_sem, hP, hgl, hn, numD, hm]; rfl)) (by simp [go_sem, hP, hgl, hn, numD, hm]) (by simp) ?_ hR.2
        rw [hR.1]
        refine ⟨?_, by simp [numD, hm]⟩
        try simp [numD, hm]
        try all_goals (simp [Ty.dv, Ty.cells_eq, Ty.kind_mk, Ty.args_mk, Tm.dv, Tm.cells_eq, Tm.kind_mk, Tm.index_mk, Tm.type_mk, Tm.args_mk, Val.dv, Val.cells_eq, Val.kind_mk, Val.num_mk, Val.list_mk, Val.args_mk, ints])
      by_cases h3 : k = 3
      · rw [stepD, if_neg h0, if_neg h1, if_neg h2, if_pos h3] at hR
        have cx := ihn (t) (g ++ [Ty.mk 1 [], Ty.mk 2 [], t]) r ht (hg1 [Ty.mk 1 [], Ty.mk 2 [], t] (by intro x hx; simp at hx; rcases hx with rfl | rfl | rfl; exact small_nat; exact small_list; exact ht)) (by simp; omega) hr
        have fx := (hD (t) (g ++ [Ty.mk 1 [], Ty.mk 2 [], t]) r ht (hg1 [Ty.mk 1 [], Ty.mk 2 [], t] (by intro x hx; simp at hx; rcases hx with rfl | rfl | rfl; exact small_nat; exact small_list; exact ht)) hr).1
        generalize hex : termD l n (t) (g ++ [Ty.mk 1 [], Ty.mk 2 [], t]) r = rx at cx fx hR
        obtain ⟨x, qx⟩ := rx
        simp only at cx fx hR
        have cy := ihn (t) (g) qx ht hg (by omega) fx
        have fy := (hD (t) (g) qx ht hg fx).1
        generalize hey : termD l n (t) (g) qx = ry at cy fy hR
        obtain ⟨y, qy⟩ := ry
        simp only at cy fy hR
        have cz := ihn (Ty.mk 2 []) (g) qy small_list hg (by omega) fy
        have fz := (hD (Ty.mk 2 []) (g) qy small_list hg fy).1
        generalize hez : termD l n (Ty.mk 2 []) (g) qy = rz at cz fz hR
        obtain ⟨z, qz⟩ := rz
        simp only at cz fz hR
        refine t_g @h3 ?_
        refine t_c9 (j2 @hsub (j2 @nat_v @list_v)) ref01_nat_ok ref01_list_ok ref01_nat_ok ref01_list_ok (mk_longer_ok g [Ty.mk 1 [], Ty.mk 2 [], t] (by simp; omega)) cx (ref02_t_ok 2 t [x]) (ref02_t_ok 2 (Ty.mk 2 []) [Tm.mk 2 0 t [x]]) (ref02_t_ok 2 (Ty.mk 1 []) [Tm.mk 2 0 (Ty.mk 2 []) [Tm.mk 2 0 t [x]]]) ?_
        refine t_c4 (j2 @hsub @list_v) cy ref01_list_ok cz (ref02_t_ok 9 t [y, Tm.mk 2 0 (Ty.mk 1 []) [Tm.mk 2 0 (Ty.mk 2 []) [Tm.mk 2 0 t [x]]], z]) ?_
        repeat (first | refine W_seq ?_ | refine W_skip ?_ | refine W_block ?_ | refine W_inBlock ?_ | refine W_label ?_ | refine W_exit rfl ?_)
        first | refine W_retR hP hf hfn _ ([(b, deck l qz)]) (by first | (simp [go_sem, hP, hgl, hn]; done) | (simp [go_sem, hP, hgl, hn]; rfl)) (by simp [go_sem, hP, hgl, hn]) (by simp) ?_ hR.2 | refine W_endR hP hf hfn _ ([(b, deck l qz)]) (by first | (simp [go_sem, hP, hgl, hn]; done) | (simp [go_sem, hP, hgl, hn]; rfl)) (by simp [go_sem, hP, hgl, hn]) (by simp) ?_ hR.2
        rw [hR.1]
        refine ⟨?_, by simp⟩
        try simp
        try all_goals (simp [Ty.dv, Ty.cells_eq, Ty.kind_mk, Ty.args_mk, Tm.dv, Tm.cells_eq, Tm.kind_mk, Tm.index_mk, Tm.type_mk, Tm.args_mk, Val.dv, Val.cells_eq, Val.kind_mk, Val.num_mk, Val.list_mk, Val.args_mk, ints])
      by_cases h4 : k = 4
      · rw [stepD, if_neg h0, if_neg h1, if_neg h2, if_neg h3, if_pos h4] at hR
        have cs := mk_type_ok (gl := gl) 0 b l r hl hr (by decide)
        obtain ⟨fs, ss⟩ := typeD_small l (n := 0) hr (by decide)
        generalize hes : typeD l 0 r = rs at cs fs ss hR
        obtain ⟨s, qs⟩ := rs
        simp only at cs fs ss hR
        have cx := ihn (s) (g) qs ss hg (by omega) fs
        have fx := (hD (s) (g) qs ss hg fs).1
        generalize hex : termD l n (s) (g) qs = rx at cx fx hR
        obtain ⟨x, qx⟩ := rx
        simp only at cx fx hR
        have cy := ihn (t) (g) qx ht hg (by omega) fx
        have fy := (hD (t) (g) qx ht hg fx).1
        generalize hey : termD l n (t) (g) qx = ry at cy fy hR
        obtain ⟨y, qy⟩ := ry
        simp only at cy fy hR
        refine t_g @h4 ?_
        refine t_c1 trivial cs ?_
        refine t_c4 @hsub cx cy (ref02_n_ok 10 [x, y]) (ref02_n_ok 12 [Tm.mk 10 0 (Ty.mk 0 []) [x, y]]) ?_
        repeat (first | refine W_seq ?_ | refine W_skip ?_ | refine W_block ?_ | refine W_inBlock ?_ | refine W_label ?_ | refine W_exit rfl ?_)
        first | refine W_retR hP hf hfn _ ([(b, deck l qy)]) (by first | (simp [go_sem, hP, hgl, hn, nT]; done) | (simp [go_sem, hP, hgl, hn, nT]; rfl)) (by simp [go_sem, hP, hgl, hn, nT]) (by simp) ?_ hR.2 | refine W_endR hP hf hfn _ ([(b, deck l qy)]) (by first | (simp [go_sem, hP, hgl, hn, nT]; done) | (simp [go_sem, hP, hgl, hn, nT]; rfl)) (by simp [go_sem, hP, hgl, hn, nT]) (by simp) ?_ hR.2
        rw [hR.1]
        refine ⟨?_, by simp [nT]⟩
        try simp [nT]
        try all_goals (simp [Ty.dv, Ty.cells_eq, Ty.kind_mk, Ty.args_mk, Tm.dv, Tm.cells_eq, Tm.kind_mk, Tm.index_mk, Tm.type_mk, Tm.args_mk, Val.dv, Val.cells_eq, Val.kind_mk, Val.num_mk, Val.list_mk, Val.args_mk, ints])
      apply W_cutXP (stepD l (termD l n) t g k r = endD l (termD l n) t g r) [(.slot 215, .one (.v (dbool (decide (t.kind = 1))))), (.slot 214, .one (.v (dint t.kind))), (.slot 0, .one (.v (ptr b))), (.slot 1, .one (.v (.sl (g.map Ty.cells)))), (.slot 3, .one (.v (dint ((n + 1 : Nat) : Int)))), (.slot 6, .one (.loc 6 0)), (.loc 6, .row ([.v (dint t.kind), .v (.sl (t.args.map Ty.cells))])), (.slot 8, .one (.loc 8 0)), (.loc 8, .row ([.v (dint 0), .v (dint 0), .v (dint 0), .own 0 [], .own 0 []])), (.heap  b, .row ([.v (.sl (ints l)), .v (dint r)]))]
      · intro hrest
        by_cases h5 : k = 5
        · refine t_g @h5 ?_
          refine t_a ?_
          refine t_sub [] trivial (W_upto (g.length) (fun i => ∀ j, j < i → funP g t j = false) (fun i => [(.slot 177, .one (.v (dint i))), (.slot 176, .one (.v (dint g.length))), (.slot 0, .one (.v (ptr b))), (.slot 1, .one (.v (.sl (g.map Ty.cells)))), (.slot 3, .one (.v (dint ((n + 1 : Nat) : Int)))), (.slot 6, .one (.loc 6 0)), (.loc 6, .row ([.v (dint t.kind), .v (.sl (t.args.map Ty.cells))])), (.slot 8, .one (.loc 8 0)), (.loc 8, .row ([.v (dint 0), .v (dint 0), .v (dint 0), .own 0 [], .own 0 []])), (.heap  b, .row ([.v (.sl (ints l)), .v (dint r)]))]) (by intro j hj; omega) ?_ ?_)
          · intro i hi hI hnext
            have hvt := (varTy_mem hi).2
            have hix : (g.length : Int) - 1 - i = ((g.length - 1 - i : Nat) : Int) := by omega
            refine t_rg0 ?_
            refine t_yes ?_
            refine t_g (j2 @hix @hvt) ?_
            by_cases hk4 : (varTy g i).kind = 4
            · have hfs := hg _ (varTy_mem hi).1
              obtain ⟨c0, c1, -⟩ := hfs.arg (.inr hk4)
              obtain ⟨a0, a1, ha, -, -, e0, e1⟩ := Ty.ok_args hfs.ok (.inr hk4)
              rw [e0] at c0
              refine t_c1 (j2 @hix (j2 @hvt (j2 @hk4 @ha))) (ref01_same_ok a1 t) ?_
              by_cases hs : a1.same t = true
              · have hfi : funN g t = some i := funN_found hi hI (by simp [funP, hk4, e1, hs])
                rw [stepD, if_neg h0, if_neg h1, if_neg h2, if_neg h3, if_neg h4, if_pos h5, hfi] at hR
                simp only at hR
                rw [e0] at hR
                have cx := ihn (a0) (g) r c0 hg (by omega) hr
                have fx := (hD (a0) (g) r c0 hg hr).1
                generalize hex : termD l n (a0) (g) r = rx at cx fx hR
                obtain ⟨x, qx⟩ := rx
                simp only at cx fx hR
                refine t_g @hs ?_
                refine t_a ?_
                first | refine W_reg [] fun K hK => ?_ | refine W_regd (by rw [hP]; exact mixed) [] fun K hK => ?_
                simp [go_sem, hP, hgl, hn, hsub, ha, vT]
                repeat (refine ⟨by omega, ?_⟩)
                first | refine vcK_call hP hgl (ref02_var_ok i) (by simp [go_sem, hP, hgl, hn, hsub, ha, vT]) rfl (by simp [go_sem]) (by simp) (by rw [hn]; exact Nat.le_of_ble_eq_true rfl) ?_ | refine vcdC_call (fun _ _ => vcd_sound) hP hgl (ref02_var_ok i) (by simp [go_sem, hP, hgl, hn, hsub, ha, vT]) rfl (by simp [go_sem]) (by simp) (by rw [hn]; exact Nat.le_of_ble_eq_true rfl) ?_ | refine vcK_callG hP hgl (ref02_var_ok i) (by simp [go_sem, hP, hgl, hn, hsub, ha, vT]) rfl (by simp [go_sem]) (by simp) (by rw [hn]; exact Nat.le_of_ble_eq_true rfl) (by simp [go_sem]; rfl) (by rw [hn]; exact Nat.le_of_ble_eq_true rfl) (by simp [go_sem]) ?_ | refine vcdC_callG (fun _ _ => vcd_sound) hP hgl (ref02_var_ok i) (by simp [go_sem, hP, hgl, hn, hsub, ha, vT]) rfl (by simp [go_sem]) (by simp) (by rw [hn]; exact Nat.le_of_ble_eq_true rfl) (by simp [go_sem]; rfl) (by rw [hn]; exact Nat.le_of_ble_eq_true rfl) (by simp [go_sem]) ?_
                simp [go_sem, hP, hgl, hn, hsub, ha, vT]
                repeat (refine ⟨by omega, ?_⟩)
                first | refine vcK_call hP hgl (cx) (by simp [go_sem, hP, hgl, hn, hsub, ha, vT]) rfl (by simp [go_sem]) (by simp) (by rw [hn]; exact Nat.le_of_ble_eq_true rfl) ?_ | refine vcdC_call (fun _ _ => vcd_sound) hP hgl (cx) (by simp [go_sem, hP, hgl, hn, hsub, ha, vT]) rfl (by simp [go_sem]) (by simp) (by rw [hn]; exact Nat.le_of_ble_eq_true rfl) ?_ | refine vcK_callG hP hgl (cx) (by simp [go_sem, hP, hgl, hn, hsub, ha, vT]) rfl (by simp [go_sem]) (by simp) (by rw [hn]; exact Nat.le_of_ble_eq_true rfl) (by simp [go_sem]; rfl) (by rw [hn]; exact Nat.le_of_ble_eq_true rfl) (by simp [go_sem]) ?_ | refine vcdC_callG (fun _ _ => vcd_sound) hP hgl (cx) (by simp [go_sem, hP, hgl, hn, hsub, ha, vT]) rfl (by simp [go_sem]) (by simp) (by rw [hn]; exact Nat.le_of_ble_eq_true rfl) (by simp [go_sem]; rfl) (by rw [hn]; exact Nat.le_of_ble_eq_true rfl) (by simp [go_sem]) ?_
                simp [go_sem, hP, hgl, hn, hsub, ha, vT]
                repeat (refine ⟨by omega, ?_⟩)
                first | refine vcK_call hP hgl (ref02_n_ok 3 [vT i, x]) (by simp [go_sem, hP, hgl, hn, hsub, ha, vT]) rfl (by simp [go_sem]) (by simp) (by rw [hn]; exact Nat.le_of_ble_eq_true rfl) ?_ | refine vcdC_call (fun _ _ => vcd_sound) hP hgl (ref02_n_ok 3 [vT i, x]) (by simp [go_sem, hP, hgl, hn, hsub, ha, vT]) rfl (by simp [go_sem]) (by simp) (by rw [hn]; exact Nat.le_of_ble_eq_true rfl) ?_ | refine vcK_callG hP hgl (ref02_n_ok 3 [vT i, x]) (by simp [go_sem, hP, hgl, hn, hsub, ha, vT]) rfl (by simp [go_sem]) (by simp) (by rw [hn]; exact Nat.le_of_ble_eq_true rfl) (by simp [go_sem]; rfl) (by rw [hn]; exact Nat.le_of_ble_eq_true rfl) (by simp [go_sem]) ?_ | refine vcdC_callG (fun _ _ => vcd_sound) hP hgl (ref02_n_ok 3 [vT i, x]) (by simp [go_sem, hP, hgl, hn, hsub, ha, vT]) rfl (by simp [go_sem]) (by simp) (by rw [hn]; exact Nat.le_of_ble_eq_true rfl) (by simp [go_sem]; rfl) (by rw [hn]; exact Nat.le_of_ble_eq_true rfl) (by simp [go_sem]) ?_
                simp [go_sem, hP, hgl, hn, hsub, ha, vT]
                refine t_e ?_
                clear hK K
                repeat (first | refine W_seq ?_ | refine W_skip ?_ | refine W_block ?_ | refine W_inBlock ?_ | refine W_label ?_ | refine W_exit rfl ?_)
                first | refine W_retR hP hf hfn _ ([(b, deck l qx)]) (by first | (simp [go_sem, hP, hgl, hn, nT, vT]; done) | (simp [go_sem, hP, hgl, hn, nT, vT]; rfl)) (by simp [go_sem, hP, hgl, hn, nT, vT]) (by simp) ?_ hR.2 | refine W_endR hP hf hfn _ ([(b, deck l qx)]) (by first | (simp [go_sem, hP, hgl, hn, nT, vT]; done) | (simp [go_sem, hP, hgl, hn, nT, vT]; rfl)) (by simp [go_sem, hP, hgl, hn, nT, vT]) (by simp) ?_ hR.2
                rw [hR.1]
                refine ⟨?_, by simp [nT, vT]⟩
                try simp [nT, vT]
                try all_goals (simp [Ty.dv, Ty.cells_eq, Ty.kind_mk, Ty.args_mk, Tm.dv, Tm.cells_eq, Tm.kind_mk, Tm.index_mk, Tm.type_mk, Tm.args_mk, Val.dv, Val.cells_eq, Val.kind_mk, Val.num_mk, Val.list_mk, Val.args_mk, ints])
              · refine t_gt (wr []) trivial @hs (hnext (upto_snoc hI (by simp [funP, hk4, e1, hs])))
            · refine t_gt (wr []) trivial @hk4 (hnext (upto_snoc hI (by simp [funP, hk4])))
          · intro hI
            refine t_rg0 ?_
            refine t_no ?_
            refine t_g0 ?_
            refine t_b ?_
            refine t_sub [] trivial (hrest (by rw [stepD, if_neg h0, if_neg h1, if_neg h2, if_neg h3, if_neg h4, if_pos h5, funN_none hI]))
        · have hE : stepD l (termD l n) t g k r = endD l (termD l n) t g r := by rw [stepD, if_neg h0, if_neg h1, if_neg h2, if_neg h3, if_neg h4, if_neg h5]
          by_cases h6 : k = 6
          · refine t_g @h6 ?_
            refine t_b ?_
            refine t_sub [] trivial (hrest hE)
          · have h7 : k = 7 := by omega
            refine t_g @h7 ?_
            refine t_b ?_
            refine t_sub [] trivial (hrest hE)
      · intro hE
        rw [hE, endD] at hR
        have h5q := nextD_le (n := 5) hr
        have h2q := nextD_le (n := 2) hr
        have hfd := Ty.fold t
        rcases small_kinds ht with ⟨h, e⟩ | ⟨h, e⟩ | ⟨h, e⟩ | ⟨h, e⟩ | ⟨h, e⟩
        · rw [if_pos h] at hR
          rw [h] at hfd
          have hb5 := nextD_bd (l := l) (p := r) (n := 5) (by decide)
          refine t_g (j2 @h @hz2) ?_
          refine t_c1 trivial (next_ok b l r 5 (by decide) (by omega)) ?_
          generalize hd5 : nextD l r 5 = d at *
          obtain ⟨c, q5⟩ := d
          simp only at hR hb5 h5q
          by_cases c0 : c = 0
          · rw [if_pos c0] at hR
            have cx := ihn (t) (g) q5 ht hg (by omega) h5q
            have fx := (hD (t) (g) q5 ht hg h5q).1
            generalize hex : termD l n (t) (g) q5 = rx at cx fx hR
            obtain ⟨x, qx⟩ := rx
            simp only at cx fx hR
            refine t_g @c0 ?_
            refine t_c2 (j2 @hsub @hfd) cx (ref02_n_ok 5 [x]) ?_
            repeat (first | refine W_seq ?_ | refine W_skip ?_ | refine W_block ?_ | refine W_inBlock ?_ | refine W_label ?_ | refine W_exit rfl ?_)
            first | refine W_retR hP hf hfn _ ([(b, deck l qx)]) (by first | (simp [go_sem, hP, hgl, hn, nT]; done) | (simp [go_sem, hP, hgl, hn, nT]; rfl)) (by simp [go_sem, hP, hgl, hn, nT]) (by simp) ?_ hR.2 | refine W_endR hP hf hfn _ ([(b, deck l qx)]) (by first | (simp [go_sem, hP, hgl, hn, nT]; done) | (simp [go_sem, hP, hgl, hn, nT]; rfl)) (by simp [go_sem, hP, hgl, hn, nT]) (by simp) ?_ hR.2
            rw [hR.1]
            refine ⟨?_, by simp [nT]⟩
            try simp [nT]
            try all_goals (simp [Ty.dv, Ty.cells_eq, Ty.kind_mk, Ty.args_mk, Tm.dv, Tm.cells_eq, Tm.kind_mk, Tm.index_mk, Tm.type_mk, Tm.args_mk, Val.dv, Val.cells_eq, Val.kind_mk, Val.num_mk, Val.list_mk, Val.args_mk, ints])
          rw [if_neg c0] at hR
          by_cases c1 : c = 1
          · rw [if_pos c1] at hR
            have cx := ihn (t) (g) q5 ht hg (by omega) h5q
            have fx := (hD (t) (g) q5 ht hg h5q).1
            generalize hex : termD l n (t) (g) q5 = rx at cx fx hR
            obtain ⟨x, qx⟩ := rx
            simp only at cx fx hR
            have cy := ihn (t) (g) qx ht hg (by omega) fx
            have fy := (hD (t) (g) qx ht hg fx).1
            generalize hey : termD l n (t) (g) qx = ry at cy fy hR
            obtain ⟨y, qy⟩ := ry
            simp only at cy fy hR
            refine t_g @c1 ?_
            refine t_c4 (j2 @hsub @hfd) ref05_plus_ok cx cy (mk_app_ok plusT [x, y]) ?_
            repeat (first | refine W_seq ?_ | refine W_skip ?_ | refine W_block ?_ | refine W_inBlock ?_ | refine W_label ?_ | refine W_exit rfl ?_)
            first | refine W_retR hP hf hfn _ ([(b, deck l qy)]) (by first | (simp [go_sem, hP, hgl, hn]; done) | (simp [go_sem, hP, hgl, hn]; rfl)) (by simp [go_sem, hP, hgl, hn]) (by simp) ?_ hR.2 | refine W_endR hP hf hfn _ ([(b, deck l qy)]) (by first | (simp [go_sem, hP, hgl, hn]; done) | (simp [go_sem, hP, hgl, hn]; rfl)) (by simp [go_sem, hP, hgl, hn]) (by simp) ?_ hR.2
            rw [hR.1]
            refine ⟨?_, by simp⟩
            try simp
            try all_goals (simp [Ty.dv, Ty.cells_eq, Ty.kind_mk, Ty.args_mk, Tm.dv, Tm.cells_eq, Tm.kind_mk, Tm.index_mk, Tm.type_mk, Tm.args_mk, Val.dv, Val.cells_eq, Val.kind_mk, Val.num_mk, Val.list_mk, Val.args_mk, ints])
          rw [if_neg c1] at hR
          by_cases c2 : c = 2
          · rw [if_pos c2] at hR
            have cx := ihn (t) (g) q5 ht hg (by omega) h5q
            have fx := (hD (t) (g) q5 ht hg h5q).1
            generalize hex : termD l n (t) (g) q5 = rx at cx fx hR
            obtain ⟨x, qx⟩ := rx
            simp only at cx fx hR
            have cy := ihn (t) (g) qx ht hg (by omega) fx
            have fy := (hD (t) (g) qx ht hg fx).1
            generalize hey : termD l n (t) (g) qx = ry at cy fy hR
            obtain ⟨y, qy⟩ := ry
            simp only at cy fy hR
            refine t_g @c2 ?_
            refine t_c4 (j2 @hsub @hfd) ref05_sub_ok cx cy (mk_app_ok subT [x, y]) ?_
            repeat (first | refine W_seq ?_ | refine W_skip ?_ | refine W_block ?_ | refine W_inBlock ?_ | refine W_label ?_ | refine W_exit rfl ?_)
            first | refine W_retR hP hf hfn _ ([(b, deck l qy)]) (by first | (simp [go_sem, hP, hgl, hn]; done) | (simp [go_sem, hP, hgl, hn]; rfl)) (by simp [go_sem, hP, hgl, hn]) (by simp) ?_ hR.2 | refine W_endR hP hf hfn _ ([(b, deck l qy)]) (by first | (simp [go_sem, hP, hgl, hn]; done) | (simp [go_sem, hP, hgl, hn]; rfl)) (by simp [go_sem, hP, hgl, hn]) (by simp) ?_ hR.2
            rw [hR.1]
            refine ⟨?_, by simp⟩
            try simp
            try all_goals (simp [Ty.dv, Ty.cells_eq, Ty.kind_mk, Ty.args_mk, Tm.dv, Tm.cells_eq, Tm.kind_mk, Tm.index_mk, Tm.type_mk, Tm.args_mk, Val.dv, Val.cells_eq, Val.kind_mk, Val.num_mk, Val.list_mk, Val.args_mk, ints])
          rw [if_neg c2] at hR
          have hb3 := nextD_bd (l := l) (p := q5) (n := 3) (by decide)
          obtain ⟨m, hm⟩ : ∃ m : Nat, (nextD l q5 3).1 = m := ⟨_, (Int.toNat_of_nonneg hb3.1).symm⟩
          rw [hm] at hb3
          by_cases c3 : c = 3
          · refine t_g @c3 ?_
            refine t_c2 @hm (next_ok b l q5 3 (by decide) (by omega)) (mk_num_ok m (by omega)) ?_
            repeat (first | refine W_seq ?_ | refine W_skip ?_ | refine W_block ?_ | refine W_inBlock ?_ | refine W_label ?_ | refine W_exit rfl ?_)
            first | refine W_retR hP hf hfn _ ([(b, deck l (nextD l q5 3).2)]) (by first | (simp [go_sem, hP, hgl, hn, numD, hm]; done) | (simp [go_sem, hP, hgl, hn, numD, hm]; rfl)) (by simp [go_sem, hP, hgl, hn, numD, hm]) (by simp) ?_ hR.2 | refine W_endR hP hf hfn _ ([(b, deck l (nextD l q5 3).2)]) (by first | (simp [go_sem, hP, hgl, hn, numD, hm]; done) | (simp [go_sem, hP, hgl, hn, numD, hm]; rfl)) (by simp [go_sem, hP, hgl, hn, numD, hm]) (by simp) ?_ hR.2
            rw [hR.1]
            refine ⟨?_, by simp [numD, hm]⟩
            try simp [numD, hm]
            try all_goals (simp [Ty.dv, Ty.cells_eq, Ty.kind_mk, Ty.args_mk, Tm.dv, Tm.cells_eq, Tm.kind_mk, Tm.index_mk, Tm.type_mk, Tm.args_mk, Val.dv, Val.cells_eq, Val.kind_mk, Val.num_mk, Val.list_mk, Val.args_mk, ints])
          · have c4 : c = 4 := by omega
            refine t_g @c4 ?_
            refine t_c2 @hm (next_ok b l q5 3 (by decide) (by omega)) (mk_num_ok m (by omega)) ?_
            repeat (first | refine W_seq ?_ | refine W_skip ?_ | refine W_block ?_ | refine W_inBlock ?_ | refine W_label ?_ | refine W_exit rfl ?_)
            first | refine W_retR hP hf hfn _ ([(b, deck l (nextD l q5 3).2)]) (by first | (simp [go_sem, hP, hgl, hn, numD, hm]; done) | (simp [go_sem, hP, hgl, hn, numD, hm]; rfl)) (by simp [go_sem, hP, hgl, hn, numD, hm]) (by simp) ?_ hR.2 | refine W_endR hP hf hfn _ ([(b, deck l (nextD l q5 3).2)]) (by first | (simp [go_sem, hP, hgl, hn, numD, hm]; done) | (simp [go_sem, hP, hgl, hn, numD, hm]; rfl)) (by simp [go_sem, hP, hgl, hn, numD, hm]) (by simp) ?_ hR.2
            rw [hR.1]
            refine ⟨?_, by simp [numD, hm]⟩
            try simp [numD, hm]
            try all_goals (simp [Ty.dv, Ty.cells_eq, Ty.kind_mk, Ty.args_mk, Tm.dv, Tm.cells_eq, Tm.kind_mk, Tm.index_mk, Tm.type_mk, Tm.args_mk, Val.dv, Val.cells_eq, Val.kind_mk, Val.num_mk, Val.list_mk, Val.args_mk, ints])
        · rw [if_neg (by omega), if_pos h] at hR
          rw [h] at hfd
          have hb2 := nextD_bd (l := l) (p := r) (n := 2) (by decide)
          refine t_g @h ?_
          generalize hd2 : nextD l r 2 = d at *
          obtain ⟨c, q2⟩ := d
          have cn := next_ok (gl := gl) b l r 2 (by decide) (by omega)
          rw [hd2] at cn
          simp only at hR hb2 h2q cn
          by_cases c0 : c = 0
          · rw [if_pos c0] at hR
            have cx := ihn (Ty.mk 1 []) (g) q2 small_nat hg (by omega) h2q
            have fx := (hD (Ty.mk 1 []) (g) q2 small_nat hg h2q).1
            generalize hex : termD l n (Ty.mk 1 []) (g) q2 = rx at cx fx hR
            obtain ⟨x, qx⟩ := rx
            simp only at cx fx hR
            have cy := ihn (t) (g) qx ht hg (by omega) fx
            have fy := (hD (t) (g) qx ht hg fx).1
            generalize hey : termD l n (t) (g) qx = ry at cy fy hR
            obtain ⟨y, qy⟩ := ry
            simp only at cy fy hR
            refine t_c1 (j2 @hz2 @c0) cn ?_
            refine t_g @c0 ?_
            refine t_c4 (j2 @hsub (j2 @nat_v @hfd)) ref01_nat_ok cx cy (ref02_n_ok 8 [x, y]) ?_
            repeat (first | refine W_seq ?_ | refine W_skip ?_ | refine W_block ?_ | refine W_inBlock ?_ | refine W_label ?_ | refine W_exit rfl ?_)
            first | refine W_retR hP hf hfn _ ([(b, deck l qy)]) (by first | (simp [go_sem, hP, hgl, hn, nT]; done) | (simp [go_sem, hP, hgl, hn, nT]; rfl)) (by simp [go_sem, hP, hgl, hn, nT]) (by simp) ?_ hR.2 | refine W_endR hP hf hfn _ ([(b, deck l qy)]) (by first | (simp [go_sem, hP, hgl, hn, nT]; done) | (simp [go_sem, hP, hgl, hn, nT]; rfl)) (by simp [go_sem, hP, hgl, hn, nT]) (by simp) ?_ hR.2
            rw [hR.1]
            refine ⟨?_, by simp [nT]⟩
            try simp [nT]
            try all_goals (simp [Ty.dv, Ty.cells_eq, Ty.kind_mk, Ty.args_mk, Tm.dv, Tm.cells_eq, Tm.kind_mk, Tm.index_mk, Tm.type_mk, Tm.args_mk, Val.dv, Val.cells_eq, Val.kind_mk, Val.num_mk, Val.list_mk, Val.args_mk, ints])
          · rw [if_neg c0] at hR
            refine t_c1 (j2 @hz2 @c0) cn ?_
            refine t_g @c0 ?_
            refine t_c1 trivial (ref02_n_ok 7 []) ?_
            repeat (first | refine W_seq ?_ | refine W_skip ?_ | refine W_block ?_ | refine W_inBlock ?_ | refine W_label ?_ | refine W_exit rfl ?_)
            first | refine W_retR hP hf hfn _ ([(b, deck l q2)]) (by first | (simp [go_sem, hP, hgl, hn, nT]; done) | (simp [go_sem, hP, hgl, hn, nT]; rfl)) (by simp [go_sem, hP, hgl, hn, nT]) (by simp) ?_ hR.2 | refine W_endR hP hf hfn _ ([(b, deck l q2)]) (by first | (simp [go_sem, hP, hgl, hn, nT]; done) | (simp [go_sem, hP, hgl, hn, nT]; rfl)) (by simp [go_sem, hP, hgl, hn, nT]) (by simp) ?_ hR.2
            rw [hR.1]
            refine ⟨?_, by simp [nT]⟩
            try simp [nT]
            try all_goals (simp [Ty.dv, Ty.cells_eq, Ty.kind_mk, Ty.args_mk, Tm.dv, Tm.cells_eq, Tm.kind_mk, Tm.index_mk, Tm.type_mk, Tm.args_mk, Val.dv, Val.cells_eq, Val.kind_mk, Val.num_mk, Val.list_mk, Val.args_mk, ints])
        · rw [if_neg (by omega), if_neg (by omega), if_neg (by omega), if_neg (by omega)] at hR
          refine t_g @h ?_
          refine t_c1 trivial (ref02_n_ok 13 []) ?_
          repeat (first | refine W_seq ?_ | refine W_skip ?_ | refine W_block ?_ | refine W_inBlock ?_ | refine W_label ?_ | refine W_exit rfl ?_)
          first | refine W_retR hP hf hfn _ ([(b, deck l r)]) (by first | (simp [go_sem, hP, hgl, hn, nT]; done) | (simp [go_sem, hP, hgl, hn, nT]; rfl)) (by simp [go_sem, hP, hgl, hn, nT]) (by simp) ?_ hR.2 | refine W_endR hP hf hfn _ ([(b, deck l r)]) (by first | (simp [go_sem, hP, hgl, hn, nT]; done) | (simp [go_sem, hP, hgl, hn, nT]; rfl)) (by simp [go_sem, hP, hgl, hn, nT]) (by simp) ?_ hR.2
          rw [hR.1]
          refine ⟨?_, by simp [nT]⟩
          try simp [nT]
          try all_goals (simp [Ty.dv, Ty.cells_eq, Ty.kind_mk, Ty.args_mk, Tm.dv, Tm.cells_eq, Tm.kind_mk, Tm.index_mk, Tm.type_mk, Tm.args_mk, Val.dv, Val.cells_eq, Val.kind_mk, Val.num_mk, Val.list_mk, Val.args_mk, ints])
        · rw [if_neg (by omega), if_neg (by omega), if_pos h] at hR
          obtain ⟨s0, s1, hc⟩ := ht.arg (.inl h)
          have ha : t.args = [t.arg 0, t.arg 1] := by rw [e]; rfl
          have cx := ihn (t.arg 0) (g) r s0 hg (by omega) hr
          have fx := (hD (t.arg 0) (g) r s0 hg hr).1
          generalize hex : termD l n (t.arg 0) (g) r = rx at cx fx hR
          obtain ⟨x, qx⟩ := rx
          simp only at cx fx hR
          have cy := ihn (t.arg 1) (g) qx s1 hg (by omega) fx
          have fy := (hD (t.arg 1) (g) qx s1 hg fx).1
          generalize hey : termD l n (t.arg 1) (g) qx = ry at cy fy hR
          obtain ⟨y, qy⟩ := ry
          simp only at cy fy hR
          refine t_g @h ?_
          refine t_c3 (j2 @hsub @ha) cx cy (ref02_n_ok 10 [x, y]) ?_
          repeat (first | refine W_seq ?_ | refine W_skip ?_ | refine W_block ?_ | refine W_inBlock ?_ | refine W_label ?_ | refine W_exit rfl ?_)
          first | refine W_retR hP hf hfn _ ([(b, deck l qy)]) (by first | (simp [go_sem, hP, hgl, hn, nT]; done) | (simp [go_sem, hP, hgl, hn, nT]; rfl)) (by simp [go_sem, hP, hgl, hn, nT]) (by simp) ?_ hR.2 | refine W_endR hP hf hfn _ ([(b, deck l qy)]) (by first | (simp [go_sem, hP, hgl, hn, nT]; done) | (simp [go_sem, hP, hgl, hn, nT]; rfl)) (by simp [go_sem, hP, hgl, hn, nT]) (by simp) ?_ hR.2
          rw [hR.1]
          refine ⟨?_, by simp [nT]⟩
          try simp [nT]
          try all_goals (simp [Ty.dv, Ty.cells_eq, Ty.kind_mk, Ty.args_mk, Tm.dv, Tm.cells_eq, Tm.kind_mk, Tm.index_mk, Tm.type_mk, Tm.args_mk, Val.dv, Val.cells_eq, Val.kind_mk, Val.num_mk, Val.list_mk, Val.args_mk, ints])
        · rw [if_neg (by omega), if_neg (by omega), if_neg (by omega), if_pos h] at hR
          obtain ⟨s0, s1, hc⟩ := ht.arg (.inr h)
          have ha : t.args = [t.arg 0, t.arg 1] := by rw [e]; rfl
          have cx := ihn (t.arg 1) (g ++ [t.arg 0]) r s1 (hg1 [t.arg 0] (by simpa using s0)) (by simp; omega) hr
          have fx := (hD (t.arg 1) (g ++ [t.arg 0]) r s1 (hg1 [t.arg 0] (by simpa using s0)) hr).1
          generalize hex : termD l n (t.arg 1) (g ++ [t.arg 0]) r = rx at cx fx hR
          obtain ⟨x, qx⟩ := rx
          simp only at cx fx hR
          refine t_g @h ?_
          refine t_c3 (j2 @hsub @ha) (mk_longer_ok g [t.arg 0] (by simp; omega)) cx (ref02_t_ok 2 (t.arg 0) [x]) ?_
          repeat (first | refine W_seq ?_ | refine W_skip ?_ | refine W_block ?_ | refine W_inBlock ?_ | refine W_label ?_ | refine W_exit rfl ?_)
          first | refine W_retR hP hf hfn _ ([(b, deck l qx)]) (by first | (simp [go_sem, hP, hgl, hn]; done) | (simp [go_sem, hP, hgl, hn]; rfl)) (by simp [go_sem, hP, hgl, hn]) (by simp) ?_ hR.2 | refine W_endR hP hf hfn _ ([(b, deck l qx)]) (by first | (simp [go_sem, hP, hgl, hn]; done) | (simp [go_sem, hP, hgl, hn]; rfl)) (by simp [go_sem, hP, hgl, hn]) (by simp) ?_ hR.2
          rw [hR.1]
          refine ⟨?_, by simp⟩
          try simp
          try all_goals (simp [Ty.dv, Ty.cells_eq, Ty.kind_mk, Ty.args_mk, Tm.dv, Tm.cells_eq, Tm.kind_mk, Tm.index_mk, Tm.type_mk, Tm.args_mk, Val.dv, Val.cells_eq, Val.kind_mk, Val.num_mk, Val.list_mk, Val.args_mk, ints])
  · rw [hpk] at hR
    simp only at hR
    obtain ⟨h0, h1, k, i, hk, hi, rfl, rfl⟩ := pickD_some' hpk
    have hpos : 0 < (varsN g t).length := by omega
    have hpos3 : 0 < (nextD l p 3).1 := by omega
    have hgi := ints_get (l := natI (varsN g t)) (i := k) (n := i) (by simp [natI, hi])
    have hkl := (List.getElem?_eq_some_iff.1 hi).1
    refine t_g0 ?_
    refine t_c1 trivial (mk_vars_ok g t (by omega)) ?_
    refine t_g0 ?_
    refine t_c1 (j2 @natI_len (j2 @hpos @hpos3)) (next_ok b l p 3 (by decide) (by omega)) ?_
    refine t_g @hpos3 ?_
    refine t_c2 (j2 @natI_len (j2 @hk @hgi)) (next_ok b l (nextD l p 3).2 (varsN g t).length (by omega) (by omega)) (ref02_var_ok i) ?_
    repeat (first | refine W_seq ?_ | refine W_skip ?_ | refine W_block ?_ | refine W_inBlock ?_ | refine W_label ?_ | refine W_exit rfl ?_)
    first | refine W_retR hP hf hfn _ ([(b, deck l (nextD l (nextD l p 3).2 (varsN g t).length).2)]) (by first | (simp [go_sem, hP, hgl, hn, vT]; done) | (simp [go_sem, hP, hgl, hn, vT]; rfl)) (by simp [go_sem, hP, hgl, hn, vT]) (by simp) ?_ hR.2 | refine W_endR hP hf hfn _ ([(b, deck l (nextD l (nextD l p 3).2 (varsN g t).length).2)]) (by first | (simp [go_sem, hP, hgl, hn, vT]; done) | (simp [go_sem, hP, hgl, hn, vT]; rfl)) (by simp [go_sem, hP, hgl, hn, vT]) (by simp) ?_ hR.2
    rw [hR.1]
    refine ⟨?_, by simp [vT]⟩
    try simp [vT]
    try all_goals (simp [Ty.dv, Ty.cells_eq, Ty.kind_mk, Ty.args_mk, Tm.dv, Tm.cells_eq, Tm.kind_mk, Tm.index_mk, Tm.type_mk, Tm.args_mk, Val.dv, Val.cells_eq, Val.kind_mk, Val.num_mk, Val.list_mk, Val.args_mk, ints])
end Go.Proofs.YtmdjiajbnifjpaaDoor.Lift

namespace Go.Proofs.YtmdjiajbnifjpaaDoor.Lift
set_option linter.unusedSimpArgs false
set_option linter.unusedVariables false
set_option linter.unnecessarySimpa false
open Go
variable {gl : Globs}

/-! sizes of what is drawn, and of the terms of values -/
theorem shape_tys (t : Tm) (h : t.shape = true) : t.tys := by
  induction t using Tm.ind with
  | h t ih =>
  obtain ⟨-, -, -, h4, h5⟩ := Tm.shape_node h
  rw [Tm.tys_eq]
  refine ⟨?_, fun a ha => ih a ha (h5 a ha)⟩
  split at h4
  · have := h4.2; omega
  · unfold Ty.zero at h4
    simp at h4
    rw [Ty.count_eq, h4.2]
    decide

theorem pickD_count {l : List Int} {t : Ty} {g : List Ty} {p q : Nat} {x : Tm} (h : pickD l t g p = (some x, q)) : x.count = 1 := by
  obtain ⟨i, rfl, -⟩ := pickD_some h
  rfl
theorem numD_count (l : List Int) (p : Nat) : (numD l p).1.count ≤ 3 := by
  have := nextD_bd (l := l) (p := p) (n := 3) (by decide)
  show (numTm _).count ≤ 3
  rw [numTm_count]
  omega
theorem leafD_count (l : List Int) (t : Ty) : t.small → ∀ (g : List Ty) (p : Nat), (leafD l t g p).1.count ≤ 3 * t.count := by
  generalize hn : t.count = n
  induction n using Nat.strongRecOn generalizing t with
  | _ n ih =>
  intro ht g p
  have h1 : 1 ≤ t.count := by rw [Ty.count_eq]; omega
  rw [leafD_eq l t g p ht.ok]
  split
  · rename_i x q hx
    have := pickD_count hx
    simp only; omega
  · rename_i q hx
    have hN := numD_count l q
    rcases small_kinds ht with ⟨h, e⟩ | ⟨h, e⟩ | ⟨h, e⟩ | ⟨h, e⟩ | ⟨h, e⟩
    · rw [if_pos h]; omega
    · rw [if_neg (by omega), if_pos h]; show 1 + 0 ≤ _; omega
    · rw [if_neg (by omega), if_neg (by omega), if_neg (by omega), if_neg (by omega)]; show 1 + 0 ≤ _; omega
    · rw [if_neg (by omega), if_neg (by omega), if_pos h]
      obtain ⟨s0, s1, hc⟩ := ht.arg (.inl h)
      have a := ih _ (by omega) (t.arg 0) rfl s0 g q
      have b := ih _ (by omega) (t.arg 1) rfl s1 g (leafD l (t.arg 0) g q).2
      show 1 + (_ + (_ + 0)) ≤ _
      omega
    · rw [if_neg (by omega), if_neg (by omega), if_neg (by omega), if_pos h]
      obtain ⟨s0, s1, hc⟩ := ht.arg (.inr h)
      have b := ih _ (by omega) (t.arg 1) rfl s1 (g ++ [t.arg 0]) q
      show 1 + (_ + 0) ≤ _
      omega

def Small (l : List Int) (F : Ty → List Ty → Nat → Tm × Nat) (B : Nat) : Prop := ∀ t g p, t.small → (∀ x ∈ g, x.small) → p ≤ l.length → (F t g p).1.count ≤ B
theorem plusT_count : plusT.count = 9 := by decide
theorem subT_count : subT.count ≤ 16 := by decide
theorem app2_count (f x y : Tm) : (appsT f [x, y]).count = 2 + f.count + x.count + y.count := by
  show 1 + ((1 + (f.count + (x.count + 0))) + (y.count + 0)) = _
  omega
theorem endD_count {l : List Int} {F : Ty → List Ty → Nat → Tm × Nat} {B : Nat} (hD : Draws l F (fun _ _ x => x.shape = true)) (hF : Small l F B) : Small l (endD l F) (2 * B + 20) := by
  intro t g q ht hg hq
  have h5 := nextD_le (n := 5) hq
  have h2 := nextD_le (n := 2) hq
  have c1 := hF t g (nextD l q 5).2 ht hg h5
  have d1 := (hD t g (nextD l q 5).2 ht hg h5).1
  have c2 := hF t g _ ht hg d1
  have e1 := hF (Ty.mk 1 []) g (nextD l q 2).2 small_nat hg h2
  have f1 := (hD (Ty.mk 1 []) g (nextD l q 2).2 small_nat hg h2).1
  have e2 := hF t g _ ht hg f1
  have hN := numD_count l (nextD l q 5).2
  have hp := plusT_count
  have hs := subT_count
  unfold endD
  split
  · split
    · show 1 + (_ + 0) ≤ _; omega
    split
    · simp only [app2_count]; omega
    split
    · simp only [app2_count]; omega
    · omega
  split
  · split
    · show 1 + (_ + (_ + 0)) ≤ _; omega
    · show 1 + 0 ≤ _; omega
  split
  · rename_i h
    obtain ⟨s0, s1, -⟩ := ht.arg (.inl h)
    have a1 := hF (t.arg 0) g q s0 hg hq
    have a2 := hF (t.arg 1) g _ s1 hg (hD (t.arg 0) g q s0 hg hq).1
    show 1 + (_ + (_ + 0)) ≤ _; omega
  split
  · rename_i h
    obtain ⟨s0, s1, -⟩ := ht.arg (.inr h)
    have a2 := hF (t.arg 1) (g ++ [t.arg 0]) q s1 (by intro x hx; rcases List.mem_append.1 hx with hx | hx; exact hg x hx; rw [List.mem_singleton.1 hx]; exact s0) hq
    show 1 + (_ + 0) ≤ _; omega
  · show 1 + 0 ≤ _; omega
theorem stepD_count {l : List Int} {F : Ty → List Ty → Nat → Tm × Nat} {B : Nat} (hD : Draws l F (fun _ _ x => x.shape = true)) (hF : Small l F B) (k : Int) : Small l (fun t g p => stepD l F t g k p) (3 * B + 20) := by
  intro t g p ht hg hp
  have hg1 : ∀ a : List Ty, (∀ x ∈ a, x.small) → ∀ x ∈ g ++ a, x.small := by
    intro a ha x hx
    rcases List.mem_append.1 hx with hx | hx
    · exact hg x hx
    · exact ha x hx
  have hE := endD_count hD hF t g p ht hg hp
  obtain ⟨s1, s2⟩ := typeD_small l (n := 0) hp (by decide)
  show (stepD l F t g k p).1.count ≤ _
  unfold stepD
  split
  · have gs := hg1 [(typeD l 0 p).1] (by simpa using s2)
    have a := hF t _ _ ht gs s1
    have b := hF _ g _ s2 hg (hD t _ _ ht gs s1).1
    show 1 + ((1 + (_ + 0)) + (_ + 0)) ≤ _; omega
  split
  · have a := hF t g _ ht hg s1
    have b := hF _ g _ s2 hg (hD t g _ ht hg s1).1
    show 1 + ((1 + (_ + (_ + 0))) + 0) ≤ _; omega
  split
  · have gs := hg1 [Ty.mk 1 [], t] (by intro x hx; simp at hx; rcases hx with rfl | rfl; exact small_nat; exact ht)
    have d := (hD t _ _ ht gs hp).1
    have a := hF t _ _ ht gs hp
    have b := hF t g _ ht hg d
    have c := numD_count l (F t g (F t (g ++ [Ty.mk 1 [], t]) p).2).2
    show 1 + (_ + ((1 + ((1 + (_ + 0)) + 0)) + (_ + 0))) ≤ _; omega
  split
  · have gs := hg1 [Ty.mk 1 [], Ty.mk 2 [], t] (by intro x hx; simp at hx; rcases hx with rfl | rfl | rfl; exact small_nat; exact small_list; exact ht)
    have d := (hD t _ _ ht gs hp).1
    have a := hF t _ _ ht gs hp
    have b := hF t g _ ht hg d
    have c := hF (Ty.mk 2 []) g _ small_list hg (hD t g _ ht hg d).1
    show 1 + (_ + ((1 + ((1 + ((1 + (_ + 0)) + 0)) + 0)) + (_ + 0))) ≤ _; omega
  split
  · have a := hF _ g _ s2 hg s1
    have b := hF t g _ ht hg (hD _ g _ s2 hg s1).1
    show 1 + ((1 + (_ + (_ + 0))) + 0) ≤ _; omega
  split
  · split
    · rename_i i hi
      obtain ⟨f1, f2, f3⟩ := funN_some hi
      obtain ⟨c0, c1, -⟩ := (hg _ (varTy_mem f1).1).arg (.inr f2)
      have a := hF _ g _ c0 hg hp
      show 1 + ((1 + 0) + (_ + 0)) ≤ _; omega
    · omega
  · omega
def drawB : Nat → Nat
  | 0 => 45
  | n + 1 => 3 * drawB n + 20
theorem termD_count (l : List Int) : ∀ n, Small l (termD l n) (drawB n)
  | 0 => by intro t g p ht hg hp; have := leafD_count l t ht g p; have := ht.2; show _ ≤ 45; simp only [termD]; omega
  | n + 1 => by
    intro t g p ht hg hp
    have hq := pickD_le (t := t) (g := g) hp
    have ih := stepD_count (termD_facts closed_shape n) (termD_count l n)
    unfold termD
    split
    · rename_i x q hx
      have := pickD_count hx
      simp only [drawB]; omega
    · rename_i q hx
      rw [hx] at hq
      exact ih _ t g _ ht hg (nextD_le hq)

end Go.Proofs.YtmdjiajbnifjpaaDoor.Lift

/-
  The law CodePairs, walked.
-/
namespace Go.Proofs.YtmdjiajbnifjpaaDoor.Lift
set_option linter.unusedSimpArgs false
set_option linter.unusedVariables false
set_option linter.unnecessarySimpa false
open Go
variable {gl : Globs}

/-- a pair of terms -/
def pairT (a b : Tm) : Tm := .mk 10 0 (.mk 0 []) [a, b]
theorem pair_shape {a b : Tm} (ha : a.shape = true) (hb : b.shape = true) : (pairT a b).shape = true := by
  rw [Tm.shape_eq]
  simp [pairT, Tm.kind, Tm.index, Tm.type, Tm.args, tmKind, tyOfKind, arityI, Tm.shape.shapes, ha, hb]
  decide
theorem pair_skel (a b : Tm) : (pairT a b).skel = a.skel ++ (b.skel ++ [(10, 0)]) := by
  rw [Tm.skel_eq]
  simp [pairT, Tm.kind, Tm.index, Tm.args, Tm.skel.skels]

set_option maxHeartbeats 2000000 in
set_option maxRecDepth 100000 in
theorem codePairs_ok (har : globOf gl 1 = some arEls) (hop : globOf gl 0 = some opEls) (l : List Int) : Con1 Tryd.prog gl 7 [.sl (ints l)] [] (dbool true) [] := by
  have wa := awake37_ok har hop
  refine t_in Tryd.func7 ?_
  intro X hP hgl hf hfn hn hR hids hfit
  by_cases hl : l.length ≤ 500
  rotate_left
  · refine t_g0 ?_
    refine t_c2 @hl wa (few_ok l) ?_
    refine t_g0 ?_
    refine t_c1 trivial wa ?_
    refine t_r ?_
    simp [go_sem, hP, hgl, hn] <;> (try omega)
  refine t_g0 ?_
  refine t_c2 @hl wa (few_ok l) ?_
  refine t_g0 ?_
  refine t_a ?_
  first | refine W_reg [] fun K hK => ?_ | refine W_regd (by rw [hP]; exact mixed) [] fun K hK => ?_
  refine t_s0 ?_
  repeat (refine ⟨by omega, ?_⟩)
  refine vcK_callR hP hgl (new_ok l) (by simp [go_sem]) rfl (by simp [go_sem]) (by simp) (by rw [hn]; exact Nat.le_of_ble_eq_true rfl) ?_
  rintro r φ ⟨b0, rfl, rfl⟩ -
  simp [go_sem, hP, hgl, hn]
  refine t_e ?_
  clear hK K
  obtain ⟨d1, d2⟩ := typeD_small l (n := 1) (p := 0) (by omega) (by decide)
  have wt1 := mk_type_ok (gl := gl) 1 b0 l 0 hl (by omega) (by decide)
  generalize typeD l 1 0 = td at *
  obtain ⟨t1, p1⟩ := td
  simp only at d1 d2 wt1
  have ws1 := mk_term_ok (gl := gl) b0 l hl 3 (by decide) t1 [] p1 d2 (by simp) (by simp) d1
  obtain ⟨f1, f2⟩ := termD_facts (l := l) closed_shape 3 t1 [] p1 d2 (by simp) d1
  have g1 := termD_count l 3 t1 [] p1 d2 (by simp) d1
  generalize termD l 3 t1 [] p1 = xd at *
  obtain ⟨a, p2⟩ := xd
  simp only at f1 f2 g1 ws1
  obtain ⟨d3, d4⟩ := typeD_small l (n := 1) (p := p2) f1 (by decide)
  have wt2 := mk_type_ok (gl := gl) 1 b0 l p2 hl f1 (by decide)
  generalize typeD l 1 p2 = td2 at *
  obtain ⟨t2, p3⟩ := td2
  simp only at d3 d4 wt2
  have ws2 := mk_term_ok (gl := gl) b0 l hl 3 (by decide) t2 [] p3 d4 (by simp) (by simp) d3
  obtain ⟨f3, f4⟩ := termD_facts (l := l) closed_shape 3 t2 [] p3 d4 (by simp) d3
  have g2 := termD_count l 3 t2 [] p3 d4 (by simp) d3
  generalize termD l 3 t2 [] p3 = xd2 at *
  obtain ⟨b, p4⟩ := xd2
  simp only at f3 f4 g2 ws2
  have hB : drawB 3 = 1475 := rfl
  rw [hB] at g1 g2
  have hft1 := Ty.fold t1
  have hft2 := Ty.fold t2
  have hfa := Tm.fold a
  have hfb := Tm.fold b
  have hca := Tm.cells_eq a
  have hcb := Tm.cells_eq b
  simp only [List.map_nil] at ws1 ws2
  refine t_c2 @hft1 wt1 ws1 ?_
  refine t_c2 @hft2 wt2 ws2 ?_
  have w1 := compile_ok (gl := gl) har hop a (shape_tys a f2) (by omega)
  have w2 := compile_ok (gl := gl) har hop b (shape_tys b f4) (by omega)
  have hps := pair_shape f2 f4
  have hpc : (pairT a b).count = 1 + a.count + b.count := by
    rw [Tm.count_eq]
    simp [pairT, Tm.args, Tm.count.counts]
    omega
  have w3 := compile_ok (gl := gl) har hop (pairT a b) (shape_tys _ hps) (by omega)
  have wn := node24c_ok (gl := gl) 10 [a, b]
  simp only [List.map_cons, List.map_nil, hca, hcb] at wn
  have k1 := compN_cases a f2 (by omega)
  have k2 := compN_cases b f4 (by omega)
  have k3 := compN_cases (pairT a b) hps (by omega)
  generalize a.compN = xa at *
  generalize b.compN = xb at *
  generalize (pairT a b).compN = xc at *
  obtain ⟨va, e1⟩ := xa
  obtain ⟨vb, e2⟩ := xb
  obtain ⟨vc, e3⟩ := xc
  simp only at w1 w2 w3
  have hl0 := limits37_ok (gl := gl) 0
  have hl4 := limits37_ok (gl := gl) 4
  have hL0 : limE 0 = false := rfl
  have hL4 : limE 4 = true := rfl
  rw [hL0] at hl0
  rw [hL4] at hl4
  refine t_c1 @hfa w1 ?_
  refine t_c1 @hfb w2 ?_
  have hpd : (Tm.mk 10 0 (.mk 0 []) [a, b]).dv = (pairT a b).dv := rfl
  refine t_c2 @hpd wn w3 ?_
  rcases k1 with ⟨k1, kl1⟩ | k1
  rotate_left
  · obtain ⟨rfl, rfl⟩ := Prod.mk.inj k1
    refine t_g0 ?_
    refine t_c1 trivial hl4 ?_
    refine t_r ?_
    simp [go_sem, hP, hgl, hn] <;> (try omega)
  rcases k2 with ⟨k2, kl2⟩ | k2
  rotate_left
  · obtain ⟨rfl, rfl⟩ := Prod.mk.inj k1
    obtain ⟨rfl, rfl⟩ := Prod.mk.inj k2
    refine t_g0 ?_
    refine t_c2 trivial hl0 hl4 ?_
    refine t_r ?_
    simp [go_sem, hP, hgl, hn] <;> (try omega)
  rcases k3 with ⟨k3, kl3⟩ | k3
  rotate_left
  · obtain ⟨rfl, rfl⟩ := Prod.mk.inj k1
    obtain ⟨rfl, rfl⟩ := Prod.mk.inj k2
    obtain ⟨rfl, rfl⟩ := Prod.mk.inj k3
    refine t_g0 ?_
    refine t_c3 trivial hl0 hl0 hl4 ?_
    refine t_r ?_
    simp [go_sem, hP, hgl, hn] <;> (try omega)
  obtain ⟨rfl, rfl⟩ := Prod.mk.inj k1
  obtain ⟨rfl, rfl⟩ := Prod.mk.inj k2
  obtain ⟨rfl, rfl⟩ := Prod.mk.inj k3
  clear w1 w2 w3 wn k1 k2 k3
  refine t_g0 ?_
  obtain ⟨ma1, ⟨ua, ma2⟩, ma3⟩ := code_main a f2
  obtain ⟨mb1, ⟨ub, mb2⟩, mb3⟩ := code_main b f4
  obtain ⟨mz1, ⟨uz, mz2⟩, mz3⟩ := code_main (pairT a b) hps
  rw [pair_skel] at mz1 mz2 mz3
  have la := code_length a f2
  have lb := code_length b f4
  have lz := code_length (pairT a b) hps
  have hnl : (pairT a b).nlam = a.nlam + b.nlam := by
    rw [nlam_eq]
    simp [pairT, Tm.kind, Tm.args, Tm.nlam.nlams]
  have hrows : ∀ (c : List Ins) (i : Nat) (o u : Int), c[i]? = some (o, u) → (rowsI c)[i]? = some [dint o, dint u] := by
    intro c i o u h
    simp [rowsI, h, Ins.row]
  generalize hA : a.skel.length = A at *
  generalize hBB : b.skel.length = B at *
  have hsl : (a.skel ++ (b.skel ++ [((10 : Int), (0 : Int))])).length = A + (B + 1) := by simp [hA, hBB]
  rw [hsl] at mz2 mz3
  have hlxa : (rowsI a.codeN).length = a.codeN.length := by simp [rowsI]
  have hlxb : (rowsI b.codeN).length = b.codeN.length := by simp [rowsI]
  have hlxz : (rowsI (pairT a b).codeN).length = (pairT a b).codeN.length := by simp [rowsI]
  generalize hCA : a.codeN = CA at *
  generalize hCB : b.codeN = CB at *
  generalize hCZ : (pairT a b).codeN = CZ at *
  refine t_a ?_
  refine t_sub [] trivial (W_rounds (fun n : Nat => n ≤ A) (fun n : Nat => [(.slot 6, .one (.v (.sl (rowsI CA)))), (.slot 8, .one (.v (.sl (rowsI CB)))), (.slot 10, .one (.v (.sl (rowsI CZ)))), (.slot 12, .one (.v (dint n))), (.slot 13, .one (.v (dint 0)))]) (fun n : Nat => A - n) 0 (Nat.zero_le _) ?_)
  rintro n hn0 ihn
  rcases Nat.lt_or_ge n A with hlt | hge
  · obtain ⟨x, hx⟩ : ∃ x, a.skel[n]? = some x := ⟨a.skel[n]'(by omega), List.getElem?_eq_getElem (by omega)⟩
    obtain ⟨u, hu, -, h14⟩ := ma1 n x hx
    have hr := hrows _ _ _ _ hu
    refine t_gt (wr []) trivial (j2 @hr @h14) (ihn (n + 1) hlt (by omega))
  obtain rfl : n = A := by omega
  clear ihn hge
  have hrA := hrows _ _ _ _ ma2
  refine t_g @hrA ?_
  refine t_a ?_
  refine t_sub [] trivial (W_rounds (fun m : Nat => m ≤ B) (fun m : Nat => [(.slot 6, .one (.v (.sl (rowsI CA)))), (.slot 8, .one (.v (.sl (rowsI CB)))), (.slot 10, .one (.v (.sl (rowsI CZ)))), (.slot 12, .one (.v (dint n))), (.slot 13, .one (.v (dint m)))]) (fun m : Nat => B - m) 0 (Nat.zero_le _) ?_)
  rintro m hm0 ihm
  rcases Nat.lt_or_ge m B with hlt | hge
  · obtain ⟨x, hx⟩ : ∃ x, b.skel[m]? = some x := ⟨b.skel[m]'(by omega), List.getElem?_eq_getElem (by omega)⟩
    obtain ⟨u, hu, -, h14⟩ := mb1 m x hx
    have hr := hrows _ _ _ _ hu
    refine t_gt (wr []) trivial (j2 @hr @h14) (ihm (m + 1) hlt (by omega))
  obtain rfl : m = B := by omega
  clear ihm hge
  have hrB := hrows _ _ _ _ mb2
  refine t_g @hrB ?_
  refine t_a ?_
  refine t_sub [] trivial (W_rounds (fun i : Nat => i ≤ n) (fun i : Nat => [(.slot 6, .one (.v (.sl (rowsI CA)))), (.slot 8, .one (.v (.sl (rowsI CB)))), (.slot 10, .one (.v (.sl (rowsI CZ)))), (.slot 12, .one (.v (dint n))), (.slot 13, .one (.v (dint m))), (.slot 14, .one (.v (dint i)))]) (fun i : Nat => n - i) 0 (Nat.zero_le _) ?_)
  rintro i hi0 ihi
  rcases Nat.lt_or_ge i n with hlt | hge
  · obtain ⟨x, hx⟩ : ∃ x, a.skel[i]? = some x := ⟨a.skel[i]'(by omega), List.getElem?_eq_getElem (by omega)⟩
    obtain ⟨u, hu, hu2, -⟩ := ma1 i x hx
    obtain ⟨v, hv, hv2, -⟩ := mz1 i x (by rw [List.getElem?_append_left (by omega)]; exact hx)
    have hr := hrows _ _ _ _ hu
    have hs := hrows _ _ _ _ hv
    by_cases h2 : x.1 = 2
    · refine t_gt (wr []) trivial (j2 @hr (j2 @hs @h2)) (ihi (i + 1) hlt (by omega))
    · rw [hu2 h2] at hr
      rw [hv2 h2] at hs
      refine t_gt (wr []) trivial (j2 @hr (j2 @hs @h2)) (ihi (i + 1) hlt (by omega))
  obtain rfl : i = n := by omega
  clear ihi hge
  refine t_g0 ?_
  refine t_a ?_
  refine t_sub [] trivial (W_rounds (fun q : Nat => q ≤ m) (fun q : Nat => [(.slot 6, .one (.v (.sl (rowsI CA)))), (.slot 8, .one (.v (.sl (rowsI CB)))), (.slot 10, .one (.v (.sl (rowsI CZ)))), (.slot 12, .one (.v (dint i))), (.slot 13, .one (.v (dint m))), (.slot 15, .one (.v (dint q)))]) (fun q : Nat => m - q) 0 (Nat.zero_le _) ?_)
  rintro q hq0 ihq
  have hnq : ((i : Int) + (q : Int)).toNat = i + q := by omega
  rcases Nat.lt_or_ge q m with hlt | hge
  · obtain ⟨x, hx⟩ : ∃ x, b.skel[q]? = some x := ⟨b.skel[q]'(by omega), List.getElem?_eq_getElem (by omega)⟩
    obtain ⟨u, hu, hu2, -⟩ := mb1 q x hx
    obtain ⟨v, hv, hv2, -⟩ := mz1 (i + q) x (by
      rw [List.getElem?_append_right (by omega), hA, Nat.add_sub_cancel_left, List.getElem?_append_left (by omega)]
      exact hx)
    have hr := hrows _ _ _ _ hu
    have hs := hrows _ _ _ _ hv
    by_cases h2 : x.1 = 2
    · refine t_gt (wr []) trivial (j2 @hr (j2 @hs (j2 @h2 @hnq))) (ihq (q + 1) hlt (by omega))
    · rw [hu2 h2] at hr
      rw [hv2 h2] at hs
      refine t_gt (wr []) trivial (j2 @hr (j2 @hs (j2 @h2 @hnq))) (ihq (q + 1) hlt (by omega))
  obtain rfl : q = m := by omega
  clear ihq hge
  obtain ⟨v, hv, -, -⟩ := mz1 (i + q) (10, 0) (by
    rw [List.getElem?_append_right (by omega), hA, Nat.add_sub_cancel_left, List.getElem?_append_right (by omega), hBB, Nat.sub_self]
    rfl)
  have hz1 := hrows _ _ _ _ hv
  have hz2 := hrows _ _ _ _ mz2
  have hnq2 : ((i : Int) + (q : Int) + 1).toNat = i + (q + 1) := by omega
  have hlz : (CZ.length : Int) = (CA.length : Int) + (CB.length : Int) := by omega
  simp only at hz1
  refine t_g (j2 @hz1 (j2 @hz2 (j2 @hnq (j2 @hnq2 (j2 @hlxa (j2 @hlxb (j2 @hlxz @hlz))))))) ?_
  refine t_r ?_
  simp [go_sem, hP, hgl, hn] <;> (try omega)
end Go.Proofs.YtmdjiajbnifjpaaDoor.Lift

/-
  The law CodeTypes, walked.
-/
namespace Go.Proofs.YtmdjiajbnifjpaaDoor.Lift
set_option linter.unusedSimpArgs false
set_option linter.unusedVariables false
set_option linter.unnecessarySimpa false
open Go
variable {gl : Globs}

set_option maxHeartbeats 2000000 in
set_option maxRecDepth 100000 in
theorem codeTypes_ok (har : globOf gl 1 = some arEls) (hop : globOf gl 0 = some opEls) (l : List Int) : Con1 Tryd.prog gl 5 [.sl (ints l)] [] (dbool true) [] := by
  have wa := awake37_ok har hop
  refine t_in Tryd.func5 ?_
  intro X hP hgl hf hfn hn hR hids hfit
  by_cases hl : l.length ≤ 500
  rotate_left
  · refine t_g0 ?_
    refine t_c2 @hl wa (few_ok l) ?_
    refine t_g0 ?_
    refine t_c1 trivial wa ?_
    refine t_r ?_
    simp [go_sem, hP, hgl, hn] <;> (try omega)
  refine t_g0 ?_
  refine t_c2 @hl wa (few_ok l) ?_
  refine t_g0 ?_
  refine t_a ?_
  first | refine W_reg [] fun K hK => ?_ | refine W_regd (by rw [hP]; exact mixed) [] fun K hK => ?_
  refine t_s0 ?_
  repeat (refine ⟨by omega, ?_⟩)
  refine vcK_callR hP hgl (new_ok l) (by simp [go_sem]) rfl (by simp [go_sem]) (by simp) (by rw [hn]; exact Nat.le_of_ble_eq_true rfl) ?_
  rintro r φ ⟨b0, rfl, rfl⟩ -
  simp [go_sem, hP, hgl, hn]
  refine t_e ?_
  clear hK K
  obtain ⟨d1, d2⟩ := typeD_small l (n := 1) (p := 0) (by omega) (by decide)
  have wt1 := mk_type_ok (gl := gl) 1 b0 l 0 hl (by omega) (by decide)
  generalize typeD l 1 0 = td at *
  obtain ⟨t1, p1⟩ := td
  simp only at d1 d2 wt1
  have ws1 := mk_term_ok (gl := gl) b0 l hl 3 (by decide) t1 [] p1 d2 (by simp) (by simp) d1
  obtain ⟨f1, f2⟩ := termD_facts (l := l) closed_shape 3 t1 [] p1 d2 (by simp) d1
  have g1 := termD_count l 3 t1 [] p1 d2 (by simp) d1
  generalize termD l 3 t1 [] p1 = xd at *
  obtain ⟨a, p2⟩ := xd
  simp only at f1 f2 g1 ws1
  obtain ⟨d3, d4⟩ := typeD_small l (n := 1) (p := p2) f1 (by decide)
  have wt2 := mk_type_ok (gl := gl) 1 b0 l p2 hl f1 (by decide)
  generalize typeD l 1 p2 = td2 at *
  obtain ⟨t2, p3⟩ := td2
  simp only at d3 d4 wt2
  have ws2 := mk_term_ok (gl := gl) b0 l hl 3 (by decide) t2 [] p3 d4 (by simp) (by simp) d3
  obtain ⟨f3, f4⟩ := termD_facts (l := l) closed_shape 3 t2 [] p3 d4 (by simp) d3
  have g2 := termD_count l 3 t2 [] p3 d4 (by simp) d3
  generalize termD l 3 t2 [] p3 = xd2 at *
  obtain ⟨b, p4⟩ := xd2
  simp only at f3 f4 g2 ws2
  have hB : drawB 3 = 1475 := rfl
  rw [hB] at g1 g2
  have hft1 := Ty.fold t1
  have hft2 := Ty.fold t2
  have hfa := Tm.fold a
  have hfb := Tm.fold b
  have hca := Tm.cells_eq a
  have hcb := Tm.cells_eq b
  simp only [List.map_nil] at ws1 ws2
  have wnx := next_ok (gl := gl) b0 l p4 2 (by decide) (by omega)
  generalize nextD l p4 2 = nx at wnx
  obtain ⟨nv, p5⟩ := nx
  simp only at wnx
  refine t_c2 @hft1 wt1 ws1 ?_
  refine t_c2 @hft2 wt2 ws2 ?_
  refine t_c1 trivial wnx ?_
  have hl0 := limits37_ok (gl := gl) 0
  have hl4 := limits37_ok (gl := gl) 4
  have hL0 : limE 0 = false := rfl
  have hL4 : limE 4 = true := rfl
  rw [hL0] at hl0
  rw [hL4] at hl4
  have w1 := compile_ok (gl := gl) har hop a (shape_tys a f2) (by omega)
  have k1 := compN_cases a f2 (by omega)
  have wu1 := untyped37_ok (gl := gl) a
  -- the second term, whichever it is
  apply W_cutM (fun u : Tm => u.shape = true ∧ u.count ≤ 4096) (fun u => [(.slot 3, .one (.v (ptr b0))), (.slot 4, .one (.loc 4 0)), (.loc 4, .row [.v (dint a.kind), .v (dint a.index), .v (dint a.type.kind), .v (.sl (a.type.args.map Ty.cells)), .v (.sl (a.args.map Tm.cells))]), (.slot 5, .one (.loc 5 0)), (.loc 5, .row [.v (dint u.kind), .v (dint u.index), .v (dint u.type.kind), .v (.sl (u.type.args.map Ty.cells)), .v (.sl (u.args.map Tm.cells))])])
  · intro hrest
    by_cases hnv : nv = 0
    · have hfu := Tm.fold a.untyped
      have hcd : cellsD a.untyped.dv = [dint a.untyped.kind, dint a.untyped.index, dint a.untyped.type.kind, .sl (a.untyped.type.args.map Ty.cells), .sl (a.untyped.args.map Tm.cells)] := by rw [← hfu]; rfl
      have hr := hrest a.untyped ⟨shape_untyped a f2, by rw [count_untyped]; omega⟩
      refine t_g @hnv ?_
      refine t_c1 (j2 @hfa @hcd) wu1 ?_
      refine t_b ?_
      refine t_sub [] trivial hr
    · refine t_n @hnv ?_
      refine t_b ?_
      refine t_sub [] trivial (hrest b ⟨f4, by omega⟩)
  · rintro u ⟨u1, u2⟩
    have hfu := Tm.fold u
    have w2 := compile_ok (gl := gl) har hop u (shape_tys u u1) (by omega)
    have k2 := compN_cases u u1 (by omega)
    have wu2 := untyped37_ok (gl := gl) u
    have hcs := code_same a u f2 u1
    generalize a.compN = xa at *
    generalize u.compN = xb at *
    obtain ⟨va, e1⟩ := xa
    obtain ⟨vb, e2⟩ := xb
    simp only at w1 w2
    refine t_g0 ?_
    refine t_c1 @hfa w1 ?_
    refine t_c1 @hfu w2 ?_
    rcases k1 with ⟨k1, kl1⟩ | k1
    rotate_left
    · obtain ⟨rfl, rfl⟩ := Prod.mk.inj k1
      refine t_g0 ?_
      refine t_c1 trivial hl4 ?_
      refine t_r ?_
      simp [go_sem, hP, hgl, hn] <;> (try omega)
    rcases k2 with ⟨k2, kl2⟩ | k2
    rotate_left
    · obtain ⟨rfl, rfl⟩ := Prod.mk.inj k1
      obtain ⟨rfl, rfl⟩ := Prod.mk.inj k2
      refine t_g0 ?_
      refine t_c2 trivial hl0 hl4 ?_
      refine t_r ?_
      simp [go_sem, hP, hgl, hn] <;> (try omega)
    obtain ⟨rfl, rfl⟩ := Prod.mk.inj k1
    obtain ⟨rfl, rfl⟩ := Prod.mk.inj k2
    have hcs := hcs kl1 kl2
    have w3 := same37_ok (gl := gl) a.codeN u.codeN (by omega) (by omega)
    have w4 := ref02_same_ok (gl := gl) a.untyped u.untyped
    have hsame : decide (a.codeN = u.codeN) = a.untyped.same u.untyped := by
      by_cases h : a.untyped = u.untyped
      · rw [decide_eq_true (hcs.2 h), (Tm.same_iff _ _).2 h]
      · rw [decide_eq_false fun e => h (hcs.1 e)]
        cases hq : a.untyped.same u.untyped with
        | false => rfl
        | true => exact absurd ((Tm.same_iff _ _).1 hq) h
    rw [hsame] at w3
    clear w1 w2 k1 k2 hcs hsame
    generalize a.untyped = au at *
    generalize u.untyped = uu at *
    generalize a.codeN = ca at *
    generalize u.codeN = cu at *
    generalize au.same uu = sv at *
    refine t_g0 ?_
    refine t_c4 (j2 @hfa @hfu) w3 wu1 wu2 w4 ?_
    cases sv
    · refine t_r ?_
      simp [go_sem, hP, hgl, hn] <;> (try omega)
    · refine t_r ?_
      simp [go_sem, hP, hgl, hn] <;> (try omega)
end Go.Proofs.YtmdjiajbnifjpaaDoor.Lift

/-
  Plain law: what is drawn has its type, by the rules, and at most 4096 nodes.
-/
namespace Go.Proofs.YtmdjiajbnifjpaaDoor.Lift
set_option linter.unusedSimpArgs false
set_option linter.unusedVariables false
set_option linter.unnecessarySimpa false
open Go

theorem endD_count' {l : List Int} {F : Ty → List Ty → Nat → Tm × Nat} {B : Nat} (hB : 16 ≤ B) (hD : Draws l F (fun _ _ x => x.shape = true)) (hF : Small l F B) : Small l (endD l F) (3 * B + 4) := fun t g p ht hg hp => by
  have := endD_count hD hF t g p ht hg hp
  omega
theorem stepD_count' {l : List Int} {F : Ty → List Ty → Nat → Tm × Nat} {B : Nat} (hB : 16 ≤ B) (hD : Draws l F (fun _ _ x => x.shape = true)) (hF : Small l F B) (k : Int) : Small l (fun t g p => stepD l F t g k p) (3 * B + 4) := by
  intro t g p ht hg hp
  have hg1 : ∀ a : List Ty, (∀ x ∈ a, x.small) → ∀ x ∈ g ++ a, x.small := by
    intro a ha x hx
    rcases List.mem_append.1 hx with hx | hx
    · exact hg x hx
    · exact ha x hx
  have hE := endD_count' hB hD hF t g p ht hg hp
  obtain ⟨s1, s2⟩ := typeD_small l (n := 0) hp (by decide)
  show (stepD l F t g k p).1.count ≤ _
  unfold stepD
  split
  · have gs := hg1 [(typeD l 0 p).1] (by simpa using s2)
    have a := hF t _ _ ht gs s1
    have b := hF _ g _ s2 hg (hD t _ _ ht gs s1).1
    show 1 + ((1 + (_ + 0)) + (_ + 0)) ≤ _; omega
  split
  · have a := hF t g _ ht hg s1
    have b := hF _ g _ s2 hg (hD t g _ ht hg s1).1
    show 1 + ((1 + (_ + (_ + 0))) + 0) ≤ _; omega
  split
  · have gs := hg1 [Ty.mk 1 [], t] (by intro x hx; simp at hx; rcases hx with rfl | rfl; exact small_nat; exact ht)
    have d := (hD t _ _ ht gs hp).1
    have a := hF t _ _ ht gs hp
    have b := hF t g _ ht hg d
    have c := numD_count l (F t g (F t (g ++ [Ty.mk 1 [], t]) p).2).2
    show 1 + (_ + ((1 + ((1 + (_ + 0)) + 0)) + (_ + 0))) ≤ _; omega
  split
  · have gs := hg1 [Ty.mk 1 [], Ty.mk 2 [], t] (by intro x hx; simp at hx; rcases hx with rfl | rfl | rfl; exact small_nat; exact small_list; exact ht)
    have d := (hD t _ _ ht gs hp).1
    have a := hF t _ _ ht gs hp
    have b := hF t g _ ht hg d
    have c := hF (Ty.mk 2 []) g _ small_list hg (hD t g _ ht hg d).1
    show 1 + (_ + ((1 + ((1 + ((1 + (_ + 0)) + 0)) + 0)) + (_ + 0))) ≤ _; omega
  split
  · have a := hF _ g _ s2 hg s1
    have b := hF t g _ ht hg (hD _ g _ s2 hg s1).1
    show 1 + ((1 + (_ + (_ + 0))) + 0) ≤ _; omega
  split
  · split
    · rename_i i hi
      obtain ⟨f1, f2, f3⟩ := funN_some hi
      obtain ⟨c0, c1, -⟩ := (hg _ (varTy_mem f1).1).arg (.inr f2)
      have a := hF _ g _ c0 hg hp
      show 1 + ((1 + 0) + (_ + 0)) ≤ _; omega
    · omega
  · omega
def drawC : Nat → Nat
  | 0 => 45
  | n + 1 => 3 * drawC n + 4
theorem drawC_pos : ∀ n, 16 ≤ drawC n
  | 0 => by decide
  | n + 1 => by have := drawC_pos n; simp only [drawC]; omega
theorem termD_count' (l : List Int) : ∀ n, Small l (termD l n) (drawC n)
  | 0 => by intro t g p ht hg hp; have := leafD_count l t ht g p; have := ht.2; show _ ≤ 45; simp only [termD]; omega
  | n + 1 => by
    intro t g p ht hg hp
    have hq := pickD_le (t := t) (g := g) hp
    have ih := stepD_count' (drawC_pos n) (termD_facts closed_shape n) (termD_count' l n)
    unfold termD
    split
    · rename_i x q hx
      have := pickD_count hx
      simp only [drawC]; omega
    · rename_i q hx
      rw [hx] at hq
      exact ih _ t g _ ht hg (nextD_le hq)

end Go.Proofs.YtmdjiajbnifjpaaDoor.Lift

/-
  The law CodeBack, walked.
-/
namespace Go.Proofs.YtmdjiajbnifjpaaDoor.Lift
set_option linter.unusedSimpArgs false
set_option linter.unusedVariables false
set_option linter.unnecessarySimpa false
open Go
variable {gl : Globs}

theorem size02_ok (t : Tm) (ht : t.tys) (hc : t.count ≤ 1073741824) (h : t.checkN = 0) : Con1 Tryd.prog gl 26 [t.dv] [] (.tup [dint t.count, dint 0]) [] := by
  have w1 := ref02_check_ok (gl := gl) t ht (by omega)
  have w2 := ref02_count_ok (gl := gl) t (by omega)
  have hft := Tm.fold t
  rw [h] at w1
  refine t_in Tryd.func26 ?_
  intro X hP hgl hf hfn hn hR hids hfit
  refine t_g0 ?_
  refine t_c1 @hft w1 ?_
  refine t_g0 ?_
  refine t_c1 @hft w2 ?_
  refine t_r ?_
  simp [go_sem, hP, hgl, hn] <;> (try omega)

theorem endsN_take {c : List Ins} {i : Nat} {x : Ins} (h : c[i]? = some x) : endsN (c.take (i + 1)) = endsN (c.take i) + if x.1 = 14 then 1 else 0 := by
  rw [List.take_add_one, h, endsN_app]
  congr 1
  show endsN [x] = _
  unfold endsN
  by_cases hx : x.1 = 14 <;> simp [hx]
theorem endsN_le (c : List Ins) : endsN c ≤ c.length := List.length_filter_le _ _

set_option maxHeartbeats 2000000 in
set_option maxRecDepth 100000 in
theorem codeBack_ok (har : globOf gl 1 = some arEls) (hop : globOf gl 0 = some opEls) (l : List Int) : Con1 Tryd.prog gl 4 [.sl (ints l)] [] (dbool true) [] := by
  have wa := awake37_ok har hop
  refine t_in Tryd.func4 ?_
  intro X hP hgl hf hfn hn hR hids hfit
  by_cases hl : l.length ≤ 500
  rotate_left
  · refine t_g0 ?_
    refine t_c2 @hl wa (few_ok l) ?_
    refine t_g0 ?_
    refine t_c1 trivial wa ?_
    refine t_r ?_
    simp [go_sem, hP, hgl, hn] <;> (try omega)
  refine t_g0 ?_
  refine t_c2 @hl wa (few_ok l) ?_
  refine t_g0 ?_
  refine t_a ?_
  first | refine W_reg [] fun K hK => ?_ | refine W_regd (by rw [hP]; exact mixed) [] fun K hK => ?_
  refine t_s0 ?_
  repeat (refine ⟨by omega, ?_⟩)
  refine vcK_callR hP hgl (new_ok l) (by simp [go_sem]) rfl (by simp [go_sem]) (by simp) (by rw [hn]; exact Nat.le_of_ble_eq_true rfl) ?_
  rintro r φ ⟨b0, rfl, rfl⟩ -
  simp [go_sem, hP, hgl, hn]
  refine t_e ?_
  clear hK K
  obtain ⟨c1, c2, c3⟩ := ctxD_facts l (p := 0) (by omega)
  have wc := mk_context_ok (gl := gl) b0 l 0 hl (by omega)
  generalize ctxD l 0 = cd at *
  obtain ⟨g, p1⟩ := cd
  simp only at c1 c2 c3 wc
  obtain ⟨d1, d2⟩ := typeD_small l (n := 1) c1 (by decide)
  have wt := mk_type_ok (gl := gl) 1 b0 l p1 hl c1 (by decide)
  generalize typeD l 1 p1 = td at *
  obtain ⟨ty, p2⟩ := td
  simp only at d1 d2 wt
  have ws := mk_term_ok (gl := gl) b0 l hl 4 (by decide) ty g p2 d2 c2 (by omega) d1
  obtain ⟨f1, f2⟩ := termD_facts (l := l) closed_shape 4 ty g p2 d2 c2 d1
  have g1 := termD_count' l 4 ty g p2 d2 c2 d1
  generalize termD l 4 ty g p2 = xd at *
  obtain ⟨a, p3⟩ := xd
  simp only at f1 f2 g1 ws
  have hB : drawC 4 = 3805 := rfl
  rw [hB] at g1
  have hft := Ty.fold ty
  have hfa := Tm.fold a
  have hca := Tm.cells_eq a
  refine t_c3 @hft wc wt ws ?_
  have w1 := compile_ok (gl := gl) har hop a (shape_tys a f2) (by omega)
  have k1 := compN_cases a f2 (by omega)
  have hu1 := shape_untyped a f2
  have hu2 := count_untyped a
  have hu3 := codeN_untyped a
  have w3 := compile_ok (gl := gl) har hop a.untyped (shape_tys _ hu1) (by omega)
  have k3 : a.untyped.compN = a.compN := by
    rw [compN_of _ hu1 (by omega), compN_of _ f2 (by omega), hu3]
  rw [k3] at w3
  refine t_g0 ?_
  rcases k1 with ⟨k1, kl1⟩ | k1
  rotate_left
  · rw [k1] at w1
    refine t_c1 @hfa w1 ?_
    refine t_g0 ?_
    refine t_r ?_
    simp [go_sem, hP, hgl, hn] <;> (try omega)
  rw [k1] at w1 w3
  obtain ⟨b1, b2⟩ := codeN_back a f2 kl1
  have w2 := codeterm_ok (gl := gl) hop a.codeN (by omega)
  rw [b2] at w2
  have w4 := codecheck_ok (gl := gl) hop a.codeN (by omega)
  rw [if_pos b1] at w4
  have hck : a.checkN = 0 := by
    unfold Tm.checkN
    rw [if_pos f2, if_neg (by omega)]
  have w5 := size02_ok (gl := gl) a (shape_tys a f2) (by omega) hck
  have w6 := untyped37_ok (gl := gl) a
  have w7 := ref02_same_ok (gl := gl) a.untyped a.untyped
  have w8 := same37_ok (gl := gl) a.codeN a.codeN (by omega) (by omega)
  rw [decide_eq_true rfl] at w8
  rw [(Tm.same_iff _ _).2 rfl] at w7
  have hends := code_ends a f2 kl1
  have hfu := Tm.fold a.untyped
  have hcd : cellsD a.untyped.dv = [dint a.untyped.kind, dint a.untyped.index, dint a.untyped.type.kind, .sl (a.untyped.type.args.map Ty.cells), .sl (a.untyped.args.map Tm.cells)] := by rw [← hfu]; rfl
  clear k1 k3 b1 b2 hu1 hu2 hu3
  generalize a.untyped = au at *
  generalize a.codeN = C at *
  have hCl : (rowsI C).length = C.length := by simp [rowsI]
  refine t_c1 @hfa w1 ?_
  refine t_g0 ?_
  refine t_c1 @hcd w2 ?_
  refine t_c1 @hfu w3 ?_
  refine t_c1 @hfa w5 ?_
  refine t_g @hCl ?_
  refine t_a ?_
  refine W_sub [] (by simp [go_sem]) (by simp [go_sem, endsN] <;> omega) (by simp [go_sem]) (W_rounds (fun i : Nat => i ≤ C.length) (fun i : Nat => [(.slot 4, .one (.loc 4 0)), (.loc 4, .row ([.v (dint a.kind), .v (dint a.index), .v (dint a.type.kind), .v (.sl (a.type.args.map Ty.cells)), .v (.sl (a.args.map Tm.cells))])), (.slot 5, .one (.v (.sl (rowsI C)))), (.slot 7, .one (.loc 7 0)), (.loc 7, .row ([.v (dint au.kind), .v (dint au.index), .v (dint au.type.kind), .v (.sl (au.type.args.map Ty.cells)), .v (.sl (au.args.map Tm.cells))])), (.slot 8, .one (.v (dint 0))), (.slot 9, .one (.v (.sl (rowsI C)))), (.slot 10, .one (.v (dint 0))), (.slot 11, .one (.v (dint a.count))), (.slot 12, .one (.v (dint 0))), (.slot 13, .one (.v (dint (endsN (C.take i) : Nat)))), (.slot 56, .one (.v (.sl (rowsI C)))), (.slot 57, .one (.v (dint C.length))), (.slot 58, .one (.v (dint i)))]) (fun i : Nat => C.length - i) 0 (Nat.zero_le _) ?_)
  rintro i hi0 ihi
  have hel := endsN_le (C.take i)
  rw [List.length_take] at hel
  rcases Nat.lt_or_ge i C.length with hlt | hge
  · obtain ⟨o, u, hx⟩ : ∃ o u, C[i]? = some (o, u) := ⟨(C[i]'hlt).1, (C[i]'hlt).2, by rw [List.getElem?_eq_getElem hlt]⟩
    have hr : (rowsI C)[i]? = some [dint o, dint u] := by simp [rowsI, hx, Ins.row]
    have he := endsN_take hx
    simp only at he
    by_cases ho : o = 14
    · rw [if_pos ho] at he
      refine t_gt (wr []) @he (j2 @hr (j2 @ho @he)) (ihi (i + 1) hlt (by omega))
    · rw [if_neg ho, Nat.add_zero] at he
      refine t_gt (wr []) @he (j2 @hr (j2 @ho @he)) (ihi (i + 1) hlt (by omega))
  obtain rfl : i = C.length := by omega
  rw [List.take_length]
  have hfin : (C.length : Int) = (a.count : Int) + (endsN C : Nat) := by omega
  refine t_rg0 ?_
  refine t_no ?_
  refine t_a ?_
  first | refine W_reg [] fun K hK => ?_ | refine W_regd (by rw [hP]; exact mixed) [] fun K hK => ?_
  refine t_s @hCl ?_
  refine t_c trivial (w4) ?_
  refine t_c @hfa (w6) ?_
  refine t_c @hfu (w7) ?_
  refine t_c trivial (w8) ?_
  simp [go_sem, hP, hgl, hn, hCl]
  refine t_e ?_
  clear hK K
  refine t_r ?_
  simp [go_sem, hP, hgl, hn, hfin] <;> (try omega)
end Go.Proofs.YtmdjiajbnifjpaaDoor.Lift

